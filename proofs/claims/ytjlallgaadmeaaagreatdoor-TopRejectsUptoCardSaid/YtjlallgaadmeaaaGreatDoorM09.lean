/- Parts of the proof, joined: UA UB UC UD JA KP KI KJ KQ KR. Conditions: none. -/
import Derived.Test.YtjlallgaadmeaaaGreatDoorM08
set_option linter.unusedVariables false
set_option linter.unusedSimpArgs false
set_option linter.unusedSectionVars false
set_option maxRecDepth 100000
namespace Go.Proofs.YtjlallgaadmeaaaGreatDoor
section
section
structure Stp where
 a:Nat
 back:Bool
 deriving DecidableEq,Inhabited
def infC:Int:=4611686018427387904
def Gb:Int:=1152921504606846976
def DC(L:List Ar)(a:Nat):Ar:=(L[a]?).getD ⟨0,0,0,0,0⟩
def sFrom(L:List Ar)(s:Stp):Nat:=if s.back then(DC L s.a).t.toNat else(DC L s.a).f.toNat
def sTo(L:List Ar)(s:Stp):Nat:=if s.back then(DC L s.a).f.toNat else(DC L s.a).t.toNat
def sCost(L:List Ar)(s:Stp):Int:=if s.back then -(DC L s.a).co else(DC L s.a).co
def nth(x:List Int)(k:Nat):Int:=(x[k]?).getD 0
def sRoom(L:List Ar)(x:List Int)(s:Stp):Int:=if s.back then nth x s.a - (DC L s.a).lo else if(DC L s.a).ca=infC then Gb else(DC L s.a).ca - nth x s.a
def CF(m:Nat):List Stp:=(List.range m).flatMap fun a=>[⟨a,false⟩,⟨a,true⟩]
theorem DY{m:Nat}{s:Stp}:s∈CF m↔s.a<m:=by
 obtain⟨a,b⟩:=s;simp only[CF,List.mem_flatMap,An,AV,Ai,or_false,Stp.mk.injEq];constructor
 ·rintro⟨c,hc,⟨rfl,_⟩|⟨rfl,_⟩⟩<;>exact hc
 ·intro h;cases b
  ·exact⟨a,h,.inl ⟨rfl,rfl⟩⟩
  ·exact⟨a,h,.inr ⟨rfl,rfl⟩⟩
def Ends(n:Nat)(L:List Ar):Prop:=∀a∈L,0<=a.f/\a.f<n/\0<=a.t/\a.t<n
variable{L:List Ar}
theorem EJ{a:Nat}(h:a<L.length):DC L a∈L:=by
 unfold DC;rw[AD h];exact AM h
variable{k n:Nat}
theorem Ends.from_lt(h:Ends n L){s:Stp}(hs:s.a<L.length):sFrom L s<n:=by
 have:=h _ (EJ hs);unfold sFrom;split<;>omega
theorem Ends.to_lt(h:Ends n L){s:Stp}(hs:s.a<L.length):sTo L s<n:=by
 have:=h _ (EJ hs);unfold sTo;split<;>omega
structure SP where
 dist:List (Option Int)
 by_:List (Option Stp)
 last:Option Nat
def at_{α:Type}(l:List (Option α))(k:Nat):Option α:=(l[k]?).getD none
def visit(L:List Ar)(cnt:Stp->Bool)(σ:SP)(s:Stp):SP:=
 match at_ σ.dist (sFrom L s)with
 |none=>σ
 |some d=>
  if cnt s then
   match at_ σ.dist (sTo L s)with
   |some e=>if e<=d+sCost L s then σ else⟨σ.dist.set (sTo L s) (some (d+sCost L s)),σ.by_.set (sTo L s) (some s),some (sTo L s)⟩
   |none=>⟨σ.dist.set (sTo L s) (some (d+sCost L s)),σ.by_.set (sTo L s) (some s),some (sTo L s)⟩
  else σ
def DU(L:List Ar)(cnt:Stp->Bool)(σ:SP):SP:=(CF L.length).foldl (visit L cnt) {σ with last:=none}
def C0(L:List Ar)(cnt:Stp->Bool):Nat->SP->SP
 |0,σ=>σ
 |k+1,σ=>if(DU L cnt σ).last.isNone then DU L cnt σ else C0 L cnt k (DU L cnt σ)
def CU(n:Nat)(start:Nat->Bool):SP:=⟨(List.range n).map fun v=>if start v then some 0 else none,List.replicate n none,none⟩
def Bq(L:List Ar)(n:Nat)(start:Nat->Bool)(cnt:Stp->Bool):SP:=C0 L cnt n (CU n start)
def Feas(L:List Ar)(cnt:Stp->Prop)(π:Nat->Int):Prop:=∀s,s.a<L.length->cnt s->0<=sCost L s+π (sFrom L s) - π (sTo L s)
def Tight(L:List Ar)(D:Nat->Option Int)(s:Stp):Prop:=∀d,D (sFrom L s)=some d->∃e,D (sTo L s)=some e/\e<=d+sCost L s
inductive Anc(L:List Ar)(B:Nat->Option Stp)(v:Nat):Nat->Prop
 |here:Anc L B v v
 |up {w:Nat} {s:Stp} (hs:B w=some s) (h:Anc L B v (sFrom L s)):Anc L B v w
structure Mid(L:List Ar)(n:Nat)(start:Nat->Bool)(cnt:Stp->Bool)(k:Nat)(P:Stp->Prop)(D:Nat->Option Int)(B:Nat->Option Stp)(last:Option Nat)(ρ r:Nat->Nat):Prop where
 by1:∀v s,B v=some s->s.a<L.length/\cnt s=true/\sTo L s=v/\∃du dv,D (sFrom L s)=some du/\D v=some dv/\du+sCost L s<=dv
 by0:∀v d,B v=none->D v=some d->v<n/\start v=true/\d=0
 rank:∀v s,B v=some s->ρ (sFrom L s)<ρ v
 rle:∀v,r v<=k
 rby:∀v s,B v=some s->r v<=r (sFrom L s)+1
 r0:∀v,B v=none->r v=0
 old:∀s,s.a<L.length->cnt s=true->¬P s->k<=r (sFrom L s)+1\/Tight L D s
 new:∀s,s.a<L.length->cnt s=true->P s->r (sFrom L s)=k\/Tight L D s
 no:last=none->∀v,r v<k
 yes:∀v,last=some v->r v=k/\v<n
variable{P:Stp->Prop}{D:Nat->Option Int}{B:Nat->Option Stp}{last:Option Nat}{r:Nat->Nat}{π:Nat->Int}
theorem oi{start:Nat->Bool}{cnt:Stp->Bool}{ρ:Nat->Nat}(h:Mid L n start cnt k P D B last ρ r)(hπ:Feas L (fun s=>cnt s=true) π){v w:Nat}(ha:Anc L B v w):
  ∀dw,D w=some dw->∃dv,D v=some dv/\dv - π v<=dw - π w:=by
 induction ha with
 |here=>exact fun dw hw=>⟨dw,hw,Int.le_refl _⟩
 | @up w s hs _ ih=>
  intro dw hw;obtain⟨h1,h2,h3,du,dv,h4,h5,h6⟩:=h.by1 _ _ hs;rw[hw]at h5;cases h5
  obtain⟨dv,k1,k2⟩:=ih du h4;have:=hπ s h1 h2;rw[h3]at this;exact⟨dv,k1,om⟩
open Classical in
theorem Mid.relax{start:Nat->Bool}{cnt:Stp->Bool}{ρ:Nat->Nat}(h:Mid L n start cnt k P D B last ρ r)(hπ:Feas L (fun s=>cnt s=true) π)(hE:Ends n L)(hk:0<k)
  {s:Stp}(hs:s.a<L.length)(hc:cnt s=true)(hP:¬P s){d:Int}(hd:D (sFrom L s)=some d)(hlt:∀e,D (sTo L s)=some e->d+sCost L s<e):
  ∃ρ' r',Mid L n start cnt k (fun x=>P x\/x=s) (fun v=>if v=sTo L s then some (d+sCost L s)else D v) (fun v=>if v=sTo L s then some s else B v) (some (sTo L s)) ρ' r':=by
 generalize hv:sTo L s=v at*;generalize hu:sFrom L s=u at*;have hvn:v<n:=hv▸hE.to_lt hs;have hnt:¬Tight L D s:=by
  intro ht;obtain⟨e,h1,h2⟩:=ht d (hu.symm▸hd);rw[hv]at h1;have:=hlt e h1;omega
 have hna:¬Anc L B v u:=by
  intro ha;obtain⟨e,h1,h2⟩:=oi h hπ ha d hd;have h3:=hlt e h1;have:=hπ s hs hc;rw[hv,hu]at this;omega
 have huv:u≠v:=fun e=>hna (e▸ .here)
 have hru:k<=r u+1:=by
  rcases h.old s hs hc hP with x|x
  ·rwa [hu]at x
  ·exact absurd x hnt
 have lower:∀x,Tight L D x->Tight L (fun w=>if w=v then some (d+sCost L s)else D w) x\/sFrom L x=v:=by
  intro x hx;by_cases hxv:sFrom L x=v
  ·exact .inr hxv
  ·refine .inl fun d' hd'=> ?_
   simp only[hxv,Ab]at hd';obtain⟨e,h1,h2⟩:=hx d' hd';by_cases ht:sTo L x=v
   ·rw[ht]at h1;have:=hlt e h1;exact⟨d+sCost L s,by simp only[ht,Ag],om⟩
   ·exact⟨e,by simp only[ht,Ab];exact h1,h2⟩
 refine⟨fun w=>ρ w+(if Anc L B v w then ρ u+1 else 0),fun w=>if w=v then k else r w,⟨?_,?_,?_,?_,?_,?_,?_,?_,?_,?_⟩⟩
 ·intro w x hx;by_cases hw:w=v
  ·subst hw;simp only[Ag,AO]at hx;subst hx;exact⟨hs,hc,hv,d,d+sCost L s,by rw[hu];simp only[huv,Ab];exact hd,by simp only[Ag],Int.le_refl _⟩
  ·simp only[hw,Ab]at hx;obtain⟨h1,h2,h3,du,dv,h4,h5,h6⟩:=h.by1 _ _ hx;by_cases hxv:sFrom L x=v
   ·have:=hlt du (hxv▸h4);exact⟨h1,h2,h3,d+sCost L s,dv,by simp only[hxv,Ag],by simp only[hw,Ab];exact h5,om⟩
   ·exact⟨h1,h2,h3,du,dv,by simp only[hxv,Ab];exact h4,by simp only[hw,Ab];exact h5,h6⟩
 ·intro w d' hb hd';by_cases hw:w=v
  ·simp only[hw,Ag]at hb;cases hb
  ·simp only[hw,Ab]at hb hd';exact h.by0 w d' hb hd'
 ·intro w x hx;by_cases hw:w=v
  ·subst hw;simp only[Ag,AO]at hx;subst hx;rw[hu];simp only[hna,Ab,show Anc L B w w from .here,Ag];omega
  ·simp only[hw,Ab]at hx;have h1:=h.rank _ _ hx;by_cases ha:Anc L B v (sFrom L x)
   ·have:Anc L B v w:= .up hx ha;simp only[ha,this,Ag];omega
   ·simp only[ha,Ab];omega
 ·intro w;show(if w=v then k else r w)<=k
  split
  ·exact AH _
  ·exact h.rle w
 ·intro w x hx;by_cases hw:w=v
  ·subst hw;simp only[Ag,AO]at hx;subst hx;rw[hu];simp only[huv,Ag,Ab];exact hru
  ·simp only[hw,Ab]at hx⊢;have:=h.rby _ _ hx;have:=h.rle w;split<;>omega
 ·intro w hb;by_cases hw:w=v
  ·simp only[hw,Ag]at hb;cases hb
  ·simp only[hw,Ab]at hb⊢;exact h.r0 w hb
 ·intro x hx hcx hPx;have hPx1:¬P x:=fun h=>hPx (.inl h)
  by_cases hxv:sFrom L x=v
  ·refine .inl ?_;simp only[hxv,Ag];omega
  ·simp only[hxv,Ab];rcases h.old x hx hcx hPx1 with y|y
   ·exact .inl y
   ·rcases lower x y with z|z
    ·exact .inr z
    ·exact absurd z hxv
 ·intro x hx hcx hPx;by_cases hxv:sFrom L x=v
  ·exact .inl (by simp only[hxv,Ag])
  ·simp only[hxv,Ab];rcases hPx with hPx|rfl
   ·rcases h.new x hx hcx hPx with y|y
    ·exact .inl y
    ·rcases lower x y with z|z
     ·exact .inr z
     ·exact absurd z hxv
   ·refine .inr fun d' hd'=> ?_
    rw[hu]at hd';simp only[huv,Ab]at hd';rw[hd]at hd';cases hd'
    exact⟨_,by rw[hv];simp only[Ag],Int.le_refl _⟩
 ·intro e;cases e
 ·intro w e;cases e
  exact⟨by simp only[Ag],hvn⟩
theorem Mid.stay{start:Nat->Bool}{cnt:Stp->Bool}{ρ:Nat->Nat}(h:Mid L n start cnt k P D B last ρ r){s:Stp}(ht:cnt s=true->Tight L D s):Mid L n start cnt k (fun x=>P x\/x=s) D B last ρ r:=
 {h with
  old:=fun x hx hc hp=>h.old x hx hc fun y=>hp (.inl y)
  new:=fun x hx hc hp=>hp.elim (h.new x hx hc) fun e=> .inr (ht (e▸hc)|>fun z=>by rw[e];exact z)}
theorem Iy{α:Type}(l:List (Option α))(k:Nat)(x:Option α)(h:k<l.length):at_ (l.set k x)=fun v=>if v=k then x else at_ l v:=by
 funext v;unfold at_;rw[List.getElem?_set];by_cases e:k=v
 ·subst e;simp[h]
 ·simp[e,Ne.symm e]
structure MidS(L:List Ar)(n:Nat)(start:Nat->Bool)(cnt:Stp->Bool)(k:Nat)(P:Stp->Prop)(σ:SP):Prop where
 ld:σ.dist.length=n
 lb:σ.by_.length=n
 ex:∃ρ r,Mid L n start cnt k P (at_ σ.dist) (at_ σ.by_) σ.last ρ r
variable{σ:SP}
theorem MidS.visit{start:Nat->Bool}{cnt:Stp->Bool}(h:MidS L n start cnt k P σ)(hπ:Feas L (fun s=>cnt s=true) π)(hE:Ends n L)(hk:0<k){s:Stp}(hs:s.a<L.length)(hP:¬P s):
  MidS L n start cnt k (fun x=>P x\/x=s) (visit L cnt σ s):=by
 obtain⟨ld,lb,ρ,r,hm⟩:=h;have hto:=hE.to_lt hs;have stay: (cnt s=true->Tight L (at_ σ.dist) s)->MidS L n start cnt k (fun x=>P x\/x=s) σ:=fun ht=>⟨ld,lb,ρ,r,hm.stay ht⟩
 have rel:∀d,at_ σ.dist (sFrom L s)=some d->cnt s=true->(∀e,at_ σ.dist (sTo L s)=some e->d+sCost L s<e)->MidS L n start cnt k (fun x=>P x\/x=s) ⟨σ.dist.set (sTo L s) (some (d+sCost L s)),σ.by_.set (sTo L s) (some s),some (sTo L s)⟩:=by
  intro d hd hc hlt;obtain⟨ρ',r',h2⟩:=hm.relax hπ hE hk hs hc hP hd hlt;refine⟨by simp[ld],by simp[lb],ρ',r',?_⟩;simp only;rw[Iy _ _ _ om,Iy _ _ _ om];exact h2
 unfold Go.Proofs.YtjlallgaadmeaaaGreatDoor.visit;split
 ·rename_i h0;exact stay fun _ d hd=>by rw[h0]at hd;cases hd
 ·rename_i d hd;split
  ·rename_i hc;split
   ·rename_i e he;split
    ·rename_i hle;refine stay fun _ d' hd'=> ?_
     rw[hd]at hd';cases hd'
     exact⟨e,he,hle⟩
    ·rename_i hle;exact rel d hd hc fun e' he'=>by rw[he]at he';cases he';omega
   ·rename_i he;exact rel d hd hc fun e' he'=>by rw[he]at he';cases he'
  ·rename_i hc;exact stay fun x=>absurd x hc
theorem Oc{start:Nat->Bool}{cnt:Stp->Bool}(hπ:Feas L (fun s=>cnt s=true) π)(hE:Ends n L)(hk:0<k):∀(l:List Stp) (P:Stp->Prop) (σ:SP),l.Nodup->(∀s∈l,s.a<L.length/\¬P s)->MidS L n start cnt k P σ->
  MidS L n start cnt k (fun x=>P x\/x∈l) (l.foldl (Go.Proofs.YtjlallgaadmeaaaGreatDoor.visit L cnt) σ)
 |[],P,σ,_,_,h=>by simpa using h
 |s::l,P,σ,hn,hl,h=>by
  rw[List.nodup_cons]at hn;have h1:=h.visit hπ hE hk (hl s (by simp)).1 (hl s (by simp)).2;have h2:=Oc hπ hE hk l _ _ hn.2 (fun x hx=>⟨(hl x (by simp[hx])).1,fun hp=>hp.elim (hl x (by simp[hx])).2 fun e=>hn.1 (e▸hx)⟩) h1;rw[List.foldl_cons];refine cast (congrArg (fun Q=>MidS L n start cnt k Q _) ?_) h2;funext x;simp[or_assoc]
theorem Qy:∀m,(CF m).Nodup:=by
 intro m;unfold CF;induction m with
 |zero=>simp
 |succ m ih=>
  rw[List.range_succ,BF,List.nodup_append];refine⟨ih,by simp,?_⟩;intro a ha b hb;have h1:=(DY (m:=m)).1 ha;simp at hb;rintro rfl;rcases hb with rfl|rfl<;>simp at h1
theorem MidS.next{start:Nat->Bool}{cnt:Stp->Bool}(h:MidS L n start cnt k (fun s=>s.a<L.length) σ):MidS L n start cnt (k+1) (fun _=>False) {σ with last:=none}:=by
 obtain⟨ld,lb,ρ,r,hm⟩:=h;refine⟨ld,lb,ρ,r,{hm with rle:=fun v=>Nat.le_succ_of_le (hm.rle v),old:=fun s hs hc _=> ?_,new:=fun _ _ _ hp=>hp.elim,no:=fun _ v=>Nat.lt_succ_of_le (hm.rle v),yes:=fun v e=>by cases e}⟩;rcases hm.new s hs hc hs with x|x
 ·exact .inl om
 ·exact .inr x
theorem MidS.round{start:Nat->Bool}{cnt:Stp->Bool}(hπ:Feas L (fun s=>cnt s=true) π)(hE:Ends n L)(h:MidS L n start cnt (k+1) (fun _=>False) {σ with last:=none}):MidS L n start cnt (k+1) (fun s=>s.a<L.length) (DU L cnt σ):=by
 have h1:=Oc hπ hE om (CF L.length) _ _ (Qy _) (fun s hs=>⟨DY.1 hs,id⟩) h;refine cast (congrArg (fun Q=>MidS L n start cnt (k+1) Q _) ?_) h1;funext x;simp[DY]
def Xb(n:Nat)(ρ:Nat->Nat)(v:Nat):Nat:=((List.range n).filter fun u=>decide (ρ u<ρ v)).length
theorem ID{l:List Nat}(p q:Nat->Bool)(hpq:∀x,p x=true->q x=true){u:Nat}(hu:u∈l)(h1:p u=false)(h2:q u=true): (l.filter p).length+1<=(l.filter q).length:=by
 induction l with
 |nil=>cases hu
 |cons x l ih=>
  have le:∀l:List Nat,(l.filter p).length<=(l.filter q).length:=by
   intro l;induction l with
   |nil=>simp
   |cons y l ih=>
    rw[List.filter_cons,List.filter_cons];cases hp:p y
    ·simp only[AP,Ab];split
     ·simp only[AY];omega
     ·exact ih
    ·rw[hpq y hp];simpa using ih
  rw[List.filter_cons,List.filter_cons];rcases AV.1 hu with rfl|hu
  ·rw[h1,h2];have:=le l;simpa using this
  ·have:=ih hu;cases hp:p x
   ·simp only[AP,Ab];split
    ·simp only[AY];omega
    ·exact this
   ·rw[hpq x hp];simpa using this
theorem Mid.depth{start:Nat->Bool}{cnt:Stp->Bool}{ρ:Nat->Nat}(h:Mid L n start cnt k P D B last ρ r)(hE:Ends n L):∀(m:Nat) (v:Nat),ρ v<=m->r v<=Xb n ρ v:=by
 intro m;induction m with
 |zero=>
  intro v hv;cases hb:B v with
  |none=>rw[h.r0 v hb];exact Nat.zero_le _
  |some s=>have:=h.rank v s hb;omega
 |succ m ih=>
  intro v hv;cases hb:B v with
  |none=>rw[h.r0 v hb];exact Nat.zero_le _
  |some s=>
   have h1:=h.rank v s hb;have h2:=ih (sFrom L s) om;have h3:=h.rby v s hb;have hlt:=hE.from_lt (h.by1 v s hb).1;have h4:=ID (l:=List.range n) (fun u=>decide (ρ u<ρ (sFrom L s))) (fun u=>decide (ρ u<ρ v)) (fun x hx=>by simp at hx⊢;omega) (An.2 hlt) (by simp) (by simpa using h1);unfold Xb at h2⊢;omega
theorem PP{ρ:Nat->Nat}{v:Nat}(hv:v<n):Xb n ρ v<n:=by
 have h1:=ID (l:=List.range n) (fun u=>decide (ρ u<ρ v)) (fun _=>true) (fun _ _=>rfl) (An.2 hv) (by simp) rfl;have h2:=List.length_filter_le (fun _=>true) (List.range n);rw[List.length_range]at h2;unfold Xb;omega
structure Short(L:List Ar)(n:Nat)(start:Nat->Bool)(cnt:Stp->Bool)(σ:SP):Prop where
 ld:σ.dist.length=n
 lb:σ.by_.length=n
 tight:∀s,s.a<L.length->cnt s=true->Tight L (at_ σ.dist) s
 by1:∀v s,at_ σ.by_ v=some s->s.a<L.length/\cnt s=true/\sTo L s=v/\∃du,at_ σ.dist (sFrom L s)=some du/\at_ σ.dist v=some (du+sCost L s)
 by0:∀v d,at_ σ.by_ v=none->at_ σ.dist v=some d->v<n/\start v=true
 rank:∃ρ:Nat->Nat,∀v s,at_ σ.by_ v=some s->ρ (sFrom L s)<ρ v
theorem MidS.short{start:Nat->Bool}{cnt:Stp->Bool}(h:MidS L n start cnt k (fun s=>s.a<L.length) σ)(hl:σ.last=none):Short L n start cnt σ:=by
 obtain⟨ld,lb,ρ,r,hm⟩:=h;have ht:∀s,s.a<L.length->cnt s=true->Tight L (at_ σ.dist) s:=by
  intro s hs hc;rcases hm.new s hs hc hs with x|x
  ·have:=hm.no hl (sFrom L s);omega
  ·exact x
 refine⟨ld,lb,ht,fun v s hb=> ?_,fun v d h1 h2=>⟨(hm.by0 v d h1 h2).1,(hm.by0 v d h1 h2).2.1⟩,ρ,hm.rank⟩;obtain⟨h1,h2,h3,du,dv,h4,h5,h6⟩:=hm.by1 v s hb;obtain⟨e,h7,h8⟩:=ht s h1 h2 du h4;rw[h3,h5]at h7;cases h7
 exact⟨h1,h2,h3,du,h4,by rw[h5];congr 1;omega⟩
theorem JB{start:Nat->Bool}{cnt:Stp->Bool}(hπ:Feas L (fun s=>cnt s=true) π)(hE:Ends n L):∀(j k:Nat) (σ:SP),k+j=n->0<j->MidS L n start cnt (k+1) (fun _=>False) {σ with last:=none}->Short L n start cnt (C0 L cnt j σ)/\(C0 L cnt j σ).last=none
 |0,k,σ,_,h,_=>absurd h om
 |j+1,k,σ,hkj,_,h=>by
  have h1:=MidS.round hπ hE h;unfold C0;cases hl: (DU L cnt σ).last with
  |none=>
   simp only[Option.isNone_none,Ag];exact⟨h1.short hl,hl⟩
  |some v=>
   simp only[Option.isNone_some,AP,Ab];rcases Nat.eq_zero_or_pos j with rfl|hj
   ·exfalso;obtain⟨ld,lb,ρ,r,hm⟩:=h1;obtain⟨h2,h3⟩:=hm.yes v hl;have h4:=hm.depth hE _ v (AH _);have:=PP (ρ:=ρ) h3;omega
   ·exact JB hπ hE j (k+1) _ om hj h1.next
theorem M7{start:Nat->Bool}(v:Nat):at_ (CU n start).dist v=if v<n/\start v=true then some 0 else none:=by
 unfold at_ CU;simp only[List.getElem?_map];by_cases h:v<n
 ·rw[List.getElem?_range h];simp[h]
 ·rw[Ap (by simp;omega)];simp[h]
theorem HE{α:Type}(n v:Nat):at_ (List.replicate n (none:Option α)) v=none:=by
 unfold at_;rw[List.getElem?_replicate];split<;>rfl
theorem Qh(start:Nat->Bool){cnt:Stp->Bool}(hπ:Feas L (fun s=>cnt s=true) π)(hE:Ends n L):Short L n start cnt (Bq L n start cnt)/\(Bq L n start cnt).last=none:=by
 rcases Nat.eq_zero_or_pos n with rfl|hn
 ·have hL:L.length=0:=by
   cases L with
   |nil=>rfl
   |cons a l=>have:=hE a (by simp);omega
  have e:Bq L 0 start cnt=CU 0 start:=rfl;rw[e];refine⟨⟨rfl,rfl,fun s hs=>om,fun v s h=> ?_,fun v d _ h=> ?_,fun _=>0,fun v s h=> ?_⟩,rfl⟩
  ·rw[show(CU 0 start).by_=List.replicate 0 none from rfl,HE]at h;cases h
  ·rw[M7]at h;simp at h
  ·rw[show(CU 0 start).by_=List.replicate 0 none from rfl,HE]at h;cases h
 ·refine JB hπ hE n 0 _ om hn ⟨by simp[CU],by simp[CU],fun _=>0,fun _=>0,?_⟩;have hb:∀v,at_ (CU n start).by_ v=none:=fun v=>HE n v
  refine⟨fun v s h=> ?_,fun v d _ h=> ?_,fun v s h=> ?_,fun v=>om,fun v s h=> ?_,fun _ _=>rfl,fun s _ _ _=> .inl om,fun _ _ _ h=>h.elim,fun _ v=>om,fun v e=>by cases e⟩
  ·rw[hb]at h;cases h
  ·rw[M7]at h;split at h
   ·rename_i hv;cases h
    exact⟨hv.1,hv.2,rfl⟩
   ·cases h
  ·rw[hb]at h;cases h
  ·rw[hb]at h;cases h
structure SPok(n:Nat)(L:List Ar)(K:Int)(σ:SP):Prop where
 ld:σ.dist.length=n
 lb:σ.by_.length=n
 bd:∀v d,at_ σ.dist v=some d-> -K<=d/\d<=K
 by1:∀v s,at_ σ.by_ v=some s->s.a<L.length
 last:∀v,σ.last=some v->v<n/\0<L.length
theorem SPok.mono{K K':Int}(h:SPok n L K σ)(hK:K<=K'):SPok n L K' σ:=⟨h.ld,h.lb,fun v d hd=>by have:=h.bd v d hd;omega,h.by1,h.last⟩
theorem SPok.visit{K C:Int}{cnt:Stp->Bool}(h:SPok n L K σ)(hE:Ends n L)(hC:∀a∈L, -C<=a.co/\a.co<=C){s:Stp}(hs:s.a<L.length):SPok n L (K+C) (visit L cnt σ s):=by
 have hc:=hC _ (EJ hs);have hC0:0<=C:=om;have hto:=hE.to_lt hs;have hcost: -C<=sCost L s/\sCost L s<=C:=by unfold sCost;split<;>omega
 have rel:∀d,at_ σ.dist (sFrom L s)=some d->SPok n L (K+C) ⟨σ.dist.set (sTo L s) (some (d+sCost L s)),σ.by_.set (sTo L s) (some s),some (sTo L s)⟩:=by
  intro d hd;have hb:=h.bd _ _ hd;refine⟨by simp[h.ld],by simp[h.lb],fun v e he=> ?_,fun v x hx=> ?_,fun v e=>by cases e;exact⟨hto,om⟩⟩
  ·simp only at he;rw[Iy _ _ _ (by rw[h.ld];exact hto)]at he;simp only at he;split at he
   ·cases he;omega
   ·have:=h.bd v e he;omega
  ·simp only at hx;rw[Iy _ _ _ (by rw[h.lb];exact hto)]at hx;simp only at hx;split at hx
   ·cases hx;exact hs
   ·exact h.by1 v x hx
 unfold Go.Proofs.YtjlallgaadmeaaaGreatDoor.visit;split
 ·exact h.mono om
 ·rename_i d hd;split
  ·split
   ·split
    ·exact h.mono om
    ·exact rel d hd
   ·exact rel d hd
  ·exact h.mono om
end
end
section
section
structure Net where
 x:List Int
 ov:List Int
 deriving DecidableEq
theorem JM(l:List Int)(k v:Nat)(y:Int)(h:k<l.length):nth (l.set k y) v=if v=k then y else nth l v:=by
 unfold nth;rw[List.getElem?_set];by_cases e:k=v
 ·subst e;simp[h]
 ·simp[e,Ne.symm e]
def CM(L:List Ar)(σ:Net)(s:Stp)(u:Int):Net:=
 {x:=σ.x.set s.a (if s.back then nth σ.x s.a - u else nth σ.x s.a+u)
  ov:=(σ.ov.set (sFrom L s) (nth σ.ov (sFrom L s) - u)).set (sTo L s) (nth (σ.ov.set (sFrom L s) (nth σ.ov (sFrom L s) - u)) (sTo L s)+u)}
def one(p:Prop)[Decidable p](u:Int):Int:=if p then u else 0
theorem PB(L:List Ar)(σ:Net)(s:Stp)(u:Int)(h1:sFrom L s<σ.ov.length)(h2:sTo L s<σ.ov.length)(v:Nat):nth (CM L σ s u).ov v=nth σ.ov v - one (v=sFrom L s) u+one (v=sTo L s) u:=by
 unfold CM one;simp only;rw[JM _ _ _ _ (by simpa using h2),JM _ _ _ _ h1,JM _ _ _ _ h1];by_cases e1:v=sTo L s<;>by_cases e2:v=sFrom L s
 ·simp only[<-e1,<-e2,Ag]
 ·simp only[<-e1,e2,Ag,Ab];omega
 ·simp only[e1,e2,Ag,Ab];subst e2;simp only[e1,Ag,Ab];omega
 ·simp only[e1,e2,Ab];omega
theorem Gy(L:List Ar)(σ:Net)(s:Stp)(u:Int)(h:s.a<σ.x.length)(a:Nat):nth (CM L σ s u).x a=if a=s.a then(if s.back then nth σ.x a - u else nth σ.x a+u)else nth σ.x a:=by
 unfold CM;simp only;rw[JM _ _ _ _ h];split
 ·rename_i e;subst e;rfl
 ·rfl
theorem FR(L:List Ar)(σ:Net)(s:Stp)(u:Int): (CM L σ s u).x.length=σ.x.length:=by simp[CM]
theorem GC(L:List Ar)(σ:Net)(s:Stp)(u:Int): (CM L σ s u).ov.length=σ.ov.length:=by simp[CM]
inductive Chain(L:List Ar)(B:Nat->Option Stp):Nat->List Stp->Nat->Prop
 |nil {v:Nat} (h:B v=none):Chain L B v [] v
 |cons {v r:Nat} {s:Stp} {l:List Stp} (h:B v=some s) (c:Chain L B (sFrom L s) l r):Chain L B v (s::l) r
def Es(L:List Ar)(B:Nat->Option Stp):Nat->Nat->List Stp×Nat
 |0,v=>([],v)
 |k+1,v=>match B v with
  |none=>([],v)
  |some s=>(s:: (Es L B k (sFrom L s)).1,(Es L B k (sFrom L s)).2)
variable{B:Nat->Option Stp}{n r:Nat}
theorem Chain.fuel{L:List Ar}{v:Nat}{l:List Stp}(h:Chain L B v l r):∀k,l.length<k->Es L B k v=(l,r):=by
 induction h with
 |nil h=>
  intro k hk;cases k with
  |zero=>simp at hk
  |succ k=>simp[Es,h]
 |cons h _ ih=>
  intro k hk;cases k with
  |zero=>simp at hk
  |succ k=>
   have:=ih k (by simp at hk;omega);simp[Es,h,this]
theorem Hj{L:List Ar}{ρ:Nat->Nat}(hρ:∀v s,B v=some s->ρ (sFrom L s)<ρ v):∀(m v:Nat),ρ v<=m->∃l r,Chain L B v l r
 |0,v,hv=>by
  cases hb:B v with
  |none=>exact⟨_,_,.nil hb⟩
  |some s=>have:=hρ v s hb;omega
 |m+1,v,hv=>by
  cases hb:B v with
  |none=>exact⟨_,_,.nil hb⟩
  |some s=>
   have:=hρ v s hb;obtain⟨l,r,h⟩:=Hj hρ m (sFrom L s) om;exact⟨_,_,.cons hb h⟩
theorem Chain.mem{L:List Ar}{v:Nat}{l:List Stp}(h:Chain L B v l r):∀s∈l,∃w,B w=some s:=by
 induction h with
 |nil=>intro s hs;cases hs
 |cons h _ ih=>
  intro s hs;rcases AV.1 hs with rfl|hs
  ·exact⟨_,h⟩
  ·exact ih s hs
theorem Chain.root{L:List Ar}{v:Nat}{l:List Stp}(h:Chain L B v l r):B r=none:=by
 induction h with
 |nil h=>exact h
 |cons _ _ ih=>exact ih
theorem Chain.nodup{L:List Ar}{ρ:Nat->Nat}(hρ:∀v s,B v=some s->ρ (sFrom L s)<ρ v)(hto:∀v s,B v=some s->sTo L s=v){v:Nat}{l:List Stp}(h:Chain L B v l r):
  (∀s∈l,ρ (sTo L s)<=ρ v)/\(l.map (·.a)).Nodup:=by
 induction h with
 |nil=>simp
 | @cons v r s l h c ih=>
  have h1:=hρ v s h;have h2:=hto v s h;refine⟨fun x hx=> ?_,?_⟩
  ·rcases AV.1 hx with rfl|hx
   ·rw[h2];exact AH _
   ·have:=ih.1 x hx;omega
  ·rw[List.map_cons,List.nodup_cons];refine⟨fun hm=> ?_,ih.2⟩;obtain⟨x,hx,e⟩:=List.mem_map.1 hm;have h3:=ih.1 x hx;obtain⟨w,hw⟩:=c.mem x hx;have h4:=hρ w x hw;have h5:=hto w x hw;by_cases hb:x.back=s.back
   ·have:x=s:=by cases x;cases s;simp_all
    subst this;rw[h2]at h3;omega
   ·have e1:sFrom L x=sTo L s:=by
     unfold sFrom sTo;rw[e];cases hx1:x.back<;>cases hs1:s.back<;>simp_all
    have e2:sTo L x=sFrom L s:=by
     unfold sFrom sTo;rw[e];cases hx1:x.back<;>cases hs1:s.back<;>simp_all
    rw[e1,h2,<-h5,e2]at h4;omega
theorem Chain.short{L:List Ar}{ρ:Nat->Nat}(hρ:∀v s,B v=some s->ρ (sFrom L s)<ρ v)(hlt:∀v s,B v=some s->sFrom L s<n){v:Nat}{l:List Stp}(h:Chain L B v l r):l.length<=Xb n ρ v:=by
 induction h with
 |nil=>simp
 | @cons v r s l h c ih=>
  have h1:=hρ v s h;have h4:=ID (l:=List.range n) (fun u=>decide (ρ u<ρ (sFrom L s))) (fun u=>decide (ρ u<ρ v)) (fun x hx=>by simp at hx⊢;omega) (An.2 (hlt v s h)) (by simp) (by simpa using h1);unfold Xb at ih⊢;simp only[AY];omega
theorem Chain.end_lt{L:List Ar}(hlt:∀v s,B v=some s->sFrom L s<n){v:Nat}{l:List Stp}(h:Chain L B v l r)(hv:v<n):r<n:=by
 induction h with
 |nil=>exact hv
 |cons h _ ih=>exact ih (hlt _ _ h)
def CS(L:List Ar)(σ:Net)(l:List Stp)(u:Int):Net:=l.foldl (fun σ s=>CM L σ s u) σ
theorem Ko(L:List Ar)(u:Int):∀(l:List Stp) (σ:Net),(CS L σ l u).x.length=σ.x.length/\(CS L σ l u).ov.length=σ.ov.length
 |[],σ=>⟨rfl,rfl⟩
 |s::l,σ=>by
  have:=Ko L u l (CM L σ s u);rw[FR,GC]at this;exact this
theorem Chain.ov{L:List Ar}(hto:∀v s,B v=some s->sTo L s=v)(hlt:∀v s,B v=some s->sFrom L s<n){v:Nat}{l:List Stp}(h:Chain L B v l r)(hv:v<n)(u:Int):
  ∀σ:Net,σ.ov.length=n->∀w,nth (CS L σ l u).ov w=nth σ.ov w+one (w=v) u - one (w=r) u:=by
 induction h with
 |nil=>
  intro σ _ w;show nth σ.ov w=_
  omega
 | @cons v r s l h c ih=>
  intro σ hσ w;have h1:=hlt v s h;have h2:=hto v s h;have:=ih h1 (CM L σ s u) (by rw[GC];exact hσ) w;rw[PB _ _ _ _ om om,h2]at this;show nth (CS L (CM L σ s u) l u).ov w=_
  rw[this];omega
theorem Ny{L:List Ar}{m:Nat}(u:Int):∀(l:List Stp) (σ:Net),(l.map (·.a)).Nodup->(∀s∈l,s.a<m)->σ.x.length=m->
  (∀s∈l,nth (CS L σ l u).x s.a=if s.back then nth σ.x s.a - u else nth σ.x s.a+u)/\(∀a,(∀s∈l,s.a≠a)->nth (CS L σ l u).x a=nth σ.x a)
 |[],σ,_,_,_=>⟨by simp,fun _ _=>rfl⟩
 |s::l,σ,hn,hl,hσ=>by
  rw[List.map_cons,List.nodup_cons]at hn;have hs:=hl s (by simp);obtain⟨h1,h2⟩:=Ny u l (CM L σ s u) hn.2 (fun x hx=>hl x (by simp[hx])) (by rw[FR];exact hσ);refine⟨fun x hx=> ?_,fun a ha=> ?_⟩
  ·rcases AV.1 hx with rfl|hx
   ·have:=h2 x.a fun y hy e=>hn.1 (by rw[<-e];exact List.mem_map_of_mem hy)
    show nth (CS L (CM L σ x u) l u).x x.a=_
    rw[this,Gy _ _ _ _ om,if_pos rfl]
   ·have:=h1 x hx;show nth (CS L (CM L σ s u) l u).x x.a=_
    have hne:x.a≠s.a:=fun e=>hn.1 (by rw[<-e];exact List.mem_map_of_mem hx)
    rw[this,Gy _ _ _ _ om,if_neg hne]
  ·have:=h2 a fun y hy=>ha y (by simp[hy])
   show nth (CS L (CM L σ s u) l u).x a=_
   rw[this,Gy _ _ _ _ om,if_neg fun e=>ha s (by simp) e.symm]
def psum(f:Nat->Int):Nat->Int
 |0=>0
 |n+1=>psum f n+max (f n) 0
theorem Cx(f:Nat->Int):∀n,0<=psum f n
 |0=>Int.le_refl _
 |n+1=>by have:=Cx f n;show 0<=psum f n+max (f n) 0;omega
theorem Ux(f g:Nat->Int):∀n,(∀v,v<n->max (f v) 0<=max (g v) 0)->psum f n<=psum g n
 |0,_=>Int.le_refl _
 |n+1,h=>by
  have:=Ux f g n fun v hv=>h v om
  have:=h n om;show psum f n+max (f n) 0<=psum g n+max (g n) 0
  omega
theorem Ga(f g:Nat->Int){k:Nat}{u:Int}:∀n,k<n->(∀v,v<n->v≠k->max (f v) 0<=max (g v) 0)->max (f k) 0+u<=max (g k) 0->psum f n+u<=psum g n
 |0,h,_,_=>om
 |n+1,hk,h,hu=>by
  show psum f n+max (f n) 0+u<=psum g n+max (g n) 0
  by_cases e:k=n
  ·subst e;have:=Ux f g k fun v hv=>h v om om
   omega
  ·have:=Ga f g n om (fun v hv=>h v om) hu;have:=h n om om;omega
theorem PC(f:Nat->Int):∀(n k:Nat),k<n->f k<=psum f n
 |0,_,h=>om
 |n+1,k,h=>by
  show f k<=psum f n+max (f n) 0
  have:=Cx f n;by_cases e:k=n
  ·subst e;omega
  ·have:=PC f n k om;omega
structure Okay(n:Nat)(L:List Ar):Prop where
 ends:Ends n L
 lo:∀a∈L,0<=a.lo
 cap:∀a∈L,a.ca=infC\/(a.lo<=a.ca/\a.ca<infC)
structure NetOk(n:Nat)(L:List Ar)(σ:Net):Prop where
 lx:σ.x.length=L.length
 lo:σ.ov.length=n
 room:∀s,s.a<L.length->0<=sRoom L σ.x s
def HJ(L:List Ar)(σ:Net)(l:List Stp)(r e:Nat):Int:=l.foldl (fun u s=>min u (sRoom L σ.x s)) (min (nth σ.ov r) (-nth σ.ov e))
def Ed(L:List Ar)(n:Nat)(σ:Net)(B:Nat->Option Stp)(e:Nat):Net:=CS L σ (Es L B n e).1 (HJ L σ (Es L B n e).1 (Es L B n e).2 e)
theorem KS(f:Stp->Int):∀(l:List Stp) (u k:Int),k<=u->(∀s∈l,k<=f s)->k<=l.foldl (fun u s=>min u (f s)) u
 |[],u,k,h,_=>h
 |s::l,u,k,h,hl=>KS f l _ k (show k<=min u (f s) by have:=hl s (by simp);omega) fun x hx=>hl x (by simp[hx])
theorem G7(f:Stp->Int):∀(l:List Stp) (u:Int),l.foldl (fun u s=>min u (f s)) u<=u/\∀s∈l,l.foldl (fun u s=>min u (f s)) u<=f s
 |[],u=>⟨Int.le_refl _,by simp⟩
 |s::l,u=>by
  obtain⟨h1,h2⟩:=G7 f l (min u (f s));refine⟨?_,fun x hx=> ?_⟩
  ·show l.foldl _ (min u (f s))<=u
   omega
  ·show l.foldl _ (min u (f s))<=f x
   rcases AV.1 hx with rfl|hx
   ·omega
   ·exact h2 x hx
structure Ways(n:Nat)(L:List Ar)(σ:Net)(k:Int)(B:Nat->Option Stp):Prop where
 to:∀v s,B v=some s->sTo L s=v
 lt:∀v s,B v=some s->s.a<L.length/\k<=sRoom L σ.x s
 rank:∃ρ:Nat->Nat,∀v s,B v=some s->ρ (sFrom L s)<ρ v
def revS(s:Stp):Stp:=⟨s.a, !s.back⟩
structure Along(n:Nat)(L:List Ar)(σ τ:Net)(B:Nat->Option Stp)(k:Int):Prop where
 ok:NetOk n L τ
 u:∃u:Int,k<=u/\psum (nth τ.ov) n+u<=psum (nth σ.ov) n/\psum (fun v=> -nth τ.ov v) n+u<=psum (fun v=> -nth σ.ov v) n/\∀a,a<L.length->nth τ.x a<=nth σ.x a+u
 room:∀s,s.a<L.length->sRoom L τ.x s<=sRoom L σ.x s\/∃v,B v=some (revS s)
theorem Hu(L:List Ar)(x y:List Int)(s:Stp)(h:nth x s.a=nth y s.a):sRoom L x s=sRoom L y s:=by unfold sRoom;rw[h]
theorem Rp{L:List Ar}(hL:Okay n L){σ:Net}(hσ:NetOk n L σ){k:Int}(hk:0<k)(hB:Ways n L σ k B){e:Nat}(he:e<n)(hneg:nth σ.ov e<= -k)(hpos:∀v,v<n->B v=none->(∃w,Chain L B e w v)->k<=nth σ.ov v):
  Along n L σ (Ed L n σ B e) B k/\∃l r,Chain L B e l r/\r<n/\Es L B n e=(l,r):=by
 obtain⟨ρ,hρ⟩:=hB.rank;have hlt:∀v s,B v=some s->sFrom L s<n:=fun v s h=>hL.ends.from_lt (hB.lt v s h).1
 obtain⟨l,r,hc⟩:=Hj hρ _ e (AH _);have hlen:=hc.short hρ hlt;have hbl:=PP (ρ:=ρ) he;have hf:=hc.fuel n om;have hr:=hc.end_lt hlt he;have hnd:=(hc.nodup hρ hB.to).2;have hm:∀s∈l,s.a<L.length:=fun s hs=>by obtain⟨w,hw⟩:=hc.mem s hs;exact(hB.lt w s hw).1
 have hroot:=hpos r hr hc.root ⟨l,hc⟩;refine⟨?_,l,r,hc,hr,hf⟩;unfold Ed;rw[hf];simp only;have hu:k<=HJ L σ l r e:=KS _ _ _ _ om fun s hs=>by obtain⟨w,hw⟩:=hc.mem s hs;exact(hB.lt w s hw).2
 obtain⟨hu1,hu2⟩:=G7 (sRoom L σ.x) l (min (nth σ.ov r) (-nth σ.ov e));change HJ L σ l r e<=_ at hu1;change ∀s∈l,HJ L σ l r e<=_ at hu2;generalize HJ L σ l r e=u at*;obtain⟨l1,l2⟩:=Ko L u l σ;have hov:=hc.ov hB.to hlt he u σ hσ.lo;obtain⟨hx1,hx2⟩:=Ny (L:=L) u l σ hnd hm hσ.lx;have hre:r≠e:=by rintro rfl;omega
 have onw:∀s,s.a<L.length->(∀y∈l,y.a≠s.a)\/s∈l\/revS s∈l:=by
  intro s hs;by_cases h:∃y∈l,y.a=s.a
  ·obtain⟨y,hy,ey⟩:=h;by_cases hb:y.back=s.back
   ·refine .inr (.inl ?_);have:y=s:=by cases y;cases s;simp_all
    exact this▸hy
   ·refine .inr (.inr ?_);have:y=revS s:=by
     cases y;cases s
     simp only[revS,Stp.mk.injEq]at*;refine⟨ey,?_⟩;rename_i a b c d;cases b<;>cases d<;>simp_all
    exact this▸hy
  ·exact .inl fun y hy e=>h ⟨y,hy,e⟩
 have roomOn:∀s∈l,sRoom L (CS L σ l u).x s<=sRoom L σ.x s/\0<=sRoom L (CS L σ l u).x s:=by
  intro s hs;have h1:=hx1 s hs;have h2:=hu2 s hs;have h3:=hσ.room s (hm s hs);unfold sRoom at h2 h3⊢;rw[h1];cases hb:s.back
  ·simp only[hb,AP,Ab]at h2 h3⊢;split
   ·rename_i hi;simp only[hi,Ag]at h2 h3;omega
   ·rename_i hi;simp only[hi,Ab]at h2 h3;omega
  ·simp only[hb,Ag]at h2 h3⊢;omega
 have roomRev:∀s,revS s∈l->0<=sRoom L (CS L σ l u).x s:=by
  intro s hs;have h1:=hx1 _ hs;have h3:=hσ.room s (show s.a<L.length from hm (revS s) hs);have e1: (revS s).a=s.a:=rfl;have e2: (revS s).back= !s.back:=rfl;rw[e1,e2]at h1;unfold sRoom at h3⊢;rw[h1];cases hb:s.back
  ·simp only[hb,AP,Ab,Bool.not_false,Ag]at h3⊢;split
   ·unfold Gb;omega
   ·rename_i hi;simp only[hi,Ab]at h3;omega
  ·simp only[hb,Ag,Bool.not_true,AP,Ab]at h3⊢;omega
 refine⟨⟨l1.trans hσ.lx,l2.trans hσ.lo,fun s hs=> ?_⟩,⟨u,hu,?_,?_,fun a ha=> ?_⟩,fun s hs=> ?_⟩
 ·rcases onw s hs with h|h|h
  ·rw[Hu L _ σ.x s (hx2 s.a h)];exact hσ.room s hs
  ·exact(roomOn s h).2
  ·exact roomRev s h
 ·refine Ga _ _ n hr (fun v hv hne=> ?_) ?_
  ·rw[hov v];unfold one;rw[if_neg hne];split
   ·rename_i h;subst h;omega
   ·omega
  ·rw[hov r];unfold one;rw[if_neg hre,if_pos rfl];omega
 ·refine Ga _ _ n he (fun v hv hne=> ?_) ?_
  ·rw[hov v];unfold one;rw[if_neg hne];split
   ·rename_i h;subst h;omega
   ·omega
  ·rw[hov e];unfold one;rw[if_neg (Ne.symm hre),if_pos rfl];omega
 ·rcases onw ⟨a,false⟩ ha with h|h|h
  ·rw[hx2 a h];omega
  ·rw[hx1 _ h];simp
  ·have h9:=hx1 _ h;simp only[revS,Bool.not_false,Ag]at h9;rw[h9];have:=hu;omega
 ·rcases onw s hs with h|h|h
  ·exact .inl (by rw[Hu L _ σ.x s (hx2 s.a h)];exact Int.le_refl _)
  ·exact .inl (roomOn s h).1
  ·obtain⟨w,hw⟩:=hc.mem _ h;exact .inr ⟨w,hw⟩
end
end
section
section
theorem U2(f:Stp->Int):∀m:Nat,∃M:Int,∀s:Stp,s.a<m->f s<=M
 |0=>⟨0,fun s h=>absurd h om⟩
 |m+1=>by
  obtain⟨M,h⟩:=U2 f m;refine⟨max M (max (f ⟨m,false⟩) (f ⟨m,true⟩)),fun s hs=> ?_⟩;obtain⟨a,b⟩:=s;by_cases e:a=m
  ·subst e;cases b<;>omega
  ·have:=h ⟨a,b⟩ (by simp at hs⊢;omega);omega
theorem ZK(L:List Ar)(s:Stp):sFrom L (revS s)=sTo L s:=by unfold sFrom sTo revS;cases s.back<;>rfl
theorem mF(L:List Ar)(s:Stp):sTo L (revS s)=sFrom L s:=by unfold sFrom sTo revS;cases s.back<;>rfl
theorem ZL(L:List Ar)(s:Stp):sCost L (revS s)= -sCost L s:=by unfold sCost revS;cases s.back<;>simp
def N7(k:Int)(σ:Net)(v:Nat):Bool:=decide (k<=nth σ.ov v)
def ES(L:List Ar)(k:Int)(σ:Net)(s:Stp):Bool:=decide (k<=sRoom L σ.x s)
def Mr(k:Int)(σ:Net)(n:Nat)(D:List (Option Int)):Option Nat:=(List.range n).find? fun v=>decide (nth σ.ov v<= -k)&&(at_ D v).isSome
def DM(L:List Ar)(n:Nat)(k:Int)(σ:Net):SP:=Bq L n (N7 k σ) (ES L k σ)
def lumpStep(L:List Ar)(n:Nat)(k:Int)(σ:Net):Option Net:=(Mr k σ n (DM L n k σ).dist).map fun e=>Ed L n σ (at_ (DM L n k σ).by_) e
structure LumpOk(n:Nat)(L:List Ar)(k:Int)(σ:Net):Prop where
 ok:NetOk n L σ
 pos:0<k
 feas:∃π,Feas L (fun s=>k<=sRoom L σ.x s) π
variable{n:Nat}{L:List Ar}{T k:Int}{σ τ:Net}
theorem LumpOk.feasB(h:LumpOk n L k σ):∃π,Feas L (fun s=>ES L k σ s=true) π:=by
 obtain⟨π,hπ⟩:=h.feas;exact⟨π,fun s hs hc=>hπ s hs (by simpa[ES]using hc)⟩
theorem LumpOk.short(h:LumpOk n L k σ)(hL:Okay n L)(start:Nat->Bool):Short L n start (ES L k σ) (Bq L n start (ES L k σ)):=by
 obtain⟨π,hπ⟩:=h.feasB;exact(Qh start hπ hL.ends).1
theorem Short.known{start:Nat->Bool}{cnt:Stp->Bool}{σ:SP}(h:Short L n start cnt σ){v r:Nat}{l:List Stp}(hc:Chain L (at_ σ.by_) v l r):∀d,at_ σ.dist v=some d->∃e,at_ σ.dist r=some e:=by
 induction hc with
 |nil _=>exact fun d hd=>⟨d,hd⟩
 |cons hb _ ih=>
  intro d hd;obtain⟨_,_,_,du,hdu,_⟩:=h.by1 _ _ hb;exact ih du hdu
theorem Short.ways{start:Nat->Bool}{σ:SP}(h:Short L n start (ES L k τ) σ):Ways n L τ k (at_ σ.by_):=
 ⟨fun v s hb=>(h.by1 v s hb).2.2.1,fun v s hb=>⟨(h.by1 v s hb).1,by have:=(h.by1 v s hb).2.1;simpa[ES]using this⟩,h.rank⟩
theorem S9{D:List (Option Int)}{e:Nat}(h:Mr k σ n D=some e):e<n/\nth σ.ov e<= -k/\∃d,at_ D e=some d:=by
 have h1:=List.find?_some h;have h2:=List.mem_of_find?_eq_some h;simp only[AA,BE,Option.isSome_iff_exists]at h1;exact⟨An.1 h2,h1.1,h1.2⟩
theorem Xa(hL:Okay n L)(h:LumpOk n L k σ)(hs:lumpStep L n k σ=some τ):LumpOk n L k τ/\∃e,Mr k σ n (DM L n k σ).dist=some e/\τ=Ed L n σ (at_ (DM L n k σ).by_) e/\Along n L σ τ (at_ (DM L n k σ).by_) k/\
  ∃l r,Chain L (at_ (DM L n k σ).by_) e l r/\r<n/\Es L (at_ (DM L n k σ).by_) n e=(l,r):=by
 obtain⟨e,he,rfl⟩:=AZ.1 hs;obtain⟨he1,he2,d,hd⟩:=S9 he;have hS:=h.short hL (N7 k σ);change Short L n _ _ (DM L n k σ)at hS;have hW:=hS.ways;obtain⟨hA,hch⟩:=Rp hL h.ok h.pos hW he1 he2 (fun v hv hb ⟨l,hc⟩=>by
  obtain⟨d',hd'⟩:=hS.known hc d hd;have:=(hS.by0 v d' hb hd').2;simpa[N7]using this)
 refine⟨⟨hA.ok,h.pos,?_⟩,e,he,rfl,hA,hch⟩;obtain⟨π,hπ⟩:=h.feas;obtain⟨M,hM⟩:=U2 (fun s=>(at_ (DM L n k σ).dist (sTo L s)).getD 0 - sCost L s - π (sFrom L s)) L.length;refine⟨fun v=>(at_ (DM L n k σ).dist v).getD (π v+M),fun s hs hr=> ?_⟩;show 0<=sCost L s+(at_ (DM L n k σ).dist (sFrom L s)).getD (π (sFrom L s)+M) - (at_ (DM L n k σ).dist (sTo L s)).getD (π (sTo L s)+M)
 rcases hA.room s hs with hle|⟨v,hv⟩
 ·have hk:k<=sRoom L σ.x s:=by have:k<=sRoom L (Ed L n σ (at_ (DM L n k σ).by_) e).x s:=hr;omega
  have ht:=hS.tight s hs (by simpa[ES]using hk);have hf:=hπ s hs hk;have hm:=hM s hs;cases hu:at_ (DM L n k σ).dist (sFrom L s)with
  |some du=>
   obtain⟨dv,h1,h2⟩:=ht du hu;simp only[h1,AQ];omega
  |none=>
   cases hv:at_ (DM L n k σ).dist (sTo L s)with
   |some dv=>
    simp only[hv,AQ,Option.getD_none]at hm⊢;omega
   |none=>
    simp only[Option.getD_none];omega
 ·obtain⟨_,_,h1,du,h2,h3⟩:=hS.by1 v _ hv;rw[ZK]at h2;rw[ZL]at h3;rw[mF]at h1;rw[<-h1]at h3;simp only[h2,h3,AQ];omega
def valO(D:List (Option Int))(v:Nat):Int:=(at_ D v).getD 0
def El(L:List Ar)(k:Int)(D:List (Option Int))(σ:Net)(s:Stp):Net:=
 if k<=sRoom L σ.x s/\valO D (sFrom L s)+sCost L s<valO D (sTo L s)then CM L σ s (sRoom L σ.x s)else σ
def Y5(L:List Ar)(k:Int)(D:List (Option Int))(σ:Net):Net:=(CF L.length).foldl (El L k D) σ
structure Bnd(n:Nat)(L:List Ar)(T:Int)(σ:Net):Prop where
 p:psum (nth σ.ov) n<=T
 q:psum (fun v=> -nth σ.ov v) n<=T
 x:∀a,a<L.length->psum (nth σ.ov) n+nth σ.x a<=T
theorem Bnd.mono{T':Int}(h:Bnd n L T σ)(hT:T<=T'):Bnd n L T' σ:=⟨by have:=h.p;omega,by have:=h.q;omega,fun a ha=>by have:=h.x a ha;omega⟩
theorem Bnd.along{B:Nat->Option Stp}(h:Bnd n L T σ)(hk:0<=k)(hA:Along n L σ τ B k):Bnd n L T τ:=by
 obtain⟨u,h1,h2,h3,h4⟩:=hA.u;exact⟨by have:=h.p;omega,by have:=h.q;omega,fun a ha=>by have:=h.x a ha;have:=h4 a ha;omega⟩
theorem Bnd.push{u:Int}(h:Bnd n L T σ)(hE:Ends n L)(hσ:NetOk n L σ){s:Stp}(hs:s.a<L.length)(hu:0<=u):Bnd n L (T+2*u) (CM L σ s u):=by
 have h1:=hE.from_lt hs;have h2:=hE.to_lt hs;have hov:=PB L σ s u (by rw[hσ.lo];exact h1) (by rw[hσ.lo];exact h2);have p1:psum (nth (CM L σ s u).ov) n+ -u<=psum (nth σ.ov) n:=by
  refine Ga _ _ n h2 (fun v hv hne=> ?_) ?_
  ·rw[hov v];unfold one;rw[if_neg hne];split<;>omega
  ·rw[hov];unfold one;rw[if_pos rfl];split<;>omega
 have p2:psum (fun v=> -nth (CM L σ s u).ov v) n+ -u<=psum (fun v=> -nth σ.ov v) n:=by
  refine Ga _ _ n h1 (fun v hv hne=> ?_) ?_
  ·rw[hov v];unfold one;rw[if_neg hne];split<;>omega
  ·rw[hov];unfold one;rw[if_pos rfl];split<;>omega
 refine⟨by have:=h.p;omega,by have:=h.q;omega,fun a ha=> ?_⟩;rw[Gy _ _ _ _ (by rw[hσ.lx];exact hs)];have:=h.x a ha;split
 ·split<;>omega
 ·omega
structure SatArc(n:Nat)(L:List Ar)(k:Int)(p:Nat->Int)(T:Int)(σ τ:Net)(a:Nat):Prop where
 ok:NetOk n L τ
 red:∀b,k<=sRoom L τ.x ⟨a,b⟩->0<=sCost L ⟨a,b⟩+p (sFrom L ⟨a,b⟩) - p (sTo L ⟨a,b⟩)
 same:∀c,c≠a->nth τ.x c=nth σ.x c
 bnd:Bnd n L T τ
theorem MF(hL:Okay n L)(hσ:NetOk n L σ){s:Stp}(hs:s.a<L.length)(hfin:s.back=false->(DC L s.a).ca≠infC):NetOk n L (CM L σ s (sRoom L σ.x s))/\sRoom L (CM L σ s (sRoom L σ.x s)).x s=0:=by
 have hx:=Gy L σ s (sRoom L σ.x s) (by rw[hσ.lx];exact hs);have hc:=hL.cap _ (EJ hs);have hs0:=hσ.room s hs;have h0:sRoom L (CM L σ s (sRoom L σ.x s)).x s=0:=by
  have h1:=hx s.a;rw[if_pos rfl]at h1;unfold sRoom at h1⊢;rw[h1];cases hb:s.back
  ·have hf:=hfin hb;simp only[hb,AP,Ab,hf];omega
  ·simp only[hb,Ag];omega
 refine⟨⟨by rw[FR];exact hσ.lx,by rw[GC];exact hσ.lo,fun y hy=> ?_⟩,h0⟩;by_cases hya:y.a=s.a
 ·by_cases hyb:y.back=s.back
  ·have:y=s:=by cases y;cases s;simp_all
   rw[this,h0];exact Int.le_refl _
  ·have h1:=hx s.a;rw[if_pos rfl]at h1;unfold sRoom at h1 hs0⊢;rw[hya,h1];cases hb:s.back
   ·have hf:=hfin hb;have:y.back=true:=by cases hy2:y.back<;>simp_all
    simp only[hb,this,AP,Ab,Ag,hf]at hs0⊢;omega
   ·have:y.back=false:=by cases hy2:y.back<;>simp_all
    simp only[hb,this,AP,Ab,Ag]at hs0⊢;split
    ·unfold Gb;omega
    ·omega
 ·rw[Hu L _ σ.x y (by rw[hx y.a,if_neg hya])];exact hσ.room y hy
theorem eP(hL:Okay n L)(hk:0<k)(hk2:2*k<=Gb){D:List (Option Int)}(hσ:NetOk n L σ)(hB:Bnd n L T σ){a:Nat}(ha:a<L.length)
  (hf:∀b,2*k<=sRoom L σ.x ⟨a,b⟩->0<=sCost L ⟨a,b⟩+valO D (sFrom L ⟨a,b⟩) - valO D (sTo L ⟨a,b⟩)):
  SatArc n L k (valO D) (T+4*k) σ (El L k D (El L k D σ ⟨a,false⟩) ⟨a,true⟩) a:=by
 have e1:sFrom L ⟨a,true⟩=sTo L ⟨a,false⟩:=rfl;have e2:sTo L ⟨a,true⟩=sFrom L ⟨a,false⟩:=rfl;have e3:sCost L ⟨a,true⟩= -sCost L ⟨a,false⟩:=rfl;have f0:=hf false;have f1:=hf true;rw[e1,e2,e3]at f1;by_cases c1:k<=sRoom L σ.x ⟨a,false⟩/\valO D (sFrom L ⟨a,false⟩)+sCost L ⟨a,false⟩<valO D (sTo L ⟨a,false⟩)
 ·have hfin: (DC L a).ca≠infC:=by
   intro h;have:sRoom L σ.x ⟨a,false⟩=Gb:=by unfold sRoom;simp only[AP,Ab];rw[if_pos h]
   have:=f0 om;omega
  obtain⟨hok,hz⟩:=MF hL hσ (s:=⟨a,false⟩) ha (fun _=>hfin);have hb:=hB.push hL.ends hσ (s:=⟨a,false⟩) ha (u:=sRoom L σ.x ⟨a,false⟩) om;have hlt:sRoom L σ.x ⟨a,false⟩<2*k:=by
   rcases Int.lt_or_le (sRoom L σ.x ⟨a,false⟩) (2*k)with h|h
   ·exact h
   ·have:=f0 h;omega
  have s1:El L k D σ ⟨a,false⟩=CM L σ ⟨a,false⟩ (sRoom L σ.x ⟨a,false⟩):=if_pos c1;have s2:El L k D (El L k D σ ⟨a,false⟩) ⟨a,true⟩=CM L σ ⟨a,false⟩ (sRoom L σ.x ⟨a,false⟩):=by
   rw[s1];exact if_neg fun h=>by rw[e1,e2,e3]at h;omega
  rw[s2];refine⟨hok,fun b hr=> ?_,fun c hc=>by rw[Gy _ _ _ _ (by rw[hσ.lx];exact ha),if_neg hc],hb.mono om⟩;cases b
  ·rw[hz]at hr;omega
  ·rw[e1,e2,e3];omega
 ·have s1:El L k D σ ⟨a,false⟩=σ:=if_neg c1;rw[s1];by_cases c2:k<=sRoom L σ.x ⟨a,true⟩/\valO D (sFrom L ⟨a,true⟩)+sCost L ⟨a,true⟩<valO D (sTo L ⟨a,true⟩)
  ·obtain⟨hok,hz⟩:=MF hL hσ (s:=⟨a,true⟩) ha (fun h=>by cases h);have hb:=hB.push hL.ends hσ (s:=⟨a,true⟩) ha (u:=sRoom L σ.x ⟨a,true⟩) om;have s2:El L k D σ ⟨a,true⟩=CM L σ ⟨a,true⟩ (sRoom L σ.x ⟨a,true⟩):=if_pos c2;rw[e1,e2,e3]at c2;have hlt:sRoom L σ.x ⟨a,true⟩<2*k:=by
    rcases Int.lt_or_le (sRoom L σ.x ⟨a,true⟩) (2*k)with h|h
    ·exact h
    ·have:=f1 h;omega
   rw[s2];refine⟨hok,fun b hr=> ?_,fun c hc=>by rw[Gy _ _ _ _ (by rw[hσ.lx];exact ha),if_neg hc],hb.mono om⟩;cases b
   ·omega
   ·rw[hz]at hr;omega
  ·have s2:El L k D σ ⟨a,true⟩=σ:=if_neg c2;rw[s2];refine⟨hσ,fun b hr=> ?_,fun c hc=>rfl,hB.mono om⟩;cases b
   ·rcases Int.lt_or_le (valO D (sFrom L ⟨a,false⟩)+sCost L ⟨a,false⟩) (valO D (sTo L ⟨a,false⟩))with h|h
    ·exact absurd ⟨hr,h⟩ c1
    ·omega
   ·rcases Int.lt_or_le (valO D (sFrom L ⟨a,true⟩)+sCost L ⟨a,true⟩) (valO D (sTo L ⟨a,true⟩))with h|h
    ·exact absurd ⟨hr,h⟩ c2
    ·omega
theorem Ie(m:Nat):CF (m+1)=CF m++[⟨m,false⟩,⟨m,true⟩]:=by
 unfold CF;rw[List.range_succ,BF];rfl
theorem L5(hL:Okay n L)(hk:0<k)(hk2:2*k<=Gb){D:List (Option Int)}(hσ:NetOk n L σ)(hB:Bnd n L T σ)
  (hf:Feas L (fun s=>2*k<=sRoom L σ.x s) (valO D)):∀m:Nat,m<=L.length->
  NetOk n L ((CF m).foldl (El L k D) σ)/\Bnd n L (T+4*k*m) ((CF m).foldl (El L k D) σ)/\(∀s:Stp,s.a<m->k<=sRoom L ((CF m).foldl (El L k D) σ).x s->0<=sCost L s+valO D (sFrom L s) - valO D (sTo L s))/\
   ∀a,m<=a->nth ((CF m).foldl (El L k D) σ).x a=nth σ.x a
 |0,_=>⟨hσ,hB.mono (by simp),fun s hs=>absurd hs om,fun _ _=>rfl⟩
 |m+1,hm=>by
  obtain⟨h1,h2,h3,h4⟩:=L5 hL hk hk2 hσ hB hf m om;rw[Ie,List.foldl_append];generalize(CF m).foldl (El L k D) σ=τ at*;have hs:=eP hL hk hk2 (D:=D) h1 h2 (a:=m) om (fun b hr=>by
   rw[Hu L _ σ.x ⟨m,b⟩ (h4 m (AH _))]at hr;exact hf ⟨m,b⟩ (show m<_ from om) hr)
  refine⟨hs.ok,hs.bnd.mono ?_,fun s hlt hr=> ?_,fun a ha=> ?_⟩
  ·have: (4*k*((m+1:Nat):Int))=4*k*m+4*k:=by rw[Int.natCast_add,Int.mul_add];simp
   omega
  ·by_cases e:s.a=m
   ·obtain⟨a,b⟩:=s;simp only at e;subst e;exact hs.red b hr
   ·refine h3 s om ?_;rw[<-Hu L (El L k D (El L k D τ ⟨m,false⟩) ⟨m,true⟩).x τ.x s (hs.same s.a e)];exact hr
  ·show nth (El L k D (El L k D τ ⟨m,false⟩) ⟨m,true⟩).x a=_
   rw[hs.same a om,h4 a om]
theorem lX(hL:Okay n L)(hk:0<k)(hk2:2*k<=Gb){D:List (Option Int)}(hσ:NetOk n L σ)(hB:Bnd n L T σ)(hf:Feas L (fun s=>2*k<=sRoom L σ.x s) (valO D)):
  LumpOk n L k (Y5 L k D σ)/\Bnd n L (T+4*k*L.length) (Y5 L k D σ):=by
 obtain⟨h1,h2,h3,_⟩:=L5 hL hk hk2 hσ hB hf L.length (AH _);exact⟨⟨h1,hk,valO D,fun s hs hr=>h3 s hs hr⟩,h2⟩
theorem RG{cnt:Stp->Bool}{σ:SP}(hE:Ends n L)(hl:σ.dist.length=n){s:Stp}(hs:s.a<L.length)(h:∀v,v<n->∃d,at_ σ.dist v=some d): (visit L cnt σ s).dist.length=n/\∀v,v<n->∃d,at_ (visit L cnt σ s).dist v=some d:=by
 have hto:=hE.to_lt hs;have rel:∀d:Int,(σ.dist.set (sTo L s) (some d)).length=n/\∀v,v<n->∃d',at_ (σ.dist.set (sTo L s) (some d)) v=some d':=by
  intro d;refine⟨by simp[hl],fun v hv=> ?_⟩;rw[Iy _ _ _ om];simp only;split
  ·exact⟨_,rfl⟩
  ·exact h v hv
 unfold visit;split
 ·exact⟨hl,h⟩
 ·split
  ·split
   ·split
    ·exact⟨hl,h⟩
    ·exact rel _
   ·exact rel _
  ·exact⟨hl,h⟩
theorem MP{cnt:Stp->Bool}(hE:Ends n L):∀(l:List Stp) (σ:SP),(∀s∈l,s.a<L.length)->σ.dist.length=n->(∀v,v<n->∃d,at_ σ.dist v=some d)->(l.foldl (visit L cnt) σ).dist.length=n/\∀v,v<n->∃d,at_ (l.foldl (visit L cnt) σ).dist v=some d
 |[],σ,_,hl,h=>⟨hl,h⟩
 |s::l,σ,hm,hl,h=>by
  obtain⟨h1,h2⟩:=RG (cnt:=cnt) hE hl (hm s (by simp)) h;exact MP hE l _ (fun x hx=>hm x (by simp[hx])) h1 h2
theorem JR{cnt:Stp->Bool}(hE:Ends n L):∀(j:Nat) (σ:SP),σ.dist.length=n->(∀v,v<n->∃d,at_ σ.dist v=some d)->∀v,v<n->∃d,at_ (C0 L cnt j σ).dist v=some d
 |0,σ,_,h=>h
 |j+1,σ,hl,h=>by
  obtain⟨h1,h2⟩:=MP (cnt:=cnt) hE (CF L.length) {σ with last:=none} (fun s hs=>DY.1 hs) hl h;unfold C0;split
  ·exact h2
  ·exact JR hE j _ h1 h2
theorem Qe(cnt:Stp->Bool)(hE:Ends n L):∀v,v<n->∃d,at_ (Bq L n (fun _=>true) cnt).dist v=some d:=
 JR hE n _ (by simp[CU]) fun v hv=>⟨0,by rw[M7];simp[hv]⟩
theorem LumpOk.feas_next(hL:Okay n L)(h:LumpOk n L k σ):Feas L (fun s=>k<=sRoom L σ.x s) (valO (Bq L n (fun _=>true) (ES L k σ)).dist):=by
 have hS:=h.short hL (fun _=>true);intro s hs hr;have hc:ES L k σ s=true:=by simpa[ES]using hr
 have known:=Qe (ES L k σ) hL.ends;obtain⟨du,hu⟩:=known _ (hL.ends.from_lt hs);obtain⟨dv,hv,hle⟩:=hS.tight s hs hc du hu;unfold valO;rw[hu,hv];simp only[AQ];omega
end
end
section
section
structure Srch where
 met:List Bool
 by_:List (Option Stp)
 nxt:List Nat
def metB(m:List Bool)(v:Nat):Bool:=(m[v]?).getD false
theorem MH(m:List Bool)(k v:Nat)(x:Bool)(h:k<m.length):metB (m.set k x) v=if v=k then x else metB m v:=by
 unfold metB;rw[List.getElem?_set];by_cases e:k=v
 ·subst e;simp[h]
 ·simp[e,Ne.symm e]
def J5(L:List Ar)(σ:Net)(q:Srch)(s:Stp):Srch×Option Nat:=
 if metB q.met (sTo L s)=true\/sRoom L σ.x s=0 then(q,none)
 else if nth σ.ov (sTo L s)<0 then(⟨q.met.set (sTo L s) true,q.by_.set (sTo L s) (some s),q.nxt⟩,some (sTo L s))
 else(⟨q.met.set (sTo L s) true,q.by_.set (sTo L s) (some s),q.nxt++[sTo L s]⟩,none)
def F9(L:List Ar)(σ:Net):List Stp->Srch->Srch×Option Nat
 |[],q=>(q,none)
 |s::l,q=>match J5 L σ q s with
  |(q',none)=>F9 L σ l q'
  |(q',some e)=>(q',some e)
def GA(L:List Ar)(σ:Net)(At:Nat->List Stp):List Nat->Srch->Srch×Option Nat
 |[],q=>(q,none)
 |v::l,q=>match F9 L σ (At v) q with
  |(q',none)=>GA L σ At l q'
  |(q',some e)=>(q',some e)
def DP(L:List Ar)(σ:Net)(At:Nat->List Stp):Nat->List Nat->List Bool->List (Option Stp)->(List Bool×List (Option Stp))×Option Nat
 |0,_,m,b=>((m,b),none)
 |k+1,[],m,b=>((m,b),none)
 |k+1,v::l,m,b=>match GA L σ At (v::l) ⟨m,b,[]⟩with
  |(q,some e)=>((q.met,q.by_),some e)
  |(q,none)=>DP L σ At k q.nxt q.met q.by_
def Cf(n:Nat)(σ:Net):List Nat:=(List.range n).filter fun v=>decide (0<nth σ.ov v)
def G8(n:Nat)(σ:Net):List Bool:=(List.range n).map fun v=>decide (0<nth σ.ov v)
def Bz(L:List Ar)(n:Nat)(σ:Net)(At:Nat->List Stp): (List Bool×List (Option Stp))×Option Nat:=DP L σ At (n+1) (Cf n σ) (G8 n σ) (List.replicate n none)
def Nf(n:Nat)(L:List Ar)(At:Nat->List Stp):Prop:=∀v,v<n->∀s∈At v,s.a<L.length/\sFrom L s=v
structure SrchOk(n:Nat)(L:List Ar)(σ:Net)(q:Srch):Prop where
 lm:q.met.length=n
 lb:q.by_.length=n
 by1:∀v s,at_ q.by_ v=some s->s.a<L.length/\sTo L s=v/\metB q.met (sFrom L s)=true/\metB q.met v=true/\sRoom L σ.x s≠0
 by0:∀v,metB q.met v=true->at_ q.by_ v=none->0<nth σ.ov v
 un:∀v,metB q.met v=false->at_ q.by_ v=none
 rank:∃ρ:Nat->Nat,∀v s,at_ q.by_ v=some s->ρ (sFrom L s)<ρ v
 nx:∀v∈q.nxt,v<n/\metB q.met v=true
variable{n:Nat}{L:List Ar}{σ:Net}
theorem SrchOk.meet{q:Srch}(h:SrchOk n L σ q)(hE:Ends n L){s:Stp}(hs:s.a<L.length)(hf:metB q.met (sFrom L s)=true)(ht:metB q.met (sTo L s)=false)(hr:sRoom L σ.x s≠0)(nx:List Nat)(hnx:nx=q.nxt\/nx=q.nxt++[sTo L s]):
  SrchOk n L σ ⟨q.met.set (sTo L s) true,q.by_.set (sTo L s) (some s),nx⟩:=by
 have hto:=hE.to_lt hs;have hm:∀v,metB (q.met.set (sTo L s) true) v=if v=sTo L s then true else metB q.met v:=fun v=>MH _ _ _ _ (by rw[h.lm];exact hto)
 have hb:∀v,at_ (q.by_.set (sTo L s) (some s)) v=if v=sTo L s then some s else at_ q.by_ v:=fun v=>by rw[Iy _ _ _ (by rw[h.lb];exact hto)]
 have hne:sFrom L s≠sTo L s:=fun e=>by rw[e,ht]at hf;cases hf
 obtain⟨ρ,hρ⟩:=h.rank;refine⟨by simp[h.lm],by simp[h.lb],fun v x hx=> ?_,fun v hv hx=> ?_,fun v hv=> ?_,⟨fun v=>if v=sTo L s then ρ (sFrom L s)+1 else ρ v,fun v x hx=> ?_⟩,fun v hv=> ?_⟩
 ·simp only[hb]at hx;simp only[hm];split at hx
  ·rename_i e;cases hx
   refine⟨hs,e.symm,?_,?_,hr⟩
   ·split
    ·rfl
    ·exact hf
   ·rw[if_pos e]
  ·obtain⟨h1,h2,h3,h4,h5⟩:=h.by1 v x hx;refine⟨h1,h2,?_,?_,h5⟩
   ·split
    ·rfl
    ·exact h3
   ·split
    ·rfl
    ·exact h4
 ·simp only[hb]at hx;simp only[hm]at hv;split at hx
  ·cases hx
  ·rename_i e;rw[if_neg e]at hv;exact h.by0 v hv hx
 ·simp only[hm]at hv;simp only[hb];split at hv
  ·cases hv
  ·rename_i e;rw[if_neg e];exact h.un v hv
 ·simp only[hb]at hx;split at hx
  ·rename_i e;cases hx
   show(if sFrom L s=sTo L s then _ else ρ (sFrom L s))<if v=sTo L s then _ else _
   rw[if_neg hne,if_pos e];omega
  ·rename_i e;obtain⟨h1,h2,h3,h4,h5⟩:=h.by1 v x hx;show(if sFrom L x=sTo L s then _ else ρ (sFrom L x))<if v=sTo L s then _ else _
   rw[if_neg e,if_neg (fun e2=>by rw[e2,ht]at h3;cases h3)];exact hρ v x hx
 ·simp only[hm];rcases hnx with rfl|rfl
  ·have:=h.nx v hv;exact⟨this.1,by split;rfl;exact this.2⟩
  ·rcases Ax.1 hv with hv|hv
   ·have:=h.nx v hv;exact⟨this.1,by split;rfl;exact this.2⟩
   ·simp only[AV,Ai,or_false]at hv;subst hv;exact⟨hto,by rw[if_pos rfl]⟩
structure More(n:Nat)(L:List Ar)(σ:Net)(q:Srch)(r:Srch×Option Nat):Prop where
 ok:SrchOk n L σ r.1
 le:∀v,metB q.met v=true->metB r.1.met v=true
 e:∀e,r.2=some e->e<n/\nth σ.ov e<0/\metB r.1.met e=true
 pre:∃l,r.1.nxt=q.nxt++l/\l.Nodup/\∀v∈l,metB q.met v=false
theorem QQ{q:Srch}(h:SrchOk n L σ q)(hE:Ends n L){s:Stp}(hs:s.a<L.length)(hf:metB q.met (sFrom L s)=true):More n L σ q (J5 L σ q s):=by
 unfold J5;split
 ·exact⟨h,fun _ hv=>hv,fun e he=>(by cases he),[],by simp,by simp,by simp⟩
 ·rename_i hc;have ht:metB q.met (sTo L s)=false:=by
   cases hb:metB q.met (sTo L s)
   ·rfl
   ·exact absurd (.inl hb) hc
  have hr:sRoom L σ.x s≠0:=fun e=>hc (.inr e)
  have hto:=hE.to_lt hs;have hm:∀v,metB (q.met.set (sTo L s) true) v=if v=sTo L s then true else metB q.met v:=fun v=>MH _ _ _ _ (by rw[h.lm];exact hto)
  split
  ·rename_i hn;refine⟨h.meet hE hs hf ht hr _ (.inl rfl),fun v hv=> ?_,fun e he=> ?_,[],by simp,by simp,by simp⟩
   ·simp only[hm];split;rfl;exact hv
   ·cases he;exact⟨hto,hn,by simp only[hm,Ag]⟩
  ·refine⟨h.meet hE hs hf ht hr _ (.inr rfl),fun v hv=> ?_,fun e he=>(by cases he),[sTo L s],rfl,by simp,by simpa using ht⟩;simp only[hm];split;rfl;exact hv
variable{r:Srch×Option Nat}
theorem More.trans{q:Srch}{q':Srch}(h:More n L σ q (q',none))(k:More n L σ q' r):More n L σ q r:=by
 obtain⟨l1,e1,n1,m1⟩:=h.pre;obtain⟨l2,e2,n2,m2⟩:=k.pre;refine⟨k.ok,fun v hv=>k.le v (h.le v hv),k.e,l1++l2,by rw[e2];simp only at e1;rw[e1,List.append_assoc],?_,fun v hv=> ?_⟩
 ·rw[List.nodup_append];refine⟨n1,n2,fun a ha b hb e=> ?_⟩;subst e;have h1:=m2 a hb;have h2:=(h.ok.nx a (by simp only at e1⊢;rw[e1];simp[ha])).2;simp only at h2;rw[h2]at h1;cases h1
 ·rcases Ax.1 hv with hv|hv
  ·exact m1 v hv
  ·have:=m2 v hv;cases hb:metB q.met v
   ·rfl
   ·have h3:=h.le v hb;simp only at h3;rw[h3]at this;cases this
theorem More.refl{q:Srch}(h:SrchOk n L σ q):More n L σ q (q,none):=⟨h,fun _ h=>h,fun e he=>(by cases he),[],by simp,by simp,by simp⟩
theorem L3(hE:Ends n L):∀(l:List Stp) (q:Srch),SrchOk n L σ q->(∀s∈l,s.a<L.length/\metB q.met (sFrom L s)=true)->More n L σ q (F9 L σ l q)
 |[],q,h,_=>More.refl h
 |s::l,q,h,hl=>by
  have h1:=QQ h hE (hl s (by simp)).1 (hl s (by simp)).2;unfold F9;split
  ·rename_i q' he;rw[he]at h1;exact h1.trans (L3 hE l q' h1.ok fun x hx=>⟨(hl x (by simp[hx])).1,h1.le _ (hl x (by simp[hx])).2⟩)
  ·rename_i q' e he;rw[he]at h1;exact h1
variable{At:Nat->List Stp}
theorem L4(hE:Ends n L)(hA:Nf n L At):∀(l:List Nat) (q:Srch),SrchOk n L σ q->(∀v∈l,v<n/\metB q.met v=true)->More n L σ q (GA L σ At l q)
 |[],q,h,_=>More.refl h
 |v::l,q,h,hl=>by
  have h1:=L3 hE (At v) q h fun s hs=>⟨(hA v (hl v (by simp)).1 s hs).1,by rw[(hA v (hl v (by simp)).1 s hs).2];exact(hl v (by simp)).2⟩
  unfold GA;split
  ·rename_i q' he;rw[he]at h1;exact h1.trans (L4 hE hA l q' h1.ok fun x hx=>⟨(hl x (by simp[hx])).1,h1.le _ (hl x (by simp[hx])).2⟩)
  ·rename_i q' e he;rw[he]at h1;exact h1
def unmet(n:Nat)(m:List Bool):Nat:=((List.range n).filter fun v=> !metB m v).length
theorem ON{α:Type}(p q:α->Bool)(hpq:∀x,p x=true->q x=true):∀l:List α,(l.filter p).length<=(l.filter q).length
 |[]=>by simp
 |y::l=>by
  have ih:=ON p q hpq l;rw[List.filter_cons,List.filter_cons];cases hp:p y
  ·simp only[AP,Ab];split
   ·simp only[AY];omega
   ·exact ih
  ·rw[hpq y hp];simpa using ih
theorem More.unmet{q:Srch}(h:More n L σ q r)(hq:q.nxt=[]): (r.1.nxt≠[]->unmet n r.1.met<unmet n q.met)/\unmet n r.1.met<=unmet n q.met:=by
 have sub:∀x,(!metB r.1.met x)=true->(!metB q.met x)=true:=by
  intro x hx;cases hb:metB q.met x
  ·rfl
  ·rw[h.le x hb]at hx;cases hx
 refine⟨fun hne=> ?_,ON _ _ sub _⟩;obtain⟨l,e1,_,h3⟩:=h.pre;rw[hq,List.nil_append]at e1;obtain⟨v,hv⟩:=List.exists_mem_of_ne_nil _ hne;have h1:=h.ok.nx v hv;have h2:=h3 v (e1▸hv);have:=ID (l:=List.range n) (fun v=> !metB r.1.met v) (fun v=> !metB q.met v) sub (An.2 h1.1) (by simp[h1.2]) (by simp[h2]);unfold Go.Proofs.YtjlallgaadmeaaaGreatDoor.unmet;omega
structure Found(n:Nat)(L:List Ar)(σ:Net)(m:List Bool)(b:List (Option Stp))(e:Option Nat):Prop where
 lm:m.length=n
 lb:b.length=n
 ok:SrchOk n L σ ⟨m,b,[]⟩
 e:∀v,e=some v->v<n/\nth σ.ov v<0/\metB m v=true
theorem SrchOk.nil{q:Srch}(h:SrchOk n L σ q):SrchOk n L σ ⟨q.met,q.by_,[]⟩:={h with nx:=by simp}
theorem JQ(hE:Ends n L)(hA:Nf n L At):∀(k:Nat) (l:List Nat) (m:List Bool) (b:List (Option Stp)),SrchOk n L σ ⟨m,b,[]⟩->(∀v∈l,v<n/\metB m v=true)->
  Found n L σ (DP L σ At k l m b).1.1 (DP L σ At k l m b).1.2 (DP L σ At k l m b).2
 |0,l,m,b,h,_=>⟨h.lm,h.lb,h,fun v e=>by cases e⟩
 |k+1,[],m,b,h,_=>⟨h.lm,h.lb,h,fun v e=>by cases e⟩
 |k+1,v::l,m,b,h,hl=>by
  have h1:=L4 hE hA (v::l) ⟨m,b,[]⟩ h hl;unfold DP;split
  ·rename_i q e he;rw[he]at h1;exact⟨h1.ok.lm,h1.ok.lb,h1.ok.nil,fun x hx=>by cases hx;exact h1.e e rfl⟩
  ·rename_i q he;rw[he]at h1;exact JQ hE hA k q.nxt q.met q.by_ h1.ok.nil h1.ok.nx
theorem Mn(hσ:NetOk n L σ):SrchOk n L σ ⟨G8 n σ,List.replicate n none,[]⟩/\∀v∈Cf n σ,v<n/\metB (G8 n σ) v=true:=by
 have hm:∀v,metB (G8 n σ) v=true↔v<n/\0<nth σ.ov v:=by
  intro v;unfold metB G8;rw[List.getElem?_map];by_cases h:v<n
  ·rw[List.getElem?_range h];simp[h]
  ·rw[Ap (by simp;omega)];simp[h]
 refine⟨⟨by simp[G8],by simp,fun v s h=> ?_,fun v h _=>((hm v).1 h).2,fun v _=>HE n v,⟨fun _=>0,fun v s h=> ?_⟩,by simp⟩,fun v hv=> ?_⟩
 ·rw[HE]at h;cases h
 ·rw[HE]at h;cases h
 ·unfold Cf at hv;rw[List.mem_filter,An]at hv;exact⟨hv.1,(hm v).2 ⟨hv.1,by simpa using hv.2⟩⟩
theorem Gv(hE:Ends n L)(hA:Nf n L At)(hσ:NetOk n L σ):Found n L σ (Bz L n σ At).1.1 (Bz L n σ At).1.2 (Bz L n σ At).2:=by
 obtain⟨h1,h2⟩:=Mn hσ;exact JQ hE hA _ _ _ _ h1 h2
def Jd(L:List Ar)(n:Nat)(At:Nat->List Stp)(σ:Net):Option Net:=(Bz L n σ At).2.map fun e=>Ed L n σ (at_ (Bz L n σ At).1.2) e
theorem Xh(hL:Okay n L)(hA:Nf n L At){τ:Net}(hσ:NetOk n L σ)(h:Jd L n At σ=some τ):∃e,(Bz L n σ At).2=some e/\τ=Ed L n σ (at_ (Bz L n σ At).1.2) e/\Along n L σ τ (at_ (Bz L n σ At).1.2) 1/\
  ∃l r,Chain L (at_ (Bz L n σ At).1.2) e l r/\r<n/\Es L (at_ (Bz L n σ At).1.2) n e=(l,r):=by
 obtain⟨e,he,rfl⟩:=AZ.1 h;have hF:=Gv hL.ends hA hσ;obtain⟨h1,h2,h3⟩:=hF.e e he;have hW:Ways n L σ 1 (at_ (Bz L n σ At).1.2):=⟨fun v s hb=>(hF.ok.by1 v s hb).2.1,fun v s hb=>⟨(hF.ok.by1 v s hb).1,by have a:=(hF.ok.by1 v s hb).2.2.2.2;have b:=hσ.room s (hF.ok.by1 v s hb).1;omega⟩,hF.ok.rank⟩;have hmet:∀{v r:Nat} {l:List Stp},Chain L (at_ (Bz L n σ At).1.2) v l r->metB (Bz L n σ At).1.1 v=true->metB (Bz L n σ At).1.1 r=true:=by
  intro v r l hc;induction hc with
  |nil _=>exact id
  |cons hb _ ih=>exact fun _=>ih (hF.ok.by1 _ _ hb).2.2.1
 obtain⟨hAl,hch⟩:=Rp hL hσ dZ hW h1 om (fun v hv hb ⟨l,hc⟩=>by
  have:=hF.ok.by0 v (hmet hc h3) hb;omega)
 exact⟨e,he,rfl,hAl,hch⟩
end
end
section
open Go.Conc Go.Proofs
variable[Md]
section
instance:Cel (Option Int) 2:=⟨fun x=>[.int .i64 (x.getD 0),.bool x.isSome],fun _=>rfl⟩
instance:Cel (Option Stp) 3:=⟨fun x=>[.int .i64 ((x.getD ⟨0,false⟩).a:Int),.bool (x.getD ⟨0,false⟩).back,.bool x.isSome],fun _=>rfl⟩
variable{d k n w:Nat}
theorem Du(L:List Ar)(h:k<L.length):DC L k=L[k]:=by simp[DC,h]
theorem Sl(x:List Int)(h:k<x.length):nth x k=x[k]:=by simp[nth,h]
theorem wd{N:Nat}{f:Nat->Option Int}(h:k<N):Cs (some (.own (ar N f))) (0+k*2+0) 1=some [.int .i64 ((f k).getD 0)]/\Cs (some (.own (ar N f))) (0+k*2+1) 1=some [.bool (f k).isSome]:=⟨Cn (GG h) dZ,Cn (GG h) dZ⟩
theorem LF{N k:Nat}{f:Nat->Option Int}(h:k<N):Cs (some (.own (ar N f))) (0+k*2+0) 1=some [.int .i64 ((f k).getD 0)]:=(wd h).1
theorem NV{N k:Nat}{f:Nat->Option Int}(h:k<N):Cs (some (.own (ar N f))) (0+k*2+1) 1=some [.bool (f k).isSome]:=(wd h).2
theorem Z5{N k:Nat}{f:Nat->Option Stp}(h:k<N):Cs (some (.own (ar N f))) (0+k*3+0) 2=some [.int .i64 (((f k).getD ⟨0,false⟩).a:Int),.bool ((f k).getD ⟨0,false⟩).back]:=Cn (GG h) dZ
theorem m9{N k:Nat}{f:Nat->Option Stp}(h:k<N):Cs (some (.own (ar N f))) (0+k*3+2) 1=some [.bool (f k).isSome]:=Cn (GG h) dZ
theorem dF{N k:Nat}{f:Nat->Option Int}{d:Int}(h:k<N):Dp (some (.own (ar N f))) (0+k*2) [.int .i64 d,.bool true]=some (.own (ar N (up f k (some d)))):=Lk (some d) h
theorem SA{N k:Nat}{f:Nat->Option Stp}{a:Nat}{b:Bool}(h:k<N):Dp (some (.own (ar N f))) (0+k*3) [.int .i64 (a:Int),.bool b,.bool true]=some (.own (ar N (up f k (some ⟨a,b⟩)))):=Lk (some (⟨a,b⟩:Stp)) h
theorem xO(a n:Nat)(hn:n<100000000):N4 a n n 2 16 ⟨[.int .i64 0,.bool false]⟩=some (.slice (some ⟨a,0,none⟩) n n,[(a,.own (ar n fun _=>(none:Option Int)))]):=Ik a n 16 (none:Option Int) dZ hn
theorem mks(a n:Nat)(hn:n<100000000):N4 a n n 3 24 ⟨[.int .i64 0,.bool false,.bool false]⟩=some (.slice (some ⟨a,0,none⟩) n n,[(a,.own (ar n fun _=>(none:Option Stp)))]):=Ik a n 24 (none:Option Stp) dZ hn
theorem DB(a:Int):B9 tz 99 [(0,.int .i64 a)]=some (.agg #[.int .i64 a,.bool false]):=kr
theorem Db(a:Int)(b:Bool):B9 tz 99 [(0,.int .i64 a),(1,.bool b)]=some (.agg #[.int .i64 a,.bool b]):=kr
theorem tE(a:Int)(b c:Bool):B9 tz 119 [(0,.agg #[.int .i64 a,.bool b]),(1,.bool c)]=some (.agg #[.int .i64 a,.bool b,.bool c]):=kr
theorem tF(a:Int)(b:Bool):B9 tz 106 [(0,.int .i64 a),(1,.bool b)]=some (.agg #[.int .i64 a,.bool b]):=kr
theorem HC:B9 tz 106 []=some (.agg #[.int .i64 0,.bool false]):=kr
theorem kK(a:Int)(b:Bool):B9 tz 126 [(0,.int .i64 a),(1,.bool b)]=some (.agg #[.int .i64 a,.bool b]):=kr
variable{H:Hp}
theorem Qf{a:Int}:Pure 110 [.int .i64 a] (.agg #[.int .i64 a,.bool true]) H:=by
 refine Pure.of rfl (BV Tryz.func110 rfl 5 rfl fun nf t hf _ ht=> ?_);have hf0:=hf;refine BO (BQ ?_);have fz:=ai @kK (ht 0 _ rfl);refine xa fun hf=> ?_
 refine BP (BO (BQ (Ba ?_)));refine xs fun hf=> ?_
 refine BP (BT (rt ?_));exact Ch rfl xv ⟨by(simp(disch:=omega)only[wx,fz]<;>rfl),xx⟩
theorem Uh{a:Int}:Pure 108 [.int .i64 a] (.agg #[.int .i64 a,.bool true]) H:=by
 refine Pure.of rfl (BV Tryz.func108 rfl 5 rfl fun nf t hf _ ht=> ?_);have hf0:=hf;refine BO (BQ ?_);have fz:=ai @tF (ht 0 _ rfl);refine xa fun hf=> ?_
 refine BP (BO (BQ (Ba ?_)));refine xs fun hf=> ?_
 refine BP (BT (rt ?_));exact Ch rfl xv ⟨by(simp(disch:=omega)only[wx,fz]<;>rfl),xx⟩
variable{b:Bool}
theorem Ug{a:Int}:Pure 107 [.agg #[.int .i64 a,.bool b]] (.agg #[.int .i64 a,.bool b,.bool true]) H:=by
 refine Pure.of rfl (BV Tryz.func107 rfl 5 rfl fun nf t hf _ ht=> ?_);have hf0:=hf;refine BO (BQ ?_);have fz:=ai @tE (ht 0 _ rfl);refine xa fun hf=> ?_
 refine xa fun hf=> ?_
 refine BP (BO (BQ (Ba ?_)));refine xs fun hf=> ?_
 refine BP (BT (rt ?_));exact Ch rfl xv ⟨by(simp(disch:=omega)only[wx,fz]<;>rfl),xx⟩
theorem LY{v:Value}:Pure 59 [v] (.bool true) H:=by
 refine Pure.of rfl (BV Tryz.func59 rfl 3 rfl fun nf t hf _ ht=> ?_);have hf0:=hf;refine BO (BQ ?_);have fz:=(ht 0 _ rfl);refine xq (BP (BO (BQ ?_)));refine xq (BP (BT (rt ?_)));exact BW rfl ⟨by(simp(disch:=omega)only[wx,fz]<;>rfl),xx⟩
variable{L:List Ar}{B:Option Addr}{O T X:Value}
theorem Iu{A:Option Addr}{c:Nat}(hw:H w=some (.own [.slice A n c,.slice B L.length d,X,O,T]))(hB:Rd 5 Ar.c H B L){a:Nat}(ha:a<L.length):Pure 61 [.pointer (some ⟨w,0,none⟩),.agg #[.int .i64 (a:Int),.bool b]] (.tuple #[.int .i64 (if b=true then L[a].t else L[a].f),.int .i64 (if b=true then L[a].f else L[a].t)]) H:=by
 refine Pure.of rfl (BV Tryz.func61 rfl 26 rfl fun nf t hf _ ht=> ?_);have hf0:=hf;have lw:=hf.lt hw;obtain⟨b5,o5,eB,hoB⟩:=hB a ha;have l5:=Bd hf hoB;refine BO (BQ ?_);have fz:=ai hoB (ai eB (ai hw (ai (ht 1 _ rfl) (ht 0 _ rfl))));refine xa fun hf=> ?_
 refine Ba (BP (BO ?_));refine Bh [0,0,0,0,1,0,1,0,1,4,2] [0,1,2,3,4,5,6,7,8,9,10] kr hf ?_;iterate 9 first|refine CA ?_|refine Cq ?_
 refine Wr ?_;refine Fx fun nf2 hl2 hf=> ?_
 refine BX (BO (BO (BQ (Ba (BP ?_)))));refine xi (fun c1=> ?_) fun c1=> ?_
 ·refine BO (Bh [0,1,0,1,0,0] [0,1,2,3,4,5] kr hf ?_);have fz:=ai c1 fz;iterate 6 first|refine CA ?_|refine Cq ?_
  refine BX (BT (rt ?_));exact TA rfl ⟨by(simp(disch:=omega)only[wx,fz];subst c1;rfl),xx⟩
 ·refine BR (BO (Bh [0,1,0,1,0,0] [0,1,2,3,4,5] kr hf ?_));have fz:=ai c1 fz;iterate 6 first|refine CA ?_|refine Cq ?_
  refine BX (BT (rt ?_));exact TA rfl ⟨by(simp(disch:=omega)only[wx,fz];subst c1;rfl),xx⟩
theorem Ul{A:Option Addr}{c:Nat}(hw:H w=some (.own [.slice A n c,.slice B L.length d,X,O,T]))(hB:Rd 5 Ar.c H B L){a:Nat}(ha:a<L.length)(hco:R64 L[a].co/\R64 (-L[a].co)):Pure 111 [.pointer (some ⟨w,0,none⟩),.agg #[.int .i64 (a:Int),.bool b]] (.int .i64 (if b=true then -L[a].co else L[a].co)) H:=by
 refine Pure.of rfl (BV Tryz.func111 rfl 28 rfl fun nf t hf _ ht=> ?_);have hf0:=hf;have lw:=hf.lt hw;obtain⟨b5,o5,eB,hoB⟩:=hB a ha;have l5:=Bd hf hoB;have ho4:Cs (H b5) (o5+a*5+4) 1=some [.int .i64 L[a].co]:=Cn hoB dZ;unfold R64 at hco;refine BO (BQ ?_);have fz:=ai ho4 (ai eB (ai hw (ai (ht 1 _ rfl) (ht 0 _ rfl))));refine xa fun hf=> ?_
 refine xq (BP (BO (BO (BQ ?_))));refine Ba (BP ?_);refine xi (fun c1=> ?_) fun c1=> ?_
 ·refine BO (Bh [0,0,0,0,1,0,1,0,0,1,0,0] [0,1,2,3,4,5,6,7,8,9,10,11] kr hf ?_);have fz:=ai c1 fz;iterate 12 first|refine CA ?_|refine Cq ?_
  refine BX (BT (rt ?_));exact BW rfl ⟨by(simp(disch:=omega)only[wx,fz];subst c1;simp only[Ag];congr 1;omega),xx⟩
 ·refine BR (BO (Bh [0,0,0,0,1,0,1,0,0,1,0] [0,1,2,3,4,5,6,7,8,9,10] kr hf ?_));have fz:=ai c1 fz;iterate 11 first|refine CA ?_|refine Cq ?_
  refine BX (BT (rt ?_));exact BW rfl ⟨by(simp(disch:=omega)only[wx,fz];subst c1;rfl),xx⟩
theorem KY{A:Option Addr}{c:Nat}(hw:H w=some (.own [.slice A n c,.slice B L.length d,X,O,T]))(hB:Rd 5 Ar.c H B L){a:Nat}(ha:a<L.length):Pure 60 [.pointer (some ⟨w,0,none⟩),.agg #[.int .i64 (a:Int),.bool b]] (.bool (!b&&L[a].ca==4611686018427387904)) H:=by
 refine Pure.of rfl (BV Tryz.func60 rfl 21 rfl fun nf t hf _ ht=> ?_);have hf0:=hf;have lw:=hf.lt hw;obtain⟨b5,o5,eB,hoB⟩:=hB a ha;have l5:=Bd hf hoB;have ho3:Cs (H b5) (o5+a*5+3) 1=some [.int .i64 L[a].ca]:=Cn hoB dZ;refine BO (BQ ?_);have fz:=ai ho3 (ai eB (ai hw (ai (ht 1 _ rfl) (ht 0 _ rfl))));refine xa fun hf=> ?_
 refine xq (BP (BO ?_));refine Bh [0,1,0,0,0,0,0,0,1,0,1,0,0,1,0,0,0] [0,1,2,3,4,5,6,7,8,9,10,11,12,13,14,15,16] kr hf ?_;iterate 17 first|refine CA ?_|refine EM ?_|refine Cq ?_|refine FG ?_
 refine BX (BT (rt ?_));exact BW rfl ⟨by(simp(disch:=omega)only[wx,fz]<;>rfl),xx⟩
theorem de{A:Option Addr}{c:Nat}{xb cx:Nat}{xf:Nat->Int}(hw:H w=some (.own [.slice A n c,.slice B L.length d,.slice (some ⟨xb,0,none⟩) L.length cx,O,T]))(hB:Rd 5 Ar.c H B L){a:Nat}(ha:a<L.length)(hx:H xb=some (.own (ar L.length xf)))(hr:R64 (xf a - L[a].lo)/\R64 (L[a].ca - xf a)):Pure 66 [.pointer (some ⟨w,0,none⟩),.agg #[.int .i64 (a:Int),.bool b]] (.int .i64 (if b=true then xf a - L[a].lo else if L[a].ca=4611686018427387904 then 1152921504606846976 else L[a].ca - xf a)) H:=by
 refine Pure.of rfl (BV Tryz.func66 rfl 44 rfl fun nf t hf _ ht=> ?_);have hf0:=hf;have lw:=hf.lt hw;obtain⟨b5,o5,eB,hoB⟩:=hB a ha;have l5:=Bd hf hoB;have lx:=hf.lt hx;unfold R64 at hr;refine BO (BQ ?_);have fz:=ai hx (ai hoB (ai eB (ai hw (ai (ht 1 _ rfl) (ht 0 _ rfl)))));refine xa fun hf=> ?_
 refine xq (BP (BO ?_));refine Bh [0,0,0,0,1,0,1,0,1,4,2] [0,1,2,3,4,5,6,7,8,9,10] kr hf ?_;iterate 9 first|refine CA ?_|refine Cq ?_
 refine Wr ?_;refine Fx fun nf2 hl2 hf=> ?_
 refine BX (BO (BS (BO (BQ (B0 (BP ?_))))));refine xi (fun c1=> ?_) fun c1=> ?_
 ·refine BO (Bh [0,0,0,1,0,1,0,1,0,1,0,0] [0,1,2,3,4,5,6,7,8,9,10,11] kr hf ?_);have fz:=ai c1 fz;iterate 12 first|refine CA ?_|refine Cq ?_
  refine BX (BT (rt ?_));exact BW rfl ⟨by(simp(disch:=omega)only[wx,fz];subst c1;rfl),xx⟩
 ·refine BO (BQ ?_);have fz:=ai c1 fz;refine Dv (BP ?_);refine HR (fun c2=> ?_) fun c2=> ?_
  ·refine BO (BQ ?_);have fz:=ai c2 fz;refine xq (BP (BT (rt ?_)));exact BW rfl ⟨by(simp(disch:=omega)only[wx,fz];subst c1;rfl),xx⟩
  ·refine BR (BO (Bh [0,1,0,0,0,1,0,1,0,1,0,0] [0,1,2,3,4,5,6,7,8,9,10,11] kr hf ?_));have fz:=ai c2 fz;iterate 12 first|refine CA ?_|refine Cq ?_
   refine BX (BT (rt ?_));exact BW rfl ⟨by(simp(disch:=omega)only[wx,fz];subst c1;rfl),xx⟩
end
section
variable{S:Spn}{i n:Nat}{G H:Hp}
theorem TY{k:List Item}{args:List Value}(h:∀t,Hs t args->KC S k ⟨n,t,[]⟩ H):KC S k (AF.enter n args) H:=h _ (PY _)
theorem jx:Fr m136.mem.get 293:=fun a ha=>by
 cases hx:m136.mem.get a with
 |none=>rfl
 |some x=>
  obtain⟨c,_,hc⟩:=Bv hx;simp[m136]at hc;omega
theorem pW:vI= .agg #[.slice (some ⟨192,0,none⟩) 2 18446744073709551617,.slice (some ⟨206,0,none⟩) 2 18446744073709551621]:=rfl
theorem pV:vN= .slice (some ⟨290,0,none⟩) 2 18446744073709551617:=rfl
theorem YN:vU= .agg #[.slice (some ⟨323,0,none⟩) 2 18446744073709551617,.slice (some ⟨333,0,none⟩) 2 18446744073709551621]:=rfl
theorem rF:E8.v= .tuple #[vU,.slice (some ⟨310,0,none⟩) 2 18446744073709551617]:=rfl
variable{o:Oper}
theorem Y6{ev:Operand->Value}(hc:∀v,ev (.const v)=v)(h:o.op= .makeChan 230 (.const (.int .i64 0)))(w:World): (execOp ev o).run Tryz.prog w= .ok (.value (.chan (some w.heap.size))) (w.alloc (.chan 0 #[] false 0 0 false))/\(execOp ev o).events Tryz.prog w #[]= #[]:=by
 unfold execOp;rw[h];dsimp only;rw[hc];refine⟨?_,?_⟩
 ·simp[jP]
 ·simp[jP,me,go_sem]
theorem Np{ev:Operand->Value}(hc:∀v,ev (.const v)=v)(h:o.op= .alloc 230)(w:World): (execOp ev o).run Tryz.prog w= .ok (.value (.pointer (some ⟨w.heap.size,0,none⟩))) (w.alloc (.cells #[.chan none] 230))/\(execOp ev o).events Tryz.prog w #[]= #[]:=by
 unfold execOp;rw[h];dsimp only;exact⟨by go_simp,by simp[go_sem]⟩
theorem W9{ev:Operand->Value}(hc:∀v,ev (.const v)=v)(h:o.op= .alloc 239)(w:World): (execOp ev o).run Tryz.prog w= .ok (.value (.pointer (some ⟨w.heap.size,0,none⟩))) (w.alloc (.cells #[.int .u64 0,.int .u32 0] 239))/\(execOp ev o).events Tryz.prog w #[]= #[]:=by
 unfold execOp;rw[h];dsimp only;exact⟨by go_simp,by simp[go_sem]⟩
variable{t:Nat->Value}{rest:List Nat}
theorem NH(hK:Closed S.P S.main S.K)(hke: (S.kind== .early)=false){dd:List Deferred}{k:List Item}{ops:Array Oper}{d a:Nat}{mv:Nat->Value}{ob:Obj}{va:Value}(ho:ops[i]? =some o)(hgu:o.guard=none)(hdst:o.dst=some d/\Nat.blt d n=true)(hd:∀c,o.op≠ .defer c)(hrun:∀(ev:Operand->Value),(∀v,ev (.const v)=v)->∀(w:World),(execOp ev o).run S.P w= .ok (.value (mv w.heap.size)) (w.alloc ob)/\(execOp ev o).events S.P w #[]= #[])
  (ha:H a=none)(l:List Nat)(hl:∀c∈l,∃x,H c=some x/\x.mine=true)(hv:∀(φ:Ph) (b:Nat) (D:Nat->Prop),D a->φ.f a=b->φ.sh a=0->vrel φ D va (mv b))(hk:KC S (.inRegion ops rest::k) ⟨n,st t d va,dd⟩ (upd H a (some (.ob (fun _=>ob) l)))):KC S (.inRegion ops (i::rest)::k) ⟨n,t,dd⟩ H:=by
 refine KC.mk hK hke ho (BY hgu _) hd mv ob va hrun ha hv l hl ?_;rw[hdst.1,CT hdst.2];exact hk
theorem R2(hK:Closed S.P S.main S.K)(hke: (S.kind== .early)=false){dd:List Deferred}{k:List Item}{ops:Array Oper}{a c:Nat}{x y:Operand}{l:List Nat}(ho:ops[i]? =some o)(hx:∀x∈o.op.operands,okX x=true)(hg:o.guard=none)(hdst:o.dst=none)(hop:o.op= .store 230 x y)(ha:H a=some (.ob (fun _=> .cells #[.chan none] 230) l))(hax:eT t x= .pointer (some ⟨a,0,none⟩))(hay:eT t y= .chan (some c))(hP:S.P=Tryz.prog:=by rfl)
  (hk:KC S (.inRegion ops rest::k) ⟨n,t,dd⟩ (upd H a (some (.ob (fun f=> .cells #[.chan (some (f c))] 230) l)))):KC S (.inRegion ops (i::rest)::k) ⟨n,t,dd⟩ H:=by
 refine iR hK hke ho hx (BY hg _) hop ha (by rw[EI];exact hax) (by rw[EI];exact hay) hP ?_;rw[hdst];exact hk
theorem bJ(hf:Fr G 300)(he:Ext m136.mem.get G):Ct 165 [.agg #[.slice (some ⟨192,0,none⟩) 2 18446744073709551617,.slice (some ⟨206,0,none⟩) 2 18446744073709551621],.slice (some ⟨290,0,none⟩) 2 18446744073709551617] (fun v H'=>v=E8.v/\H'=app G (dlf (DL E8.δ))) G:=by
 refine⟨⟨_,_,Tryz.func165,rfl⟩,MI Zr Zq (fun p hp=> ?_) (fun p hp=> ?_)⟩
 ·simp only[E8,AV,Ai,or_false]at hp;rcases hp with rfl|rfl|rfl
  ·exact he 192 _ rfl
  ·exact he 206 _ rfl
  ·exact he 290 _ rfl
 ·simp only[E8,AV,Ai,or_false]at hp;rcases hp with rfl|rfl|rfl<;>exact hf _ dZ
theorem nv{a:Nat}(h2:a≠310)(h3:a≠323)(h4:a≠333):dlf (DL E8.δ) a=none:=by
 cases hx:dlf (DL E8.δ) a with
 |none=>rfl
 |some y=>
  obtain⟨c,_,hc⟩:=CX (CD hx);simp[E8]at hc;omega
theorem nU(hf:Fr G 300)(h:H=app G (dlf (DL E8.δ))):Ext G H:=fun a x ha=>by
 rw[h,Be]
 ·exact ha
 ·cases hx:dlf (DL E8.δ) a with
  |none=>rfl
  |some y=>
   obtain⟨c,_,hc⟩:=CX (CD hx);simp[E8]at hc;have:=hf.lt ha;omega
theorem mS{main:Bool}{K:KT}{X:Nat->Option Obj}{O0:Nat->Prop}{φ0:Ph}{kind:CallKind}{cs:List Frame}(hK:Closed Tryz.prog main K)(hq:Jp kind cs)(k:∀(t:Nat->Value) (H:Hp) (n:Nat),600<=n->t 1=vP->t 6= .pointer (some ⟨295,0,none⟩)->t 7= .pointer (some ⟨297,0,none⟩)->t 8= .pointer (some ⟨298,0,none⟩)->t 9= .pointer (some ⟨299,0,none⟩)->t 11= .pointer (some ⟨n,0,none⟩)->t 22= .int .i64 1->t 23= .int .i64 0->Fr H (n+1)->Ext m136.mem.get H->
  H 294=some (.ob (fun _=> .chan 0 #[] false 0 0 false) [])->H 295=some (.ob (fun f=> .cells #[.chan (some (f 294))] 230) [294])->H 296=some (.ob (fun _=> .chan 0 #[] false 0 0 false) [295])->H 297=some (.ob (fun f=> .cells #[.chan (some (f 296))] 230) [296])->H 298=some (.ob (fun _=> .cells #[.int .u64 0,.int .u32 0] 239) [297])->H 299=some (.own [.int .i64 0])->
  H 310=some (.own bR)->H 323=some (.own c192)->H 333=some (.own c206)->H n=some (.own [.slice (some ⟨323,0,none⟩) 2 18446744073709551617,.slice (some ⟨333,0,none⟩) 2 18446744073709551621])->(∀a,300<=a->a≠310->a≠323->a≠333->a≠n->H a=none)->KC ⟨Tryz.prog,main,K,X,O0,φ0,m136.mem.get,136,kind,cs⟩ (.inRegion q8 [0]:: .code (.region 9 q9 false):: .inBlock 1:: .code (.region 10 fG false):: .inLoop X1:: .inBlock 0:: [.code K4]) ⟨80,t,[]⟩ H):
  KC ⟨Tryz.prog,main,K,X,O0,φ0,m136.mem.get,136,kind,cs⟩ [.code Ef] (AF.enter 80 m136.args) m136.mem.get:=by
 have hke:=CV hq;refine TY fun t ht=> ?_
 have h0:=ht 0 _ rfl;have h1:=ht 1 _ rfl;have hf:Fr m136.mem.get 293:=jx;have hf0:=hf;have he:=Ext.refl m136.mem.get;refine KC.seq hK ?_;refine KC.code hK hq (BQ ?_);have fz:=ai pV (ai pW (ai h1 h0));refine xa fun hf=> ?_
 refine Ba ?_;refine BP ⟨rfl,?_⟩;have hf:Fr _ 294:=hf;refine KC.seq hK (KC.region hK ?_);refine NH hK hke (a:=294) (mv:=fun n=> .chan (some n)) (ob:= .chan 0 #[] false 0 0 false) (va:= .chan (some 294)) rfl rfl ⟨rfl,rfl⟩ (fun c e=>by cases e) (fun ev hc w=>Y6 hc rfl w) (hf 294 om) [] (fun c hc=>by simp at hc) (fun φ b D h1 h2 h3=>by simp only[vrel];exact⟨h1,by rw[h2]⟩) ?_;have hf:Fr _ 295:=hf.new (.ob (fun _=> .chan 0 #[] false 0 0 false) []);refine NH hK hke (a:=295) (mv:=fun n=> .pointer (some ⟨n,0,none⟩)) (ob:= .cells #[.chan none] 230) (va:= .pointer (some ⟨295,0,none⟩)) rfl rfl ⟨rfl,rfl⟩ (fun c e=>by cases e) (fun ev hc w=>Np hc rfl w) (hf 295 om) [294] (fun c hc=>by simp only[AV,Ai,or_false]at hc;subst hc;exact⟨_,xv,rfl⟩) (fun φ b D h1 h2 h3=>by simp only[vrel];exact⟨h1,trivial,by simp[Ph.ad,h2,h3]⟩) ?_;have hf:Fr _ 296:=hf.new (.ob (fun _=> .cells #[.chan none] 230) [294]);refine R2 hK hke (a:=295) (c:=294) rfl (Fi rfl) rfl rfl rfl xv xv xv (hk:= ?_);have hf:Fr _ 296:=hf.old (b:=295) xv (.ob (fun f=> .cells #[.chan (some (f 294))] 230) [294]);refine FF hK ?_;refine KC.seq hK (KC.region hK ?_);refine NH hK hke (a:=296) (mv:=fun n=> .chan (some n)) (ob:= .chan 0 #[] false 0 0 false) (va:= .chan (some 296)) rfl rfl ⟨rfl,rfl⟩ (fun c e=>by cases e) (fun ev hc w=>Y6 hc rfl w) (hf 296 om) [295] (fun c hc=>by simp only[AV,Ai,or_false]at hc;subst hc;exact⟨_,xv,rfl⟩) (fun φ b D h1 h2 h3=>by simp only[vrel];exact⟨h1,by rw[h2]⟩) ?_;have hf:Fr _ 297:=hf.new (.ob (fun _=> .chan 0 #[] false 0 0 false) [295]);refine NH hK hke (a:=297) (mv:=fun n=> .pointer (some ⟨n,0,none⟩)) (ob:= .cells #[.chan none] 230) (va:= .pointer (some ⟨297,0,none⟩)) rfl rfl ⟨rfl,rfl⟩ (fun c e=>by cases e) (fun ev hc w=>Np hc rfl w) (hf 297 om) [296] (fun c hc=>by simp only[AV,Ai,or_false]at hc;subst hc;exact⟨_,xv,rfl⟩) (fun φ b D h1 h2 h3=>by simp only[vrel];exact⟨h1,trivial,by simp[Ph.ad,h2,h3]⟩) ?_;have hf:Fr _ 298:=hf.new (.ob (fun _=> .cells #[.chan none] 230) [296]);refine R2 hK hke (a:=297) (c:=296) rfl (Fi rfl) rfl rfl rfl xv xv xv (hk:= ?_);have hf:Fr _ 298:=hf.old (b:=297) xv (.ob (fun f=> .cells #[.chan (some (f 296))] 230) [296]);refine FF hK ?_;refine KC.seq hK (KC.region hK ?_);refine NH hK hke (a:=298) (mv:=fun n=> .pointer (some ⟨n,0,none⟩)) (ob:= .cells #[.int .u64 0,.int .u32 0] 239) (va:= .pointer (some ⟨298,0,none⟩)) rfl rfl ⟨rfl,rfl⟩ (fun c e=>by cases e) (fun ev hc w=>W9 hc rfl w) (hf 298 om) [297] (fun c hc=>by simp only[AV,Ai,or_false]at hc;subst hc;exact⟨_,xv,rfl⟩) (fun φ b D h1 h2 h3=>by simp only[vrel];exact⟨h1,trivial,by simp[Ph.ad,h2,h3]⟩) ?_;have hf:Fr _ 299:=hf.new (.ob (fun _=> .cells #[.int .u64 0,.int .u32 0] 239) [297]);refine FF hK ?_;refine KC.seq hK (KC.seq hK ?_);refine KC.code hK hq (BQ ?_);refine B0 ?_;refine BP ⟨rfl,?_⟩;refine KC.block hK (KC.loop hK (KC.seq hK ?_));refine KC.code hK hq (BQ ?_);refine xq ?_;refine BP ⟨rfl,?_⟩;refine KC.seq hK (KC.cond hK (b:=true) rfl (by rw[EI];exact xv) (KC.skip hK (KC.seq hK (KC.block hK (KC.seq hK ?_)))));have p292:m136.mem.get 292=some (.own [vN]):=rfl;refine KC.code hK hq (BQ ?_);have fz:=ai p292 fz;refine B0 ?_;refine xa fun hf=> ?_
 refine xs fun hf=> ?_
 refine xq ?_;refine BP ⟨rfl,?_⟩;have hf:Fr _ 300:=hf;have hf99:=hf;have bJ:=bJ (hf.up (AH _)) xx;refine KC.seq hK ?_;refine KC.code hK hq (BQ ?_);refine Ba ?_;refine xc (h:=bJ) (k:=fun v7 H7 nf7 hl7 q7 hf=> ?_);obtain⟨rfl,hH7⟩:=q7;have hf:Fr H7 (nf7+600):=hf.up (Nat.le_add_right nf7 600);have e7:Ext _ H7:=nU hf99 hH7;have m310:H7 310=some (.own bR):=by rw[hH7];exact Bl rfl
 have m323:H7 323=some (.own c192):=by rw[hH7];exact Bl rfl
 have m333:H7 333=some (.own c206):=by rw[hH7];exact Bl rfl
 have l310:=hf.lt m310;have l323:=hf.lt m323;have l333:=hf.lt m333;have he:Ext m136.mem.get H7:=Ext.trans xx e7;have n293:=e7 293 _ xv;have n294:=e7 294 _ xv;have n295:=e7 295 _ xv;have n296:=e7 296 _ xv;have n297:=e7 297 _ xv;have n298:=e7 298 _ xv;have n299:=e7 299 _ xv;have fz:=ai n299 (ai n298 (ai n297 (ai n296 (ai n295 (ai n294 (ai n293 (ai m333 (ai m323 (ai m310 (ai rF (ai YN fz)))))))))));refine B0 ?_;refine xa fun hf=> ?_
 refine xs fun hf=> ?_
 refine xq ?_;refine BP ⟨rfl,?_⟩;refine KC.seq hK (KC.region hK ?_);refine k _ _ (nf7+600) (Nat.le_add_left 600 nf7) ?_ ?_ ?_ ?_ ?_ ?_ ?_ ?_ ?_ ?_ ?_ ?_ ?_ ?_ ?_ ?_ ?_ ?_ ?_ ?_ ?_
 ·simp(disch:=omega)only[wx,fz]<;>rfl
 ·simp(disch:=omega)only[wx,fz]<;>rfl
 ·simp(disch:=omega)only[wx,fz]<;>rfl
 ·simp(disch:=omega)only[wx,fz]<;>rfl
 ·simp(disch:=omega)only[wx,fz]<;>rfl
 ·simp(disch:=omega)only[wx,fz]<;>rfl
 ·simp(disch:=omega)only[wx,fz]<;>rfl
 ·simp(disch:=omega)only[wx,fz]<;>rfl
 ·exact hf
 ·exact xx
 ·simp(disch:=omega)only[wx,fz]<;>rfl
 ·simp(disch:=omega)only[wx,fz]<;>rfl
 ·simp(disch:=omega)only[wx,fz]<;>rfl
 ·simp(disch:=omega)only[wx,fz]<;>rfl
 ·simp(disch:=omega)only[wx,fz]<;>rfl
 ·simp(disch:=omega)only[wx,fz]<;>rfl
 ·simp(disch:=omega)only[wx,fz]<;>rfl
 ·simp(disch:=omega)only[wx,fz]<;>rfl
 ·simp(disch:=omega)only[wx,fz]<;>rfl
 ·simp(disch:=omega)only[wx,fz]<;>rfl
 ·intro a h1 h2 h3 h4 h5;rw[upd_ne h5,upd_ne h5,hH7,Be]
  ·exact hf99 a h1
  ·exact nv h2 h3 h4
end
end
section
open Go.Conc Go.ConcX Go.ConcX.Gen Go.Conc.Lib
theorem heap_alloc_old(w:World)(o:Obj){b:Nat}(h:b<w.heap.size): (w.alloc o).heap[b]? =w.heap[b]? :=by
 unfold World.alloc;simp only;rw[Array.getElem?_push_lt h,AK h]
theorem IW(w:World)(o:Obj): (w.alloc o).heap[w.heap.size]? =some o:=by
 unfold World.alloc;simp
theorem aP(O:Nat->Prop)(w:World)(o:Obj):grow O w (w.alloc o)=Hn O w.heap.size:=by
 have hs: (w.alloc o).heap.size=w.heap.size+1:=by unfold World.alloc;simp
 funext b;refine propext ⟨?_,?_⟩
 ·rintro(h|h)
  ·exact .inl h
  ·exact .inr om
 ·rintro(h|h)
  ·exact .inl h
  ·exact .inr om
section
variable{P:Program}{main:Bool}{O Rd:Nat->Prop}{Stop:StopT}{w:World}{b:Frame}{a:Act}{ops:Array Oper}{i:Nat}{rest:List Nat}{o:Oper}{k:List Item}{cs:List Frame}
theorem Own.new(ho:ops[i]? =some o)(hw:Region.wanted o (yielded ops a.tmps)=true)(hk:b.kind≠ .early)(val:Nat->Value)(obj:Obj)
  (hr:∀w,(execOp a.eval o).run P w= .ok (.value (val w.heap.size)) (w.alloc obj))(he:∀w,(execOp a.eval o).events P w #[]= #[])(hin:∀b,Uni O Rd b->b<w.heap.size)
  (K:∀c aw',w.heap.size<=c->c<aw'.heap.size->Keeps (Uni O Rd) w aw'->aw'.heap[c]? =some obj->Own P main Rd Stop (Hn O c) (G (b.at (a.put o.dst (val c)) (.inRegion ops rest::k)) cs) aw'):
  Own P main Rd Stop O (G (b.at a (.inRegion ops (i::rest)::k)) cs) w:=by
 refine Own.one rfl fun w₁ k₁=> ?_
 have hs: (w₁.alloc obj).heap.size=w₁.heap.size+1:=by unfold World.alloc;simp
 have hkeep:Keeps (Uni O Rd) w₁ (w₁.alloc obj):=⟨fun x hx=>heap_alloc_old _ _ (Ak (hin x hx) k₁.size),om,rfl,rfl,rfl⟩;refine⟨_,w₁.alloc obj,_,stepG_value ho hw hk (hr w₁),⟨fun x hx _=>heap_alloc_old _ _ hx,om,rfl,rfl,rfl,fun e hm=> ?_⟩,?_⟩
 ·unfold listed at hm;rw[he,seen_none]at hm;simp at hm
 ·rw[aP];exact K w₁.heap.size _ k₁.size om (k₁.trans hkeep) (IW _ _)
theorem NG(ho:ops[i]? =some o)(hw:Region.wanted o (yielded ops a.tmps)=true)(hk:b.kind≠ .early){c:Nat}{obj:Obj}(hc:Uni O Rd c)(hobj:w.heap[c]? =some obj)(v:Value)
  (hr:∀w,w.heap[c]? =some obj->(execOp a.eval o).run P w= .ok (.value v) w)(he:∀w,w.heap[c]? =some obj->∀e∈(execOp a.eval o).events P w #[],∃ad:Addr,e.loc= .cell ad/\ad.block=c/\e.write=false/\e.sync=false)
  (hO:Own P main Rd Stop O (G (b.at (a.put o.dst v) (.inRegion ops rest::k)) cs) w):Own P main Rd Stop O (G (b.at a (.inRegion ops (i::rest)::k)) cs) w:=by
 refine Own.one rfl fun w₁ k₁=> ?_
 have h1:w₁.heap[c]? =some obj:=(k₁.same c hc).trans hobj;refine⟨_,w₁,_,stepG_value ho hw hk (hr w₁ h1),ED O Rd w₁ fun e hm=> ?_,?_⟩
 ·obtain⟨ad,e1,e2,e3,e4⟩:=he w₁ h1 e (mem_seen hm);obtain⟨loc,wr,sy⟩:=e;simp only at e1 e3 e4;subst e1 e3 e4;exact⟨hc.elim (fun x=> .inl (e2▸x)) (fun x=> .inr ⟨e2▸x,rfl⟩),rfl⟩
 ·rw[IB];exact hO.rely k₁
end
theorem PS: (Tryz.prog.info? 29).map (fun i=>(i.zero,i.size,i.bytes))=some (some (.agg #[.int .i64 0,.slice none 0 0,.slice none 0 0,.slice none 0 0,.slice none 0 0]),5,104):=kr
theorem aE: (Tryz.prog.info? 37).map (fun i=>(i.zero,i.size,i.bytes))=some (some (.int .u16 0),1,2):=kr
theorem C5{P:Program}{t:TypeId}{x:Option Value}{y z:Nat}(h: (P.info? t).map (fun i=>(i.zero,i.size,i.bytes))=some (x,y,z)):∃i,P.info? t=some i/\i.zero=x/\i.size=y/\i.bytes=z:=by
 obtain⟨i,hi,e⟩:=AZ.1 h;simp only[Prod.mk.injEq]at e;exact⟨i,hi,e.1,e.2.1,e.2.2⟩
def HI:Array Value:= #[.int .i64 0,.slice none 0 0,.slice none 0 0,.slice none 0 0,.slice none 0 0]
theorem rA:madeCells (Value.agg #[.int .i64 0,.slice none 0 0,.slice none 0 0,.slice none 0 0,.slice none 0 0]).cells (Int.toNat 1*5)=HI:=kr
theorem rC:madeCells (Value.int .u16 0).cells (Int.toNat 1*1)= #[.int .u16 0]:=kr
theorem qu(w:World): (Instr.makeSlice 205 (.int .i64 1) (.int .i64 1)).run Tryz.prog w= .ok (.slice (some ⟨w.heap.size,0,none⟩) 1 1) (w.alloc (.cells HI 29)):=by
 obtain⟨i,hi,h1,h2,h3⟩:=C5 PS;rw[run_make w 205 29 i _ Tryz.underlying205 hi h1 .i64 .i64 1 1 dZ dZ (by rw[h3];decide) dZ,h2,rA];rfl
theorem qt(w:World): (Instr.makeSlice 244 (.int .i64 1) (.int .i64 1)).run Tryz.prog w= .ok (.slice (some ⟨w.heap.size,0,none⟩) 1 1) (w.alloc (.cells #[.int .u16 0] 37)):=by
 obtain⟨i,hi,h1,h2,h3⟩:=C5 aE;rw[run_make w 244 37 i _ Tryz.underlying244 hi h1 .i64 .i64 1 1 dZ dZ (by rw[h3];decide) dZ,h2,rC];rfl
theorem mf(w:World): (Instr.makeSlice 205 (.int .i64 1) (.int .i64 1)).events Tryz.prog w #[]= #[]:=by
 obtain⟨i,hi,h1,h2,h3⟩:=C5 PS;have wl:IntKind.i64.wrap 1=1:=dZ;simp[Instr.makeSlice,run_underlying Tryz.underlying205,asInt,asIntOf,typeInfo,hi,sizeOf,zeroValue,h1,h2,h3,wl,newRow,askRoom,roomBytes,go_sem]
theorem mc(w:World): (Instr.makeSlice 244 (.int .i64 1) (.int .i64 1)).events Tryz.prog w #[]= #[]:=by
 obtain⟨i,hi,h1,h2,h3⟩:=C5 aE;have wl:IntKind.i64.wrap 1=1:=dZ;simp[Instr.makeSlice,run_underlying Tryz.underlying244,asInt,asIntOf,typeInfo,hi,sizeOf,zeroValue,h1,h2,h3,wl,newRow,askRoom,roomBytes,go_sem]
def Sol.R(s:Sol):Nat->Prop:=fun b=>b=s.bg\/b=s.b6\/b=s.bb\/b=s.b7\/b=s.bW
structure Slots2(s:Sol)(bl bw:Nat)(V:List Value):Prop where
 len:80<=V.length
 e8:V[8]? =some (.pointer (some ⟨s.bW,0,none⟩))
 e13:V[13]? =some (.slice (some ⟨bl,0,none⟩) 1 1)
 e14:V[14]? =some (.slice (some ⟨bw,0,none⟩) 1 1)
 e44:V[44]? =some (.int .i64 1)
 e45:V[45]? =some (.int .i64 0)
 e47:V[47]? =some (.chan (some s.bg))
 e48:V[48]? =some (.chan (some s.bb))
noncomputable def EV:List Item:=[.code (.block 4 C2),.inBlock 3,.code (.region 22 qQ false),.inLoop X2,.inBlock 2,.code Jq]
def cu(k:CallKind)(s:Sol)(cs':List Frame):StopT:=fun O a w=>
 ∃(bl bw:Nat) (V:List Value),O=Hn (Hn GM bl) bw/\s.bW<bl/\bl<bw/\w.heap[bl]? =some (.cells HI 29)/\w.heap[bw]? =some (.cells #[.int .u16 0] 37)/\w.heap[s.b6]? =some (.cells #[.chan (some s.bg)] 230)/\w.heap[s.bW]? =some (.cells #[.int .u64 KK,.int .u32 0] 239)/\Slots2 s bl bw V/\a=G ((bq k).at ⟨V.toArray,[]⟩ (.inRegion O9 [0,1,2,3]::EV)) cs'
set_option maxRecDepth 100000 in
set_option maxHeartbeats 4000000 in
theorem fU{k:CallKind}(hke: (bq k).kind≠ .early){s:Sol}{A:Option Addr}{c:Nat}{a18 x34 x35:Value}{U:List Value}(hU:Slots s A c a18 U)(cs':List Frame)(w:World)(hM:s.Mem w KK):
  Own Tryz.prog true s.R (cu k s cs') GM (G ((bq k).at ⟨((U.set 34 x34).set 35 x35).toArray,[]⟩ (.inRegion q9 []::IA)) cs') w:=by
 obtain⟨u0,u2,u3,u4,u5,u10,u12,u13,u14,u15,u16,u17,u18,u19,u20,u21,u24,u25,u26,u27,u28,u29,u30,u31,u32,u33,u34,u35,u36,u37,u38,u39,u40,u41,u42,u43,u44,u45,u46,u47,u48,u49,u50,u51,u52,u53,u54,u55,u56,u57,u58,u59,u60,u61,u62,u63,u64,u65,u66,u67,u68,u69,u70,u71,u72,u73,u74,u75,u76,u77,u78,u79,ul,rfl⟩:=hU.all;have l9:s.bW<w.heap.size:=hM.o5;have o1:=hM.o1;have o2:=hM.o2;have o3:=hM.o3;have o4:=hM.o4;have o5:=hM.o5;have hin:∀b,Uni GM s.R b->b<w.heap.size:=by
  rintro b (h|rfl|rfl|rfl|rfl|rfl)
  ·exact h.elim
  all_goals omega
 simp only[List.set_cons_succ,List.set_cons_zero,IA];refine Own.ctl rfl (fun _=>stepG_region_end) ?_;refine Own.ctl rfl (fun _=>stepG_inBlock) ?_;have hq:fG=fG:=rfl;conv at hq=>rhs;simp only[fG,K0,K1,K2,K3,K4,Jv,Jr,Jq,II,Kd,X1,Y1,X2,Y2,C2,X3,Y3,C3,Ef,Tryz.f136,AQ,rO,cA,cB,cC,cT,cE]
 rw[hq];clear hq;refine Own.ctl rfl (fun _=>stepG_region) ?_;simp only[Ay,AY,As,Nat.reduceAdd,AW,List.range,List.range.loop];refine Own.value (.int .i64 1) rfl rfl hke (fun w=>by go_simp;try decide) (fun w=>by simp[go_sem]) ?_;walk_nrm;refine Own.value (.int .i64 1) rfl rfl hke (fun w=>by go_simp;try decide) (fun w=>by simp[go_sem]) ?_;walk_nrm;refine Own.ctl rfl (fun _=>stepG_region_end) ?_;refine Own.ctl rfl (fun _=>stepG_inLoop) ?_;rw[xX];refine Own.ctl rfl (fun _=>stepG_seq) ?_;have hq:q5=q5:=rfl;conv at hq=>rhs;simp only[q5,K0,K1,K2,K3,K4,Jv,Jr,Jq,II,Kd,X1,Y1,X2,Y2,C2,X3,Y3,C3,Ef,Tryz.f136,AQ,rO,cA,cB,cC,cT,cE]
 rw[hq];clear hq;refine Own.ctl rfl (fun _=>stepG_region) ?_;simp only[Ay,AY,As,Nat.reduceAdd,AW,List.range,List.range.loop];refine Own.value (.bool false) rfl rfl hke (fun w=>by go_simp;try decide) (fun w=>by simp[go_sem]) ?_;walk_nrm;refine Own.ctl rfl (fun _=>stepG_region_end) ?_;refine Own.ctl rfl (fun _=>stepG_seq) ?_;refine Own.ctl rfl (fun _=>stepG_cond (t:=false) rfl) ?_;simp only[AP,Ab];refine Own.ctl rfl (fun _=>stepG_exit rfl) ?_;rw[xY];refine Own.ctl rfl (fun _=>stepG_seq) ?_;have hq:pB=pB:=rfl;conv at hq=>rhs;simp only[pB,K0,K1,K2,K3,K4,Jv,Jr,Jq,II,Kd,X1,Y1,X2,Y2,C2,X3,Y3,C3,Ef,Tryz.f136,AQ,rO,cA,cB,cC,cT,cE]
 rw[hq];clear hq;refine Own.ctl rfl (fun _=>stepG_region) ?_;simp only[Ay,AY,As,Nat.reduceAdd,AW,List.range,List.range.loop];refine Own.value (.slice A 1 c) rfl rfl hke (fun w=>by go_simp;try decide) (fun w=>by simp[go_sem]) ?_;walk_nrm;refine Own.value (.int .i64 1) rfl rfl hke (fun w=>by go_simp;try decide) (fun w=>by simp[go_sem]) ?_;walk_nrm;refine Own.new rfl rfl hke (fun c=> .slice (some ⟨c,0,none⟩) 1 1) (.cells HI 29) (fun w=>by simp[go_sem,qu]) (fun w=>by simp[go_sem,mf]) hin ?_;intro bl w2 hl1 hl2 k2 hbl;walk_nrm;refine Own.value (.slice (some ⟨bl,0,none⟩) 1 1) rfl rfl hke (fun w=>by go_simp;try decide) (fun w=>by simp[go_sem]) ?_;walk_nrm;have hin2:∀b,Uni (Hn GM bl) s.R b->b<w2.heap.size:=by
  rintro b ((h|rfl)|h)
  ·exact h.elim
  ·omega
  ·have:=hin b (.inr h);omega
 refine Own.ctl rfl (fun _=>stepG_region_end) ?_;rw[vw];refine Own.ctl rfl (fun _=>stepG_seq) ?_;have hq:pA=pA:=rfl;conv at hq=>rhs;simp only[pA,K0,K1,K2,K3,K4,Jv,Jr,Jq,II,Kd,X1,Y1,X2,Y2,C2,X3,Y3,C3,Ef,Tryz.f136,AQ,rO,cA,cB,cC,cT,cE]
 rw[hq];clear hq;refine Own.ctl rfl (fun _=>stepG_region) ?_;simp only[Ay,AY,As,Nat.reduceAdd,AW,List.range,List.range.loop];refine Own.value (.slice A 1 c) rfl rfl hke (fun w=>by go_simp;try decide) (fun w=>by simp[go_sem]) ?_;walk_nrm;refine Own.value (.int .i64 1) rfl rfl hke (fun w=>by go_simp;try decide) (fun w=>by simp[go_sem]) ?_;walk_nrm;refine Own.new rfl rfl hke (fun c=> .slice (some ⟨c,0,none⟩) 1 1) (.cells #[.int .u16 0] 37) (fun w=>by simp[go_sem,qt]) (fun w=>by simp[go_sem,mc]) hin2 ?_;intro bw w3 hl3 hl4 k3 hbw;walk_nrm;refine Own.value (.slice (some ⟨bw,0,none⟩) 1 1) rfl rfl hke (fun w=>by go_simp;try decide) (fun w=>by simp[go_sem]) ?_;walk_nrm;have hbl3:w3.heap[bl]? =some (.cells HI 29):=(k3.same bl (.inl (.inr rfl))).trans hbl;have hr3:∀b,s.R b->w3.heap[b]? =w.heap[b]? :=fun b hb=>(k3.same b (.inr hb)).trans (k2.same b (.inr hb))
 refine Own.ctl rfl (fun _=>stepG_region_end) ?_;rw[vu];refine Own.ctl rfl (fun _=>stepG_seq) ?_;refine Own.ctl rfl (fun _=>stepG_seq) ?_;have hq:oz=oz:=rfl;conv at hq=>rhs;simp only[oz,K0,K1,K2,K3,K4,Jv,Jr,Jq,II,Kd,X1,Y1,X2,Y2,C2,X3,Y3,C3,Ef,Tryz.f136,AQ,rO,cA,cB,cC,cT,cE]
 rw[hq];clear hq;refine Own.ctl rfl (fun _=>stepG_region) ?_;simp only[Ay,AY,As,Nat.reduceAdd,AW,List.range,List.range.loop];refine Own.value (.slice A 1 c) rfl rfl hke (fun w=>by go_simp;try decide) (fun w=>by simp[go_sem]) ?_;walk_nrm;refine Own.value (.int .i64 1) rfl rfl hke (fun w=>by go_simp;try decide) (fun w=>by simp[go_sem]) ?_;walk_nrm;refine Own.value (.int .i64 0) rfl rfl hke (fun w=>by go_simp;try decide) (fun w=>by simp[go_sem]) ?_;walk_nrm;refine Own.ctl rfl (fun _=>stepG_region_end) ?_;refine Own.ctl rfl (fun _=>stepG_block) ?_;refine Own.ctl rfl (fun _=>stepG_loop) ?_;rw[j6];refine Own.ctl rfl (fun _=>stepG_seq) ?_;have hq:mQ=mQ:=rfl;conv at hq=>rhs;simp only[mQ,K0,K1,K2,K3,K4,Jv,Jr,Jq,II,Kd,X1,Y1,X2,Y2,C2,X3,Y3,C3,Ef,Tryz.f136,AQ,rO,cA,cB,cC,cT,cE]
 rw[hq];clear hq;refine Own.ctl rfl (fun _=>stepG_region) ?_;simp only[Ay,AY,As,Nat.reduceAdd,AW,List.range,List.range.loop];refine Own.value (.bool true) rfl rfl hke (fun w=>by go_simp;try decide) (fun w=>by simp[go_sem]) ?_;walk_nrm;refine Own.ctl rfl (fun _=>stepG_region_end) ?_;refine Own.ctl rfl (fun _=>stepG_seq) ?_;refine Own.ctl rfl (fun _=>stepG_cond (t:=true) rfl) ?_;simp only[Ag];refine Own.ctl rfl (fun _=>stepG_skip) ?_;refine Own.ctl rfl (fun _=>stepG_seq) ?_;refine Own.ctl rfl (fun _=>stepG_block) ?_;rw[xV];refine Own.ctl rfl (fun _=>stepG_seq) ?_;refine Own.ctl rfl (fun _=>stepG_seq) ?_;have hq:uI=uI:=rfl;conv at hq=>rhs;simp only[uI,K0,K1,K2,K3,K4,Jv,Jr,Jq,II,Kd,X1,Y1,X2,Y2,C2,X3,Y3,C3,Ef,Tryz.f136,AQ,rO,cA,cB,cC,cT,cE]
 rw[hq];clear hq;refine Own.ctl rfl (fun _=>stepG_region) ?_;simp only[Ay,AY,As,Nat.reduceAdd,AW,List.range,List.range.loop];refine NG rfl rfl hke (c:=s.b6) (obj:= .cells #[.chan (some s.bg)] 230) (.inr (by simp[Sol.R])) ((hr3 _ (by simp[Sol.R])).trans hM.m6) (.chan (some s.bg)) (fun w h=> ?_) (fun w h e he=> ?_) ?_
 ·have h1:w.cell? ⟨s.b6,0,none⟩=some (.chan (some s.bg)):=by simp[World.cell?,h]
  go_simp
 ·have h1:w.cell? ⟨s.b6,0,none⟩=some (.chan (some s.bg)):=by simp[World.cell?,h]
  simp[go_sem,h1]at he;subst he;exact⟨_,rfl,rfl,rfl,rfl⟩
 walk_nrm;refine Own.ctl rfl (fun _=>stepG_region_end) ?_;have hq:uH=uH:=rfl;conv at hq=>rhs;simp only[uH,K0,K1,K2,K3,K4,Jv,Jr,Jq,II,Kd,X1,Y1,X2,Y2,C2,X3,Y3,C3,Ef,Tryz.f136,AQ,rO,cA,cB,cC,cT,cE]
 rw[hq];clear hq;refine Own.ctl rfl (fun _=>stepG_region) ?_;simp only[Ay,AY,As,Nat.reduceAdd,AW,List.range,List.range.loop];refine NG rfl rfl hke (c:=s.b7) (obj:= .cells #[.chan (some s.bb)] 230) (.inr (by simp[Sol.R])) ((hr3 _ (by simp[Sol.R])).trans hM.m7) (.chan (some s.bb)) (fun w h=> ?_) (fun w h e he=> ?_) ?_
 ·have h1:w.cell? ⟨s.b7,0,none⟩=some (.chan (some s.bb)):=by simp[World.cell?,h]
  go_simp
 ·have h1:w.cell? ⟨s.b7,0,none⟩=some (.chan (some s.bb)):=by simp[World.cell?,h]
  simp[go_sem,h1]at he;subst he;exact⟨_,rfl,rfl,rfl,rfl⟩
 walk_nrm;refine Own.ctl rfl (fun _=>stepG_region_end) ?_;refine Own.ctl rfl (fun _=>stepG_seq) ?_;have hq:O9=O9:=rfl;conv at hq=>rhs;simp only[O9,K0,K1,K2,K3,K4,Jv,Jr,Jq,II,Kd,X1,Y1,X2,Y2,C2,X3,Y3,C3,Ef,Tryz.f136,AQ,rO,cA,cB,cC,cT,cE]
 rw[hq];clear hq;refine Own.ctl rfl (fun _=>stepG_region) ?_;simp only[Ay,AY,As,Nat.reduceAdd,AW,List.range,List.range.loop];refine Own.stop fun w₁ k₁=> ?_
 exact⟨bl,bw,_,rfl,om,om,(k₁.same bl (.inl (.inl (.inr rfl)))).trans hbl3,(k₁.same bw (.inl (.inr rfl))).trans hbw,(k₁.same _ (.inr (by simp[Sol.R]))).trans ((hr3 _ (by simp[Sol.R])).trans hM.m6),(k₁.same _ (.inr (by simp[Sol.R]))).trans ((hr3 _ (by simp[Sol.R])).trans hM.mW),⟨by simp,rfl,rfl,rfl,rfl,rfl,rfl,rfl⟩,rfl⟩
section
def WW(s:Sol)(a18:Value):Deferred:={target:= .fn (.func 167) #[.pointer (some ⟨s.bW,0,none⟩),.pointer (some s.p9),a18,.pointer (some ⟨s.b6,0,none⟩),.pointer (some ⟨s.b7,0,none⟩)],args:= #[]}
noncomputable def Ka:Frame:={(default:Frame)with fn:=Tryz.prog.funcs.size,defers:=[],mode:= .panicking [goexitEntry]}
theorem TO(s:Sol)(a18:Value)(w:World):stepG Tryz.prog false (born Tryz.prog (WW s a18)) w= .go (G ((baseD 167).at ⟨#[.pointer (some ⟨s.bW,0,none⟩),.pointer (some s.p9),a18,.pointer (some ⟨s.b6,0,none⟩),.pointer (some ⟨s.b7,0,none⟩),undef,undef,undef,undef,undef],[]⟩ [.code cm]) [Ka]) w #[]:=by
 have h1:Tryz.prog.funcs[167]? =some Tryz.f167:=Tryz.func167;have h2:Tryz.f167.ntmps=10:=rfl;have h3:Tryz.f167.body=some cm:=rfl;have h4:¬Tryz.f167.name="runtime.NumGoroutine":=by
  have: (Tryz.f167.name=="runtime.NumGoroutine")=false:=kr;simpa using this
 simp[born,WW,stepG,unwind,callDeferred,invoke,callFunc,h1,h2,h3,h4,GStep.after,G,Frame.enter,Frame.at,baseD,Ka,seen_none]
def dV(p7 p4:Value):Deferred:={target:= .fn (.func 242) #[p7,p4],args:= #[]}
variable{w:World}
theorem Qj{α:Type}{P:Program}{s:Sem α}{es es1:Array Event}{x:Result α}(h:s.runT P w es=(x,es1)):s.run P w=x:=by rw[<-Sem.runT_fst P s w es,h]
theorem S3{α:Type}{P:Program}{s:Sem α}{es es1:Array Event}{x:Result α}(h:s.runT P w es=(x,es1)):s.events P w es=es1:=by unfold Sem.events;rw[h]
theorem IJ{P:Program}{main:Bool}{b:Frame}{a:Act}{cs:List Frame}{todo:List Item}{ds:List Deferred}{f:FuncId}{fn:Func}{cap:Array Value}{c:Code}(hd:a.defers={target:= .fn (.func f) cap,args:= #[]}::ds)(hf:P.funcs[f]? =some fn)(hname: (fn.name=="runtime.NumGoroutine")=false)(hb:fn.body=some c):
  stepG P main (G {b.at a todo with mode:= .returning} cs) w=
   .go (G ((baseD f).at {tmps:=cap++Array.replicate (fn.ntmps - cap.size) undef,defers:=[]} [.code c]) ({b.at ⟨a.tmps,ds⟩ todo with mode:= .returning}::cs)) w #[]:=by
 have h1:¬fn.name="runtime.NumGoroutine":=by simpa using hname
 rw[<-enter_atD cap hf hb];simp[G,stepG,unwind,callDeferred,Frame.at,hd,invoke,callFunc,hf,h1,hb,GStep.after,seen_none]
theorem NO{P:Program}{main:Bool}{b:Frame}{a:Act}{k:List Item}{c:Frame}{cs:List Frame}{ops:Array Oper}{i:Nat}{rest:List Nat}{o:Oper}{ats:Array TypeId}(ho:ops[i]? =some o)(hw:Region.wanted o (yielded ops a.tmps)=true)(hk:b.kind= .deferred)(hr0:b.roundOf=none)
  (hop:o.op= .call {callee:= .builtin .recover,args:= #[],argTypes:=ats})(hc:c.mode= .returning):
  stepG P main (G (b.at a (.inRegion ops (i::rest)::k)) (c::cs)) w= .go (G (b.at (a.put o.dst .nilIface) (.inRegion ops rest::k)) (c::cs)) w #[]:=by
 have hr: (execOp a.eval o).run P w= .ok .recover w:=by
  unfold execOp;simp[hop,resolve,invoke,builtin]
 have he: (execOp a.eval o).events P w #[]= #[]:=by
  unfold execOp;simp[hop,resolve,invoke,builtin]
 have hfin: (b.at a (.inRegion ops (i::rest)::k)).finish .nilIface=b.at (a.put o.dst .nilIface) (.inRegion ops rest::k):=by rw[Frame.finish_at,ho];rfl
 rw[stepG_oper ho hw,<-hfin];simp[stepG.apply,hr,he,G,Frame.at,hk,hr0,hc,tryRecover,GStep.after,seen_none]
theorem mM(T:Array Value):QuitsD Tryz.prog 2 0 (G {(baseD 167).at ⟨T,[]⟩ []with mode:= .returning} [Ka]):=by
 have h1:Tryz.prog.funcs[167]? =some Tryz.f167:=Tryz.func167;have h2:Tryz.f167.results= #[]:=rfl;refine QuitsD.ctl (g':=G Ka []) rfl (fun w=> ?_) ?_
 ·simp[G,stepG,unwind,doReturn,results,Frame.at,baseD,Ka,h1,h2,seen,GStep.after,goexitEntry]
 refine QuitsD.ctl (g':={G Ka []with status:= .finished}) rfl (fun w=> ?_) ⟨rfl,rfl⟩;simp[G,stepG,unwind,Ka,goexitEntry,Frame.catches];rfl
theorem ZA(w:World)(es:Array Event): (vS (do eqGuard .neq 20 (.tmp 4) (.const .nilIface) .nilIface .nilIface;binOp .neq 20 .nilIface .nilIface)).runT Tryz.prog w es=(.ok (.value (.bool false)) w,es):=kr
instance payW:Payload:=⟨230⟩
set_option maxRecDepth 100000 in
set_option maxHeartbeats 4000000 in
theorem YI{s:Sol}[Shy s.bW s.b6]{Low:Nat}(hW:s.bW<Low)(hC:s.b6<Low)(hCW:s.b6≠s.bW){Mine:Loc->Prop}{p4 p7:Value}{W1 W2:List Value}(h2:W2.length=10)(w:World)(hK:KCa 239 s.bW w/\Full s.b6 [.chan (some s.bg)] w):
  ∃m,Goes Tryz.prog false (RCa 239 s.bW Low) (DCs Mine s.bW s.b6) (AtR0 Tryz.prog 239 s.bW s.b6 Low [.chan (some s.bg)]) m
   (G ((base 169).at ⟨W1.toArray,[dV p7 p4]⟩ [.inRegion fK []]) [(baseD 167).at ⟨W2.toArray,[dcall 168 #[.pointer (some ⟨s.bW,0,none⟩)]]⟩ [.inRegion tv [4]],Ka]) w:=by
 refine⟨44,?_⟩;have f242:Tryz.prog.funcs[242]? =some Tryz.f242:=Tryz.func242;have f169:Tryz.prog.funcs[169]? =some Tryz.f169:=Tryz.func169;have f167:Tryz.prog.funcs[167]? =some Tryz.f167:=Tryz.func167;u_c stepG_region_end (ka_rely (L:=Do) hC hCW) hK;u_c stepG_end (ka_rely (L:=Do) hC hCW) hK;u_in (ka_rely (L:=Do) hC hCW) hK;rw[IJ rfl f242 kr (c:=iU) rfl];simp only[goes_go];refine⟨by u_nil,?_⟩;have hb:iU=iU:=rfl;conv at hb=>rhs;simp only[iU,Tryz.f242,AQ]
 rw[hb];clear hb;have hnt:Tryz.f242.ntmps=9:=rfl;rw[hnt];walk_nrm;u_c stepG_seq (ka_rely (L:=Do) hC hCW) hK;u_reg (ka_rely (L:=Do) hC hCW) hK;u_in (ka_rely (L:=Do) hC hCW) hK;rw[NO rfl rfl rfl rfl rfl rfl];simp only[goes_go];refine⟨by u_nil,?_⟩;walk_nrm;u_op (ka_rely (L:=Do) hC hCW) hK;u_c stepG_region_end (ka_rely (L:=Do) hC hCW) hK;u_c stepG_seq (ka_rely (L:=Do) hC hCW) hK;u_reg (ka_rely (L:=Do) hC hCW) hK;u_op (ka_rely (L:=Do) hC hCW) hK;refine Goes.step rfl (fun wq hq=> ?_);replace hK:=ka_rely (L:=Do) hC hCW hK hq;clear hq;rw[stepG_value (v:= .bool false) (w':=wq) rfl rfl (baseD_kind _) (Qj (es:= #[]) (es1:= #[]) (ZA wq #[]))];simp only[goes_go];refine⟨⟨Aside.refl _ _,fun e he=> ?_⟩,?_⟩
 ·have hm:=mem_listed he;have hm2:e∈(vS (do eqGuard .neq 20 (.tmp 4) (.const .nilIface) .nilIface .nilIface;binOp .neq 20 .nilIface .nilIface)).events Tryz.prog wq #[]:=hm;rw[S3 (ZA wq #[])]at hm2;simp at hm2
 walk_nrm;u_c stepG_region_end (ka_rely (L:=Do) hC hCW) hK;u_cond false (ka_rely (L:=Do) hC hCW) hK;u_c stepG_skip (ka_rely (L:=Do) hC hCW) hK;u_c stepG_end (ka_rely (L:=Do) hC hCW) hK;u_in (ka_rely (L:=Do) hC hCW) hK;rw[stepG_leave_deferred rfl rfl f242 (results_none rfl _ _ _) (events_results_none rfl _ _) rfl];simp only[goes_go];refine⟨by u_nil,?_⟩;u_in (ka_rely (L:=Do) hC hCW) hK;refine goes_leave0 rfl rfl f169 rfl ⟨by u_nil,?_⟩;rw[show(tv[4]?).bind (·.dst)=some 9 from rfl];walk_nrm;u_c stepG_region_end (ka_rely (L:=Do) hC hCW) hK;u_c stepG_end (ka_rely (L:=Do) hC hCW) hK;u_in (ka_rely (L:=Do) hC hCW) hK;rw[stepG_unwind_enter (P:=Tryz.prog) rfl Lm.f_done (nm_done Do) rfl];simp only[goes_go];refine⟨by u_nil,?_⟩;walk_nrmf doneFn;have hA:= @doneD _ Do Tryz.prog Lm Mine s.bW s.b6 Low _ [.chan (some s.bg)] hW hC hCW;simp only[body_done,doneFn,AQ]at hA;exact(hA (c:={(baseD 167).at ⟨(W2.set 9 (.tuple #[])).toArray,[]⟩ []with mode:= .returning}) (cs:=[Ka]) rfl (mM _) _ hK)
end
end
section
open Go.Conc Go.Proofs
open Go.ConcX Go.ConcX.Gen Go.Conc.Lib
section
def Io:Mm:=⟨[vU],[(323,c192),(333,c206)],338,.tuple #[.agg #[.int .i64 (.ofNat 1),.slice (some ⟨421,0,none⟩) 2 2,.slice (some ⟨558,0,none⟩) 2 2,.slice none 0 0,.slice none 0 0],.int .u16 (.ofNat 0)],[(421,[.int .i64 (.ofNat 1),.int .i64 (.ofNat 1)]),(558,[.int .i64 (.ofNat 2),.int .i64 (.ofNat 0)])]⟩
section
variable[Md]
set_option maxRecDepth 100000 in
theorem Zw:ET Io ((ev Ge 400).F 10 Io.args ⟨Io.mem,Io.n,[]⟩)=true:=kr
theorem f6:SG Tryz.prog 10 (Ck Io):=Dz Ey 400 Zw
theorem f5:MJ Io=true:=kr
theorem se{a:Nat}(h2:a≠421)(h3:a≠558):dlf (DL Io.δ) a=none:=by
 cases hx:dlf (DL Io.δ) a with
 |none=>rfl
 |some y=>
  obtain⟨c,_,hc⟩:=CX (CD hx);simp[Io]at hc;omega
theorem wC{G:Hp}(h1:G 323=some (.own c192))(h2:G 333=some (.own c206))(h3:G 421=none)(h4:G 558=none):Ct 10 [.agg #[.slice (some ⟨323,0,none⟩) 2 18446744073709551617,.slice (some ⟨333,0,none⟩) 2 18446744073709551621]] (fun v H'=>v=Io.v/\H'=app G (dlf (DL Io.δ))) G:=by
 refine⟨⟨_,_,Tryz.func10,rfl⟩,MI f6 f5 (fun p hp=> ?_) (fun p hp=> ?_)⟩
 ·simp only[Io,AV,Ai,or_false]at hp;rcases hp with rfl|rfl
  ·exact h1
  ·exact h2
 ·simp only[Io,AV,Ai,or_false]at hp;rcases hp with rfl|rfl
  ·exact h3
  ·exact h4
theorem sN{G H:Hp}(h3:G 421=none)(h4:G 558=none)(h:H=app G (dlf (DL Io.δ))):Ext G H:=fun a x ha=>by
 rw[h,Be (se (fun e=>by rw[e,h3]at ha;cases ha) (fun e=>by rw[e,h4]at ha;cases ha))];exact ha
theorem vL:Io.v= .tuple #[.agg #[.int .i64 1,.slice (some ⟨421,0,none⟩) 2 2,.slice (some ⟨558,0,none⟩) 2 2,.slice none 0 0,.slice none 0 0],.int .u16 0]:=rfl
theorem tA(a b:Int)(A B C D:Option Addr)(k l m n p q r s:Nat):B9 tz 246 [(0,.int .i64 a),(1,.agg #[.int .i64 b,.slice A k l,.slice B m n,.slice C p q,.slice D r s])]=some (.agg #[.int .i64 a,.int .i64 b,.slice A k l,.slice B m n,.slice C p q,.slice D r s,.int .u16 0]):=kr
theorem FY{S:Spn}(hK:Closed S.P S.main S.K)(hke: (S.kind== .early)=false){n:Nat}{t:Nat->Value}{dd:List Deferred}{H:Hp}{k:List Item}{ops:Array Oper}{i:Nat}{rest:List Nat}{o:Oper}{d nf:Nat}{v:Value}{lr:List Oper}(hP:S.P=Tryz.prog)(hol:ops.toList.drop i=o::lr)(hc:ck n o=some d)(hf:Fr H nf)(h:_root_.Go.Proofs.YtjlallgaadmeaaaGreatDoor.hop tz H nf (eT t) o.op=some (v,[]))(hk:KC S (.inRegion ops rest::k) ⟨n,st t d v,dd⟩ H):KC S (.inRegion ops (i::rest)::k) ⟨n,t,dd⟩ H:=by
 obtain⟨hd,hn,hx,hg⟩:=M0 hc;have ho:ops[i]? =some o:=by
  have h1:=congrArg (fun l:List Oper=>l[0]?) hol;simpa using h1
 refine KC.hop hK hke (Γ:=tz) (by rw[hP];exact Cv) (by rw[hP];exact Ce) ho (Fi hx) (BY hg _) (hf.at) (by rw[EI];exact h) ?_;rw[hd,CT hn];exact hk
end
variable{n:Nat}
theorem Fr.ext{H0 H:Hp}(hf:Fr H n)(h:Ext H0 H):Ext H0 H:=h
theorem Fr.rd{H:Hp}(hf:Fr H n)(a:Nat){x:Option AB}(h:H a=x):H a=x:=h
theorem cV{H:Hp}(hf:Fr H n)(a:Nat)(h:H a=none):H a=none:=h
variable{φ:Ph}{D:Nat->Prop}
theorem LK{c:Nat}{v:Value}(h:vrel φ D (.slice none n c) v):v= .slice none 0 0:=by
 simp only[vrel]at h;exact h.2.2
theorem UO{a:Addr}{c:Nat}{v:Value}(h:vrel φ D (.slice (some a) n c) v):∃a' c',v= .slice (some a') n c':=by
 simp only[vrel]at h;obtain⟨_,_,a',c',e,_⟩:=h;exact⟨a',c',e⟩
theorem YK{r:Nat}{v:Value}(h:vrel φ D (.chan (some r)) v):v= .chan (some (φ.f r)):=by
 simp only[vrel]at h;exact h.2
theorem YL{cs:Array Value}{v:Value}(h:vrel φ D (.agg cs) v):∃l:List Value,v= .agg l.toArray/\BZ φ D cs.toList l:=by
 obtain⟨⟨l⟩,e,h⟩:=Dh.1 h;exact⟨l,e,Bj.1 h⟩
variable{ds:List Deferred}
theorem E2{A:AF}{T:Array Value}(h:GW φ D A T ds)(i:Nat){v:Value}(hv:A.t i=v)(hi:i<A.n):∃v',T.toList[i]? =some v'/\vrel φ D v v':=by
 subst hv;have hs:=h.1.1;have h2:=h.1.2 i;refine⟨T.getD i undef,?_,h2⟩;rw[Ae,AL,AK om];rfl
abbrev WU:Array Value:= #[.int .i64 1,.slice (some ⟨421,0,none⟩) 2 2,.slice (some ⟨558,0,none⟩) 2 2,.slice none 0 0,.slice none 0 0]
theorem TK{v:Value}(h:vrel φ D (.agg #[.int .i64 0,.int .i64 1,.slice (some ⟨421,0,none⟩) 2 2,.slice (some ⟨558,0,none⟩) 2 2,.slice none 0 0,.slice none 0 0,.int .u16 0]) v):
  ∃ca:Array Value,ca.size=5/\ca.all (·.oneCell')=true/\v= .agg (#[.int .i64 0]++ca++ #[.int .u16 0])/\B3 φ D WU ca:=by
 obtain⟨l,rfl,hc⟩:=YL h;simp only[BZ]at hc;obtain⟨c0,_,rfl,h0,c1,_,rfl,h1,c2,_,rfl,h2,c3,_,rfl,h3,c4,_,rfl,h4,c5,_,rfl,h5,c6,_,rfl,h6,rfl⟩:=hc;obtain rfl:=Bb.1 h0;obtain rfl:=Bb.1 h6;refine⟨#[c1,c2,c3,c4,c5],rfl,?_,rfl,?_⟩
 ·obtain rfl:=Bb.1 h1;obtain⟨_,_,rfl⟩:=UO h2;obtain⟨_,_,rfl⟩:=UO h3;obtain rfl:=LK h4;obtain rfl:=LK h5;simp[Value.oneCell']
 ·rw[Bj];simp only[BZ];exact⟨_,_,rfl,h1,_,_,rfl,h2,_,_,rfl,h3,_,_,rfl,h4,_,_,rfl,h5,rfl⟩
theorem RT{f:FuncId}{cap args:Array Value}(h:pK φ D [{target:= .fn (.func f) cap,args:=args}] ds):∃cap' args':Array Value,ds=[{target:= .fn (.func f) cap',args:=args'}]/\BZ φ D cap.toList cap'.toList/\BZ φ D args.toList args'.toList:=by
 simp only[pK,uQ]at h;obtain⟨⟨tg,ar⟩,_,rfl,⟨h1,f',c',e,h2,h3⟩,rfl⟩:=h;simp only at e;subst e;cases f'<;>simp only[Dt]at h2<;>cases h2
 exact⟨c',ar,rfl,Bj.1 h3,Bj.1 h1⟩
def HH(X1:Nat->Option Obj)(O1:Nat->Prop)(φ0:Ph)(H0:Hp)(s:Sol):Value->Value->StopT:=fun v zz O b w=>
 ∃(φ:Ph) (H':Hp) (W1 W2:List Value) (x y:Value) (ca:Array Value),zz= .tuple #[]/\ca.size=5/\ca.all (·.oneCell')=true/\v= .agg (#[.int .i64 0]++ca++ #[.int .u16 0])/\(∀b,O1 b->O b)/\Gr φ0 H0 φ H'/\(letI:=Ss s.R;Rel X1 O φ H' w)/\Ext H0 H'/\H' 421=some (.own [.int .i64 1,.int .i64 1])/\H' 558=some (.own [.int .i64 2,.int .i64 0])/\
  B3 φ (dom H') WU ca/\W1.length=26/\W1[22]? =some (.chan (some s.bg))/\W1[25]? =some v/\W2.length=10/\
  b=G ((base 169).at ⟨W1.toArray,[dV x y]⟩ [.inRegion fK [4]]) [(baseD 167).at ⟨W2.toArray,[dcall 168 #[.pointer (some ⟨s.bW,0,none⟩)]]⟩ [.inRegion tv [4]],Ka]
set_option maxHeartbeats 1600000 in
theorem d9{s:Sol}{X1:Nat->Option Obj}{O1 O:Nat->Prop}{H0:Hp}{cs:List Frame}{φ1:Ph}{H1:Hp}(hO1:∀b,O1 b->O b)(hg1:Gr φ1 H1 φ H0)(hx1:Ext H1 H0)(d294:dom H1 294)(g294:φ1.f 294=s.bg)(hcs:∃W2:List Value,W2.length=10/\cs=[(baseD 167).at ⟨W2.toArray,[dcall 168 #[.pointer (some ⟨s.bW,0,none⟩)]]⟩ [.inRegion tv [4]],Ka])(hf:Fr H0 (n+1))(hn:600<=n)(hfree:∀a,300<=a->a≠310->a≠323->a≠333->a≠n->H0 a=none)(q323:H0 323=some (.own c192))(q333:H0 333=some (.own c206)):letI:=Ss s.R;KC ⟨Tryz.prog,false,fun O g w=>Own Tryz.prog false s.R (fun O b w=>∃v zz,HH X1 O1 φ1 H1 s v zz O b w) O g w,X1,O,φ,H0,169,.normal,cs⟩ [.code tt] (AF.enter 26 [.int .i64 0,vU,.chan (some 294),.chan (some 296)]) H0:=by
 letI:=Ss s.R
 have hK:=NF Tryz.prog false s.R (fun O b w=>∃v zz,HH X1 O1 φ1 H1 s v zz O b w);have hq:Jp .normal cs:= .inl rfl;have hke:=CV hq;refine TY fun t ht=> ?_
 have h0:=ht 0 _ rfl;have h1:=ht 1 _ rfl;have h2:=ht 2 _ rfl;have h3:=ht 3 _ rfl;have hf0:=hf;have he:=Ext.refl H0;refine KC.seq hK ?_;refine KC.code hK hq (BQ ?_);have fz:=ai @tA (ai @vL (ai YN (ai h3 (ai h2 (ai h1 h0)))));refine xa fun hf=> ?_
 refine xa fun hf=> ?_
 refine xa fun hf=> ?_
 refine BP ⟨rfl,?_⟩;have hf2:=hf;refine KC.seq hK (KC.region hK ?_);refine FY hK hke rfl (i:=0) rfl rfl hf xv ?_;refine KC.defer hK hke (i:=1) rfl (Fi rfl) (BY rfl _) rfl rfl (by rw[EI];trace_state;exact xv) (FF hK (KC.seq hK ?_));have e2:=Fr.ext (H0:=H0) hf2 xx;have p323:=e2 323 _ q323;have p333:=e2 333 _ q333;have z421:=cV hf2 421 (by(repeat rw[upd_ne om]);exact hfree 421 om om om om om);have z558:=cV hf2 558 (by(repeat rw[upd_ne om]);exact hfree 558 om om om om om);have hf3:=hf;refine KC.code hK hq (BQ ?_);have fz:=ai z558 (ai z421 (ai p333 (ai p323 fz)));refine xq ?_;refine xc (h:=wC p323 p333 z421 z558) (k:=fun v3 H3 nf3 hl3 q3 hf=> ?_);obtain⟨rfl,hH3⟩:=q3;have e3:Ext _ H3:=sN z421 z558 hH3;have he:Ext H0 H3:=Ext.trans xx e3;have m421:H3 421=some (.own [.int .i64 1,.int .i64 1]):=by rw[hH3];exact Bl rfl
 have m558:H3 558=some (.own [.int .i64 2,.int .i64 0]):=by rw[hH3];exact Bl rfl
 have n0:=e3 (n+1) _ xv;have n1:=e3 (n+1+1) _ xv;have n2:=e3 (n+1+2) _ xv;have l421:=hf.lt m421;have l558:=hf.lt m558;have fz:=ai m558 (ai m421 (ai n2 (ai n1 (ai n0 fz))));refine B0 ?_;refine xa fun hf=> ?_
 refine xs fun hf=> ?_
 refine xq ?_;refine BP ⟨rfl,?_⟩;refine KC.seq hK (KC.seq hK ?_);refine KC.code hK hq (BQ ?_);refine Ba ?_;refine BP ⟨rfl,?_⟩;refine KC.cond hK (b:=false) rfl (by rw[EI];exact xv) ?_;refine KC.skip hK ?_;have he4:=Fr.ext (H0:=H0) hf xx;have o421:=Fr.rd hf 421 (x:=some (.own [.int .i64 1,.int .i64 1])) xv;have o558:=Fr.rd hf 558 (x:=some (.own [.int .i64 2,.int .i64 0])) xv;refine KC.region hK ?_;refine FY hK hke rfl (i:=0) rfl rfl hf xv ?_;refine FY hK hke rfl (i:=1) rfl rfl hf xv ?_;refine FY hK hke rfl (i:=2) rfl rfl hf xv ?_;refine FY hK hke rfl (i:=3) rfl rfl hf xv ?_;intro O2 φ2 w2 T ds hO2 hg2 hr2 har2;obtain⟨v22,i22,r22⟩:=E2 har2 22 (v:= .chan (some 294)) xv (show 22<26 from dZ);obtain⟨v25,i25,r25⟩:=E2 har2 25 (v:= .agg #[.int .i64 0,.int .i64 1,.slice (some ⟨421,0,none⟩) 2 2,.slice (some ⟨558,0,none⟩) 2 2,.slice none 0 0,.slice none 0 0,.int .u16 0]) xv (show 25<26 from dZ);obtain⟨ca,q1,q2,q3,q4⟩:=TK r25;obtain rfl:=YK r22;have hgg:=hg1.trans hg2;rw[(hgg 294 d294).2.1,g294]at i22;obtain⟨cap',args',rfl,k1,k2⟩:=RT har2.2;simp only[BZ]at k1;obtain⟨⟨l'⟩,rfl⟩:∃l':Array Value,l'=cap':=⟨_,rfl⟩;obtain⟨x,_,rfl, -,y,_,rfl, -,rfl⟩:=k1;obtain rfl:args'= #[]:=by
  have hz:=((Bp _ _).1 k2).1;exact Array.eq_empty_of_size_eq_zero (by simpa using hz)
 obtain⟨W2,hW2,rfl⟩:=hcs;subst q3;obtain⟨T⟩:=T;have hm421:_=some (AB.own [.int .i64 1,.int .i64 1]):=m421;exact Own.stop fun w₁ k₁=>⟨_,.tuple #[],φ2,_,T,W2,x,y,ca,rfl,q1,q2,rfl,fun b hb=>hO2 b (hO1 b hb),hgg,hr2.keep k₁,hx1.trans he4,o421,o558,q4,har2.1.1,i22,i25,hW2,rfl⟩
end
theorem rK(H:Hp)(p:Addr):EC tz H 230 (.pointer (some p))=rJ H p:=kr
theorem QD{φ:Ph}{D:Nat->Prop}{l l' m:List Value}(h:BZ φ D l l')(e:l=m):BZ φ D m l':=e▸h
set_option maxHeartbeats 1600000 in
theorem Zb{s:Sol}{X:Nat->Option Obj}{O1:Nat->Prop}{φ:Ph}{H1:Hp}{n:Nat}{w:World}{args':Array Value}(d294:dom H1 294)(g294:φ.f 294=s.bg)(d298:dom H1 298)(g298:φ.f 298=s.bW)(z298:φ.sh 298=0)(hf:Fr H1 (n+1))(hn:600<=n)(hfree:∀a,300<=a->a≠310->a≠323->a≠333->a≠n->H1 a=none)(q323:H1 323=some (.own c192))(q333:H1 333=some (.own c206))
  (q295:H1 295=some (.ro [.chan (some 294)]))(q297:H1 297=some (.ro [.chan (some 296)]))(q299:H1 299=some (.own [.int .i64 0]))(qn:H1 n=some (.own [.slice (some ⟨323,0,none⟩) 2 18446744073709551617,.slice (some ⟨333,0,none⟩) 2 18446744073709551621]))
  (hr:letI:=Ss s.R;Rel X O1 φ H1 w)(ha:BZ φ (dom H1) [.pointer (some ⟨298,0,none⟩),.pointer (some ⟨299,0,none⟩),.pointer (some ⟨n,0,none⟩),.pointer (some ⟨295,0,none⟩),.pointer (some ⟨297,0,none⟩)] args'.toList):
  Own Tryz.prog false s.R (fun O b w=>∃v zz,HH X O1 φ H1 s v zz O b w) O1 (G (Frame.enter Tryz.prog 167 args' .deferred) [Ka]) w:=by
 letI:=Ss s.R
 have hK:=NF Tryz.prog false s.R (fun O b w=>∃v zz,HH X O1 φ H1 s v zz O b w);have hke: (CallKind.deferred==CallKind.early)=false:=dZ;refine KC.start (S:=⟨Tryz.prog,false,fun O b w=>Own Tryz.prog false s.R (fun O b w=>∃v zz,HH X O1 φ H1 s v zz O b w) O b w,X,O1,φ,H1,167,.deferred,[Ka]⟩) Tryz.func167 rfl ?_ hr ha;refine TY fun t ht=> ?_
 have h0:=ht 0 _ rfl;have h1:=ht 1 _ rfl;have h2:=ht 2 _ rfl;have h3:=ht 3 _ rfl;have h4:=ht 4 _ rfl;have hf0:=hf;have he:=Ext.refl H1;refine KC.seq hK (KC.region hK ?_);refine KC.defer hK hke (g:=168) (first:= #[]) (cap:= #[]) (i:=0) rfl (Fi rfl) (BY rfl _) rfl rfl rfl (FF hK (KC.region hK ?_));have fz:=ai rK (ai qn (ai q299 (ai q297 (ai q295 (ai YN (ai h4 (ai h3 (ai h2 (ai h1 h0)))))))));refine FY hK hke rfl (i:=0) rfl rfl hf xv ?_;refine FY hK hke rfl (i:=1) rfl rfl hf xv ?_;refine FY hK hke rfl (i:=2) rfl rfl hf xv ?_;refine FY hK hke rfl (i:=3) rfl rfl hf xv ?_;refine KC.enter hK hke (i:=4) rfl (Fi rfl) (BY rfl _) rfl rfl Tryz.func169 rfl kr (fun O2 φ2 w2 T ds args2 hO2 hg2 hr2 har2 hargs=> ?_);have hargs2:=QD hargs (m:=[.int .i64 0,vU,.chan (some 294),.chan (some 296)]) (by rw[EI];exact xv);obtain⟨cap',args',rfl,k1,k2⟩:=RT har2.2;obtain rfl:cap'= #[]:=by
  have hz:=((Bp _ _).1 k1).1;exact Array.eq_empty_of_size_eq_zero (by simpa using hz)
 have k3:=QD k2 (m:=[.pointer (some ⟨298,0,none⟩)]) (by rw[EI];exact xv);obtain⟨⟨T⟩,rfl⟩:∃T':Array Value,T=T':=⟨_,rfl⟩;obtain⟨l⟩:=args';simp only[BZ]at k3;obtain⟨x,_,rfl,hx,rfl⟩:=k3;have hgg:Gr φ H1 φ2 H1:=hg2;have hp:x= .pointer (some ⟨s.bW,0,none⟩):=by
  simp only[vrel,Ph.ad]at hx;rw[hx.2.2,(hgg 298 d298).2.1,(hgg 298 d298).2.2.1,g298,z298]
 subst hp;refine KC.start (S:=⟨Tryz.prog,false,fun O b w=>Own Tryz.prog false s.R (fun O b w=>∃v zz,HH X O1 φ H1 s v zz O b w) O b w,X,O2,φ2,H1,169,.normal,_⟩) Tryz.func169 rfl ?_ hr2 hargs2;exact d9 hO2 hgg (Ext.refl _) d294 g294 ⟨T,har2.1.1,rfl⟩ hf hn hfree q323 q333
end
end Go.Proofs.YtjlallgaadmeaaaGreatDoor
