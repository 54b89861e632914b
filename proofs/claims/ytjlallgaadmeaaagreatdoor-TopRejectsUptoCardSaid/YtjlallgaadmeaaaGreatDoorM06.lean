/- Parts of the proof, joined: GO HA HB HC HD HE HF HG HI HJ HK HL. Conditions: none. -/
import Derived.Test.YtjlallgaadmeaaaGreatDoorM05
set_option linter.unusedVariables false
set_option linter.unusedSimpArgs false
set_option linter.unusedSectionVars false
set_option maxRecDepth 100000
namespace Go.Proofs.YtjlallgaadmeaaaGreatDoor
section
open Go.Conc Go.Proofs gx
variable[Md]
section
theorem YW(H:Hp)(v:Value):Pure 96 [v] (.bool true) H:=by
 refine Pure.of rfl (BV Tryz.func96 rfl 3 rfl fun nf t hf _ ht=> ?_);have hf0:=hf;refine BO (BQ ?_);have fz:=(ht 0 _ rfl);refine xq (BP (BO (BQ ?_)));refine xq (BP (BT (rt ?_)));exact BW rfl ⟨by(simp(disch:=omega)only[wx,fz]<;>rfl),xx⟩
theorem YV(H:Hp)(x:Ar):Pure 98 [x.v] (.bool true) H:=by
 refine Pure.of rfl (BV Tryz.func98 rfl 3 rfl fun nf t hf _ ht=> ?_);have hf0:=hf;refine BO (BQ ?_);have fz:=ai @Ar.v.eq_1 (ht 0 _ rfl);refine xa fun hf=> ?_
 refine xq (BP (BO (BQ ?_)));refine xq (BP (BT (rt ?_)));exact BW rfl ⟨by(simp(disch:=omega)only[wx,fz]<;>rfl),xx⟩
variable{G H:Hp}
theorem Ya{l:List Int}{A:Option Addr}{c:Nat}(hA:Rd 1 intC H A l)(hl:l.length<1000000):Ct 95 [.slice A l.length c,.func (.func 96) #[] #[]] (fun v H'=>Nw H H' 1 v (l.flatMap intC) l.length) H:=by
 refine BV Tryz.func95 rfl 23 rfl fun nf t hf hsc ht=> ?_
 have hf0:=hf;refine BO (BQ ?_);have fz:=ai (ht 1 _ rfl) (ht 0 _ rfl);refine xq (BP (BO (BQ ?_)));refine xq (BP (BO (BO (BQ ?_))));refine B0 (BP (BS ?_));refine By fun T1 hT=> ?_
 have gz:=ai (xt (hT 5)) (ai (xt (hT 10)) (ai (xt (hT 9)) (ai (xt (hT 8)) (ai (xt (hT 1)) trivial))));clear hT;refine xl l.length nf H hf (fun k t nf1 G=>∃(v:Value),GS G 1 v ((l.take k).flatMap intC) k/\(∀b,GSb v b->H b=none)/\(t 1=T1 1/\t 8=T1 8/\t 9=T1 9)/\t 10= .int .i64 (k:Int)/\t 5=v) ⟨.slice none 0 0,GS.nil _ _,fun b h=>(Bo b h).elim,xh⟩ ?_;rintro k t nf1 G hk1 hn1 hf he ⟨v,gs,gn,uz,h10,h5⟩;have hfl:=hf;refine BO (BQ ?_);have fz:=ai h5 (ai h10 (ai uz (ai gz (ai @intC.eq_1 @NZ))));refine xq (BP (BO ?_));refine C8 (fun c1=> ?_) fun c1=> ?_
 ·refine BR (BO (BS (BO (BQ ?_))));obtain⟨b,o,eA,ho⟩:=(hA.ext he) k om;have fz:=ai ho (ai eA (ai c1 fz));refine B0 (BP (BO (BQ ?_)));refine Ba ?_;refine qa rfl xv xv (YW _ _) (BP ?_);refine xT (BQ ?_);refine Ba ?_;refine xa fun hf=> ?_
  refine FU (ys:=intC l[k]) hf rfl xv I3 (gs.keep fun b hb=>by have:=hfl.lt (gs.live hb);simp(disch:=omega)only[Bn]) dZ (Bu xv rfl dZ) ⟨_,_,_,rfl,rfl⟩ rfl dZ rfl om om fun v2 G2 gs2 fr hf gb=> ?_
  have he:=Ext.fr (by(repeat refine Ext.up (hf0 _ om) ?_);exact he) (hf0 _ om) gn fr;refine xq (BP (BQ ?_));refine Ba (BP ?_);exact xe hf ⟨v2,(by rw[Gg _ _ om]at gs2;exact gs2),(fun b h=>hf0 b (by have:=gb b h;omega)),xz⟩
 ·refine xo (BO (BQ ?_));have fz:=ai c1 fz;refine Ba (BP (BT (rt ?_)));exact BW rfl (by simp(disch:=first|decide|omega)only[wx,fz];obtain rfl:k=l.length:=om;rw[List.take_length]at gs;exact⟨he,gs,gn⟩)
theorem YZ{l:List Ar}{A:Option Addr}{c:Nat}(hA:Rd 5 Ar.c H A l)(hl:l.length<1000000):Ct 97 [.slice A l.length c,.func (.func 98) #[] #[]] (fun v H'=>Nw H H' 5 v (l.flatMap Ar.c) l.length) H:=by
 refine BV Tryz.func97 rfl 23 rfl fun nf t hf hsc ht=> ?_
 have hf0:=hf;refine BO (BQ ?_);have fz:=ai (ht 1 _ rfl) (ht 0 _ rfl);refine xq (BP (BO (BQ ?_)));refine xq (BP (BO (BO (BQ ?_))));refine B0 (BP (BS ?_));refine By fun T1 hT=> ?_
 have gz:=ai (xt (hT 5)) (ai (xt (hT 10)) (ai (xt (hT 9)) (ai (xt (hT 8)) (ai (xt (hT 1)) trivial))));clear hT;refine xl l.length nf H hf (fun k t nf1 G=>∃(v:Value),GS G 5 v ((l.take k).flatMap Ar.c) k/\(∀b,GSb v b->H b=none)/\(t 1=T1 1/\t 8=T1 8/\t 9=T1 9)/\t 10= .int .i64 (k:Int)/\t 5=v) ⟨.slice none 0 0,GS.nil _ _,fun b h=>(Bo b h).elim,xh⟩ ?_;rintro k t nf1 G hk1 hn1 hf he ⟨v,gs,gn,uz,h10,h5⟩;have hfl:=hf;refine BO (BQ ?_);have fz:=ai h5 (ai h10 (ai uz (ai gz (ai @Ar.c.eq_1 @tJ))));refine xq (BP (BO ?_));refine C8 (fun c1=> ?_) fun c1=> ?_
 ·refine BR (BO (BS (BO (BQ ?_))));obtain⟨b,o,eA,ho⟩:=(hA.ext he) k om;have fz:=ai ho (ai eA (ai c1 fz));refine Ba ?_;refine xa fun hf=> ?_
  refine xs fun hf=> ?_
  refine BP (BO (BQ (Ba ?_)));refine qa rfl xv xv (YV _ _) (BP ?_);refine xT (BQ ?_);refine Ba ?_;refine xa fun hf=> ?_
  refine FU (ys:=Ar.c l[k]) hf rfl xv YT (gs.keep fun b hb=>by have:=hfl.lt (gs.live hb);simp(disch:=omega)only[Bn]) dZ (Bu xv rfl dZ) ⟨_,_,_,rfl,rfl⟩ rfl dZ rfl om om fun v2 G2 gs2 fr hf gb=> ?_
  have he:=Ext.fr (by(repeat refine Ext.up (hf0 _ om) ?_);exact he) (hf0 _ om) gn fr;refine xq (BP (BQ ?_));refine Ba (BP ?_);exact xe hf ⟨v2,(by rw[Gg _ _ om]at gs2;exact gs2),(fun b h=>hf0 b (by have:=gb b h;omega)),xz⟩
 ·refine xo (BO (BQ ?_));have fz:=ai c1 fz;refine Ba (BP (BT (rt ?_)));exact BW rfl (by simp(disch:=first|decide|omega)only[wx,fz];obtain rfl:k=l.length:=om;rw[List.take_length]at gs;exact⟨he,gs,gn⟩)
theorem TN(a b:Option Addr)(n c m d:Nat):B9 tz 25 [(0,.slice a n c),(1,.slice b m d)]=some (.agg #[.slice a n c,.slice b m d]):=kr
def ol(H H':Hp)(v:Value)(S:List Int)(L:List Ar):Prop:=Ext H H'/\∃A c B d,v= .agg #[.slice A S.length c,.slice B L.length d]/\GS H' 1 (.slice A S.length c) (S.flatMap intC) S.length/\GS H' 5 (.slice B L.length d) (L.flatMap Ar.c) L.length/\(∀b,GSb (.slice A S.length c) b->H b=none)/\∀b,GSb (.slice B L.length d) b->H b=none/\¬GSb (.slice A S.length c) b
theorem GS.shape{s:Nat}{v:Value}{xs:List Value}{n:Nat}(h:GS H s v xs n):∃A c,v= .slice A n c:=by
 obtain⟨_,⟨rfl,rfl⟩|⟨b,rfl,_⟩⟩:=h
 ·exact⟨_,_,rfl⟩
 ·exact⟨_,_,rfl⟩
theorem Ext.none(h:Ext H G){b:Nat}(e:G b=none):H b=none:=by
 cases hb:H b with
 |none=>rfl
 |some x=>rw[h b x hb]at e;cases e
variable{B:Option Addr}
theorem ol.mk{H1 H2 H':Hp}{S:List Int}{L:List Ar}{A:Option Addr}{c d:Nat}(e0:Ext H G)(q1:Nw G H1 1 (.slice A S.length c) (S.flatMap intC) S.length)(q2:Nw H1 H2 5 (.slice B L.length d) (L.flatMap Ar.c) L.length)(e:Ext H H')(k:∀b x,G b=none->H2 b=some x->H' b=some x):ol H H' (.agg #[.slice A S.length c,.slice B L.length d]) S L:=by
 have n1:∀b,GSb (.slice B L.length d) b->G b=none/\¬GSb (.slice A S.length c) b:=fun b h=>⟨q1.1.none (q2.2.2 b h),fun h'=>by have:=q1.2.1.live h';rw[q2.2.2 b h]at this;cases this⟩
 refine⟨e,A,c,B,d,rfl,q1.2.1.keep fun b h=> ?_,q2.2.1.keep fun b h=> ?_,fun b h=>e0.none (q1.2.2 b h),fun b h=>⟨e0.none (n1 b h).1,(n1 b h).2⟩⟩
 ·have:=q1.2.1.live h;rw[this];exact k b _ (q1.2.2 b h) (q2.1 b _ this)
 ·have:=q2.2.1.live h;rw[this];exact k b _ (n1 b h).1 this
theorem nw{S:List Int}{L:List Ar}{A:Option Addr}{c d:Nat}(hA:Rd 1 intC H A S)(hB:Rd 5 Ar.c H B L)(hS:S.length<1000000)(hL:L.length<1000000):Ct 46 [.agg #[.slice A S.length c,.slice B L.length d]] (fun v H'=>ol H H' v S L) H:=by
 refine BV Tryz.func46 rfl 10 rfl fun nf t hf hsc ht=> ?_
 have hf0:=hf;refine BO (BQ ?_);have fz:=ai @TN (ht 0 _ rfl);refine xa fun hf=> ?_
 refine xa fun hf=> ?_
 refine BP (BO (TZ H xx fun hE=> ?_));refine Bh [0,1,3,0,1,3,0,2] [0,1,3,4,2,5,6,7] kr hf ?_;iterate 4 first|refine CA ?_|refine Cq ?_
 refine dm rfl (by(repeat refine Ext.up (hf _ om) ?_);exact Ext.refl _) xv (Ya (hA.ext hE) hS) (fun _ _ q=>q.1) fun v1 H1 nf2 hl2 q1 hf=> ?_
 refine dm rfl (by(repeat refine Ext.up (hf _ om) ?_);exact Ext.refl _) xv (YZ (hB.ext (hE.trans q1.1)) hL) (fun _ _ q=>q.1) fun v2 H2 nf3 hl3 q2 hf=> ?_
 obtain⟨A1,c1,rfl⟩:=q1.2.1.shape;obtain⟨A2,c2,rfl⟩:=q2.2.1.shape;have e2:=q2.1 (nf+1) _ (q1.1 _ _ (BU _ _ _));have fz:=ai e2 fz;refine CA ?_;refine Fx fun nf4 hl4 hf=> ?_
 refine BX (BT (rt ?_));exact Ch rfl xv (ol.mk hE q1 q2 (by(repeat refine Ext.up (hf0 _ om) ?_);exact(hE.trans q1.1).trans q2.1) (fun b x e1 e2=>by rw[upd_ne (fun e=>by rw[e]at e1;simp(disch:=omega)only[wx,fz]at e1;cases e1)];exact e2))
end
end
section
open Go.Conc Go.Proofs
section
def CG(n:Nat)(a:Ar):Bool:=DS n a.f&&DS n a.t
def CN(n:Nat)(x:Ar)(j:Nat):Bool:=CG n x&&(if j%2=0 then x.f==((j/2:Nat):Int)else x.t==((j/2:Nat):Int))
def pc(n:Nat)(arcs:List Ar)(m j:Nat):List Nat:=(List.range m).filter fun a=>match arcs[a]? with|some x=>CN n x j|none=>false
theorem PE(n:Nat)(arcs:List Ar)(j:Nat):pc n arcs 0 j=[]:=rfl
theorem FS(n:Nat)(arcs:List Ar)(m j:Nat)(x:Ar)(h:arcs[m]? =some x):pc n arcs (m+1) j=pc n arcs m j++(if CN n x j then [m]else []):=by
 unfold pc;rw[List.range_succ,List.filter_append];congr 1;simp only[List.filter_cons,List.filter_nil,h]
def Ln(n:Nat)(arcs:List Ar)(j:Nat):Nat:=(pc n arcs arcs.length j).length
def St(n:Nat)(arcs:List Ar):Nat->Nat
 |0=>0
 |k+1=>St n arcs k+Ln n arcs k
theorem U0(n:Nat)(arcs:List Ar)(m j:Nat)(hm:m<=arcs.length): (pc n arcs m j).length<=Ln n arcs j:=by
 have key:∀d,m+d<=arcs.length->(pc n arcs m j).length<=(pc n arcs (m+d) j).length:=by
  intro d;induction d with
  |zero=>intro _;exact AH _
  |succ d ih=>
   intro hd;obtain⟨x,hx⟩:∃x,arcs[m+d]? =some x:=⟨_,AD om⟩;have:=ih om;rw[show m+(d+1)=m+d+1 from om,FS _ _ _ _ x hx,AN];omega
 have:=key (arcs.length - m) om;rw[show m+(arcs.length - m)=arcs.length from om]at this;exact this
theorem ZU(n:Nat)(arcs:List Ar)(m j:Nat)(x:Ar)(h:arcs[m]? =some x)(hp:CN n x j=true): (pc n arcs m j).length<Ln n arcs j:=by
 have hm:m<arcs.length:=by
  rcases Nat.lt_or_ge m arcs.length with h1|h1
  ·exact h1
  ·rw[Ap h1]at h;cases h
 have:=U0 n arcs (m+1) j hm;rw[FS _ _ _ _ x h,if_pos hp,AN]at this;simp at this;omega
theorem Wk(n:Nat)(arcs:List Ar){j k:Nat}(h:j<=k):St n arcs j<=St n arcs k:=by
 induction h with
 |refl=>exact AH _
 |step _ ih=>exact BN ih (by simp[St])
theorem cR(n:Nat)(arcs:List Ar){j k i:Nat}(h:j<k)(hi:i<Ln n arcs j):St n arcs j+i<St n arcs k:=by
 have:=Wk n arcs (show j+1<=k from h);simp only[St]at this;omega
theorem Ry(n:Nat)(arcs:List Ar){j k i i':Nat}(hi:i<Ln n arcs j)(hi':i'<Ln n arcs k)(hne:j≠k):St n arcs j+i≠St n arcs k+i':=by
 rcases Nat.lt_or_ge j k with h|h
 ·have:=cR n arcs h hi;omega
 ·have:=cR n arcs (show k<j from om) hi';omega
variable{x:Ar}
theorem D9{n:Nat}(h:CG n x=true):0<=x.f/\x.f<n/\0<=x.t/\x.t<n:=by
 simp[CG,DS]at h;omega
theorem E9{n:Nat}(h:CG n x=true)(f:Nat)(hf:x.f=f)(j:Nat)(hj:j%2=0):CN n x j=decide (j=2*f):=by
 rw[Bool.eq_iff_iff];simp[CN,h,hj,hf];omega
theorem Fl{n:Nat}(h:CG n x=true)(t:Nat)(ht:x.t=t)(j:Nat)(hj:j%2=1):CN n x j=decide (j=2*t+1):=by
 rw[Bool.eq_iff_iff];have:¬j%2=0:=om;simp[CN,h,ht,this];omega
theorem E0{n:Nat}(h:CG n x=false)(j:Nat):CN n x j=false:=by simp[CN,h]
theorem QX(l:List Nat): (l.map fun _=>0).sum=0:=by induction l<;>simp_all
theorem kz(n:Nat)(arcs:List Ar)(N:Nat):St n arcs N<=2*arcs.length:=by
 have key:∀m,m<=arcs.length->∀N,((List.range N).map fun j=>(pc n arcs m j).length).sum<=2*m:=by
  intro m;induction m with
  |zero=>intro _ N;simp only[PE,As];rw[QX];omega
  |succ m ih=>
   intro hm N;obtain⟨x,hx⟩:∃x,arcs[m]? =some x:=⟨_,AD om⟩;have e: ((List.range N).map fun j=>(pc n arcs (m+1) j).length)=(List.range N).map fun j=>(pc n arcs m j).length+(if CN n x j then 1 else 0):=by
    apply List.map_congr_left;intro j _;rw[FS _ _ _ _ x hx,AN];split<;>rfl
   have hs:∀(l:List Nat) (f g:Nat->Nat),(l.map fun j=>f j+g j).sum=(l.map f).sum+(l.map g).sum:=by
    intro l f g;induction l with
    |nil=>rfl
    |cons a l ih=>simp[ih];omega
   rw[e,hs];have h2:=ih om N;have h3: ((List.range N).map fun j=>if CN n x j then 1 else 0).sum<=2:=by
    cases hf:CG n x with
    |false=>
     have: ((List.range N).map fun j=>if CN n x j then 1 else 0)=(List.range N).map fun _=>0:=by
      apply List.map_congr_left;intro j _;rw[E0 hf];rfl
     rw[this];rw[QX];omega
    |true=>
     obtain⟨b1,b2,b3,b4⟩:=D9 hf;obtain⟨f,hfe⟩:=AI b1;obtain⟨t,hte⟩:=AI b3;have hle:∀N,((List.range N).map fun j=>if CN n x j then 1 else 0).sum<=(if 2*f<N then 1 else 0)+(if 2*t+1<N then 1 else 0):=by
      intro N;induction N with
      |zero=>simp
      |succ N ih=>
       rw[List.range_succ,List.map_append,List.sum_append];simp only[List.map_cons,List.map_nil,List.sum_cons,List.sum_nil];rcases Nat.mod_two_eq_zero_or_one N with hp|hp
       ·rw[E9 hf f hfe N hp];by_cases hN:N=2*f
        ·subst hN;simp at ih⊢;split at ih<;>split<;>omega
        ·simp only[hN,decide_false,AP,Ab];split at ih<;>split at ih<;>split<;>split<;>omega
       ·rw[Fl hf t hte N hp];by_cases hN:N=2*t+1
        ·subst hN;simp at ih⊢;split at ih<;>split<;>omega
        ·simp only[hN,decide_false,AP,Ab];split at ih<;>split at ih<;>split<;>split<;>omega
     have:=hle N;split at this<;>split at this<;>omega
   omega
 have hS:∀N,St n arcs N=((List.range N).map fun j=>(pc n arcs arcs.length j).length).sum:=by
  intro N;induction N with
  |zero=>rfl
  |succ N ih=>rw[List.range_succ,List.map_append,List.sum_append,<-ih];simp[St,Ln]
 rw[hS];exact key _ (AH _) N
def cnt(n:Nat)(arcs:List Ar)(m:Nat):Nat->Nat
 |0=>0
 |j+1=>(pc n arcs m j).length
variable{arcs:List Ar}
theorem RW{n:Nat}{m:Nat}(h:arcs[m]? =some x)(hf:CG n x=false)(j:Nat):cnt n arcs (m+1) j=cnt n arcs m j:=by
 cases j with
 |zero=>rfl
 |succ j=>simp[cnt,FS _ _ _ _ x h,E0 hf]
theorem RV{n:Nat}{m:Nat}(h:arcs[m]? =some x)(hf:CG n x=true)(f t:Nat)(hfe:x.f=f)(hte:x.t=t)(j:Nat):
  cnt n arcs (m+1) j=if j=2*t+2 then cnt n arcs m j+1 else if j=2*f+1 then cnt n arcs m j+1 else cnt n arcs m j:=by
 cases j with
 |zero=>simp[cnt]
 |succ j=>
  simp only[cnt,FS _ _ _ _ x h,AN];rcases Nat.mod_two_eq_zero_or_one j with hp|hp
  ·rw[E9 hf f hfe j hp,if_neg (show¬j+1=2*t+2 from om)];by_cases e:j=2*f
   ·rw[if_pos (show j+1=2*f+1 from om)];simp[e]
   ·rw[if_neg (show¬j+1=2*f+1 from om)];simp[e]
  ·rw[Fl hf t hte j hp];by_cases e:j=2*t+1
   ·rw[if_pos (show j+1=2*t+2 from om)];simp[e]
   ·rw[if_neg (show¬j+1=2*t+2 from om),if_neg (show¬j+1=2*f+1 from om)];simp[e]
def part(n:Nat)(arcs:List Ar)(k j:Nat):Nat:=if j<=k then St n arcs j else cnt n arcs arcs.length j
theorem XO(n:Nat)(arcs:List Ar)(j:Nat):part n arcs 0 j=cnt n arcs arcs.length j:=by
 unfold part;split
 ·have:j=0:=om;subst this;rfl
 ·rfl
theorem N0(n:Nat)(arcs:List Ar)(k j:Nat):part n arcs (k+1) j=if j=k+1 then part n arcs k (k+1)+part n arcs k k else part n arcs k j:=by
 unfold part;by_cases h:j=k+1
 ·subst h;rw[if_pos (AH _),if_pos rfl,if_neg om,if_pos (AH _)];simp[St,cnt,Ln,Nat.add_comm]
 ·rw[if_neg h];by_cases h2:j<=k
  ·rw[if_pos om,if_pos h2]
  ·rw[if_neg om,if_neg h2]
def nxt(n:Nat)(arcs:List Ar)(m j:Nat):Nat:=St n arcs j+(pc n arcs m j).length
def up{α:Type}(f:Nat->α)(k:Nat)(x:α):Nat->α:=fun j=>if j=k then x else f j
theorem EP{α:Type}(f:Nat->α){k j:Nat}(x:α)(h:j≠k):up f k x j=f j:=if_neg h
theorem HW{α:Type}(f:Nat->α)(k:Nat)(x:α):up f k x k=x:=if_pos rfl
def Kc(n:Nat)(arcs:List Ar)(m:Nat)(ls:Nat->Int):Prop:=∀j i a:Nat,j<2*n->(pc n arcs m j)[i]? =some a->ls (St n arcs j+i)=(a:Int)
theorem Kc.zero{n:Nat}{ls:Nat->Int}:Kc n arcs 0 ls:=fun j i a _ hi=>by simp[PE]at hi
theorem Kc.skip{n:Nat}{m:Nat}{ls:Nat->Int}(h:Kc n arcs m ls)(hx:arcs[m]? =some x)(hf:CG n x=false):Kc n arcs (m+1) ls:=
 fun j i a hj hi=>h j i a hj (by simpa[FS _ _ _ _ x hx,E0 hf]using hi)
theorem Kc.step{n:Nat}{m:Nat}{ls:Nat->Int}(h:Kc n arcs m ls)(hx:arcs[m]? =some x)(hf:CG n x=true)(f t:Nat)(hfe:x.f=f)(hte:x.t=t):
  Kc n arcs (m+1) (up (up ls (nxt n arcs m (2*f)) (m:Int)) (nxt n arcs m (2*t+1)) (m:Int)):=by
 obtain⟨b1,b2,b3,b4⟩:=D9 hf;have hml:m<arcs.length:=by
  rcases Nat.lt_or_ge m arcs.length with h1|h1
  ·exact h1
  ·rw[Ap h1]at hx;cases hx
 have pf:CN n x (2*f)=true:=by rw[E9 hf f hfe _ om];simp
 have pt:CN n x (2*t+1)=true:=by rw[Fl hf t hte _ om];simp
 have lf:=ZU n arcs m (2*f) x hx pf;have lt:=ZU n arcs m (2*t+1) x hx pt;intro j i a hj hi;have hlen:i<(pc n arcs (m+1) j).length:=by
  rcases Nat.lt_or_ge i (pc n arcs (m+1) j).length with h1|h1
  ·exact h1
  ·rw[Ap h1]at hi;cases hi
 have hL:=U0 n arcs (m+1) j hml;by_cases hp:CN n x j=true
 ·have hpc:=FS n arcs m j x hx;rw[if_pos hp]at hpc;rw[hpc]at hi hlen;by_cases hii:i<(pc n arcs m j).length
  ·rw[Ac hii]at hi;have hLm:=U0 n arcs m j om;have:=h j i a hj hi;rw[EP,EP,this]
   ·unfold nxt;by_cases e:j=2*f
    ·subst e;omega
    ·exact Ry n arcs om lf e
   ·unfold nxt;by_cases e:j=2*t+1
    ·subst e;omega
    ·exact Ry n arcs om lt e
  ·simp at hlen;have hie:i=(pc n arcs m j).length:=om;subst hie;rw[Ad (AH _)]at hi;simp at hi;subst hi;rcases Nat.mod_two_eq_zero_or_one j with hpar|hpar
   ·rw[E9 hf f hfe j hpar]at hp;have e:j=2*f:=by simpa using hp
    subst e;rw[EP]
    ·exact HW _ _ _
    ·unfold nxt;exact Ry n arcs lf lt om
   ·rw[Fl hf t hte j hpar]at hp;have e:j=2*t+1:=by simpa using hp
    subst e;exact HW _ _ _
 ·have hpc:=FS n arcs m j x hx;rw[if_neg hp,List.append_nil]at hpc;rw[hpc]at hi hlen;have hLm:=U0 n arcs m j om;have:=h j i a hj hi;rw[EP,EP,this]
  ·unfold nxt;refine Ry n arcs om lf (fun h=>hp ?_);rw[h];exact pf
  ·unfold nxt;refine Ry n arcs om lt (fun h=>hp ?_);rw[h];exact pt
theorem Qx{n:Nat}{m:Nat}(hx:arcs[m]? =some x)(hf:CG n x=false)(j:Nat):nxt n arcs (m+1) j=nxt n arcs m j:=by
 simp[nxt,FS _ _ _ _ x hx,E0 hf]
theorem Zj{n:Nat}{m:Nat}(hx:arcs[m]? =some x)(hf:CG n x=true)(f t:Nat)(hfe:x.f=f)(hte:x.t=t)(j:Nat):
  nxt n arcs (m+1) j=if j=2*t+1 then nxt n arcs m j+1 else if j=2*f then nxt n arcs m j+1 else nxt n arcs m j:=by
 have:=RV hx hf f t hfe hte (j+1);simp only[cnt]at this;unfold nxt;rw[this];by_cases e1:j=2*t+1
 ·rw[if_pos (show j+1=2*t+2 from om),if_pos e1];omega
 ·rw[if_neg (show¬j+1=2*t+2 from om),if_neg e1];by_cases e2:j=2*f
  ·rw[if_pos (show j+1=2*f+1 from om),if_pos e2];omega
  ·rw[if_neg (show¬j+1=2*f+1 from om),if_neg e2]
theorem mU{n:Nat}{m j i a:Nat}(h: (pc n arcs m j)[i]? =some a):a<m/\∃x,arcs[a]? =some x/\CN n x j=true:=by
 have:=Ao h;unfold pc at this;rw[List.mem_filter,An]at this;refine⟨this.1,?_⟩;revert this;cases arcs[a]? with
 |none=>intro h;cases h.2
 |some x=>intro h;exact⟨x,rfl,h.2⟩
class Cel(α:Type)(s:outParam Nat) where
 c:α->List Value
 len:∀x,(c x).length=s
instance:Cel Int 1:=⟨fun x=>[.int .i64 x],fun _=>rfl⟩
instance:Cel Bool 1:=⟨fun x=>[.bool x],fun _=>rfl⟩
theorem WX(x:Int):Cel.c x=[.int .i64 x]:=rfl
theorem TL(x:Bool):Cel.c x=[.bool x]:=rfl
def ar{α:Type}{s:Nat}[Cel α s](N:Nat)(f:Nat->α):List Value:=(List.range N).flatMap fun k=>Cel.c (f k)
section
variable{α:Type}{s:Nat}[Cel α s]
theorem Fs (N:Nat) (f:Nat->α): (ar N f).length=N*s:=by
 induction N with
 |zero=>simp[ar]
 |succ N ih=>unfold ar at ih⊢;rw[List.range_succ,BF,AN,ih];simp[Cel.len,Nat.add_mul]
theorem DR(N:Nat)(f:Nat->α):ar (N+1) f=ar N f++Cel.c (f N):=by unfold ar;rw[List.range_succ,BF];simp
theorem CH{N:Nat}{f g:Nat->α}(h:∀j,j<N->f j=g j):ar N f=ar N g:=by
 induction N with
 |zero=>rfl
 |succ N ih=>rw[DR,DR,ih fun j hj=>h j om,h N om]
theorem cG(N k:Nat)(f:Nat->α)(h:k<=N):∃l,ar N f=ar k f++l:=by
 induction h with
 |refl=>exact⟨[],by simp⟩
 |step h ih=>obtain⟨l,e⟩:=ih;exact⟨_,by rw[Nat.succ_eq_add_one,DR,e,List.append_assoc]⟩
theorem tU{N k:Nat}(f:Nat->α)(h:k<N): ((ar N f).drop (k*s)).take s=Cel.c (f k):=by
 obtain⟨l,e⟩:=cG N (k+1) f h;rw[e,DR,List.append_assoc,List.drop_append_of_le_length (by rw[Fs];exact AH _),Az (by rw[Fs];exact AH _),List.nil_append,List.take_append_of_le_length (by rw[Cel.len];exact AH _),List.take_of_length_le (by rw[Cel.len];exact AH _)]
theorem GG{N k:Nat}{f:Nat->α}(h:k<N):Cs (some (.own (ar N f))) (0+k*s) s=some (Cel.c (f k)):=by
 rw[Ez,AW,if_pos (by rw[Fs];have:=Nat.mul_le_mul_right s (show k+1<=N from om);rw[Nat.add_mul]at this;omega),tU f h]
theorem oX{N k:Nat}(f:Nat->α)(x:α)(h:k<N):Cz (ar N f) (k*s) (Cel.c x)=ar N (up f k x):=by
 induction N with
 |zero=>omega
 |succ N ih=>
  have hk:k*s+s<=(N+1)*s:=by have:=Nat.mul_le_mul_right s (show k+1<=N+1 from om);rw[Nat.add_mul]at this;omega
  rw[DR,DR];by_cases e:k=N
  ·subst e;rw[CH (g:=f) fun j hj=>EP f x om,HW];unfold Cz;rw[List.take_append_of_le_length (by rw[Fs];exact AH _),List.take_of_length_le (by rw[Fs];exact AH _),Az (by rw[AN,Fs,Cel.len,Cel.len];exact AH _),List.append_nil]
  ·rw[<-ih om,EP f x om];have hk:k*s+s<=N*s:=by have:=Nat.mul_le_mul_right s (show k+1<=N from om);rw[Nat.add_mul]at this;omega
   unfold Cz;rw[List.take_append_of_le_length (by rw[Fs];omega),List.drop_append_of_le_length (by rw[Fs,Cel.len];omega),List.append_assoc];simp only[List.append_assoc]
theorem Lk{N k:Nat}{f:Nat->α}(x:α)(h:k<N):Dp (some (.own (ar N f))) (0+k*s) (Cel.c x)=some (.own (ar N (up f k x))):=by
 rw[dI,AW,if_pos (by rw[Fs,Cel.len];have:=Nat.mul_le_mul_right s (show k+1<=N from om);rw[Nat.add_mul]at this;omega),oX f x h]
theorem ly(n:Nat)(z:α):GY ⟨Cel.c z⟩ (n*s)=ar n fun _=>z:=by
 have e: (List.range s).map (fun i=>(Array.mk (Cel.c z))[i]!)=Cel.c z:=by
  apply List.ext_getElem
  ·simp[Cel.len]
  ·intro i h1 h2;simp[h2]
 induction n with
 |zero=>simp[GY,ar]
 |succ n ih=>
  rw[DR,<-ih,Nat.add_mul,Nat.one_mul];unfold GY;rw[List.range_add,List.map_append,List.map_map];congr 1;refine(List.map_congr_left fun i hi=> ?_).trans e;have hi:=An.1 hi;have hs: (Array.mk (Cel.c z)).size=s:=Cel.len z;show(Array.mk (Cel.c z))[(n*s+i)%(Array.mk (Cel.c z)).size]! =_
  rw[hs,Nat.mul_comm,Nat.mul_add_mod,Nat.mod_eq_of_lt hi]
end
theorem Of{N k:Nat}{f:Nat->Int}{x:Int}(h:k<N):Dp (some (.own (ar N f))) (0+k*1) [.int .i64 x]=some (.own (ar N (up f k x))):=Lk x h
theorem dG{N k:Nat}{f:Nat->Bool}{x:Bool}(h:k<N):Dp (some (.own (ar N f))) (0+k*1) [.bool x]=some (.own (ar N (up f k x))):=Lk x h
theorem Ik{α:Type}{s:Nat}[Cel α s](a n b:Nat)(z:α)(hb:b<1000)(hn:n<100000000):N4 a n n s b ⟨Cel.c z⟩=some (.slice (some ⟨a,0,none⟩) n n,[(a,.own (ar n fun _=>z))]):=by
 unfold N4;have: (n:Int)*b<=281474976710656:=by
  have h1:n*b<=100000000*1000:=Nat.mul_le_mul om om;rw[<-Int.natCast_mul];omega
 rw[if_pos ⟨om,om,om,this⟩,Aa,ly]
theorem Sr(a n:Nat)(hn:n<100000000):N4 a n n 1 8 ⟨[.int .i64 0]⟩=some (.slice (some ⟨a,0,none⟩) n n,[(a,.own (ar n fun _=>(0:Int)))]):=Ik a n 8 (0:Int) dZ hn
theorem fh(a n:Nat)(hn:n<100000000):N4 a n n 1 1 ⟨[.bool false]⟩=some (.slice (some ⟨a,0,none⟩) n n,[(a,.own (ar n fun _=>false))]):=Ik a n 1 false dZ hn
section
theorem wS: (∀{α:Type} {s:Nat} [Cel α s] {N k:Nat} {f:Nat->α},k<N->Cs (some (.own (ar N f))) (0+k*s) s=some (Cel.c (f k)))/\(∀x:Int,Cel.c x=[.int .i64 x])/\(∀x:Bool,Cel.c x=[.bool x])/\(∀{N k:Nat} {f:Nat->Int} {x:Int},k<N->Dp (some (.own (ar N f))) (0+k*1) [.int .i64 x]=some (.own (ar N (up f k x))))/\(∀{N k:Nat} {f:Nat->Bool} {x:Bool},k<N->Dp (some (.own (ar N f))) (0+k*1) [.bool x]=some (.own (ar N (up f k x))))/\(∀{a n:Nat},n<100000000->N4 a n n 1 8 ⟨[.int .i64 0]⟩=some (.slice (some ⟨a,0,none⟩) n n,[(a,.own (ar n fun _=>(0:Int)))]))/\(∀{a n:Nat},n<100000000->N4 a n n 1 1 ⟨[.bool false]⟩=some (.slice (some ⟨a,0,none⟩) n n,[(a,.own (ar n fun _=>false))])):=
 ⟨GG,WX,TL,Of,dG,fun h=>Sr _ _ h,fun h=>fh _ _ h⟩
theorem wQ:∀{x:Int}, -9223372036854775808<=x/\x<9223372036854775808->IntKind.i64.wrap x=x:=uZ
end
theorem wy:type_of%wz/\(type_of% @wS)/\type_of% @wQ:=⟨wz,@wS,@wQ⟩
theorem hx.wx:type_of%wy:=wy
end
end
section
open Go.Conc Go.Proofs hx
variable[Md]
theorem wJ{H:Hp}{a b n c:Nat}{xs:List Value}(h:H b=some (.own xs))(hl:xs.length=n)(hz:0<n)(hn:n<10000000)(ho:xs.all (·.oneCell')=true)(p:Addr):B5 tz H a 27 27 (.slice (some p) 0 0) (.slice (some ⟨b,0,none⟩) n c)=some (.slice (some ⟨a,0,none⟩) n (CJ+1),[(a,.own xs)]):=by
 obtain⟨e,q,h1,h2,h3,h4⟩:=QP.ex;have hr:ER H q.size n (.slice (some ⟨b,0,none⟩) n c)=some xs:=Ht om om (by rw[h,Ez,h3,Nat.mul_one,AW,if_pos om,List.drop_zero,<-hl,List.take_length]);unfold B5;simp only[Ag,h1,h2,hr,ho];unfold K5;dsimp only;rw[if_neg om,if_neg om,if_pos ⟨by rw[h4];omega,om,by rw[h3];decide⟩,if_pos ⟨rfl,by unfold CJ;omega⟩,h3]
theorem Pn(N:Nat)(f:Nat->Int): (ar N f).all (·.oneCell')=true:=by
 induction N with
 |zero=>rfl
 |succ N ih=>rw[DR,List.all_append,ih];rfl
theorem tI(a:Nat):D0 tz a 27 0 []=some (.slice (some ⟨a,0,none⟩) 0 0,[(a,.own [])]):=kr
theorem vk(p:Addr)(n c:Nat):Cr tz .eql 27 (.slice (some p) n c) (.slice none 0 0)=some (.bool false):=kr
theorem gu{H:Hp}{b n c:Nat}{f:Nat->Int}(hb:H b=some (.own (ar n f)))(hz:0<n)(hn:n<10000000):Ct 104 [.slice (some ⟨b,0,none⟩) n c] (fun v H'=>Ext H H'/\∃b' c',v= .slice (some ⟨b',0,none⟩) n c'/\H' b'=some (.own (ar n f))/\H b'=none) H:=by
 refine BV Tryz.func104 rfl 8 rfl fun nf t hf hsc ht=> ?_
 have hf0:=hf;have lb:=hf.lt hb;refine BO (BQ ?_);have fz:=ai @vk (ai @tI (ht 0 _ rfl));refine xq (BP (BO (BO (BQ ?_))));refine Ba (BP ?_);refine xF (BR (BO (BQ ?_)));refine xa fun hf=> ?_
 refine xq ?_;refine oa hf rfl (by simp only[wz,wx,fz];exact wJ (b:=b) (by simp(disch:=first|decide|omega)only[wx,fz,hb]) (by rw[Fs,Nat.mul_one]) hz hn (Pn n f) _) fun hf=> ?_
 refine xq (BP (BT (rt ?_)));exact BW rfl ⟨by(repeat refine Ext.up (hf0 _ om) ?_);exact Ext.refl _,_,_,by simp(disch:=first|decide|omega)only[wx,fz]<;>rfl,BU _ _ _,hf0 _ om⟩
theorem dQ(g:Nat->Nat)(k x:Nat):up (fun j=>((g j:Nat):Int)) k (x:Int)=fun j=>((up g k x j:Nat):Int):=by
 funext j;unfold up;split<;>rfl
theorem jB{H:Hp}{gs ns g lb nb:Nat}{N M cl cn:Nat}{u v w:Value}{ls:Nat->Int}{nx:Nat->Nat}{k:Nat}{a:Int}(h1:H gs=some (.own [.pointer (some ⟨g,0,none⟩)]))(h2:H ns=some (.own [.slice (some ⟨nb,0,none⟩) N cn]))(h3:H g=some (.own [u,v,.slice (some ⟨lb,0,none⟩) M cl,w]))(h4:H lb=some (.own (ar M ls)))(h5:H nb=some (.own (ar N fun j=>(nx j:Int))))(hk:k<N)(hx:nx k<M)(hM:M<10000000)(hd:ns≠lb/\nb≠lb):Ct 105 [.int .i64 (k:Int),.int .i64 a,.pointer (some ⟨gs,0,none⟩),.pointer (some ⟨ns,0,none⟩)] (fun _ H'=>H'=upd (upd H lb (some (.own (ar M (up ls (nx k) a))))) nb (some (.own (ar N fun j=>((up nx k (nx k+1) j:Nat):Int))))) H:=by
 refine BV Tryz.func105 rfl 22 rfl fun nf t hf hsc ht=> ?_
 have hf0:=hf;have h1:=ht 1 _ rfl;have h2:=ht 2 _ rfl;have h3:=ht 3 _ rfl;have e1:=h1;have e2:=h2;have e3:=h3;have e4:=h4;have e5:=h5;clear h1 h2 h3 h4 h5;have lb1:=hf.lt e4;have lb2:=hf.lt e5;refine BO (Bh [1,0,0,1,1,0,0,1,0,0,2] [0,1,2,3,4,5,6,7,8,9,10] kr hf ?_);have fz:=ai @Of (ai @WX (ai @GG (ai e5 (ai e4 (ai e3 (ai e2 (ai e1 (ai h3 (ai h2 (ai h1 (ht 0 _ rfl)))))))))));iterate 10 first|refine CA ?_|refine Cq ?_
 refine Fx fun nf2 hl2 hf=> ?_
 refine BX (BQ (Dk ?_));refine xs fun hf=> ?_
 refine BP ?_;refine Ji ?_ rfl;refine rt ?_;exact HQ rfl (by rw[<-dQ];rfl)
section
theorem Wl(n:Nat)(L:List Ar):St n L (2*n)<=2*L.length:=kz n L _
theorem PF(n:Nat)(L:List Ar)(m j:Nat): (pc n L m j).length<=m:=by
 unfold pc;exact BN (List.length_filter_le _ _) (by rw[List.length_range];exact AH _)
theorem bM(n:Nat)(L:List Ar)(m j:Nat):cnt n L m j<=m:=by
 cases j with
 |zero=>exact Nat.zero_le _
 |succ j=>exact PF n L m j
variable{b g m n:Nat}{L:List Ar}
theorem Zk{j:Nat}(h:m<=L.length)(hj:j<2*n){x:Ar}(hx:L[m]? =some x)(hp:CN n x j=true):nxt n L m j<St n L (2*n):=by
 unfold nxt;exact cR n L hj (ZU n L m j x hx hp)
def cD(n:Nat)(x:Ar):Ar:=if CG n x=true then x else⟨0,0,0,0,0⟩
theorem TQ{k:Nat}(h:k<L.length):Rn n L k= .tuple #[(cD n L[k]).v,.bool (CG n L[k])]:=by
 rw[Pm h];unfold cD CG;split
 ·rename_i e;rw[e]
 ·rename_i e;rw[Bool.not_eq_true]at e;rw[e];rfl
def Wp(H:Hp)(g n:Nat)(L:List Ar):Prop:=∃B c lb sb cs ls,H g=some (.own [.int .i64 n,.slice B L.length c,.slice (some ⟨lb,0,none⟩) (St n L (2*n)) (St n L (2*n)),.slice (some ⟨sb,0,none⟩) (2*n+1) cs])/\Rd 5 Ar.c H B L/\H lb=some (.own (ar (St n L (2*n)) ls))/\Kc n L L.length ls/\H sb=some (.own (ar (2*n+1) fun j=>(St n L j:Int)))
variable{G H:Hp}
theorem Wp.ext(h:Wp H g n L)(e:Ext H G):Wp G g n L:=by
 obtain⟨B,c,lb,sb,cs,ls,h1,h2,h3,h4,h5⟩:=h;exact⟨B,c,lb,sb,cs,ls,e _ _ h1,h2.ext e,e _ _ h3,h4,e _ _ h5⟩
theorem Wp.a(h:Wp H g n L):pM H g n L:=by
 obtain⟨B,c,lb,sb,cs,ls,h1,h2,h3,h4,h5⟩:=h;exact⟨B,c,_,_,h1,h2⟩
theorem bK(hm:m<L.length)(h:CG n L[m]=true)(f t:Nat)(hf:L[m].f=f)(ht:L[m].t=t){a b:Int}(ha:a=(cnt n L m (2*f+1):Int)+1)(hb:b=(cnt n L m (2*t+2):Int)+1):ar (2*n+1) (up (up (fun j=>(cnt n L m j:Int)) (2*f+1) a) (2*t+2) b)=ar (2*n+1) fun j=>(cnt n L (m+1) j:Int):=by
 subst ha hb;refine CH fun j _=> ?_
 rw[RV (AD hm) h f t hf ht];unfold up;by_cases e:j=2*t+2
 ·rw[if_pos e,if_pos e,e];omega
 ·rw[if_neg e,if_neg e];by_cases e:j=2*f+1
  ·rw[if_pos e,if_pos e,e];omega
  ·rw[if_neg e,if_neg e]
theorem Zi(hm:m<L.length)(h:CG n L[m]=true)(f t:Nat)(hf:L[m].f=f)(ht:L[m].t=t)(j:Nat):up (up (nxt n L m) (2*f) (nxt n L m (2*f)+1)) (2*t+1) (up (nxt n L m) (2*f) (nxt n L m (2*f)+1) (2*t+1)+1) j=nxt n L (m+1) j:=by
 rw[Zj (AD hm) h f t hf ht];unfold up;by_cases e:j=2*t+1
 ·rw[if_pos e,if_pos e,if_neg om,e]
 ·rw[if_neg e,if_neg e];by_cases e:j=2*f
  ·rw[if_pos e,if_pos e,e]
  ·rw[if_neg e,if_neg e]
theorem ZX(n:Nat)(L:List Ar)(k:Nat):part n L k (k+1)+part n L k k=St n L (k+1):=by
 have:=N0 n L k (k+1);rw[if_pos rfl]at this;rw[<-this];exact if_pos (AH _)
theorem fP(n:Nat)(L:List Ar)(N k:Nat):ar N (up (fun j=>(part n L k j:Int)) (k+1) ((part n L k (k+1):Int)+part n L k k))=ar N fun j=>(part n L (k+1) j:Int):=by
 refine CH fun j _=> ?_
 rw[N0];unfold up;by_cases e:j=k+1
 ·rw[if_pos e,if_pos e];omega
 ·rw[if_neg e,if_neg e]
theorem bL(n:Nat)(L:List Ar)(N:Nat):ar N (fun j=>(cnt n L L.length j:Int))=ar N fun j=>(part n L 0 j:Int):=CH fun j _=>by rw[XO]
theorem fQ(n:Nat)(L:List Ar):ar (2*n+1) (fun j=>(part n L (2*n) j:Int))=ar (2*n+1) fun j=>(St n L j:Int):=CH fun j h=>by unfold part;rw[if_pos om]
theorem fO{x:Ar}{f:Nat}(h:CG n x=true)(hf:x.f=f):CN n x (2*f)=true:=by rw[E9 h f hf _ om];simp
theorem fM{x:Ar}{t:Nat}(h:CG n x=true)(ht:x.t=t):CN n x (2*t+1)=true:=by rw[Fl h t ht _ om];simp
theorem uo(a b:Option Addr)(n c m d:Nat):KA tz 25 1 (.agg #[.slice a n c,.slice b m d])=some (.slice b m d):=kr
theorem tD(n m:Nat)(B:Option Addr)(d:Nat):B9 tz 159 [(0,.int .i64 n),(1,.slice B m d)]=some (.agg #[.int .i64 n,.slice B m d,.slice none 0 0,.slice none 0 0]):=kr
theorem Ext.both(h:Ext G H)(x:AB):Ext (upd G b (some x)) (upd H b (some x)):=fun c y hc=>by
 by_cases e:c=b
 ·subst e;rw[BU]at hc⊢;exact hc
 ·rw[upd_ne e]at hc⊢;exact h c y hc
theorem mY{S:List Int}(G:Hp)(v:Value)(H:Hp)(b:Nat)(x:AB)(h:ol G H v S L)(_:Ext G H)(hb:H b=none):ol (upd G b (some x)) (upd H b (some x)) v S L:=by
 obtain⟨e,A,c,B,d,rfl,g1,g2,h1,h2⟩:=h;have n1:∀b',GSb (.slice A S.length c) b'->b'≠b:=fun b' h' e=>by have:=g1.live h';rw[e,hb]at this;cases this
 have n2:∀b',GSb (.slice B L.length d) b'->b'≠b:=fun b' h' e=>by have:=g2.live h';rw[e,hb]at this;cases this
 exact⟨e.both x,A,c,B,d,rfl,g1.keep fun b' h'=>upd_ne (n1 b' h'),g2.keep fun b' h'=>upd_ne (n2 b' h'),fun b' h'=>by rw[upd_ne (n1 b' h')];exact h1 b' h',fun b' h'=>by rw[upd_ne (n2 b' h')];exact h2 b' h'⟩
def TW(H H':Hp)(v:Value)(n:Nat)(L:List Ar):Prop:=Ext H H'/\∃g D,v= .pointer (some ⟨g,0,none⟩)/\Ext D H'/\Wp D g n L/\∀b x,D b=some x->H b=none
variable{B:Option Addr}
theorem TW.mk{c lb sb cs:Nat}{ls:Nat->Int}(e:Ext H G)(h1:G g=some (.own [.int .i64 n,.slice B L.length c,.slice (some ⟨lb,0,none⟩) (St n L (2*n)) (St n L (2*n)),.slice (some ⟨sb,0,none⟩) (2*n+1) cs]))(h2:GS G 5 (.slice B L.length c) (L.flatMap Ar.c) L.length)(h3:G lb=some (.own (ar (St n L (2*n)) ls)))(h4:Kc n L L.length ls)(h5:G sb=some (.own (ar (2*n+1) fun j=>(St n L j:Int))))(n1:H g=none)(n2:∀b,GSb (.slice B L.length c) b->H b=none)(n3:H lb=none)(n5:H sb=none):TW H G (.pointer (some ⟨g,0,none⟩)) n L:=by
 have k:∀b,H b=none->(fun b=>match H b with|none=>G b|some _=>none:Hp) b=G b:=fun b hb=>by dsimp only;rw[hb]
 obtain⟨B2,c2,e2,rd⟩:=(h2.keep fun b hb=>k b (n2 b hb)).rd (f:=Ar.c) (fun _=>rfl);cases e2
 refine⟨e,g,fun b=>match H b with|none=>G b|some _=>none,rfl,fun b x hb=> ?_,⟨B,c,lb,sb,cs,ls,(k _ n1).trans h1,rd,(k _ n3).trans h3,h4,(k _ n5).trans h5⟩,fun b x hb=> ?_⟩
 ·dsimp only at hb;split at hb
  ·exact hb
  ·cases hb
 ·dsimp only at hb;split at hb
  ·assumption
  ·cases hb
theorem Px{top:Bool}{c:Code}{Q:QT}{A:AF}(h:∀M,M=H->WC Tryz.prog top c Q A M):WC Tryz.prog top c Q A H:=h H rfl
theorem Rk{M:Hp}{a nf:Nat}(he:Ext H M)(h1:H a=none)(h2:H b=none)(hf:Fr M nf):∃K,Ext H K/\Ext K M/\K a=none/\K b=none/\Fr K nf/\∀c,c≠a->c≠b->K c=M c:=by
 refine⟨fun c=>if c=a\/c=b then none else M c,fun c x hc=> ?_,fun c x hc=> ?_,if_pos (.inl rfl),if_pos (.inr rfl),fun c hc=> ?_,fun c n1 n2=>if_neg fun h=>h.elim n1 n2⟩
 ·dsimp only;rw[if_neg fun h=>by rcases h with rfl|rfl<;>simp_all];exact he c x hc
 ·dsimp only at hc;split at hc
  ·cases hc
  ·exact hc
 ·dsimp only;split
  ·rfl
  ·exact hf c hc
set_option maxHeartbeats 1600000 in
theorem jJ{S:List Int}{A:Option Addr}{c d:Nat}(hA:Rd 1 intC H A S)(hB:Rd 5 Ar.c H B L)(hS:S.length<1000000)(hL:L.length<1000000):Ct 52 [.agg #[.slice A S.length c,.slice B L.length d]] (fun v H'=>TW H H' v S.length L) H:=by
 refine BV Tryz.func52 rfl 151 rfl fun nf t hf hsc ht=> ?_
 have hf0:=hf;refine BO (BQ ?_);have fz:=ai @uo (ai @tD (ht 0 _ rfl));refine xa fun hf=> ?_
 refine xq (BP (BO ?_));refine TZ H xx fun heB=> ?_
 refine Ta (fun G v H=>ol G H v S L) (mY) [0,1,0,1,6,0,0,5,5,2] [0,1,2,3,8,4,5,6,7,9] kr hf ?_;iterate 4 first|refine CA ?_|refine Cq ?_
 refine d5 rfl (Ext.refl _) hf (fun b=>xv) (fun b8 nf2 hb8 hl2 hn8 hf xB=> ?_);refine d6 rfl xB xv (fun G1 hG=>(nw (hA.ext (heB.trans hG)) (hB.ext (heB.trans hG)) hS hL).mono fun v H q=>⟨q.1,q⟩) (fun v1 H1 nf3 hl3 q1 x1 xB hf=> ?_);have he:=heB.trans xB;obtain⟨_,A1,c1,B1,d1,rfl,gs1,gs2, -,fr2⟩:=q1;have fr3:∀b,GSb (.slice B1 L.length d1) b->b≠b8/\H b=none:=fun b h=>by
  have q:=(fr2 b h).1;have n:b≠b8:=fun e=>by rw[e,BU]at q;cases q
  rw[upd_ne n]at q;exact⟨n,heB.none' q⟩
 have e8:=x1 b8 _ (BU _ _ _);have e21:2*(S.length:Int)+1=((2*S.length+1:Nat):Int):=om;have fz:=ai e8 (ai e21 fz);iterate 2 refine CA ?_
 refine d5 rfl xB hf (fun b=>xv) (fun b7 nf4 hb7 hl4 hn7 hf xB=> ?_);have n87:b8≠b7:=fun e=>by rw[<-e,e8]at hn7;cases hn7
 refine Fx fun nf5 hl5 hf=> ?_
 refine BX (BO ?_);refine Px fun M hM=> ?_
 have m8:M b8=some (.own [.pointer (some ⟨b7,0,none⟩)]):=by rw[hM];simp(disch:=omega)only[wx,fz]
 have m7:M b7=some (.own [.int .i64 S.length,.slice B1 L.length d1,.slice none 0 0,.slice none 0 0]):=by rw[hM];simp(disch:=omega)only[wx,fz]
 have hf:Fr M nf5:=by rw[hM];exact hf
 have l7:=hf.lt m7;have l8:=hf.lt m8;have z8:H b8=none:=heB.none' hn8;have z7:H b7=none:=he.none' hn7;have heM:Ext H M:=by rw[hM];exact Ext.up z8 (Ext.up z7 he)
 obtain⟨K,kH,kM,k7,k8,hfK,kk⟩:=Rk heM z7 z8 hf;have hf0:∀c,nf5<=c\/c=b7\/c=b8->K c=none:=by
  rintro c (h|rfl|rfl)<;>first|exact hfK _ h|assumption
 have gs4:GS K 5 (.slice B1 L.length d1) (L.flatMap Ar.c) L.length:=gs2.keep fun b h=>by
  have hb:=gs2.live h;have n7:b≠b7:=fun e=>by rw[e,hn7]at hb;cases hb
  have n8:=(fr3 b h).1;rw[kk _ n7 n8,hM,upd_ne n8,upd_ne n7]
 obtain⟨B2,c2,e2,rd⟩:=gs4.rd (f:=Ar.c) (fun _=>rfl);cases e2
 clear hM;have he:=kM;refine Bh [1,1,0,0,1,0,0,4,0,0,2] [0,1,2,3,4,5,6,7,8,9,10] kr hf ?_;have fz:=ai m7 (ai m8 fz);iterate 7 first|refine CA ?_|refine Cq ?_
 refine Wr ?_;iterate 2 refine CA ?_
 refine Fx fun nf6 hl6 hf=> ?_
 refine BX (BO (BO (BQ (Dk (BP (BS ?_))))));refine By fun T1 hT=> ?_
 have gz:=ai (xt (hT 36)) (ai (xt (hT 35)) (ai (xt (hT 3)) trivial));clear hT;refine xl L.length nf K hf (fun k t nf1 G=>G (nf5+7)=some (.own (ar (2*S.length+1) fun j=>(cnt S.length L k j:Int)))/\(t 3=T1 3/\t 35=T1 35)/\t 36= .int .i64 (k:Int)/\G (b8)=some (.own [.pointer (some ⟨b7,0,none⟩)])/\G (b7)=some (.own [.int .i64 S.length,.slice B1 L.length d1,.slice none 0 0,.slice (some ⟨nf5+7,0,none⟩) (2*S.length+1) (2*S.length+1)])) ⟨(by simp(disch:=omega)only[wx,fz];exact congrArg _ (congrArg _ (CH fun j _=>by cases j<;>rfl))),xh⟩ ?_;rintro k t nf1 G hk1 hn1 hf he ⟨bs,uz,h36,b0,b1⟩;have hfl:=hf;have l0:=hf.lt b0;have l1:=hf.lt b1;have l9:=hf.lt bs;refine BO (BQ ?_);have fz:=ai @EP (ai bs (ai b1 (ai b0 (ai h36 (ai uz gz)))));refine xq (BP (BO ?_));refine C8 (fun c1=> ?_) fun c1=> ?_
 ·refine BR (BO (BS (BO (BQ ?_))));have fz:=ai c1 fz;refine Ba (BP (BO (BQ ?_)));refine Ba ?_;refine xp (h:=bv ⟨_,_,_,_,b1,rd.ext he⟩ _) (k:= ?_);refine xq ?_;have aG:=TQ (n:=S.length) (show k<L.length from om);have fz:=ai @Ar.v.eq_1 (ai aG fz);refine Ba ?_;refine xa fun hf=> ?_
  refine xs fun hf=> ?_
  refine xq (BP (BO (BQ ?_)));refine xq (BP ?_);refine xi (fun c2=> ?_) fun c2=> ?_
  ·have eE:cD S.length L[k]=L[k]:=if_pos c2;obtain⟨u1,u2,u3,u4⟩:=D9 c2;obtain⟨f,ef⟩:=AI u1;obtain⟨t3,et⟩:=AI u3;have x1: (2*(f:Int)+0+1).toNat=2*f+1:=om;have x2: (2*(t3:Int)+1+1).toNat=2*t3+2:=om;have z1:=bM S.length L k (2*f+1);have z2:=bM S.length L k (2*t3+2);refine BO (Bh [1,0,0,1,0,1,0,0,0,0,1,0,0,2] [0,1,2,3,4,5,6,7,8,9,10,11,12,13] kr hf ?_);have fz:=ai x2 (ai x1 (ai et (ai ef (ai eE (ai c2 fz)))));iterate 13 first|refine CA ?_|refine Cq ?_
   refine Fx fun nf7 hl7 hf=> ?_
   refine BX (Bh [1,0,0,1,0,1,0,0,0,0,1,0,0,2] [0,1,2,3,4,5,6,7,8,9,10,11,12,13] kr hf ?_);iterate 13 first|refine CA ?_|refine Cq ?_
   refine Fx fun nf8 hl8 hf=> ?_
   refine BX (BQ (Ba (BP ?_)));exact xe hf ⟨(by simp(disch:=omega)only[wx,fz];first|rw[bK om c2 f t3 ef et rfl rfl]|exact congrArg _ (congrArg _ (CH fun j _=>by rw[RW (AD om) c2]))),xz⟩
  ·refine BR (BQ ?_);have fz:=ai c2 fz;refine Ba (BP ?_);exact xe hf ⟨(by simp(disch:=omega)only[wx,fz];first|rw[bK om c2 f t3 ef et rfl rfl]|exact congrArg _ (congrArg _ (CH fun j _=>by rw[RW (AD om) c2]))),xz⟩
 ·refine xo (BO (BO ?_));obtain rfl:k=L.length:=om;rw[bL]at bs fz;refine BQ ?_;have fz:=ai c1 fz;refine Dk (BP (BS ?_));refine By fun T2 hT=> ?_
  have gz:=ai (xt (hT 78)) (ai (xt (hT 77)) (ai (xt (hT 3)) gz));clear hT;refine xl (2*S.length) nf K hf (fun k t nf1 G=>G (nf5+7)=some (.own (ar (2*S.length+1) fun j=>(part S.length L k j:Int)))/\(t 3=T2 3/\t 77=T2 77)/\t 78= .int .i64 (k:Int)/\G b8=some (.own [.pointer (some ⟨b7,0,none⟩)])/\G b7=some (.own [.int .i64 S.length,.slice B1 L.length d1,.slice none 0 0,.slice (some ⟨nf5+7,0,none⟩) (2*S.length+1) (2*S.length+1)])) ⟨xy,xh⟩ ?_;rintro k t nf1 G hk2 hn2 hf he ⟨bs,uz,h78,b0,b1⟩;have hfl:=hf;have l0:=hf.lt b0;have l1:=hf.lt b1;have l9:=hf.lt bs;have x3: ((k:Int)+1).toNat=k+1:=om;have z3:=ZX S.length L k;have z5:=kz S.length L (k+1);refine BO (BQ ?_);have fz:=ai x3 (ai bs (ai b1 (ai b0 (ai h78 (ai uz gz)))));refine xq (BP (BO ?_));refine C8 (fun c3=> ?_) fun c3=> ?_
  ·refine BR (BO (BS (BO (BQ ?_))));have fz:=ai c3 fz;refine Ba (BP ?_);refine Bh [1,0,0,1,0,0,0,1,1,0,0,1,0,0,1,0,0,2] [0,1,2,3,4,5,6,7,8,9,10,11,12,13,14,15,16,17] kr hf ?_;iterate 17 first|refine CA ?_|refine Cq ?_
   refine Fx fun nf9 hl9 hf=> ?_
   refine BX (BQ (Ba (BP ?_)));exact xe hf ⟨(by simp(disch:=omega)only[wx,fz];rw[fP]),xz⟩
  ·refine xo (BO ?_);obtain rfl:k=2*S.length:=om;rw[fQ]at bs fz;obtain⟨nl,el⟩:∃x,x=nf1:=⟨_,rfl⟩;subst el;have x4: (2*(S.length:Int)).toNat=2*S.length:=om;have z4:=Wl S.length L;refine Bh [1,1,0,0,1,1,0,0,1,0,0,1,4,0,0,2] [0,1,2,3,4,5,6,7,8,9,10,11,12,13,14,15] kr hf ?_;have fz:=ai x4 (ai c3 fz);iterate 12 first|refine CA ?_|refine Cq ?_
   refine Wr ?_;iterate 2 refine CA ?_
   refine Fx fun nf10 hl10 hf=> ?_
   refine BX (BO (BQ (Dv ?_)));refine xc (h:=gu (b:=nf5+7) (n:=2*S.length+1) (f:=fun j=>(St S.length L j:Int)) xv om om) (k:=fun v2 H2 nf11 hl11 q2 hf=> ?_);obtain⟨qe,nb,cn,rfl,q5,q6⟩:=q2;have p8:H2 b8=some (.own [.pointer (some ⟨b7,0,none⟩)]):=qe _ _ xv;have p7:H2 b7=some (.own [.int .i64 S.length,.slice B1 L.length d1,.slice (some ⟨nl+12,0,none⟩) (St S.length L (2*S.length)) (St S.length L (2*S.length)),.slice (some ⟨nf5+7,0,none⟩) (2*S.length+1) (2*S.length+1)]):=qe _ _ xv;have ps:H2 (nf5+7)=some (.own (ar (2*S.length+1) fun j=>(St S.length L j:Int))):=qe _ _ xv;have pl:H2 (nl+12)=some (.own (ar (St S.length L (2*S.length)) fun _=>(0:Int))):=qe _ _ xv;have n8:nb≠b8:=fun e=>by rw[e]at q6;simp(disch:=omega)only[wx,fz]at q6;cases q6
   have n7:nb≠b7:=fun e=>by rw[e]at q6;simp(disch:=omega)only[wx,fz]at q6;cases q6
   have ns:nb≠nf5+7:=fun e=>by rw[e]at q6;simp(disch:=omega)only[wx,fz]at q6;cases q6
   have n12:nb≠nl+12:=fun e=>by rw[e]at q6;simp(disch:=omega)only[wx,fz]at q6;cases q6
   have kb:K nb=none:=Ext.none' (by(repeat refine Ext.up (hf0 _ om) ?_);exact he) q6;have hf0:∀c,nf5<=c\/c=b7\/c=b8\/c=nb->K c=none:=by
    rintro c (h|rfl|rfl|rfl)<;>first|exact hfK _ h|assumption
   have he:Ext K H2:=Ext.trans (by(repeat refine Ext.up (hf0 _ om) ?_);exact he) qe;have l8:=hf.lt p8;have l7:=hf.lt p7;have ls5:=hf.lt ps;have ll:=hf.lt pl;have lq:=hf.lt q5;have fz:=ai q5 (ai pl (ai ps (ai p7 (ai p8 fz))));refine xa fun hf=> ?_
   refine xs fun hf=> ?_
   refine BP (BO (BQ (Ba (BP (BO (BO (BQ ?_)))))));refine Dk (BP (BS ?_));refine By fun T3 hT=> ?_
   have gz:=ai (xt (hT 125)) (ai (xt (hT 124)) (ai (xt (hT 9)) (ai (xt (hT 3)) gz)));clear hT;refine xl L.length nf K hf (fun k t nf1 G=>∃(ls:Nat->Int),G (nl+12)=some (.own (ar (St S.length L (2*S.length)) ls))/\Kc S.length L k ls/\G nb=some (.own (ar (2*S.length+1) fun j=>(nxt S.length L k j:Int)))/\(t 3=T3 3/\t 9=T3 9/\t 124=T3 124)/\t 125= .int .i64 (k:Int)/\G b8=some (.own [.pointer (some ⟨b7,0,none⟩)])/\G b7=some (.own [.int .i64 S.length,.slice B1 L.length d1,.slice (some ⟨nl+12,0,none⟩) (St S.length L (2*S.length)) (St S.length L (2*S.length)),.slice (some ⟨nf5+7,0,none⟩) (2*S.length+1) (2*S.length+1)])/\G nf11=some (.own [.slice (some ⟨nb,0,none⟩) (2*S.length+1) cn])/\G (nf5+7)=some (.own (ar (2*S.length+1) fun j=>(St S.length L j:Int)))) ⟨fun _=>0,xv,Kc.zero,(by simp(disch:=omega)only[wx,fz];exact congrArg _ (congrArg _ (CH fun j _=>by simp[nxt,PE]))),xh⟩ ?_;rintro k t nf1 G hk3 hn3 hf he ⟨ls,bl,hL3,bn,uz,h125,b0,b1,b2,b3⟩;have hfl:=hf;have l0:=hf.lt b0;have l1:=hf.lt b1;have l2:=hf.lt b2;have l3:=hf.lt b3;have l12:=hf.lt bl;have lnb:=hf.lt bn;refine BO (BQ ?_);have fz:=ai @EP (ai bn (ai bl (ai b3 (ai b2 (ai b1 (ai b0 (ai h125 (ai uz gz))))))));refine xq (BP (BO ?_));refine C8 (fun c4=> ?_) fun c4=> ?_
   ·refine BR (BO (BS (BO (BQ ?_))));have fz:=ai c4 fz;refine Ba (BP (BO (BQ ?_)));refine Ba ?_;refine xp (h:=bv ⟨_,_,_,_,b1,rd.ext he⟩ _) (k:= ?_);refine xq ?_;have aG:=TQ (n:=S.length) (show k<L.length from om);have fz:=ai @Ar.v.eq_1 (ai aG fz);refine Ba ?_;refine xa fun hf=> ?_
    refine xs fun hf=> ?_
    refine xq (BP (BO (BQ ?_)));refine xq (BP ?_);refine xi (fun c5=> ?_) fun c5=> ?_
    ·have eE:cD S.length L[k]=L[k]:=if_pos c5;obtain⟨u1,u2,u3,u4⟩:=D9 c5;obtain⟨f,ef⟩:=AI u1;obtain⟨t3,et⟩:=AI u3;have x1:2*(f:Int)+0=((2*f:Nat):Int):=om;have x2:2*(t3:Int)+1=((2*t3+1:Nat):Int):=om;have z1:=Zk (n:=S.length) (Nat.le_of_lt (show k<L.length from om)) om (AD om) (fO c5 ef);have z2:=Zk (n:=S.length) (Nat.le_of_lt (show k<L.length from om)) om (AD om) (fM c5 et);refine BO (BQ ?_);have fz:=ai x2 (ai x1 (ai et (ai ef (ai eE (ai c5 fz)))));refine Dk ?_;refine wY hf rfl xv xv (jB (gs:=b8) (ns:=nf11) (g:=b7) (lb:=nl+12) (nb:=nb) (N:=2*S.length+1) (M:=St S.length L (2*S.length)) xv xv xv xv xv om z1 om ⟨om,om⟩) fun v3 H3 nf12 hl12 q3 hf=> ?_
     refine BP ?_;subst q3;refine BQ (Dk ?_);refine wY hf rfl xv xv (jB (gs:=b8) (ns:=nf11) (g:=b7) (lb:=nl+12) (nb:=nb) (N:=2*S.length+1) (M:=St S.length L (2*S.length)) xv xv xv xv xv om (by rw[EP _ _ om];exact z2) om ⟨om,om⟩) fun v4 H4 nf13 hl13 q4 hf=> ?_
     refine BP ?_;try subst q4
     refine BQ (Ba (BP ?_));exact xe hf ⟨_,xv,(by first|exact hL3.step (AD om) c5 f t3 ef et|exact hL3.skip (AD om) c5),(by simp(disch:=omega)only[wx,fz];first|(have e:up (nxt S.length L k) (2*f) (nxt S.length L k (2*f)+1) (2*t3+1)=nxt S.length L k (2*t3+1):=EP _ _ om;refine congrArg _ (congrArg _ (CH fun j _=> ?_));have q:=Zi om c5 f t3 ef et j;simp only[e]at q⊢;rw[q])|exact congrArg _ (congrArg _ (CH fun j _=>by rw[Qx (AD om) c5]))),xz⟩
    ·refine BR ?_;try subst q4
     refine BQ ?_;have fz:=ai c5 fz;refine Ba (BP ?_);exact xe hf ⟨_,xv,(by first|exact hL3.step (AD om) c5 f t3 ef et|exact hL3.skip (AD om) c5),(by simp(disch:=omega)only[wx,fz];first|(have e:up (nxt S.length L k) (2*f) (nxt S.length L k (2*f)+1) (2*t3+1)=nxt S.length L k (2*t3+1):=EP _ _ om;refine congrArg _ (congrArg _ (CH fun j _=> ?_));have q:=Zi om c5 f t3 ef et j;simp only[e]at q⊢;rw[q])|exact congrArg _ (congrArg _ (CH fun j _=>by rw[Qx (AD om) c5]))),xz⟩
   ·refine xo (BO (BQ ?_));have fz:=ai c4 fz;refine Ba (BP (BT (rt ?_)));exact BW rfl (by obtain rfl:k=L.length:=om;simp(disch:=omega)only[wx,fz];exact TW.mk (kH.trans he) b1 (gs4.keep fun b h=>by rw[gs4.live h];exact he _ _ (gs4.live h)) bl hL3 b3 z7 (fun b h=>(fr3 b h).2) (kH.none' (hf0 _ om)) (kH.none' (hf0 _ om)))
end
section
structure Wd where
 x:Int
theorem Wd.eq{a b:Wd}(h:a.x=b.x):a=b:=by cases a;cases b;cases h;rfl
instance:Cel Wd 2:=⟨fun a=>[.int .i64 (GI a.x),.int .u64 (EG a.x)],fun _=>rfl⟩
theorem sr(a:Wd):Cel.c a=[.int .i64 (GI a.x),.int .u64 (EG a.x)]:=rfl
theorem iX{N k:Nat}{f:Nat->Wd}{x:Int}(h:k<N):Dp (some (.own (ar N f))) (0+k*2) [.int .i64 (GI x),.int .u64 (EG x)]=some (.own (ar N (up f k ⟨x⟩))):=Lk (⟨x⟩:Wd) h
theorem qs(a n:Nat)(hn:n<100000000):N4 a n n 2 16 ⟨[.int .i64 0,.int .u64 0]⟩=some (.slice (some ⟨a,0,none⟩) n n,[(a,.own (ar n fun _=>(⟨0⟩:Wd)))]):=Ik a n 16 (⟨0⟩:Wd) dZ hn
def Nc(b:Nat)(H G:Hp):Prop:=∀c y,c≠b->H c=some y->G c=some y
theorem Nc.refl(b:Nat)(H:Hp):Nc b H H:=fun _ _ _ h=>h
variable{N b g k n:Nat}{G H:Hp}
theorem Nc.at(x:Option AB)(h:Nc b H G):Nc b H (upd G b x):=fun c y hc hy=>by rw[upd_ne hc];exact h c y hc hy
theorem Nc.up{a:Nat}(x:Option AB)(ha:H a=none)(h:Nc b H G):Nc b H (upd G a x):=fun c y hc hy=>by rw[upd_ne (fun e=>by rw[e,ha]at hy;cases hy)];exact h c y hc hy
theorem Nc.ext{K:Hp}(h:Nc b H G)(e:Ext K H)(hb:K b=none):Ext K G:=fun c y hy=>h c y (fun e=>by rw[e,hb]at hy;cases hy) (e c y hy)
variable{x:Int}{f:Nat->Wd}
theorem ma{c:Nat}(hb:H b=some (.own (ar N f)))(hk:k<N)(hx:R64 x):Ct 143 [.slice (some ⟨b,0,none⟩) N c,.int .i64 (k:Int),.int .i64 x] (fun _ H'=>H'=upd H b (some (.own (ar N (up f k ⟨(f k).x+x⟩))))) H:=by
 refine BV Tryz.func143 rfl 16 rfl fun nf t hf hsc ht=> ?_
 have hf0:=hf;have lb:=hf.lt hb;refine Bh [0,0,0,0,0,1,0,1,1,0,2] [0,1,2,3,4,5,6,7,8,9,10] kr hf ?_;have fz:=ai hb (ai @iX (ai @sr (ai @DO (ai (ht 2 _ rfl) (ai (ht 1 _ rfl) (ht 0 _ rfl))))));iterate 7 first|refine CA ?_|refine Cq ?_
 refine EB (h:=fun G hG=>LD hx _) (k:= ?_);refine EB (h:=fun G hG=>KG _ _ _) (k:= ?_);refine CA ?_;refine Fx fun nf2 hl2 hf=> ?_
 refine BX ?_;refine Ji ?_ rfl;refine rt ?_;exact HQ rfl rfl
theorem m5{c:Nat}(hb:H b=some (.own (ar N f)))(hk:k<N)(hx:R64 x):Ct 144 [.slice (some ⟨b,0,none⟩) N c,.int .i64 (k:Int),.int .i64 x] (fun _ H'=>H'=upd H b (some (.own (ar N (up f k ⟨(f k).x - x⟩))))) H:=by
 refine BV Tryz.func144 rfl 16 rfl fun nf t hf hsc ht=> ?_
 have hf0:=hf;have lb:=hf.lt hb;refine Bh [0,0,0,0,0,1,0,1,1,0,2] [0,1,2,3,4,5,6,7,8,9,10] kr hf ?_;have fz:=ai hb (ai @iX (ai @sr (ai @DO (ai (ht 2 _ rfl) (ai (ht 1 _ rfl) (ht 0 _ rfl))))));iterate 7 first|refine CA ?_|refine Cq ?_
 refine EB (h:=fun G hG=>LD hx _) (k:= ?_);refine EB (h:=fun G hG=>LP _ _ _) (k:= ?_);refine CA ?_;refine Fx fun nf2 hl2 hf=> ?_
 refine BX ?_;refine Ji ?_ rfl;refine rt ?_;exact HQ rfl rfl
def TS(n:Nat)(a:Ar)(x:Int)(f:Nat->Wd):Nat->Wd:=if CG n a=true then up (up f a.f.toNat ⟨(f a.f.toNat).x+x⟩) a.t.toNat ⟨((up f a.f.toNat ⟨(f a.f.toNat).x+x⟩) a.t.toNat).x - x⟩else f
variable{L:List Ar}
theorem gY{c:Nat}(hg:pM H g N L)(hb:H b=some (.own (ar N f)))(hk:k<L.length)(hx:R64 x):Ct 113 [.agg #[.slice (some ⟨b,0,none⟩) N c,.pointer (some ⟨g,0,none⟩)],.int .i64 (k:Int),.int .i64 x] (fun _ H'=>Nc b H H'/\H' b=some (.own (ar N (TS N L[k] x f)))) H:=by
 refine BV Tryz.func113 rfl 28 rfl fun nf t hf hsc ht=> ?_
 have hf0:=hf;have lb:=hf.lt hb;refine BO (BQ ?_);have fz:=ai hb (ai (ht 2 _ rfl) (ai (ht 1 _ rfl) (ht 0 _ rfl)));refine xa fun hf=> ?_
 refine BP (BO (BQ (B0 ?_)));refine xp (h:=bv (hg.ext (by(repeat refine Ext.up (hf0 _ om) ?_);exact Ext.refl _)) _) (k:= ?_);refine xq ?_;have aG:=TQ (n:=N) hk;have fz:=ai @Ar.v.eq_1 (ai aG fz);refine Ba ?_;refine xa fun hf=> ?_
 refine xs fun hf=> ?_
 refine xq (BP (BO (BQ ?_)));refine xq (BP ?_);refine xi (fun c1=> ?_) fun c1=> ?_
 ·have eE:cD N L[k]=L[k]:=if_pos c1;obtain⟨u1,u2,u3,u4⟩:=D9 c1;obtain⟨f1,ef⟩:=AI u1;obtain⟨t1,et⟩:=AI u3;refine BO (BQ ?_);have fz:=ai et (ai ef (ai eE (ai c1 fz)));refine Eg ?_;refine xc (h:=ma (b:=b) (N:=N) (f:=f) xy om hx) (k:=fun v1 H1 nf2 hl2 q1 hf=> ?_);refine BP ?_;subst q1;refine BQ (Eg ?_);refine xc (h:=m5 (b:=b) (N:=N) (f:=up f f1 ⟨(f f1).x+x⟩) xy om hx) (k:=fun v2 H2 nf3 hl3 q2 hf=> ?_);refine BP ?_;refine Ji ?_ rfl;refine rt ?_;exact HQ rfl (by first|(subst q2;exact⟨by repeat first|exact Nc.refl _ _|refine Nc.at _ ?_|refine Nc.up _ (hf0 _ om) ?_,by unfold TS;rw[if_pos c1,ef,et];exact BU _ _ _⟩)|exact⟨by repeat first|exact Nc.refl _ _|refine Nc.up _ (hf0 _ om) ?_,by unfold TS;rw[if_neg (by rw[c1];exact Aq)];exact xy⟩)
 ·refine BR ?_;refine Ji ?_ rfl;refine rt ?_;have fz:=ai c1 fz;exact HQ rfl (by first|(subst q2;exact⟨by repeat first|exact Nc.refl _ _|refine Nc.at _ ?_|refine Nc.up _ (hf0 _ om) ?_,by unfold TS;rw[if_pos c1,ef,et];exact BU _ _ _⟩)|exact⟨by repeat first|exact Nc.refl _ _|refine Nc.up _ (hf0 _ om) ?_,by unfold TS;rw[if_neg (by rw[c1];exact Aq)];exact xy⟩)
theorem fe(G:Hp)(v:Value)(H:Hp)(b:Nat)(x:AB)(h:TW G H v n L)(_:Ext G H)(hb:H b=none):TW (upd G b (some x)) (upd H b (some x)) v n L:=by
 obtain⟨e,g,D,hv,h1,h2,h3⟩:=h;have n1:∀c y,D c=some y->c≠b:=fun c y hc e=>by have:=h1 c y hc;rw[e,hb]at this;cases this
 exact⟨e.both x,g,D,hv,fun c y hc=>by rw[upd_ne (n1 c y hc)];exact h1 c y hc,h2,fun c y hc=>by rw[upd_ne (n1 c y hc)];exact h3 c y hc⟩
theorem XP{M H1:Hp}{a nf:Nat}{D B:Hp}{x y:AB}(he:Ext H M)(h1:H a=none)(h2:H b=none)(hf:Fr M nf)(hM:∀c,c≠a->c≠b->M c=H1 c)(dH:Ext D H1)(gD:Wp D g n L)(dN:∀c z,D c=some z->upd (upd B a (some x)) b (some y) c=none):∃K,Ext H K/\Ext K M/\K a=none/\K b=none/\Fr K nf/\Wp K g n L:=by
 obtain⟨K,k1,k2,k3,k4,k5,k6⟩:=Rk he h1 h2 hf;refine⟨K,k1,k2,k3,k4,k5,gD.ext fun c z hc=> ?_⟩;have nb:c≠b:=fun e=>by have:=dN c z hc;rw[e,BU]at this;cases this
 have na:c≠a:=fun e=>by have:=dN c z hc;rw[upd_ne nb,e,BU]at this;cases this
 rw[k6 c na nb,hM c na nb];exact dH c z hc
def arcD(L:List Ar)(k:Nat):Ar:=L.getD k ⟨0,0,0,0,0⟩
theorem Bk(h:k<L.length):arcD L k=L[k]:=by simp[arcD,h]
def LA(n:Nat)(L:List Ar)(x:List Int):Nat->Nat->Wd
 |0=>fun _=>⟨0⟩
 |k+1=>TS n (arcD L k) (alongI x k) (LA n L x k)
theorem tC(a p:Option Addr)(n c:Nat):B9 tz 174 [(0,.slice a n c),(1,.pointer p)]=some (.agg #[.slice a n c,.pointer p]):=kr
set_option maxHeartbeats 1600000 in
theorem qj{S:List Int}{x:List Int}{A B X:Option Addr}{c d e:Nat}(hA:Rd 1 intC H A S)(hB:Rd 5 Ar.c H B L)(hX:Rd 1 intC H X x)(hS:S.length<1000000)(hL:L.length<1000000)(hx:∀n∈x,R64 n):Ct 70 [.agg #[.slice A S.length c,.slice B L.length d],.slice X x.length e] (fun v H'=>Ext H H'/\∃b c,v= .slice (some ⟨b,0,none⟩) S.length c/\H' b=some (.own (ar S.length (LA S.length L x L.length)))) H:=by
 refine BV Tryz.func70 rfl 29 rfl fun nf t hf hsc ht=> ?_
 have hf0:=hf;refine BO (BQ ?_);have fz:=ai @qs (ai @tC (ai (ht 1 _ rfl) (ht 0 _ rfl)));refine xa fun hf=> ?_
 refine xq (BP (BO ?_));refine TZ H xx fun heB=> ?_
 refine Ta (fun G v H=>TW G H v S.length L) (fe) [0,1,0,5,1,6,0,5,2] [0,1,2,4,3,7,5,6,8] kr hf ?_;iterate 4 first|refine CA ?_|refine Cq ?_
 refine d5 rfl (Ext.refl _) hf (fun b=>xv) (fun b3 nf2 hb3 hl2 hn3 hf xB=> ?_);refine d5 rfl xB hf (fun b=>xv) (fun b7 nf3 hb7 hl3 hn7 hf xB=> ?_);refine d6 rfl xB xv (fun G1 hG=>(jJ (hA.ext (heB.trans hG)) (hB.ext (heB.trans hG)) hS hL).mono fun v H q=>⟨q.1,q⟩) (fun v1 H1 nf4 hl4 q1 x1 xB hf=> ?_);have he:=heB.trans xB;obtain⟨_,g,D,rfl,dH,gD,dN⟩:=q1;have n37:b7≠b3:=fun e=>by rw[e,BU]at hn7;cases hn7
 have e3:=x1 b3 _ (by rw[upd_ne n37.symm,BU]);have e7:=x1 b7 _ (BU _ _ _);have e0:=x1 nf _ (by rw[upd_ne om,upd_ne om,BU]);have l3:=hf.lt e3;have l7:=hf.lt e7;have z3:H b3=none:=heB.none' hn3;have z7:H b7=none:=heB.none' (by rw[upd_ne n37]at hn7;exact hn7);have fz:=ai e0 (ai e7 (ai e3 fz));refine CA ?_;refine Fx fun nf5 hl5 hf=> ?_
 refine BX (BO (BO ?_));refine Px fun M hM=> ?_
 have heM:Ext H M:=by rw[hM];exact Ext.up z7 he
 have m0:M nf=some (.own [.slice A S.length c,.slice B L.length d]):=by rw[hM];simp(disch:=omega)only[wx,fz]
 have m3:M b3=some (.own (ar S.length fun _=>(⟨0⟩:Wd))):=by rw[hM];simp(disch:=omega)only[wx,fz]
 have m7:M b7=some (.own [.slice (some ⟨b3,0,none⟩) S.length S.length,.pointer (some ⟨g,0,none⟩)]):=by rw[hM];simp(disch:=omega)only[wx,fz]
 obtain⟨K,kH,kM,k3,k7,hf0,gK⟩:=XP heM z3 z7 (hM▸hf) (fun c _ h=>by rw[hM,upd_ne h]) dH gD dN;have hf:=hM▸hf;clear hM;have he:=kM;refine BQ ?_;have fz:=ai m7 (ai m3 (ai m0 fz));refine Dv (BP (BS ?_));refine By fun T1 hT=> ?_
 have gz:=ai (xt (hT 17)) (ai (xt (hT 16)) (ai (xt (hT 5)) (ai (xt (hT 1)) trivial)));clear hT;refine xl L.length nf K hf (fun k t nf1 G=>G b3=some (.own (ar S.length (LA S.length L x k)))/\(t 1=T1 1/\t 5=T1 5/\t 16=T1 16)/\t 17= .int .i64 (k:Int)/\G nf=some (.own [.slice A S.length c,.slice B L.length d])/\G b7=some (.own [.slice (some ⟨b3,0,none⟩) S.length S.length,.pointer (some ⟨g,0,none⟩)])) ⟨(by simp(disch:=omega)only[wx,fz];rfl),xh⟩ ?_;rintro k t nf1 G hk1 hn1 hf he ⟨bs,uz,h17,b0,b1⟩;have hfl:=hf;have l0:=hf.lt b0;have l1:=hf.lt b1;have l3:=hf.lt bs;refine BO (BQ ?_);have fz:=ai bs (ai b1 (ai b0 (ai h17 (ai uz gz))));refine xq (BP (BO ?_));refine C8 (fun c1=> ?_) fun c1=> ?_
 ·refine BR (BO (BS (BO (BQ ?_))));have fz:=ai c1 fz;refine Ba (BP ?_);refine Bh [1,0,0,0,1,2] [0,1,2,3,4,5] kr hf ?_;iterate 4 first|refine CA ?_|refine Cq ?_
  refine EB (h:=fun G hG=>We ((hX.ext (kH.trans he)).ext hG) om) (k:= ?_);refine xC (h:=gY (gK.a.ext he) bs (show k<L.length from om) (CZ hx _)) (k:=fun v2 H2 nf6 hl6 q2 hf=> ?_);refine BX ?_;have he:=q2.1.ext he k3;have r0:=q2.1 _ _ om b0;have r1:=q2.1 _ _ n37 b1;have r2:=q2.2;refine BQ ?_;have fz:=ai r2 (ai r1 (ai r0 fz));refine Ba (BP ?_);exact xe hf ⟨(by simp(disch:=omega)only[wx,fz,LA];rw[Bk om]),xz⟩
 ·refine xo (BO (BQ ?_));have fz:=ai c1 fz;refine B0 (BP (BT (rt ?_)));exact BW rfl (by obtain rfl:k=L.length:=om;exact⟨kH.trans he,b3,S.length,xy,bs⟩)
end
end
section
open Go.Conc Go.Proofs
variable[Md]
section
theorem wT: (∀n:Int,intC n=[.int .i64 n])/\(∀b:Bool,boolC b=[.bool b])/\(∀a:Ar,a.v= .agg #[.int .i64 a.f,.int .i64 a.t,.int .i64 a.lo,.int .i64 a.ca,.int .i64 a.co])/\(∀a:Ar,a.c=[.int .i64 a.f,.int .i64 a.t,.int .i64 a.lo,.int .i64 a.ca,.int .i64 a.co])/\(∀a:Wd,Cel.c a=[.int .i64 (GI a.x),.int .u64 (EG a.x)]):=⟨fun _=>rfl,fun _=>rfl,fun _=>rfl,fun _=>rfl,fun _=>rfl⟩
theorem wx:type_of%wy/\type_of%wT:=⟨wy,wT⟩
theorem vA(a b c d:Int):Cr tz .neq 52 (.agg #[.int .i64 a,.int .u64 b]) (.agg #[.int .i64 c,.int .u64 d])=(if a=c then(if b=d then some true else some false)else some false).map fun r=> .bool (!r):=kr
def dC(a b:Int):Bool:=decide (GI a=GI b)&&decide (EG a=EG b)
theorem gj(a b:Int):dC a b=true↔W a=W b:=by unfold dC;rw[DO,DO];simp
theorem wZ(a b:Int):Cr tz .neq 52 (.agg #[.int .i64 (GI a),.int .u64 (EG a)]) (W b)=some (.bool (!dC a b)):=by
 rw[DO b,vA];unfold dC;by_cases h1:GI a=GI b
 ·by_cases h2:EG a=EG b
  ·rw[if_pos h1,if_pos h2,BH h1,BH h2];rfl
  ·rw[if_pos h1,if_neg h2,BH h1,BI h2];rfl
 ·rw[if_neg h1,BI h1];rfl
variable{S:List Int}
theorem CW{L:List Ar}(h:rightI S L=0):S.length<=64/\L.length<=256:=by
 unfold rightI at h;split at h
 ·cases h
 ·omega
open Classical in
noncomputable def Cb(S:List Int)(L:List Ar)(x:List Int):Int:=if rightI S L≠0 then rightI S L else if x.length≠L.length then 30 else if∃k,k<L.length/\fitB (arcD L k) (alongI x k)=false then 31 else if∃n,n<S.length/\dC (LA S.length L x L.length n).x (alongI S n)=false then 32 else 0
theorem Ua(h:∀n∈S,R64 n){k:Nat}(hk:k<S.length):R64 S[k]:=h _ (AM hk)
set_option maxHeartbeats 1600000 in
theorem PZ{L:List Ar}{x:List Int}{A B X:Option Addr}{c d e:Nat}{H:Hp}(hA:Rd 1 intC H A S)(hB:Rd 5 Ar.c H B L)(hX:Rd 1 intC H X x)(hS:∀n∈S,R64 n)(hx:∀n∈x,R64 n)(hl:x.length<4611686018427387904):Pure 29 [.agg #[.slice A S.length c,.slice B L.length d],.slice X x.length e] (.int .u16 (Cb S L x)) H:=by
 refine Pure.of rfl (BV Tryz.func29 rfl 55 rfl fun nf t hf _ ht=> ?_);have hf0:=hf;refine BO (BQ ?_);have fz:=ai (ht 1 _ rfl) (ht 0 _ rfl);refine xa fun hf=> ?_
 refine xq (BP (BO (BO (BQ ?_))));refine xq ?_;refine xp (h:=JE (hA.ext (by(repeat refine Ext.up (hf0 _ om) ?_);exact Ext.refl _)) (hB.ext (by(repeat refine Ext.up (hf0 _ om) ?_);exact Ext.refl _))) (k:= ?_);refine xq (BP (BO (BQ ?_)));refine Ba (BP ?_);refine xi (fun c1=> ?_) fun c1=> ?_
 ·refine BO (BQ ?_);have fz:=ai c1 fz;refine Ba (BP (BT (rt ?_)));exact BW rfl ⟨by simp(disch:=omega)only[wx,fz];rw[Cb,if_pos (by simpa using c1)],xx⟩
 ·have hr:rightI S L=0:=by simpa using c1
  have hb:=CW hr;refine BR (BO (BO (BQ ?_)));have fz:=ai c1 fz;refine Dk (BP ?_);refine Kf (fun c2=> ?_) fun c2=> ?_
  ·refine BO (BQ ?_);have fz:=ai c2 fz;refine xq (BP (BT (rt ?_)));exact BW rfl ⟨by simp(disch:=omega)only[wx,fz];rw[Cb,if_neg (fun h=>h hr),if_pos om],xx⟩
  ·refine BR (BO (BO (BQ ?_)));have fz:=ai c2 fz;refine Dv (BP (BS ?_));refine By fun T1 hT=> ?_
   have gz:=ai (xt (hT 24)) (ai (xt (hT 23)) (ai (xt (hT 22)) (ai (xt (hT 2)) (ai (xt (hT 1)) trivial))));clear hT;refine xl L.length nf H hf (fun k t nf1 G=>(∀j,j<k->fitB (arcD L j) (alongI x j)=true)/\(t 1=T1 1/\t 2=T1 2/\t 22=T1 22/\t 23=T1 23)/\t 24= .int .i64 (k:Int)/\G nf=some (.own [.slice A S.length c,.slice B L.length d])) ⟨(fun j h=>absurd h (Aj j)),xh⟩ ?_;rintro k t nf1 G hk1 hn1 hf he ⟨i1,uz,h24,b0⟩;have hfl:=hf;have l0:=hf.lt b0;refine BO (BQ ?_);have fz:=ai b0 (ai h24 (ai uz gz));refine xq (BP (BO ?_));refine C8 (fun c3=> ?_) fun c3=> ?_
   ·refine BR (BO (BS (BO (BQ ?_))));obtain⟨b5,o5,eB,hoB⟩:=(hB.ext he) k om;obtain⟨b6,o6,eX,hoX⟩:=(hX.ext he) k om;have l5:=Bd hf hoB;have l6:=Bd hf hoX;have fz:=ai hoX (ai eX (ai hoB (ai eB (ai c3 fz))));refine B0 ?_;refine xa fun hf=> ?_
    refine xq ?_;refine xs fun hf=> ?_
    refine BP (BO (Bh [1,0,0,0,1,1,0] [0,1,2,3,4,5,6] kr hf ?_));iterate 5 first|refine CA ?_|refine Cq ?_
    refine EB (h:=fun G hG=>sL _ L[k] x[k]) (k:= ?_);refine CA (BX ?_);refine xi (fun c4=> ?_) fun c4=> ?_
    ·refine BO (BQ ?_);have fz:=ai c4 fz;refine xq (BP (BT (rt ?_)));exact BW rfl ⟨by simp(disch:=omega)only[wx,fz];rw[Cb,if_neg (fun h=>h hr),if_neg om,if_pos ⟨k,om,by rw[Bk om,Bc _ om];simpa using c4⟩],xx⟩
    ·refine BR (BQ ?_);have fz:=ai c4 fz;refine Ba (BP ?_);exact xe hf ⟨(fun j h=>by rcases AT.1 h with h|rfl;exact i1 j h;rw[Bk om,Bc _ om];simpa using c4),xz⟩
   ·refine xo (BO (BO (BQ ?_)));have fz:=ai c3 fz;refine Ba ?_;refine xc (h:=qj (hA.ext he) (hB.ext he) (hX.ext he) om om hx) (k:=fun v1 H1 nf2 hl2 q1 hf=> ?_);obtain⟨eN,bN,cN,rfl,hN⟩:=q1;have n0:=eN _ _ b0;have lN:=hf.lt hN;have he:=he.trans eN;have fz:=ai hN (ai n0 fz);refine Ba (BP (BS ?_));refine By fun T2 hT=> ?_
    have gz:=ai (xt (hT 41)) (ai (xt (hT 40)) (ai (xt (hT 39)) (ai (xt (hT 2)) gz)));clear hT;refine xl S.length nf H hf (fun k t nf1 G=>(∀j,j<k->dC (LA S.length L x L.length j).x (alongI S j)=true)/\(t 2=T2 2/\t 39=T2 39/\t 40=T2 40)/\t 41= .int .i64 (k:Int)/\G nf=some (.own [.slice A S.length c,.slice B L.length d])/\G bN=some (.own (ar S.length (LA S.length L x L.length)))) ⟨(fun j h=>absurd h (Aj j)),xh⟩ ?_;rintro k t nf1 G hk2 hn2 hf he ⟨i2,uz,h41,b0,b1⟩;have hfl:=hf;have l0:=hf.lt b0;have l1:=hf.lt b1;refine BO (BQ ?_);have fz:=ai b1 (ai b0 (ai h41 (ai uz gz)));refine xq (BP (BO ?_));refine C8 (fun c5=> ?_) fun c5=> ?_
    ·refine BR (BO (BS (BO (BQ ?_))));obtain⟨b7,o7,eA,hoA⟩:=(hA.ext he) k om;have l7:=Bd hf hoA;have fz:=ai @wZ (ai hoA (ai eA (ai c5 fz)));refine B0 ?_;refine xa fun hf=> ?_
     refine xq ?_;refine xs fun hf=> ?_
     refine BP (BO (Bh [1,0,1,0,0,1,1,0] [0,1,2,3,4,5,6,7] kr hf ?_));iterate 6 first|refine CA ?_|refine Cq ?_
     refine EB (h:=fun G hG=>LD (Ua hS (show k<S.length from om)) _) (k:= ?_);refine CA (BX ?_);refine xi (fun c6=> ?_) fun c6=> ?_
     ·refine BO (BQ ?_);have fz:=ai c6 fz;refine xq (BP (BT (rt ?_)));exact BW rfl ⟨by simp(disch:=omega)only[wx,fz];rw[Cb,if_neg (fun h=>h hr),if_neg om,if_neg (fun⟨j,h,e⟩=>by rw[i1 j om]at e;cases e),if_pos ⟨k,om,by rw[Bc _ om];simpa using c6⟩],xx⟩
     ·refine BR (BQ ?_);have fz:=ai c6 fz;refine Ba (BP ?_);exact xe hf ⟨(fun j h=>by rcases AT.1 h with h|rfl;exact i2 j h;rw[Bc _ om];simpa using c6),xz⟩
    ·refine xo (BO (BQ ?_));have fz:=ai c5 fz;refine xq (BP (BT (rt ?_)));exact BW rfl ⟨by simp(disch:=omega)only[wx,fz];rw[Cb,if_neg (fun h=>h hr),if_neg om,if_neg (fun⟨j,h,e⟩=>by rw[i1 j om]at e;cases e),if_neg (fun⟨j,h,e⟩=>by rw[i2 j om]at e;cases e)],xx⟩
end
section
def Oa(l:Nat)(vs:List Value)(Q:Value->Hp->Prop)(H:Hp):Prop:=∀(o:Oper) (x:Operand) (args:List Operand) (ats:Array TypeId) (ev:Operand->Value),o.op= .call {callee:= .value x,args:=⟨args⟩,argTypes:=ats}->ev x= .func (.yield l) #[] #[]->args.map ev=vs->WOp Tryz.prog o Q ev H
theorem Oa.mono{l:Nat}{vs:List Value}{Q Q':Value->Hp->Prop}{H:Hp}(h:Oa l vs Q H)(k:∀v H',Q v H'->Q' v H'):Oa l vs Q' H:=fun o x args ats ev h1 h2 h3=>(h o x args ats ev h1 h2 h3).mono k
def jU(n:Nat)(t:Nat->Value)(ps:Array Tmp)(a b:Code)(r:Nat):ALoop:=⟨.ready,none,n,t,ps,a,b,r⟩
theorem Oa.of{l:Nat}{vs:List Value}{Q:Value->Hp->Prop}{H:Hp}{n r:Nat}{t:Nat->Value}{ps:Array Tmp}{a b:Code}(hl:H l=some (.lp (jU n t ps a b r)))(hsz:vs.length=ps.size)
  (h:WC Tryz.prog false a (fun ex A1 H1=>ex= .norm/\H1 l=some (.lp (jU n t ps a b r))/\WC Tryz.prog false b (fun ex2 _ H3=>∃s p,H3 l=some (.lp ⟨s,p,n,t,ps,a,b,r⟩)/\Q (.bool (Cg ex2)) (upd H3 l (some (.lp ⟨if Cg ex2 then .ready else .done,DN ex2,n,t,ps,a,b,r⟩)))) A1 (upd H1 l (some (.lp ⟨.busy,none,n,t,ps,a,b,r⟩)))) ⟨n,Em n (ps.toList.zip vs) t,[]⟩ H):Oa l vs Q H:=by
 intro o x args ats ev h1 h2 h3;subst h3;refine WOp.yield h1 h2 hl (by show args.length=ps.size;rw[<-hsz,BM]) (h.mono fun ex A1 H1 q=> ?_);obtain⟨q1,q2,q3⟩:=q;refine⟨q1,_,q2,rfl,q3.mono fun ex2 A3 H3 q=> ?_⟩;obtain⟨s,p,q4,q5⟩:=q;exact⟨_,q4,q5⟩
theorem Wo{l:Nat}{v:Value}{Q:Value->Hp->Prop}{H:Hp}{n r d:Nat}{t:Nat->Value}{a b:Code}(hl:H l=some (.lp (jU n t #[d] a b r)))(hd:d<n)
  (h:WC Tryz.prog false a (fun ex A1 H1=>ex= .norm/\H1 l=some (.lp (jU n t #[d] a b r))/\WC Tryz.prog false b (fun ex2 _ H3=>∃s p,H3 l=some (.lp ⟨s,p,n,t,#[d],a,b,r⟩)/\Q (.bool (Cg ex2)) (upd H3 l (some (.lp ⟨if Cg ex2 then .ready else .done,DN ex2,n,t,#[d],a,b,r⟩)))) A1 (upd H1 l (some (.lp ⟨.busy,none,n,t,#[d],a,b,r⟩)))) ⟨n,st t d v,[]⟩ H):Oa l [v] Q H:=
 Oa.of hl rfl (by
  have e:Em n ((#[d]:Array Tmp).toList.zip [v]) t=st t d v:=if_pos hd;rw[e];exact h)
theorem Wn{l:Nat}{v u:Value}{Q:Value->Hp->Prop}{H:Hp}{n r d d2:Nat}{t:Nat->Value}{a b:Code}(hl:H l=some (.lp (jU n t #[d,d2] a b r)))(hd:d<n)(hd2:d2<n)
  (h:WC Tryz.prog false a (fun ex A1 H1=>ex= .norm/\H1 l=some (.lp (jU n t #[d,d2] a b r))/\WC Tryz.prog false b (fun ex2 _ H3=>∃s p,H3 l=some (.lp ⟨s,p,n,t,#[d,d2],a,b,r⟩)/\Q (.bool (Cg ex2)) (upd H3 l (some (.lp ⟨if Cg ex2 then .ready else .done,DN ex2,n,t,#[d,d2],a,b,r⟩)))) A1 (upd H1 l (some (.lp ⟨.busy,none,n,t,#[d,d2],a,b,r⟩)))) ⟨n,st (st t d v) d2 u,[]⟩ H):Oa l [v,u] Q H:=
 Oa.of hl rfl (by
  have e:Em n ((#[d,d2]:Array Tmp).toList.zip [v,u]) t=st (st t d v) d2 u:=by
   show(if d2<n then upd (if d<n then upd t d v else t) d2 u else(if d<n then upd t d v else t))=_
   rw[if_pos hd2,if_pos hd];rfl
  rw[e];exact h)
variable{x y:AB}
theorem Uy{Q:QT}{A:AF}{H:Hp}{l nf:Nat}(hf:Fr H nf)(hl:H l=some y)(h:Fr (upd H l (some x)) nf->Q .norm A (upd H l (some x))):Qs Q A (upd H l (some x)) none:=h (hf.old hl x)
theorem jC{Q:QT}{A:AF}{H:Hp}{l nf:Nat}(hf:Fr H nf)(hl:H l=some y)(h:Fr (upd H l (some x)) nf->Q .ret A (upd H l (some x))):Qs Q A (upd H l (some x)) (some .ret):=h (hf.old hl x)
theorem Le{top:Bool}{c:Code}{Q:QT}{A:AF}{H:Hp}{l nf:Nat}(hf:Fr H nf)(hl:H l=some y)(h:Fr (upd H l (some x)) nf->WC Tryz.prog top c Q A (upd H l (some x))):WC Tryz.prog top c Q A (upd H l (some x)):=h (hf.old hl x)
section
variable{top:Bool}{ops:Array Oper}{l:List Oper}{Q:AF->Hp->Prop}{N nf:Nat}{t:Nat->Value}{ds:List Deferred}{H:Hp}{o:Oper}
theorem ur {d y:Nat} {x:Operand} {args:List Operand} {vs:List Value} {QF:Value->Hp->Prop} (hc:so N o=some (d,x,args)) (hx:eT t x= .func (.yield y) #[] #[]) (hv:args.map (eT t)=vs) (h:Oa y vs QF H) (k:∀v H',QF v H'->WL top ops l Q ⟨N,st t d v,ds⟩ H'):WL top ops (o::l) Q ⟨N,t,ds⟩ H:=by
 obtain⟨hd,hn,hx',hg,ats,hop⟩:=TD hc;exact CL hx' (BY hg _) ((h o x args ats (eT t) hop hx hv).mono fun v H' q=>by rw[hd,CT hn];exact k v H' q)
theorem xL{d dj y:Nat}{w:Bool}{x:Operand}{args:List Operand}{ats:Array TypeId}{vs:List Value}{QF:Value->Hp->Prop}(hc:dD ops N o=some (d,dj,w))(hop:o.op= .call {callee:= .value x,args:=⟨args⟩,argTypes:=ats})(hg: (ob (t dj)==some w)=true)(hx:eT t x= .func (.yield y) #[] #[])(hv:args.map (eT t)=vs)(h:Oa y vs QF H)(k:∀v H',QF v H'->WL top ops l Q ⟨N,st t d v,ds⟩ H'):WL top ops (o::l) Q ⟨N,t,ds⟩ H:=by
 obtain⟨hd,hn,hx',hw⟩:=Mz (t:=t) hc;rw[hg]at hw;exact CL hx' hw ((h o x args ats (eT t) hop hx hv).mono fun v H' q=>by rw[hd,CT hn];exact k v H' q)
end
theorem Pw{Q:QT}{N nf:Nat}{t:Nat->Value}{H:Hp}{x:Operand}{ps:Array Tmp}{a b:Code}{g:FuncId}{first cap:Array Value}{vs:List Value}{R:ALoop->Value->Hp->Prop}(hf:Fr H nf)(hox:okX x=true)(hx:eT t x= .func (.func g) first cap)(hv:first.toList++[.func (.yield (nf+1)) #[] #[]]++cap.toList=vs)
  (h:∀lp,lp=jU N t ps a b nf->Ct g vs (R lp) (upd (upd H nf (some (.df true))) (nf+1) (some (.lp lp))))
  (k:∀lp,lp=jU N t ps a b nf->∀v H' nf',nf+2<=nf'->R lp v H'->Fr H' nf'->∃s p,H' (nf+1)=some (.lp ⟨s,p,N,t,ps,a,b,nf⟩)/\s≠ .busy/\Qs Q ⟨N,t,[{target:= .collected nf,args:= #[]}]⟩ (upd H' (nf+1) (some (.lp ⟨.exhausted,p,N,t,ps,a,b,nf⟩))) p):WC Tryz.prog true (.rangeFunc x ps a b) Q ⟨N,t,[]⟩ H:=by
 obtain⟨⟨fn,c,hfn,hb⟩,h⟩:=h _ rfl;refine Jo (r:=nf) (l:=nf+1) hox hx hfn hb (C4 hfn) (hf _ om) (hf _ om) om ?_;rw[hv];refine h.fin.mono fun v H' q=> ?_
 obtain⟨q,nf2,hf2⟩:=q;obtain⟨s,p,h1,h2,h3⟩:=k _ rfl v H' (max nf2 (nf+2)) om q (hf2.up om);exact⟨_,h1,h2,h3⟩
def GR(fn:Func)(Q:Value->Hp->Prop):QT
 | .exit _,_,_=>False
 |_,A,H=>(A.d=[]/\∃v,Dn tz H A fn.results.toList=some v/\Q v H)\/∃r,A.d=[{target:= .collected r,args:= #[]}]/\H r=some (.df true)/\∃v,Dn tz (upd H r (some (.df false))) {A with d:=[]} fn.results.toList=some v/\Q v (upd H r (some (.df false)))
section
variable{f:FuncId}{fn:Func}{c:Code}{args:List Value}{Q:Value->Hp->Prop}{H:Hp}{v:Value}
theorem cL {A:AF} {H:Hp} (hf:Tryz.prog.funcs[f]? =some fn) (q: (A.d=[]/\∃v,Dn tz H A fn.results.toList=some v/\Q v H)\/∃r,A.d=[{target:= .collected r,args:= #[]}]/\H r=some (.df true)/\∃v,Dn tz (upd H r (some (.df false))) {A with d:=[]} fn.results.toList=some v/\Q v (upd H r (some (.df false)))):NA Tryz.prog f Q A H:=by
 rcases q with⟨q1,v,q2,q3⟩|⟨r,q1,q2,v,q3,q4⟩
 ·exact NA.done Cv hf q1 q2 q3
 ·exact NA.collected q1 rfl q2 (NA.done Cv hf rfl q3 q4)
theorem JX(hf:Tryz.prog.funcs[f]? =some fn)(hb:fn.body=some c)(n:Nat)(hn:max args.length fn.ntmps=n)(h:∀nf t,Fr H nf->Sc H->Hs t args->WC Tryz.prog true c (GR fn Q) ⟨n,t,[]⟩ H):Ct f args Q H:=by
 refine⟨⟨fn,c,hf,hb⟩,Iz fun hs ⟨nf,hnf⟩=>Ee.body hf hb ?_⟩;rw[hn];refine(h nf _ hnf hs (PY args)).mono fun ex A H' q=> ?_
 cases ex with
 |exit id=>exact q.elim
 |norm=>exact cL hf q
 |ret=>exact cL hf q
variable{n:Nat}{t:Nat->Value}
theorem sH {ex:Ex} (h:GQ fn Q ex ⟨n,t,[]⟩ H):GR fn Q ex ⟨n,t,[]⟩ H:=by
 cases ex with
 |exit id=>exact h
 |norm=>exact .inl h
 |ret=>exact .inl h
theorem Xd{r:Nat}(hr:H r=some (.df true))(h:GQ fn Q .ret ⟨n,t,[]⟩ (upd H r (some (.df false)))):GR fn Q .ret ⟨n,t,[{target:= .collected r,args:= #[]}]⟩ H:=by
 obtain⟨_,v,h1,h2⟩:=h;exact .inr ⟨r,rfl,hr,v,h1,h2⟩
end
theorem uh(b l h n:Nat)(k:IntKind)(h1:l<=h)(h2:h<=n)(hn:n<10000000):Gx tz 27 (.slice (some ⟨b,0,none⟩) n n) (some (.int k (l:Int))) (some (.int k (h:Int))) (some (.int k (h:Int)))=some (.slice (some ⟨b,0+l*1,none⟩) (h - l) (h - l)):=by
 obtain⟨e,q,g1,g2,g3,_⟩:=QP.ex;have e1:∀(x d:Nat),HO (some (.int k (x:Int))) d=some x:=fun x d=>by
  show(if(0:Int)<=x then some (x:Int).toNat else none)=some x
  rw[if_pos om,Aa]
 unfold Gx;simp only[g1,g2,e1];rw[if_pos ⟨h2,h1,fun h=>by unfold CJ at h;omega,fun _=>om⟩,if_pos ⟨by simp,AH _,h2,by unfold CJ;omega⟩,g3];show some (Value.slice (some ((⟨b,0,none⟩:Addr).add (l*1))) _ _)=_
 rw[TR]
theorem nA{N l k:Nat}{f:Nat->Int}(h:l+k<N):Cs (some (.own (ar N f))) (0+l*1+k*1) 1=some [.int .i64 (f (l+k))]:=by
 have:=GG (f:=f) h;rw[Nat.add_mul,<-Nat.add_assoc]at this;exact this
end
section
variable{H K:Hp}{N b g n:Nat}
theorem Ea(hb:H b=none){a:Nat}{x:AB}(y:AB)(h:H a=some x):upd H b (some y) a=some x:=by rw[upd_ne (fun e=>by rw[e,hb]at h;cases h)];exact h
structure Rds(K:Hp)(I:Nat->Hp->Prop):Prop where
 up:∀k G b x,I k G->G b=none->I k (upd G b (some x))
 ext:∀k G,I k G->Ext K G
 fr:∀k G,I k G->∃nf,Fr G nf
variable{L:List Ar}
theorem Wp.nb(h:Wp H g n L):∃u v w,H g=some (.own [.int .i64 n,u,v,w]):=by
 obtain⟨B,c,lb,sb,cs,ls,h1,_⟩:=h;exact⟨_,_,_,h1⟩
theorem nI{a:Nat}(h:a<n):DS n a=true:=by unfold DS;simp;omega
theorem mV{ls:Nat->Int}(h:Kc n L L.length ls){j i:Nat}(hj:j<2*n)(hi:i<Ln n L j):ls (St n L j+i)=((pc n L L.length j)[i]'hi:Int):=h j i _ hj (AD hi)
variable{I:Nat->Hp->Prop}
theorem Qr{J:Hp->Prop}{y b1 b2 b3 w:Nat}(hI:Rds K I)(k1:K b1=some (.own [.pointer (some ⟨g,0,none⟩)]))(k2:K b2=some (.own [.int .i64 (n:Int)]))(k3:K b3=some (.own [.int .i64 (w:Int)]))(hg:Wp K g N L)(hn:n<N)(hw:w<2)(hN:N<1000000)(hL:L.length<1000000)(i0:I 0 H)(step:∀k G (hk:k<Ln N L (2*n+w)),I k G->Oa y [.int .i64 ((pc N L L.length (2*n+w))[k]'hk:Int)] (fun v G'=>v= .bool true/\I (k+1) G'\/v= .bool false/\J G'/\∃nf,Fr G' nf) G):Ct 142 [.func (.yield y) #[] #[],.pointer (some ⟨b1,0,none⟩),.pointer (some ⟨b2,0,none⟩),.pointer (some ⟨b3,0,none⟩)] (fun _ H'=>I (Ln N L (2*n+w)) H'\/J H') H:=by
 refine BV Tryz.func142 rfl 52 rfl fun nf t hf hsc ht=> ?_
 have hf0:=hf;obtain⟨B,c,lb,sb,cs,ls,g1,g2,g3,g4,g5⟩:=hg;have hE:=hI.ext _ _ i0;have p1:=hE _ _ k1;have p2:=hE _ _ k2;have p3:=hE _ _ k3;have p4:=hE _ _ g1;have p5:=hE _ _ g3;have p6:=hE _ _ g5;have e1:=nI hn;have x1: (2*(n:Int)+w).toNat=2*n+w:=om;have x2: (2*(n:Int)+w+1).toNat=2*n+w+1:=om;have z0:St N L (2*n+w+1)=St N L (2*n+w)+Ln N L (2*n+w):=rfl;have z1:=Wk N L (show 2*n+w+1<=2*N from om);have z2:=Wl N L;have zl:St N L (2*n+w+1) - St N L (2*n+w)=Ln N L (2*n+w):=om;have he:=hE;refine BO (BO (BQ ?_));have fz:=ai @uh (ai zl (ai x2 (ai x1 (ai e1 (ai p6 (ai p5 (ai p4 (ai p3 (ai p2 (ai p1 (ai (ht 3 _ rfl) (ai (ht 2 _ rfl) (ai (ht 1 _ rfl) (ht 0 _ rfl))))))))))))));refine Ba ?_;refine xp (h:=aJ p4 _) (k:= ?_);refine xq (BP ?_);refine xF (BR (BO ?_));refine Bh [1,0,0,1,1,0,1,0,0,1,1,0,0,1,1,0,1,0,0,0,1,0,0] [0,1,2,3,4,5,6,7,8,9,10,11,12,13,14,15,16,17,18,19,20,21,22] kr hf ?_;iterate 23 first|refine CA ?_|refine Cq ?_
 refine BX (BO (BQ (Dk ?_)));refine Dv (BP (BS ?_));refine By fun T1 hT=> ?_
 have gz:=ai (xt (hT 43)) (ai (xt (hT 42)) (ai (xt (hT 41)) (ai (xt (hT 0)) trivial)));clear hT;refine xl (Ln N L (2*n+w)) nf K hf (fun k t nf1 G=>I k G/\(t 0=T1 0/\t 41=T1 41/\t 42=T1 42)/\t 43= .int .i64 (k:Int)) ⟨i0,xh⟩ ?_;rintro k t nf1 G hk1 hn1 hf he ⟨hk,uz,h43⟩;have hfl:=hf;have p5:=he _ _ g3;have ea:=fun h:k<Ln N L (2*n+w)=>mV g4 (show 2*n+w<2*N from om) h
 refine BO (BQ ?_);have fz:=ai @nA (ai p5 (ai h43 (ai uz gz)));refine xq (BP (BO ?_));refine C8 (fun c2=> ?_) fun c2=> ?_
 ·have ea:=ea om;refine BR (BO (BS (BO (BQ ?_))));have fz:=ai ea (ai c2 fz);refine B0 (BP (BO (BQ ?_)));refine Ba ?_;refine ur rfl xv xv (step k G om hk) fun v G2 q=> ?_
  rcases q with⟨rfl,q⟩|⟨rfl,q,nfj,hf⟩;rotate_left
  ·refine oq hf rfl xv (BP (R4 rfl xv (BT ?_)));refine rt ?_;exact HQ rfl (.inr q)
  obtain⟨nf2,hf⟩:=hI.fr _ _ q;have hf:=hf.up (Nat.le_max_left nf2 nf);have he:=hI.ext _ _ q;refine xq (BP ?_);refine xF (BR (BQ ?_));refine Ba (BP ?_);exact xe hf ⟨q,xz⟩
 ·refine xo ?_;refine Ji ?_ rfl;refine rt ?_;have fz:=ai c2 fz;exact HQ rfl (.inl (by obtain rfl:k=Ln N L (2*n+w):=om;exact hk))
theorem Rds.of(h1:∀k G b x,I k G->G b=none->I k (upd G b (some x)))(h2:∀k G,I k G->Ext K G/\∃nf,Fr G nf):Rds K I:=⟨h1,fun k G h=>(h2 k G h).1,fun k G h=>(h2 k G h).2⟩
theorem GS.more{s:Nat}{v:Value}{xs:List Value}(h:GS H s v xs n)(hb:H b=none)(x:AB):GS (upd H b (some x)) s v xs n:=h.keep fun b' h'=>upd_ne (fun e=>by have:=h.live h';rw[e,hb]at this;cases this)
def Hx(N:Nat)(L:List Ar)(j:Nat):List Int:=(pc N L L.length j).map fun a:Nat=>(a:Int)
theorem FT(N:Nat)(L:List Ar)(j:Nat): (Hx N L j).length=Ln N L j:=by unfold Hx Ln;exact BM _
def X9(K:Hp)(l s:Nat)(lp:ALoop)(r:Nat)(P:List Int)(k:Nat)(G:Hp):Prop:=∃nf v,Fr G nf/\Ext K G/\G l=some (.lp lp)/\G r=some (.df true)/\G s=some (.own [v])/\GS G 1 v ((P.take k).flatMap intC) k/\∀b,GSb v b->K b=none/\b≠l/\b≠r/\b≠s
theorem R1(K:Hp)(l s:Nat)(lp:ALoop)(r:Nat)(P:List Int):Rds K (X9 K l s lp r P):= .of (fun k G b x ⟨nf,v,h1,h2,h3,h4,h5,h6,h7⟩ hb=>⟨_,v,h1.any b x 0,h2.trans (EL hb x),Ea hb x h3,Ea hb x h4,Ea hb x h5,h6.more hb x,h7⟩) fun k G ⟨nf,v,h1,h2,_⟩=>⟨h2,nf,h1⟩
theorem Uz(g n w:Nat):Ct 106 [.pointer (some ⟨g,0,none⟩),.int .i64 (n:Int),.int .i64 (w:Int)] (fun v H'=>Ext H H'/\∃b1 b2 b3,v= .func (.func 142) #[] #[.pointer (some ⟨b1,0,none⟩),.pointer (some ⟨b2,0,none⟩),.pointer (some ⟨b3,0,none⟩)]/\H' b1=some (.own [.pointer (some ⟨g,0,none⟩)])/\H' b2=some (.own [.int .i64 (n:Int)])/\H' b3=some (.own [.int .i64 (w:Int)])/\H b1=none/\H b2=none/\H b3=none) H:=by
 refine BV Tryz.func106 rfl 8 rfl fun nf t hf hsc ht=> ?_
 have hf0:=hf;refine BO (BQ ?_);have fz:=ai (ht 2 _ rfl) (ai (ht 1 _ rfl) (ht 0 _ rfl));refine xa fun hf=> ?_
 refine xa fun hf=> ?_
 refine xa fun hf=> ?_
 refine xq (BP (BO (BQ ?_)));refine Ba (BP (BT (rt ?_)));exact BW rfl ⟨by(repeat refine Ext.up (hf0 _ om) ?_);exact Ext.refl _,nf,nf+1,nf+2,xv,xy,xy,xy,hf0 _ om,hf0 _ om,hf0 _ om⟩
theorem qW(hg:Wp H g N L)(hn:n<N)(hN:N<1000000)(hL:L.length<1000000):Ct 53 [.pointer (some ⟨g,0,none⟩),.int .i64 (n:Int)] (fun v H'=>Nw H H' 1 v ((Hx N L (2*n+0)).flatMap intC) (Hx N L (2*n+0)).length) H:=by
 refine JX Tryz.func53 rfl 16 rfl fun nf t hf hsc ht=> ?_
 have hf0:=hf;refine BO (BQ ?_);have fz:=ai (ht 1 _ rfl) (ht 0 _ rfl);refine xq (BP (BO (BQ ?_)));refine xa fun hf=> ?_
 refine BP (BO (BO (BQ (Ba ?_))));refine xc (h:=Uz g n 0) (k:=fun v1 H1 nf2 hl2 q1 hf=> ?_);refine BP (BS ?_);obtain⟨x1,b1,b2,b3,rfl,k1,k2,k3,z1,z2,z3⟩:=q1;have e0:=x1 nf _ (BU _ _ _);have l0:=hf.lt e0;have kH0:=hf0 nf (AH _);obtain⟨K,kH,kM,k0, -,hf0,kk⟩:=Rk (Ext.trans (EL kH0 _) x1) kH0 kH0 hf;have kq:∀c y,H1 c=some y->upd H nf (some (.own [.slice none 0 0])) c=none->K c=some y:=fun c y h n=>by rw[kk c (fun e=>by rw[e,BU]at n;cases n) (fun e=>by rw[e,BU]at n;cases n)];exact h
 have kg:=hg.ext kH;have hz:Ln N L (2*n+0)<=L.length:=PF N L L.length (2*n+0);refine By fun T hT=> ?_
 have u5:=(hT 5).trans xv;have u9:=(hT 9).trans xv;have h5:=u5;have h9:=u9;clear hT;have fz:=ai e0 (ai h9 h5);refine Pw hf rfl xv rfl (fun lp elp=>Qr (I:=X9 K (nf2+1) nf lp nf2 (Hx N L (2*n+0))) (J:=fun _=>False) (w:=0) (R1 _ _ _ _ _ _) (kq _ _ k1 z1) (kq _ _ k2 z2) (kq _ _ k3 z3) kg hn dZ hN hL ?_ (fun k G hk hI=> ?_)) ?_
 ·exact⟨nf2+2,.slice none 0 0,(hf.new _).new _,by(repeat refine Ext.up (by first|exact hf0 _ om|exact k0) ?_);exact kM,BU _ _ _,by rw[upd_ne om,BU],by rw[upd_ne om,upd_ne om];exact e0,GS.nil _ _,fun b h=>(Bo b h).elim⟩
 ·obtain⟨nf3,v,hf,he,hl,hr,hs,gs,gn⟩:=hI;have m1:=hf.lt hl;subst elp;have hf1:=hf;refine Wo hl dZ (BQ ?_);have fz:=ai @LG (ai hs (ai e0 (ai h9 h5)));refine xq (BP ?_);refine⟨rfl,hl,Le hf hl fun hf=> ?_⟩;refine BS (BQ ?_);have fz:=ai @LG (ai hs (ai e0 (ai h9 h5)));refine Ba ?_;refine xa fun hf=> ?_
  refine FU (ys:=[.int .i64 ((pc N L L.length (2*n+0))[k]'hk:Int)]) hf rfl xv QP (v:=v) (gs.keep fun b h=>by have:=hf1.lt (gs.live h);rw[upd_ne om,upd_ne (gn b h).2.1]) dZ (Bu (BU _ _ _) rfl dZ) ⟨_,_,_,rfl,rfl⟩ rfl dZ rfl om om fun v2 G2 gs2 fr hf gb=> ?_
  have s2:G2 nf=some (.own [v]):=by rw[fr _ om fun h=>(gn _ h).2.2.2 rfl];simp(disch:=omega)only[wx,fz]
  have l2:=fr (nf2+1) om fun h=>(gn _ h).2.1 rfl
  rw[upd_ne om,BU]at l2;have r2:=fr nf2 om fun h=>(gn _ h).2.2.1 rfl
  rw[upd_ne om,upd_ne om,hr]at r2;have he2:Ext K G2:=Ext.fr (by(repeat refine Ext.up (by first|exact hf0 _ om|exact k0) ?_);exact he) (hf0 _ om) (fun b h=>(gn b h).1) fr;obtain⟨a2,c2,rfl⟩:=gs2.shape;have fz:=ai r2 (ai l2 (ai s2 fz));refine xs fun hf=> ?_
  refine BP ?_;refine⟨_,_,xv,.inl ⟨rfl,_,_,hf.old xv _,by(repeat refine Ext.up (by first|exact hf0 _ om|exact k0) ?_);exact he2,BU _ _ _,xy,xv,?_,fun b h=> ?_⟩⟩
  ·rw[<-Gg _ _ (by rw[FT];exact hk)];have ee:intC ((Hx N L (2*n+0))[k]'(by rw[FT];exact hk))=[.int .i64 ((pc N L L.length (2*n+0))[k]'hk:Int)]:=congrArg (fun x=>[Value.int .i64 x]) (List.getElem_map _);rw[ee];exact gs2.keep fun b h=>by have:=gb b h;subst this;rw[upd_ne om,upd_ne om]
  ·have:=gb b h;subst this;exact⟨hf0 _ om,om,om,om⟩
 ·intro lp elp vz Hz nf3 hl3 q hf;rcases q with⟨nf3,v,hf2,he,hl,hr,hs,gs,gn⟩|q;rotate_left
  ·exact q.elim
  subst elp;refine⟨_,_,hl,dZ,Uy hf hl fun hf=> ?_⟩;refine BO (BQ ?_);have fz:=ai hr (ai hs (ai e0 (ai h9 h5)));refine Ba (BP (BT (rt ?_)));refine Xd xv ?_;exact BW rfl (by
   have tk: (Hx N L (2*n+0)).take (Ln N L (2*n+0))=Hx N L (2*n+0):=List.take_of_length_le (by rw[FT];exact AH _);rw[tk]at gs;rw[FT];refine⟨kH.trans (by(repeat refine Ext.up (by first|exact hf0 _ om|exact k0) ?_);exact he),?_,fun b h=> ?_⟩
   ·simp(disch:=omega)only[wx,fz];exact gs.keep fun b h=>by rw[upd_ne (gn b h).2.2.1,upd_ne (gn b h).2.1]
   ·simp(disch:=omega)only[wx,fz]at h;exact kH.none' (gn b h).1)
theorem vZ(hg:Wp H g N L)(hn:n<N)(hN:N<1000000)(hL:L.length<1000000):Ct 54 [.pointer (some ⟨g,0,none⟩),.int .i64 (n:Int)] (fun v H'=>Nw H H' 1 v ((Hx N L (2*n+1)).flatMap intC) (Hx N L (2*n+1)).length) H:=by
 refine JX Tryz.func54 rfl 16 rfl fun nf t hf hsc ht=> ?_
 have hf0:=hf;refine BO (BQ ?_);have fz:=ai (ht 1 _ rfl) (ht 0 _ rfl);refine xq (BP (BO (BQ ?_)));refine xa fun hf=> ?_
 refine BP (BO (BO (BQ (Ba ?_))));refine xc (h:=Uz g n 1) (k:=fun v1 H1 nf2 hl2 q1 hf=> ?_);refine BP (BS ?_);obtain⟨x1,b1,b2,b3,rfl,k1,k2,k3,z1,z2,z3⟩:=q1;have e0:=x1 nf _ (BU _ _ _);have l0:=hf.lt e0;have kH0:=hf0 nf (AH _);obtain⟨K,kH,kM,k0, -,hf0,kk⟩:=Rk (Ext.trans (EL kH0 _) x1) kH0 kH0 hf;have kq:∀c y,H1 c=some y->upd H nf (some (.own [.slice none 0 0])) c=none->K c=some y:=fun c y h n=>by rw[kk c (fun e=>by rw[e,BU]at n;cases n) (fun e=>by rw[e,BU]at n;cases n)];exact h
 have kg:=hg.ext kH;have hz:Ln N L (2*n+1)<=L.length:=PF N L L.length (2*n+1);refine By fun T hT=> ?_
 have u5:=(hT 5).trans xv;have u9:=(hT 9).trans xv;have h5:=u5;have h9:=u9;clear hT;have fz:=ai e0 (ai h9 h5);refine Pw hf rfl xv rfl (fun lp elp=>Qr (I:=X9 K (nf2+1) nf lp nf2 (Hx N L (2*n+1))) (J:=fun _=>False) (w:=1) (R1 _ _ _ _ _ _) (kq _ _ k1 z1) (kq _ _ k2 z2) (kq _ _ k3 z3) kg hn dZ hN hL ?_ (fun k G hk hI=> ?_)) ?_
 ·exact⟨nf2+2,.slice none 0 0,(hf.new _).new _,by(repeat refine Ext.up (by first|exact hf0 _ om|exact k0) ?_);exact kM,BU _ _ _,by rw[upd_ne om,BU],by rw[upd_ne om,upd_ne om];exact e0,GS.nil _ _,fun b h=>(Bo b h).elim⟩
 ·obtain⟨nf3,v,hf,he,hl,hr,hs,gs,gn⟩:=hI;have m1:=hf.lt hl;subst elp;have hf1:=hf;refine Wo hl dZ (BQ ?_);have fz:=ai @LG (ai hs (ai e0 (ai h9 h5)));refine xq (BP ?_);refine⟨rfl,hl,Le hf hl fun hf=> ?_⟩;refine BS (BQ ?_);have fz:=ai @LG (ai hs (ai e0 (ai h9 h5)));refine Ba ?_;refine xa fun hf=> ?_
  refine FU (ys:=[.int .i64 ((pc N L L.length (2*n+1))[k]'hk:Int)]) hf rfl xv QP (v:=v) (gs.keep fun b h=>by have:=hf1.lt (gs.live h);rw[upd_ne om,upd_ne (gn b h).2.1]) dZ (Bu (BU _ _ _) rfl dZ) ⟨_,_,_,rfl,rfl⟩ rfl dZ rfl om om fun v2 G2 gs2 fr hf gb=> ?_
  have s2:G2 nf=some (.own [v]):=by rw[fr _ om fun h=>(gn _ h).2.2.2 rfl];simp(disch:=omega)only[wx,fz]
  have l2:=fr (nf2+1) om fun h=>(gn _ h).2.1 rfl
  rw[upd_ne om,BU]at l2;have r2:=fr nf2 om fun h=>(gn _ h).2.2.1 rfl
  rw[upd_ne om,upd_ne om,hr]at r2;have he2:Ext K G2:=Ext.fr (by(repeat refine Ext.up (by first|exact hf0 _ om|exact k0) ?_);exact he) (hf0 _ om) (fun b h=>(gn b h).1) fr;obtain⟨a2,c2,rfl⟩:=gs2.shape;have fz:=ai r2 (ai l2 (ai s2 fz));refine xs fun hf=> ?_
  refine BP ?_;refine⟨_,_,xv,.inl ⟨rfl,_,_,hf.old xv _,by(repeat refine Ext.up (by first|exact hf0 _ om|exact k0) ?_);exact he2,BU _ _ _,xy,xv,?_,fun b h=> ?_⟩⟩
  ·rw[<-Gg _ _ (by rw[FT];exact hk)];have ee:intC ((Hx N L (2*n+1))[k]'(by rw[FT];exact hk))=[.int .i64 ((pc N L L.length (2*n+1))[k]'hk:Int)]:=congrArg (fun x=>[Value.int .i64 x]) (List.getElem_map _);rw[ee];exact gs2.keep fun b h=>by have:=gb b h;subst this;rw[upd_ne om,upd_ne om]
  ·have:=gb b h;subst this;exact⟨hf0 _ om,om,om,om⟩
 ·intro lp elp vz Hz nf3 hl3 q hf;rcases q with⟨nf3,v,hf2,he,hl,hr,hs,gs,gn⟩|q;rotate_left
  ·exact q.elim
  subst elp;refine⟨_,_,hl,dZ,Uy hf hl fun hf=> ?_⟩;refine BO (BQ ?_);have fz:=ai hr (ai hs (ai e0 (ai h9 h5)));refine Ba (BP (BT (rt ?_)));refine Xd xv ?_;exact BW rfl (by
   have tk: (Hx N L (2*n+1)).take (Ln N L (2*n+1))=Hx N L (2*n+1):=List.take_of_length_le (by rw[FT];exact AH _);rw[tk]at gs;rw[FT];refine⟨kH.trans (by(repeat refine Ext.up (by first|exact hf0 _ om|exact k0) ?_);exact he),?_,fun b h=> ?_⟩
   ·simp(disch:=omega)only[wx,fz];exact gs.keep fun b h=>by rw[upd_ne (gn b h).2.2.1,upd_ne (gn b h).2.1]
   ·simp(disch:=omega)only[wx,fz]at h;exact kH.none' (gn b h).1)
end
section
variable{H:Hp}
theorem Zh{x:List Int}{A:Option Addr}{c:Nat}(hA:Rd 1 intC H A x){a:Int}(ha:0<=a):Pure 184 [.slice A x.length c,.int .i64 a] (.int .i64 (alongI x a)) H:=by
 refine Pure.of rfl (BV Tryz.func184 rfl 13 rfl fun nf t hf _ ht=> ?_);have hf0:=hf;refine BO (BQ ?_);have fz:=ai (ht 1 _ rfl) (ht 0 _ rfl);refine xq (BP (BO (BO (BQ ?_))));refine Dv (BP ?_);refine C8 (fun c1=> ?_) fun c1=> ?_
 ·refine BO (BQ ?_);have fz:=ai c1 fz;refine xq (BP (BT (rt ?_)));exact BW rfl ⟨by simp(disch:=omega)only[wx,fz];rw[alongI,if_pos om],xx⟩
 ·obtain⟨k,rfl⟩:=AI ha;obtain⟨b,o,eA,ho⟩:=hA k om;have lb:=Bd hf0 ho;refine BR (BO (BQ ?_));have fz:=ai ho (ai eA (ai c1 fz));refine Eg (BP (BT (rt ?_)));exact BW rfl ⟨by simp(disch:=omega)only[wx,fz];rw[Bc _ om],xx⟩
def uq(p:List Int)(x:Ar):List Value:=[.int .i64 x.f,.int .i64 x.t,.int .i64 x.lo,.int .i64 x.ca,.int .i64 x.co,.int .i64 (alongI p x.f),.int .i64 (alongI p x.t)]
def uJ(p:List Int)(x:Ar):Value:= .agg ⟨uq p x⟩
def qR:Value:= .agg #[.int .i64 0,.int .i64 0,.int .i64 0,.int .i64 0,.int .i64 0,.int .i64 0,.int .i64 0]
theorem oJ:B9 tz 185 []=some qR:=kr
theorem tB(f t lo ca co a b:Int):B9 tz 185 [(0,.agg #[.int .i64 f,.int .i64 t,.int .i64 lo,.int .i64 ca,.int .i64 co]),(1,.int .i64 a),(2,.int .i64 b)]=some (.agg #[.int .i64 f,.int .i64 t,.int .i64 lo,.int .i64 ca,.int .i64 co,.int .i64 a,.int .i64 b]):=kr
def iH(n:Nat)(p:List Int)(x:Ar):Value:= .tuple #[if CG n x=true then uJ p x else qR,.bool (CG n x)]
theorem Xx(n:Nat)(p:List Int)(x:Ar):plainV (iH n p x)=true:=by unfold iH;cases CG n x<;>rfl
def NS(p:List Int)(x:Ar):Int:=x.co - alongI p x.f+alongI p x.t
variable{B P:Option Addr}
theorem tS{S:List Int}{L:List Ar}{p:List Int}{A:Option Addr}{c d e k:Nat}(hB:Rd 5 Ar.c H B L)(hP:Rd 1 intC H P p)(hk:k<L.length):Pure 147 [.agg #[.slice A S.length c,.slice B L.length d],.slice P p.length e,.int .i64 (k:Int)] (iH S.length p L[k]) H:=by
 refine Pure.of (Xx _ _ _) (BV Tryz.func147 rfl 59 rfl fun nf t hf _ ht=> ?_);have hf0:=hf;refine BO (BQ ?_);have fz:=ai @qR.eq_1 (ai @tB (ai @oJ (ai (ht 2 _ rfl) (ai (ht 1 _ rfl) (ht 0 _ rfl)))));refine xa fun hf=> ?_
 refine xa fun hf=> ?_
 refine xq (BP (BO (BO (BQ ?_))));iterate 9 first|refine xq ?_|refine xg ?_
 refine BP (xi (fun c1=> ?_) fun c1=> ?_)
 ·refine BO (BQ ?_);have fz:=ai c1 fz;refine xq ?_;refine xs fun hf=> ?_
  refine xq (BP (BT (rt ?_)));exact R8 rfl xv ⟨by(exfalso;simp at c1;omega),xx⟩
 ·refine BR (BO (BQ ?_));obtain⟨b,o,eB,ho⟩:=hB k hk;have lb:=Bd hf0 ho;have fz:=ai ho (ai eB (ai c1 fz));refine Eg ?_;refine xa fun hf=> ?_
  refine xs fun hf=> ?_
  refine BP (BO (BQ (Dv (BP (BO (BO (BQ ?_)))))));iterate 20 first|refine xq ?_|refine xg ?_
  refine BP (xi (fun c2=> ?_) fun c2=> ?_)
  ·have ce:CG S.length L[k]=false:=by unfold CG DS;simp at c2⊢;omega
   refine BO (BQ ?_);have fz:=ai c2 fz;refine xq ?_;refine xs fun hf=> ?_
   refine xq (BP (BT (rt ?_)));exact R8 rfl xv ⟨by(rw[iH,if_neg (by rw[ce];exact Aq),ce];exact xv),xx⟩
  ·have ce:CG S.length L[k]=true:=by unfold CG DS;simp at c2⊢;omega
   obtain⟨u1,u2,u3,u4⟩:=D9 ce;refine BR (BO (TZ H xx fun hE=> ?_));refine Bh [1,0,0,1,1,0,0,1,1,0,2,0] [0,1,2,3,4,5,6,7,8,9,10,11] kr hf ?_;have fz:=ai c2 fz;iterate 4 first|refine CA ?_|refine Cq ?_
   refine EB (h:=fun G hG=>Zh ((hP.ext hE).ext hG) (by first|exact u1|exact u3)) (k:= ?_);iterate 3 first|refine CA ?_|refine Cq ?_
   refine EB (h:=fun G hG=>Zh ((hP.ext hE).ext hG) (by first|exact u1|exact u3)) (k:= ?_);refine CA ?_;refine Fx fun nf2 hl2 hf=> ?_
   refine CA (BX (BT (rt ?_)));exact R8 rfl xv ⟨by(rw[iH,if_pos ce,ce];exact xv),xx⟩
def pC(f t lo ca co a b:Int):Value:= .agg #[.int .i64 f,.int .i64 t,.int .i64 lo,.int .i64 ca,.int .i64 co,.int .i64 a,.int .i64 b]
variable{b ca co f lo t:Int}
theorem XJ{a:Int}(r1:R64 co)(r2:R64 a)(r3:R64 b):Pure 148 [pC f t lo ca co a b] (W (co - a+b)) H:=by
 refine Pure.of rfl (BV Tryz.func148 rfl 15 rfl fun nf t hf _ ht=> ?_);have hf0:=hf;refine BO (BQ ?_);have fz:=ai @DO (ai @pC.eq_1 (ht 0 _ rfl));refine xa fun hf=> ?_
 refine xa fun hf=> ?_
 refine BP (BO (Bh [0,0,1,1,0,1,1,1,0,1,1,1,2] [0,1,2,3,4,5,6,7,8,9,10,11,12] kr hf ?_));iterate 3 first|refine CA ?_|refine Cq ?_
 refine EB (h:=fun G hG=>LD (by first|exact r1|exact r2|exact r3) _) (k:= ?_);iterate 2 first|refine CA ?_|refine Cq ?_
 refine EB (h:=fun G hG=>LD (by first|exact r1|exact r2|exact r3) _) (k:= ?_);refine EB (h:=fun G hG=>LP _ _ _) (k:= ?_);iterate 2 first|refine CA ?_|refine Cq ?_
 refine EB (h:=fun G hG=>LD (by first|exact r1|exact r2|exact r3) _) (k:= ?_);refine EB (h:=fun G hG=>KG _ _ _) (k:= ?_);refine Fx fun nf2 hl2 hf=> ?_
 refine BX (BT (rt ?_));exact Ch rfl xv ⟨by(simp(disch:=omega)only[wx,fz]<;>rfl),xx⟩
theorem lP{a:Int}(r1:R64 co)(r2:R64 a)(r3:R64 b):Pure 121 [pC f t lo ca co a b] (.int .i64 (sg (co - a+b) 0)) H:=by
 refine Pure.of rfl (BV Tryz.func121 rfl 7 rfl fun nf t hf _ ht=> ?_);have hf0:=hf;refine BO (BQ ?_);have fz:=ai @pC.eq_1 (ht 0 _ rfl);refine xa fun hf=> ?_
 refine xq (BP (BO (BQ ?_)));refine xq ?_;refine xp (h:=XJ r1 r2 r3) (k:= ?_);refine xp (h:=LD (a:=0) dZ _) (k:= ?_);refine xp (h:=Gj (by unfold R64 at r1 r2 r3;omega) dZ _) (k:= ?_);refine xq (BP (BT (rt ?_)));exact BW rfl ⟨by(simp(disch:=omega)only[wx,fz]<;>rfl),xx⟩
theorem oV(S:List Int)(L:List Ar)(p:List Int)(A B P:Option Addr)(c d e:Nat):Ct 120 [.agg #[.slice A S.length c,.slice B L.length d],.slice P p.length e] (fun v H'=>Ext H H'/\∃b1 b2,v= .func (.func 146) #[] #[.pointer (some ⟨b1,0,none⟩),.pointer (some ⟨b2,0,none⟩)]/\H' b1=some (.own [.slice A S.length c,.slice B L.length d])/\H' b2=some (.own [.slice P p.length e])/\H b1=none/\H b2=none) H:=by
 refine BV Tryz.func120 rfl 6 rfl fun nf t hf hsc ht=> ?_
 have hf0:=hf;refine BO (BQ ?_);have fz:=ai (ht 1 _ rfl) (ht 0 _ rfl);refine xa fun hf=> ?_
 refine xa fun hf=> ?_
 refine xq (BP (BO (BQ ?_)));refine Ba (BP (BT (rt ?_)));exact BW rfl ⟨by(repeat refine Ext.up (hf0 _ om) ?_);exact Ext.refl _,nf,nf+1,xv,xy,xy,hf0 _ om,hf0 _ om⟩
theorem Oj{α:Type}(f:Nat->α)(k:Nat)(x y:α):upd (upd f k x) k y=upd f k y:=by
 funext i;unfold upd;split<;>rfl
theorem iJ{K:Hp}{I:Nat->Hp->Prop}{J:Hp->Prop}{y b1 b2:Nat}{S:List Int}{L:List Ar}{p:List Int}{A:Option Addr}{c d e:Nat}(hI:Rds K I)(k1:K b1=some (.own [.slice A S.length c,.slice B L.length d]))(k2:K b2=some (.own [.slice P p.length e]))(hB:Rd 5 Ar.c K B L)(hP:Rd 1 intC K P p)(hL:L.length<1000000)(i0:I 0 H)(skp:∀k G (hk:k<L.length),I k G->CG S.length L[k]=false->I (k+1) G)(step:∀k G (hk:k<L.length),I k G->CG S.length L[k]=true->Oa y [.int .i64 (k:Int),uJ p L[k]] (fun v G'=>v= .bool true/\I (k+1) G'\/v= .bool false/\J G'/\∃nf,Fr G' nf) G):Ct 146 [.func (.yield y) #[] #[],.pointer (some ⟨b1,0,none⟩),.pointer (some ⟨b2,0,none⟩)] (fun _ H'=>I L.length H'\/J H') H:=by
 refine BV Tryz.func146 rfl 29 rfl fun nf t hf hsc ht=> ?_
 have hf0:=hf;have he:=hI.ext _ _ i0;have p1:=he _ _ k1;have p2:=he _ _ k2;refine BO (BQ ?_);have fz:=ai p2 (ai p1 (ai (ht 2 _ rfl) (ai (ht 1 _ rfl) (ht 0 _ rfl))));refine Dv (BP (BS ?_));refine By fun T1 hT=> ?_
 have gz:=ai (xt (hT 10)) (ai (xt (hT 9)) (ai (xt (hT 2)) (ai (xt (hT 1)) (ai (xt (hT 0)) trivial))));clear hT;refine xl L.length nf K hf (fun k t nf1 G=>I k G/\(t 0=T1 0/\t 1=T1 1/\t 2=T1 2/\t 9=T1 9)/\t 10= .int .i64 (k:Int)) ⟨i0,xh⟩ ?_;rintro k t nf1 G hk1 hn1 hf he ⟨hk,uz,h10⟩;have hfl:=hf;have p1:=he _ _ k1;have p2:=he _ _ k2;refine BO (BQ ?_);have fz:=ai p2 (ai p1 (ai h10 (ai uz gz)));refine xq (BP (BO ?_));refine C8 (fun c1=> ?_) fun c1=> ?_
 ·refine BR (BO (BS (BO (BQ ?_))));have fz:=ai c1 fz;refine Ba (BP (BO ?_));rcases Bool.eq_false_or_eq_true (CG S.length L[k])with cs|cs
  ·have av:iH S.length p L[k]= .tuple #[.agg #[.int .i64 L[k].f,.int .i64 L[k].t,.int .i64 L[k].lo,.int .i64 L[k].ca,.int .i64 L[k].co,.int .i64 (alongI p L[k].f),.int .i64 (alongI p L[k].t)],.bool true]:=by rw[iH,if_pos cs,cs]<;>rfl
   refine BQ ?_;have fz:=ai av (ai cs fz);refine B0 ?_;refine xp (h:=tS (S:=S) (A:=A) (c:=c) (hB.ext he) (hP.ext he) (show k<L.length from om)) (k:= ?_);refine B0 ?_;refine xa fun hf=> ?_
   refine xs fun hf=> ?_
   refine xq (BP (BO ?_));refine Px fun G1 hG1=> ?_
   have hk1:I k G1:=by rw[hG1,Oj];exact hI.up _ _ _ _ hk (hfl _ (AH _))
   have he:=hI.ext _ _ hk1;have hf:=hG1▸hf;have q1:=he _ _ k1;have q2:=he _ _ k2;have s5:=(congrFun hG1 nf1).trans (BU _ _ _);clear hG1;refine BQ ?_;have fz:=ai s5 (ai q2 (ai q1 fz));iterate 5 first|refine xq ?_|refine xg ?_
   refine xL rfl rfl xv xv xv (step k G1 _ hk1 cs) fun v G2 q=> ?_
   rcases q with⟨rfl,q⟩|⟨rfl,q,nfj,hf⟩;rotate_left
   ·refine og hf rfl xv (fun hgd=>xv) ?_;refine oq hf rfl xv (BP (R4 rfl xv (BT ?_)));refine rt ?_;exact HQ rfl (.inr q)
   obtain⟨nf2,hf⟩:=hI.fr _ _ q;have hf:=hf.up (Nat.le_max_left nf2 nf);have he:=hI.ext _ _ q;iterate 2 first|refine xq ?_|refine xg ?_
   refine BP (xF (BR (BQ ?_)));refine Ba (BP ?_);exact xe hf ⟨(by first|exact q|exact skp k G1 om hk1 cs),xz⟩
  ·have av:iH S.length p L[k]= .tuple #[qR,.bool false]:=by rw[iH,if_neg (by rw[cs];exact Aq),cs]
   refine BQ ?_;have fz:=ai @qR.eq_1 (ai av (ai cs fz));refine B0 ?_;refine xp (h:=tS (S:=S) (A:=A) (c:=c) (hB.ext he) (hP.ext he) (show k<L.length from om)) (k:= ?_);refine B0 ?_;refine xa fun hf=> ?_
   refine xs fun hf=> ?_
   refine xq (BP (BO ?_));refine Px fun G1 hG1=> ?_
   have hk1:I k G1:=by rw[hG1,Oj];exact hI.up _ _ _ _ hk (hfl _ (AH _))
   have he:=hI.ext _ _ hk1;have hf:=hG1▸hf;have q1:=he _ _ k1;have q2:=he _ _ k2;have s5:=(congrFun hG1 nf1).trans (BU _ _ _);clear hG1;refine BQ ?_;have fz:=ai s5 (ai q2 (ai q1 fz));iterate 8 first|refine xq ?_|refine lE ?_
   refine BP (xF (BR (BQ ?_)));refine Ba (BP ?_);exact xe hf ⟨(by first|exact q|exact skp k G1 om hk1 cs),xz⟩
 ·refine xo ?_;refine Ji ?_ rfl;refine rt ?_;have fz:=ai c1 fz;exact HQ rfl (.inl (by obtain rfl:k=L.length:=om;exact hk))
end
section
def Wq(K:Hp)(l s:Nat)(lp:ALoop)(r:Nat)(V:Nat->List Value)(Φ:Nat->Prop)(k:Nat)(G:Hp):Prop:=∃nf,Fr G nf/\Ext K G/\G l=some (.lp lp)/\G r=some (.df true)/\G s=some (.own (V k))/\Φ k
theorem YE(K:Hp)(l s:Nat)(lp:ALoop)(r:Nat)(V:Nat->List Value)(Φ:Nat->Prop):Rds K (Wq K l s lp r V Φ):= .of (fun k G b x ⟨nf,h1,h2,h3,h4,h5,h6⟩ hb=>⟨_,h1.any b x 0,h2.trans (EL hb x),Ea hb x h3,Ea hb x h4,Ea hb x h5,h6⟩) fun k G ⟨nf,h1,h2,_⟩=>⟨h2,nf,h1⟩
def LH(n:Nat)(L:List Ar)(x p:List Int)(k:Nat):Bool:=CG n (arcD L k)&&((decide (sg (NS p (arcD L k)) 0>0)&&alongI x k !=(arcD L k).lo)||(decide (sg (NS p (arcD L k)) 0<0)&&(alongI x k !=(arcD L k).ca||(arcD L k).ca==4611686018427387904)))
open Classical in
noncomputable def CP(S:List Int)(L:List Ar)(x p:List Int):Int:=if Cb S L x≠0 then Cb S L x else if p.length≠S.length then 30 else if∃k,k<L.length/\LH S.length L x p k=true then 33 else 0
variable{S x:List Int}{L:List Ar}
open Classical in
theorem OL(h:Cb S L x=0):rightI S L=0/\x.length=L.length:=by
 unfold Cb at h;by_cases h1:rightI S L=0
 ·rw[if_neg (fun k=>k h1)]at h;by_cases h2:x.length=L.length
  ·exact⟨h1,h2⟩
  ·rw[if_pos h2]at h;cases h
 ·rw[if_pos h1]at h;exact absurd h h1
variable{B P X:Option Addr}
set_option maxHeartbeats 1600000 in
theorem dx{p:List Int}{A:Option Addr}{c d e f:Nat}{H:Hp}(hA:Rd 1 intC H A S)(hB:Rd 5 Ar.c H B L)(hX:Rd 1 intC H X x)(hP:Rd 1 intC H P p)(hS:∀n∈S,R64 n)(hx:∀n∈x,R64 n)(hp:∀n∈p,R64 n)(hc:∀a∈L,R64 a.co)(hl:x.length<4611686018427387904):Ct 78 [.agg #[.slice A S.length c,.slice B L.length d],.slice X x.length e,.slice P p.length f] (fun v H'=>v= .int .u16 (CP S L x p)/\Ext H H') H:=by
 refine JX Tryz.func78 rfl 62 rfl fun nf t hf hsc ht=> ?_
 have hf0:=hf;have h1:=ht 1 _ rfl;have h2:=ht 2 _ rfl;refine BO (BQ ?_);have fz:=ai h2 (ai h1 (ht 0 _ rfl));refine xa fun hf=> ?_
 refine xa fun hf=> ?_
 refine xa fun hf=> ?_
 refine BP (BO (BO (BQ (Ba ?_))));refine xp (h:=PZ (hA.ext (by(repeat refine Ext.up (by first|exact hf0 _ om|exact k0) ?_);exact Ext.refl _)) (hB.ext (by(repeat refine Ext.up (by first|exact hf0 _ om|exact k0) ?_);exact Ext.refl _)) (hX.ext (by(repeat refine Ext.up (by first|exact hf0 _ om|exact k0) ?_);exact Ext.refl _)) hS hx hl) (k:= ?_);refine xq (BP (BO (BQ ?_)));refine Ba (BP ?_);refine xi (fun c1=> ?_) fun c1=> ?_
 ·refine BO (BQ ?_);have fz:=ai c1 fz;refine xq ?_;refine xs fun hf=> ?_
  refine BP (BT (rt (sH ?_)));exact Ch rfl xv (by first|exact⟨by rw[CP,if_pos (by simpa using c1)],by(repeat refine Ext.up (by first|exact hf0 _ om|exact k0) ?_);exact Ext.refl _⟩|exact⟨by rw[CP,if_neg (fun h=>h hr),if_pos om],by(repeat refine Ext.up (by first|exact hf0 _ om|exact k0) ?_);exact Ext.refl _⟩|exact⟨by rw[CP,if_neg (fun h=>h hr),if_neg om,if_neg (fun⟨j,h,e⟩=>by rw[hi j h]at e;cases e)],kH.trans (by(repeat refine Ext.up (by first|exact hf0 _ om|exact k0) ?_);exact he)⟩)
 ·have hr:Cb S L x=0:=by simpa using c1
  have hlen:=OL hr;have hb:=CW hlen.1;refine BR (BO (BO (BQ ?_)));have fz:=ai c1 fz;refine Dk (BP ?_);refine Kf (fun c2=> ?_) fun c2=> ?_
  ·refine BO (BQ ?_);have fz:=ai c2 fz;refine xs fun hf=> ?_
   refine BP (BT (rt (sH ?_)));exact Ch rfl xv (by first|exact⟨by rw[CP,if_pos (by simpa using c1)],by(repeat refine Ext.up (by first|exact hf0 _ om|exact k0) ?_);exact Ext.refl _⟩|exact⟨by rw[CP,if_neg (fun h=>h hr),if_pos om],by(repeat refine Ext.up (by first|exact hf0 _ om|exact k0) ?_);exact Ext.refl _⟩|exact⟨by rw[CP,if_neg (fun h=>h hr),if_neg om,if_neg (fun⟨j,h,e⟩=>by rw[hi j h]at e;cases e)],kH.trans (by(repeat refine Ext.up (by first|exact hf0 _ om|exact k0) ?_);exact he)⟩)
  ·refine BR (BO (BO (BQ ?_)));have fz:=ai c2 fz;refine Ba ?_;refine xc (h:=oV S L p A B P c d f) (k:=fun v1 H1 nf2 hl2 q1 hf=> ?_);refine BP (BS ?_);obtain⟨x1,b1,b2,rfl,k1,k2,z1,z2⟩:=q1;have e0:=x1 nf _ (by rw[upd_ne om,upd_ne om,BU]);have e1:=x1 (nf+1) _ (by rw[upd_ne om,BU]);have e2:=x1 (nf+2) _ (BU _ _ _);have l2:=hf.lt e2;have kH0:=hf0 (nf+2) om;obtain⟨K,kH,kM,k0, -,hf0,kk⟩:=Rk (Ext.trans (by(repeat refine Ext.up (by first|exact hf0 _ om|exact k0) ?_);exact Ext.refl H) x1) kH0 kH0 hf;have kq:∀c y,H1 c=some y->c≠nf+2->K c=some y:=fun c y h n=>by rw[kk c n n];exact h
   have n1:b1≠nf+2:=fun e=>by rw[e,BU]at z1;cases z1
   have n2:b2≠nf+2:=fun e=>by rw[e,BU]at z2;cases z2
   have q0:=kq nf _ e0 om;have q1:=kq (nf+1) _ e1 om;refine By fun T hT=> ?_
   have u4:=(hT 4).trans xv;have u6:=(hT 6).trans xv;have u25:=(hT 25).trans xv;have h4:=u4;have h6:=u6;have h25:=u25;clear hT;have fz:=ai e2 (ai e1 (ai e0 (ai h25 (ai h6 h4))));refine Pw hf rfl xv rfl (fun lp elp=>iJ (I:=Wq K (nf2+1) (nf+2) lp nf2 (fun _=>[.int .u16 0]) (fun k=>∀j,j<k->LH S.length L x p j=false)) (J:=fun G=>Ext K G/\G (nf2+1)=some (.lp {lp with state:= .done,pending:=some .ret})/\G nf2=some (.df true)/\G (nf+2)=some (.own [.int .u16 33])/\∃k,k<L.length/\LH S.length L x p k=true) (YE _ _ _ _ _ _ _) (kq _ _ k1 n1) (kq _ _ k2 n2) (hB.ext kH) (hP.ext kH) om ?_ (fun k G hk hI ce=> ?_) (fun k G hk hI ce=> ?_)) ?_
   ·exact⟨nf2+2,(hf.new _).new _,by(repeat refine Ext.up (by first|exact hf0 _ om|exact k0) ?_);exact kM,BU _ _ _,by rw[upd_ne om,BU],by rw[upd_ne om,upd_ne om];exact e2,fun j h=>absurd h (Aj j)⟩
   ·obtain⟨nf3,h1,h2,h3,h4,h5,h6⟩:=hI;exact⟨nf3,h1,h2,h3,h4,h5,fun j h=>by rcases AT.1 h with h|rfl;exact h6 j h;rw[LH,Bk hk,ce];rfl⟩
   ·obtain⟨nf3,hf,he,hl,hr2,hs,hi⟩:=hI;have m1:=hf.lt hl;subst elp;have p0:=he _ _ q0;have p1:=he _ _ q1;obtain⟨b5,o5,eX,hoK⟩:=(hX.ext kH) k om;have l5:=Bd hf0 hoK;have hoX:=PQ he hoK;have r1:R64 L[k].co:=hc _ (AM hk);have r2:R64 (alongI p L[k].f):=CZ hp _;have r3:R64 (alongI p L[k].t):=CZ hp _;have ea:=Bk hk;have ex:=Bc x (show k<x.length from om);have be:LH S.length L x p k=((decide (sg (L[k].co - alongI p L[k].f+alongI p L[k].t) 0>0)&&x[k] !=L[k].lo)||(decide (sg (L[k].co - alongI p L[k].f+alongI p L[k].t) 0<0)&&(x[k] !=L[k].ca||L[k].ca==4611686018427387904))):=by rw[LH,ea,ce,ex];rfl
    refine Wn hl dZ dZ (BO (BQ ?_));have fz:=ai @pC.eq_1 (ai @uq.eq_1 (ai @uJ.eq_1 (ai hoX (ai eX (ai p1 (ai p0 (ai hr2 (ai hs (ai e2 (ai e1 (ai e0 (ai h25 (ai h6 h4)))))))))))));refine xq (BP (BQ ?_));refine xa fun hf=> ?_
    refine xs fun hf=> ?_
    refine BP ?_;refine⟨rfl,(by rw[upd_ne om,upd_ne om];exact hl),Le hf (by rw[upd_ne om,upd_ne om];exact hl) fun hf=> ?_⟩;refine BS (BO (BQ ?_));have fz:=ai @pC.eq_1 (ai @uq.eq_1 (ai @uJ.eq_1 (ai hoX (ai eX (ai p1 (ai p0 (ai hr2 (ai hs (ai e2 (ai e1 (ai e0 (ai h25 (ai h6 h4)))))))))))));refine xq ?_;refine xp (h:=lP r1 r2 r3) (k:= ?_);refine xq (BP (BS (BO ?_)));refine Bh [0,0,0,1,0,0,1,0,0,1,0,0,0] [0,1,2,3,4,5,6,7,8,9,10,11,12] kr hf ?_;iterate 13 first|refine CA ?_|refine EM ?_|refine FG ?_
    refine BX (xi (fun c3=> ?_) fun c3=> ?_)
    ·refine BO (BQ ?_);have fz:=ai c3 fz;refine xs fun hf=> ?_
     refine BP (BT (rt ?_));exact⟨_,_,by rw[upd_ne om,BU],.inr ⟨rfl,⟨by(repeat refine Ext.up (by first|exact hf0 _ om|exact k0) ?_);exact he,BU _ _ _,xy,xy,k,om,by first|(rw[be,c3,c4];rfl)|(rw[be,c3];rfl)⟩,_,hf.old (by rw[upd_ne om,BU]) _⟩⟩
    ·refine BO (Bh [0,0,0,1,0,0,1,0,0,1,0,0,0,0,1,0,0,0,0] [0,1,2,3,4,5,6,7,8,9,10,11,12,13,14,15,16,17,18] kr hf ?_);have fz:=ai c3 fz;iterate 19 first|refine CA ?_|refine EM ?_|refine FG ?_
     refine BX (xi (fun c4=> ?_) fun c4=> ?_)
     ·refine BO (BQ ?_);have fz:=ai c4 fz;refine xs fun hf=> ?_
      refine BP (BT (rt ?_));exact⟨_,_,by rw[upd_ne om,BU],.inr ⟨rfl,⟨by(repeat refine Ext.up (by first|exact hf0 _ om|exact k0) ?_);exact he,BU _ _ _,xy,xy,k,om,by first|(rw[be,c3,c4];rfl)|(rw[be,c3];rfl)⟩,_,hf.old (by rw[upd_ne om,BU]) _⟩⟩
     ·refine BR ?_;have fz:=ai c4 fz;exact⟨_,_,BU _ _ _,.inl ⟨rfl,_,hf.old (BU _ _ _) _,by(repeat refine Ext.up (by first|exact hf0 _ om|exact k0) ?_);exact he,BU _ _ _,xy,xy,fun j h=>by rcases AT.1 h with h|rfl;exact hi j h;rw[be,c3,c4];rfl⟩⟩
   ·intro lp elp vz Hz nf3 hl3 q hf;rcases q with⟨nf3,hf2,he,hl,hr2,hs,hi⟩|⟨he,hl,hr2,hs,hi⟩;rotate_left
    ·subst elp;refine⟨_,_,hl,dZ,jC hf hl fun hf=> ?_⟩;refine rt ?_;refine Xd (r:=nf2) (by rw[upd_ne om];exact hr2) ?_;obtain⟨k,hk,hb2⟩:=hi;exact Ch rfl (by simp(disch:=omega)only[wy,u6,hs]<;>rfl) ⟨by rw[CP,if_neg (fun h=>h hr),if_neg om,if_pos ⟨k,hk,hb2⟩],kH.trans (by(repeat refine Ext.up (by first|exact hf0 _ om|exact k0) ?_);exact he)⟩
    subst elp;refine⟨_,_,hl,dZ,Uy hf hl fun hf=> ?_⟩;refine BO (BQ ?_);have fz:=ai hr2 (ai hs (ai e2 (ai e1 (ai e0 (ai h25 (ai h6 h4))))));refine xs fun hf=> ?_
    refine BP (BT (rt (Xd xv ?_)));exact Ch rfl xv (by first|exact⟨by rw[CP,if_pos (by simpa using c1)],by(repeat refine Ext.up (by first|exact hf0 _ om|exact k0) ?_);exact Ext.refl _⟩|exact⟨by rw[CP,if_neg (fun h=>h hr),if_pos om],by(repeat refine Ext.up (by first|exact hf0 _ om|exact k0) ?_);exact Ext.refl _⟩|exact⟨by rw[CP,if_neg (fun h=>h hr),if_neg om,if_neg (fun⟨j,h,e⟩=>by rw[hi j h]at e;cases e)],kH.trans (by(repeat refine Ext.up (by first|exact hf0 _ om|exact k0) ?_);exact he)⟩)
theorem Yp{p:List Int}{A:Option Addr}{c d e f:Nat}{H:Hp}(hA:Rd 1 intC H A S)(hB:Rd 5 Ar.c H B L)(hX:Rd 1 intC H X x)(hP:Rd 1 intC H P p)(hS:∀n∈S,R64 n)(hx:∀n∈x,R64 n)(hp:∀n∈p,R64 n)(hc:∀a∈L,R64 a.co)(hl:x.length<4611686018427387904):Pure 78 [.agg #[.slice A S.length c,.slice B L.length d],.slice X x.length e,.slice P p.length f] (.int .u16 (CP S L x p)) H:=Pure.of rfl (dx hA hB hX hP hS hx hp hc hl)
end
section
def Ij(x:List Bool)(a:Int):Bool:=decide (a >= 0)&&decide (a<x.length)&&x.getD a.toNat false
variable{x:List Bool}{H:Hp}
theorem Sk{A:Option Addr}{c:Nat}(hA:Rd 1 boolC H A x)(a:Int):Pure 150 [.slice A x.length c,.int .i64 a] (.bool (Ij x a)) H:=by
 refine Pure.of rfl (BV Tryz.func150 rfl 19 rfl fun nf t hf _ ht=> ?_);have hf0:=hf;refine BO (BQ ?_);have fz:=ai (ht 1 _ rfl) (ht 0 _ rfl);refine xq (BP (BO ?_));rcases Bool.eq_false_or_eq_true (decide (a >= 0)&&decide (a<x.length))with cs|cs
 ·have hr:0<=a/\a<x.length:=by simp at cs;omega
  obtain⟨k,rfl⟩:=AI hr.1;obtain⟨b,o,eA,ho⟩:=hA k om;have lb:=Bd hf0 ho;refine BQ ?_;have fz:=ai ho (ai eA (ai cs fz));iterate 15 first|refine xq ?_|refine xg ?_
  refine BP (BT (rt ?_));exact BW rfl ⟨by(rw[Ij,cs];simp(disch:=omega)only[wx,fz];simp[show k<x.length from om]),xx⟩
 ·refine BQ ?_;have fz:=ai cs fz;iterate 15 first|refine xq ?_|refine xg ?_|refine lE ?_
  refine BP (BT (rt ?_));exact BW rfl ⟨by(rw[Ij,cs];exact xv),xx⟩
variable{S:List Int}{L:List Ar}{B X:Option Addr}{d e:Nat}
theorem Vq{A:Option Addr}{c:Nat}(a:Int):Pure 152 [.agg #[.slice A S.length c,.slice B L.length d],.int .i64 a] (.bool (decide (a >= 0)&&decide (a<L.length))) H:=by
 refine Pure.of rfl (BV Tryz.func152 rfl 14 rfl fun nf t hf _ ht=> ?_);have hf0:=hf;refine BO (BQ ?_);have fz:=ai (ht 1 _ rfl) (ht 0 _ rfl);refine xa fun hf=> ?_
 refine xq (BP (BO (BQ ?_)));iterate 10 first|refine xq ?_|refine xg ?_
 refine BP (BT (rt ?_));exact BW rfl ⟨by(simp(disch:=omega)only[wx,fz]<;>rfl),xx⟩
def DX(S:List Int)(x:List Bool):Nat->Int
 |0=>0
 |k+1=>if Ij x (k:Int)=true then DX S x k+alongI S k else DX S x k
theorem mZ{A:Option Addr}{c:Nat}(hA:Rd 1 intC H A S)(hX:Rd 1 boolC H X x)(hS:∀n∈S,R64 n)(hl:S.length<4611686018427387904):Pure 123 [.agg #[.slice A S.length c,.slice B L.length d],.slice X x.length e] (W (DX S x S.length)) H:=by
 refine Pure.of rfl (BV Tryz.func123 rfl 25 rfl fun nf t hf _ ht=> ?_);have hf0:=hf;refine BO (BQ ?_);have fz:=ai (ht 1 _ rfl) (ht 0 _ rfl);refine xa fun hf=> ?_
 refine xa fun hf=> ?_
 refine BP (BO (BQ (xa fun hf=> ?_)));refine BP (BO (BO (BQ (Dv (BP (BS ?_))))));refine By fun T1 hT=> ?_
 have gz:=ai (xt (hT 11)) (ai (xt (hT 10)) (ai (xt (hT 9)) (ai (xt (hT 5)) (ai (xt (hT 4)) (ai (xt (hT 1)) trivial)))));clear hT;refine xl S.length nf H hf (fun k t nf1 G=>G (nf+2)=some (.own [.int .i64 (GI (DX S x k)),.int .u64 (EG (DX S x k))])/\(t 1=T1 1/\t 4=T1 4/\t 5=T1 5/\t 9=T1 9/\t 10=T1 10)/\t 11= .int .i64 (k:Int)/\G nf=some (.own [.slice A S.length c,.slice B L.length d])/\G (nf+1)=some (.own [.int .i64 0,.int .u64 0])) ⟨(by simp(disch:=omega)only[wx,fz];rfl),xh⟩ ?_;rintro k t nf1 G hk1 hn1 hf he ⟨bs,uz,h11,b0,b1⟩;have hfl:=hf;have l0:=hf.lt b0;have l1:=hf.lt b1;have lS:=hf.lt bs;have ek:=Bc S (k:=k);refine BO (BQ ?_);have fz:=ai bs (ai b1 (ai b0 (ai h11 (ai uz (ai gz @DO)))));refine xq (BP (BO ?_));refine C8 (fun c1=> ?_) fun c1=> ?_
 ·refine BR (BO (BS (BO (BQ ?_))));obtain⟨b,o,eA,ho⟩:=(hA.ext he) k om;have lb:=Bd hf ho;have fz:=ai ho (ai eA (ai c1 fz));refine Eg (BP (BO (BQ ?_)));refine Ba ?_;refine xp (h:=Sk (hX.ext he) _) (k:=(BP ?_));refine xi (fun c2=> ?_) fun c2=> ?_
  ·refine Bh [1,0,1,1,2] [0,1,2,3,4] kr hf ?_;have fz:=ai c2 fz;iterate 2 first|refine CA ?_|refine Cq ?_
   refine EB (h:=fun G hG=>LD (Ua hS (show k<S.length from om)) _) (k:= ?_);refine EB (h:=fun G hG=>KG _ _ _) (k:= ?_);refine Fx fun nf2 hl2 hf=> ?_
   refine BX (BQ (Ba (BP ?_)));exact xe hf ⟨(by first|(simp(disch:=omega)only[wx,fz];rw[DX,if_pos c2,Bc _ om])|(simp(disch:=omega)only[wx,fz];rw[DX,if_neg (by rw[c2];exact Aq)])),xz⟩
  ·refine BR (BQ ?_);have fz:=ai c2 fz;refine Ba (BP ?_);exact xe hf ⟨(by first|(simp(disch:=omega)only[wx,fz];rw[DX,if_pos c2,Bc _ om])|(simp(disch:=omega)only[wx,fz];rw[DX,if_neg (by rw[c2];exact Aq)])),xz⟩
 ·refine xo (BO (BQ ?_));have fz:=ai c1 fz;refine xq ?_;refine xs fun hf=> ?_
  refine BP (BT (rt ?_));exact Ch rfl xv ⟨by(obtain rfl:k=S.length:=om;exact xv),xx⟩
theorem Cn{x:Option AB}{o n k m:Nat}{c:List Value}(h:Cs x o n=some c)(hk:k+m<=n):Cs x (o+k) m=some ((c.drop k).take m):=by
 have key:∀l:List Value,(if o+n<=l.length then some ((l.drop o).take n)else none)=some c->(if o+k+m<=l.length then some ((l.drop (o+k)).take m)else none)=some ((c.drop k).take m):=fun l h=>by
  by_cases hl:o+n<=l.length
  ·rw[if_pos hl]at h;cases h
   rw[if_pos om,List.drop_take,List.drop_drop,List.take_take,Nat.min_eq_left om]
  ·rw[if_neg hl]at h;cases h
 cases x with
 |none=>cases h
 |some x=>cases x<;>first|exact key _ h|cases h
def Ej(L:List Ar)(l:List Int):Nat->Int
 |0=>0
 |k+1=>if(decide (alongI l k >= 0)&&decide (alongI l k<L.length))=true then Ej L l k+(arcD L (alongI l k).toNat).co else Ej L l k
theorem pk{l:List Int}{A:Option Addr}{c:Nat}(hB:Rd 5 Ar.c H B L)(hX:Rd 1 intC H X l)(hc:∀a∈L,R64 a.co)(hl:l.length<4611686018427387904):Pure 157 [.agg #[.slice A S.length c,.slice B L.length d],.slice X l.length e] (W (Ej L l l.length)) H:=by
 refine Pure.of rfl (BV Tryz.func157 rfl 28 rfl fun nf t hf _ ht=> ?_);have hf0:=hf;refine BO (BQ ?_);have fz:=ai (ht 1 _ rfl) (ht 0 _ rfl);refine xa fun hf=> ?_
 refine xa fun hf=> ?_
 refine BP (BO (BQ (xa fun hf=> ?_)));refine BP (BO (BO (BQ (B0 (BP (BS ?_))))));refine By fun T1 hT=> ?_
 have gz:=ai (xt (hT 10)) (ai (xt (hT 9)) (ai (xt (hT 8)) (ai (xt (hT 5)) (ai (xt (hT 4)) (ai (xt (hT 2)) trivial)))));clear hT;refine xl l.length nf H hf (fun k t nf1 G=>G (nf+2)=some (.own [.int .i64 (GI (Ej L l k)),.int .u64 (EG (Ej L l k))])/\(t 2=T1 2/\t 4=T1 4/\t 5=T1 5/\t 8=T1 8/\t 9=T1 9)/\t 10= .int .i64 (k:Int)/\G nf=some (.own [.slice A S.length c,.slice B L.length d])/\G (nf+1)=some (.own [.int .i64 0,.int .u64 0])) ⟨(by simp(disch:=omega)only[wx,fz];rfl),xh⟩ ?_;rintro k t nf1 G hk1 hn1 hf he ⟨bs,uz,h10,b0,b1⟩;have hfl:=hf;have l0:=hf.lt b0;have l1:=hf.lt b1;have lS:=hf.lt bs;refine BO (BQ ?_);have fz:=ai bs (ai b1 (ai b0 (ai h10 (ai uz (ai gz @DO)))));refine xq (BP (BO ?_));refine C8 (fun c1=> ?_) fun c1=> ?_
 ·refine BR (BO (BS (BO (BQ ?_))));obtain⟨b,o,eX,hoX⟩:=(hX.ext he) k om;have lb:=Bd hf hoX;have ek:=Bc l (show k<l.length from om);have fz:=ai hoX (ai eX (ai c1 fz));refine B0 (BP (BO (BQ ?_)));refine Ba ?_;refine xp (h:=Vq _) (k:=(BP ?_));refine xi (fun c2=> ?_) fun c2=> ?_
  ·have hr:0<=l[k]/\l[k]<L.length:=by simp at c2;omega
   obtain⟨j,ej⟩:=AI hr.1;obtain⟨b3,o3,eB,hoB⟩:=(hB.ext he) j om;have lb3:=Bd hf hoB;have ho4:Cs (G b3) (o3+j*5+4) 1=some [.int .i64 L[j].co]:=Cn hoB dZ;refine Bh [1,0,1,0,0,0,1,1,1,2] [0,1,2,3,4,5,6,7,8,9] kr hf ?_;have fz:=ai ho4 (ai eB (ai ej (ai c2 fz)));iterate 7 first|refine CA ?_|refine Cq ?_
   refine EB (h:=fun G hG=>LD (hc _ (AM (show j<L.length from om))) _) (k:= ?_);refine EB (h:=fun G hG=>KG _ _ _) (k:= ?_);refine Fx fun nf2 hl2 hf=> ?_
   refine BX (BQ (Ba (BP ?_)));exact xe hf ⟨(by first|(simp(disch:=omega)only[wx,fz];rw[Ej,ek,if_pos c2,ej,Aa,Bk om])|(simp(disch:=omega)only[wx,fz];rw[Ej,ek,if_neg (by rw[c2];exact Aq)])),xz⟩
  ·refine BR (BQ ?_);have fz:=ai c2 fz;refine Ba (BP ?_);exact xe hf ⟨(by first|(simp(disch:=omega)only[wx,fz];rw[Ej,ek,if_pos c2,ej,Aa,Bk om])|(simp(disch:=omega)only[wx,fz];rw[Ej,ek,if_neg (by rw[c2];exact Aq)])),xz⟩
 ·refine xo (BO (BQ ?_));have fz:=ai c1 fz;refine xq ?_;refine xs fun hf=> ?_
  refine BP (BT (rt ?_));exact Ch rfl xv ⟨by(obtain rfl:k=l.length:=om;exact xv),xx⟩
def Ci(x:List Int):Nat->Nat
 |0=>0
 |k+1=>if alongI x k=0 then Ci x k+1 else Ci x k
theorem OU(x:List Int):∀k,Ci x k<=k
 |0=>AH _
 |k+1=>by have:=OU x k;unfold Ci;split<;>omega
theorem Pb{x:List Int}{A:Option Addr}{c:Nat}(hA:Rd 1 intC H A x)(hl:x.length<1000000):Pure 76 [.slice A x.length c] (.int .i64 (Ci x x.length:Int)) H:=by
 refine Pure.of rfl (BV Tryz.func76 rfl 18 rfl fun nf t hf _ ht=> ?_);have hf0:=hf;refine BO (BQ ?_);have fz:=(ht 0 _ rfl);refine xq (BP (BO (BQ ?_)));refine xq (BP (BO (BO (BQ ?_))));refine B0 (BP (BS ?_));refine By fun T1 hT=> ?_
 have g3:=xt (hT 3);have gz:=ai g3 (ai (xt (hT 8)) (ai (xt (hT 7)) (ai (xt (hT 6)) trivial)));clear hT;refine xl x.length nf H hf (fun k t nf1 G=>t 3= .int .i64 (Ci x k:Int)/\(t 6=T1 6/\t 7=T1 7)/\t 8= .int .i64 (k:Int)) ⟨by rw[g3]<;>rfl,xh⟩ ?_;rintro k t nf1 G hk1 hn1 hf he ⟨h3,uz,h8⟩;have hfl:=hf;have zk:=OU x k;refine BO (BQ ?_);have fz:=ai h3 (ai h8 (ai uz gz));refine xq (BP (BO ?_));refine C8 (fun c1=> ?_) fun c1=> ?_
 ·refine BR (BO (BS (BO (BQ ?_))));obtain⟨b,o,eX,hoX⟩:=(hA.ext he) k om;have lb:=Bd hf hoX;have ek:=Bc x (show k<x.length from om);have fz:=ai hoX (ai eX (ai c1 fz));refine B0 (BP (BO (BQ ?_)));refine Ba (BP ?_);refine HR (fun c2=> ?_) fun c2=> ?_
  ·refine BQ ?_;have fz:=ai c2 fz;refine B0 (BP (BQ ?_));refine Ba (BP ?_);exact xe hf ⟨(by first|(simp(disch:=omega)only[wx,fz];rw[Ci,ek,if_pos c2];rfl)|(simp(disch:=omega)only[wx,fz];rw[Ci,ek,if_neg c2])),xz⟩
  ·refine BR (BQ ?_);have fz:=ai c2 fz;refine Ba (BP ?_);exact xe hf ⟨(by first|(simp(disch:=omega)only[wx,fz];rw[Ci,ek,if_pos c2];rfl)|(simp(disch:=omega)only[wx,fz];rw[Ci,ek,if_neg c2])),xz⟩
 ·refine xo (BO (BQ ?_));have fz:=ai c1 fz;refine Ba (BP (BT (rt ?_)));exact BW rfl ⟨by(obtain rfl:k=x.length:=om;exact xv),xx⟩
end
section
theorem SZ{H:Hp}{b:Nat}{l:List Int}(h:H b=some (.own (l.flatMap intC))):Rd 1 intC H (some ⟨b,0,none⟩) l:=fun k hk=>⟨b,0,rfl,by
 have hlen: (l.flatMap intC).length=l.length*1:=Fm (f:=intC) (s:=1) (fun _=>rfl) l;rw[h,Ez,AW,if_pos om];exact congrArg some (LX (f:=intC) (s:=1) (fun _=>rfl) l k hk)⟩
theorem oL(a:Nat)(k k2:IntKind)(x y:Int):D0 tz a 27 2 [(0,.int k x),(1,.int k2 y)]=some (.slice (some ⟨a,0,none⟩) 2 2,[(a,.own [.int k x,.int k2 y])]):=kr
theorem oK(a:Nat)(k k2 k3:IntKind)(x y z:Int):D0 tz a 27 3 [(0,.int k x),(1,.int k2 y),(2,.int k3 z)]=some (.slice (some ⟨a,0,none⟩) 3 3,[(a,.own [.int k x,.int k2 y,.int k3 z])]):=kr
def D6(k:Int)(f p s y:Nat):Bool:=if k=1 then decide ((Ci [(s:Int),(y:Int)] 2:Int)=2)else if k=2 then decide ((Ci [(f:Int),(p:Int),(y:Int)] 3:Int)=3)else if k=3 then decide ((Ci [(p:Int),(s:Int)] 2:Int)=2)else false
theorem Eb:B9 tz 52 []=some (.agg #[.int .i64 0,.int .u64 0]):=kr
variable{D F P Y:Option Addr}{cf cp cs cy pl sl yl:Nat}
theorem fL{kd:Int}{fl:Nat}{H:Hp}:Pure 33 [.agg #[.int .i64 kd,.slice F fl cf,.slice P pl cp,.slice D sl cs,.slice Y yl cy]] (.bool (D6 kd fl pl sl yl)) H:=by
 refine Pure.of rfl (BV Tryz.func33 rfl 41 rfl fun nf t hf _ ht=> ?_);have hf0:=hf;refine BO (BQ ?_);have fz:=ai @oK (ai @oL (ht 0 _ rfl));refine xa fun hf=> ?_
 refine xq (BP (BO (BO (BQ ?_))));refine Ba (BP (BS (BO (BQ ?_))));refine Ba (BP ?_);refine HR (fun c1=> ?_) fun c1=> ?_
 ·refine BO (BQ ?_);have fz:=ai c1 fz;refine Dk ?_;refine xa fun hf=> ?_
  refine op rfl xv (Pb (x:=[(sl:Int),(yl:Int)]) (SZ (BU _ _ _)) (by simp)) ?_;refine Ba (BP (BT (rt ?_)));exact BW rfl ⟨by(rw[D6,if_pos c1];exact xv),xx⟩
 ·refine BO (BQ ?_);have fz:=ai c1 fz;refine Ba (BP ?_);refine HR (fun c2=> ?_) fun c2=> ?_
  ·refine BO (BQ ?_);have fz:=ai c2 fz;refine Dk ?_;refine B0 ?_;refine xa fun hf=> ?_
   refine op rfl xv (Pb (x:=[(fl:Int),(pl:Int),(yl:Int)]) (SZ (BU _ _ _)) (by simp)) ?_;refine Ba (BP (BT (rt ?_)));exact BW rfl ⟨by(rw[D6,if_neg c1,if_pos c2];exact xv),xx⟩
  ·refine BO (BQ ?_);have fz:=ai c2 fz;refine Ba (BP ?_);refine HR (fun c3=> ?_) fun c3=> ?_
   ·refine BO (BQ ?_);have fz:=ai c3 fz;refine Dk ?_;refine xa fun hf=> ?_
    refine op rfl xv (Pb (x:=[(pl:Int),(sl:Int)]) (SZ (BU _ _ _)) (by simp)) ?_;refine Ba (BP (BT (rt ?_)));exact BW rfl ⟨by(rw[D6,if_neg c1,if_neg c2,if_pos c3];exact xv),xx⟩
   ·refine BR (BO (BQ ?_));have fz:=ai c3 fz;refine xq (BP (BT (rt ?_)));exact BW rfl ⟨by(rw[D6,if_neg c1,if_neg c2,if_neg c3];exact xv),xx⟩
theorem dP{kd:Int}{S:List Int}{L:List Ar}{x:List Int}{A B:Option Addr}{c d:Nat}{H:Hp}(hB:Rd 5 Ar.c H B L)(hX:Rd 1 intC H F x)(hL:L.length<4611686018427387904)(hc:∀a∈L,R64 a.co)(hx:∀n∈x,R64 n):Pure 30 [.agg #[.slice A S.length c,.slice B L.length d],.agg #[.int .i64 kd,.slice F x.length cf,.slice P pl cp,.slice D sl cs,.slice Y yl cy]] (if kd=1 then .tuple #[W (I2 L x),.bool true]else .tuple #[W 0,.bool false]) H:=by
 refine Pure.of (by split<;>rfl) (BV Tryz.func30 rfl 14 rfl fun nf t hf _ ht=> ?_);have hf0:=hf;refine BO (BQ ?_);have fz:=ai @DO (ai @Eb (ai (ht 1 _ rfl) (ht 0 _ rfl)));refine xa fun hf=> ?_
 refine xa fun hf=> ?_
 refine xa fun hf=> ?_
 refine xq (BP (BO (BO (BQ ?_))));refine B0 (BP ?_);refine Kf (fun c1=> ?_) fun c1=> ?_
 ·refine BO (BQ ?_);have fz:=ai c1 fz;refine xq ?_;refine xs fun hf=> ?_
  refine xq (BP (BT (rt ?_)));exact R8 rfl xv ⟨by(rw[if_neg c1];exact xv),xx⟩
 ·refine BR (BO (BQ ?_));have fz:=ai c1 fz;refine B0 ?_;refine xp (h:=Mu (S:=S) (A:=A) (c:=c) (hB.ext (by(repeat refine Ext.up (hf0 _ om) ?_);exact Ext.refl _)) (hX.ext (by(repeat refine Ext.up (hf0 _ om) ?_);exact Ext.refl _)) hL hc hx) (k:= ?_);refine xs fun hf=> ?_
  refine xq (BP (BT (rt ?_)));exact R8 rfl xv ⟨by(rw[if_pos c1];exact xv),xx⟩
end
end
end Go.Proofs.YtjlallgaadmeaaaGreatDoor
