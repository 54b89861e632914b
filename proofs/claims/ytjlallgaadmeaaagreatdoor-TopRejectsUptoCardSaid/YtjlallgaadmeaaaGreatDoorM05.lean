/- Parts of the proof, joined: GG GH IA GI GJ GK GL GM GN. Conditions: none. -/
import Derived.Test.YtjlallgaadmeaaaGreatDoorM04
set_option linter.unusedVariables false
set_option linter.unusedSimpArgs false
set_option linter.unusedSectionVars false
set_option maxRecDepth 100000
namespace Go.Proofs.YtjlallgaadmeaaaGreatDoor
section
open Go.Conc Go.Proofs
variable[Md]
noncomputable def pt(o:Oper)(t:Nat->Value)(v:Value):Nat->Value:=match o.dst with
 |some d=>st t d v
 |none=>t
theorem fE{H:Hp}{a:Nat}{ev:Operand->Value}{op:Op}{v:Value}(h:GB tz ev op=some v):hop tz H a ev op=some (v,[]):=by
 unfold hop;split;all_goals first
  |(simp only[GB,reduceCtorEq]at h;done)
  |(simp[GB,Fh]at h;done)
  |(rw[h];rfl)
def YG:Op->Bool
 | .move .. | .assign .. | .pick .. | .build .. | .nilCheck .. | .binOp .. | .unOp .. | .convert .. | .makeInterface .. | .makeFunc .. | .slice .. | .fieldAddr .. | .field .. | .indexAddr .. | .index .. | .extract .. =>true
 | .call {callee:= .builtin .len,.. }| .call {callee:= .builtin .min,.. }| .call {callee:= .builtin .max,.. }=>true
 |_=>false
def pE:Hp:=fun _=>none
theorem Vw{ev:Operand->Value}{op:Op}{v:Value}(hq:YG op=true)(h:hop tz pE 0 ev op=some (v,[])):GB tz ev op=some v:=by
 have e:hop tz pE 0 ev op=(GB tz ev op).map fun v=>(v,[]):=by
  revert hq;unfold YG;split<;>intro hq<;>first|rfl|cases hq
 rw[e]at h;obtain⟨u,h1,h2⟩:=PH h;cases h2
 exact h1
theorem mN{ev ev':Operand->Value}{op:Op}(hq:YG op=true)(h:∀x∈op.operands,ev x=ev' x):GB tz ev op=GB tz ev' op:=by
 have hm:∀(l:List Operand),(∀x∈l,ev x=ev' x)->l.map ev=l.map ev':=fun l hl=>List.map_congr_left hl
 have ho:∀(x:Option Operand),(∀y,x=some y->ev y=ev' y)->x.map ev=x.map ev':=fun x hx=>by cases x with|none=>rfl|some y=>exact congrArg some (hx y rfl)
 have ha:∀(l:Array Operand),(∀x∈l,ev x=ev' x)->l.map ev=l.map ev':=fun l hl=>Array.map_congr_left hl
 cases op<;>try cases hq
 case move x=>simp only[GB,h x (by simp[Op.operands])]
 case assign x=>simp only[GB,h x (by simp[Op.operands])]
 case pick c a b=>simp only[GB,h c (by simp[Op.operands]),h a (by simp[Op.operands]),h b (by simp[Op.operands])]
 case build t ps=>
  simp only[GB]
  congr 1
  exact List.map_congr_left fun p hp=>by rw[h p.2 (by simp only[Op.operands];simp;exact⟨p.1,by simpa using hp⟩)]
 case nilCheck x=>simp only[GB,h x (by simp[Op.operands])]
 case binOp o t x y u=>simp only[GB,h x (by simp[Op.operands]),h y (by simp[Op.operands])]
 case unOp o t x=>simp only[GB,h x (by simp[Op.operands])]
 case convert s d x=>simp only[GB,h x (by simp[Op.operands])]
 case makeInterface t x=>simp only[GB,h x (by simp[Op.operands])]
 case makeFunc f x c=>
  cases f with
  |func f=>simp only[GB,ha x fun y hy=>h y (by simp only[Op.operands];simp;exact .inl hy),ha c fun y hy=>h y (by simp only[Op.operands];simp;exact .inr hy)]
  |_=>rfl
 case slice t x lo hi mx=>simp only[GB,h x (by simp[Op.operands]),ho lo fun y hy=>h y (by simp[Op.operands,hy]),ho hi fun y hy=>h y (by simp[Op.operands,hy]),ho mx fun y hy=>h y (by simp[Op.operands,hy])]
 case fieldAddr t x f=>simp only[GB,h x (by simp[Op.operands])]
 case field t x f=>simp only[GB,h x (by simp[Op.operands])]
 case indexAddr t x i=>simp only[GB,h x (by simp[Op.operands]),h i (by simp[Op.operands])]
 case index t x i=>simp only[GB,h x (by simp[Op.operands]),h i (by simp[Op.operands])]
 case extract x i=>simp only[GB,h x (by simp[Op.operands])]
 case call c=>
  obtain⟨callee,args,ats⟩:=c
  cases callee with
  |builtin b=>simp only[GB];rw[hm args.toList fun y hy=>h y (by simp only[Op.operands,Call.operands];simpa using hy)]
  |_=>rfl
def dB:Op->Bool
 | .alloc .. | .box .. | .makeSlice .. =>true
 |_=>false
theorem GH{H G:Hp}{a:Nat}{ev ev':Operand->Value}{op:Op}(hq:dB op=true)(h:∀x∈op.operands,ev x=ev' x):hop tz H a ev op=hop tz G a ev' op:=by
 cases op<;>try cases hq
 case alloc t=>rfl
 case box t x=>show some _=some _;rw[h x (by simp[Op.operands])]
 case makeSlice t x y=>show Fz _ _ _ _ _=Fz _ _ _ _ _;rw[h x (by simp[Op.operands]),h y (by simp[Op.operands])]
def Qv(ops:Array Oper)(o:Oper)(t:Nat->Value)(v:Value):Prop:=
 if Region.wanted o (yiel ops t)=true then YG o.op=true/\GB tz (eT t) o.op=some v else v=undef
theorem Qv.op{ops:Array Oper}{o:Oper}{t:Nat->Value}{v:Value}(h:Qv ops o t v):if Region.wanted o (yiel ops t)=true then ∀G a,G a=none->WOp Tryz.prog o (fun u G'=>u=v/\G'=G) (eT t) G else v=undef:=by
 unfold Qv at h;split
 ·rename_i hw;rw[if_pos hw]at h;exact fun G a ha=>WOp.hop Cv Ce ha (fE h.2) ⟨rfl,rfl⟩
 ·rename_i hw;rw[if_neg hw]at h;exact h
theorem Qv.det{ops:Array Oper}{o:Oper}{t:Nat->Value}{u v:Value}(h:Qv ops o t u)(k:Qv ops o t v):u=v:=by
 unfold Qv at h k;split at h
 ·rename_i hw;rw[if_pos hw]at k;exact AC (h.2.symm.trans k.2)
 ·rename_i hw;rw[if_neg hw]at k;rw[h,k]
def Rv(ops:Array Oper)(o:Oper)(t:Nat->Value)(H:Hp)(v:Value):Prop:=
 if Region.wanted o (yiel ops t)=true then ∀G a,Ext H G->G a=none->WOp Tryz.prog o (fun u G'=>u=v/\G'=G) (eT t) G else v=undef
def Fv(ops:Array Oper)(o:Oper)(t:Nat->Value)(H:Hp)(nf i:Nat)(v:Value)(δ:List (Nat×AB)):Prop:=
 (δ=[]\/∃x,δ=[(nf+i,x)])/\if Region.wanted o (yiel ops t)=true then ∀G,Ext H G->G (nf+i)=none->WOp Tryz.prog o (fun u G'=>u=v/\G'=Kz G δ) (eT t) G else v=undef/\δ=[]
def WD(ops:Array Oper)(cl:Nat->Nat)(n:Nat)(ds:List Deferred)(Rf:Nat->Hp->Value->Hp->Prop)(B:Hp)(n0:Nat)(Q:AF->Hp->Prop):List Nat->(Nat->Value)->Hp->Hp->Nat->Prop
 |[],t,_,G,_=>Q ⟨n,t,ds⟩ G
 |i::l,t,H,G,nf=>∃o,ops[i]? =some o/\match cl i with
  |0=>∃v,Qv ops o t v/\WD ops cl n ds Rf B n0 Q l (pt o t v) H G nf
  |1=>∃v,Rv ops o t H v/\WD ops cl n ds Rf B n0 Q l (pt o t v) H G nf
  |2=>∀nf1,nf<=nf1->Fr G nf1->Region.wanted o (yiel ops t)=true/\WOp Tryz.prog o (fun v H'=>∃nf',Fr H' nf'/\WD ops cl n ds Rf B n0 Q l (pt o t v) H' H' nf') (eT t) G
  |3=>Ext H G/\∀nf1,nf<=nf1->Fr G nf1->Region.wanted o (yiel ops t)=true/\WOp Tryz.prog o (fun v H'=>Ext G H'/\∃nf',Fr H' nf'/\WD ops cl n ds Rf B n0 Q l (pt o t v) H' H' nf') (eT t) G
  |4=>∃v δ,Fv ops o t H nf i v δ/\WD ops cl n ds Rf B n0 Q l (pt o t v) H (Kz G δ) nf
  |5=>(dB o.op=true/\o.guard=none/\Ext B H/\Ext H G/\∃m,Fr G m)/\∀b,n0<=b->G b=none->∃v x,hop tz H b (eT t) o.op=some (v,[(b,x)])/\∀nf2,n0<=nf2->Fr (upd G b (some x)) nf2->WD ops cl n ds Rf B n0 Q l (pt o t v) (upd G b (some x)) (upd G b (some x)) nf2
  |7=>(Ext B G/\Fr B nf)/\∃v,Rv ops o t B v/\WD ops cl n ds Rf B n0 Q l (pt o t v) H G nf
  |8=>∀nf1,nf<=nf1->Fr G nf1->Region.wanted o (yiel ops t)=true/\WOp Tryz.prog o (fun v H'=>Ext B H'/\∃nf',Fr H' nf'/\WD ops cl n ds Rf B n0 Q l (pt o t v) H' H' nf') (eT t) G
  |_=>(Ext B H/\Ext H G)/\(∀G1 nf1,Ext B G1->n0<=nf1->Fr G1 nf1->Region.wanted o (yiel ops t)=true/\WOp Tryz.prog o (fun v H'=>Ext G1 H'/\Rf i G1 v H'/\∃nf',Fr H' nf') (eT t) G1)/\∀v H' nf',n0<=nf'->Rf i G v H'->Ext G H'->Fr H' nf'->WD ops cl n ds Rf B n0 Q l (pt o t v) H' H' nf'
def wK(Rf:Nat->Hp->Value->Hp->Prop):Prop:=∀i G v H b x,Rf i G v H->Ext G H->H b=none->Rf i (upd G b (some x)) v (upd H b (some x))
def IS(a j:Nat):Bool:=match a with
 |0=>true
 |1=> !Nat.beq j 2&&Nat.blt j 7
 |4=>Nat.blt j 2||Nat.beq j 4
 |5=>Nat.beq j 0||Nat.beq j 5||Nat.beq j 6
 |7=>Nat.blt j 2||Nat.beq j 4||Nat.beq j 7||Nat.beq j 8
 |_=>false
section
variable{ops:Array Oper}{cl:Nat->Nat}{n:Nat}{ds:List Deferred}{Q:AF->Hp->Prop}{Rf:Nat->Hp->Value->Hp->Prop}{B:Hp}{n0:Nat}{anc:Nat->Nat->Bool}
theorem Cm {o oa:Oper} {t:Nat->Value} {v:Value} (h:∀d,oa.dst=some d->d ∉ o.looksAt ops): (∀x∈o.op.operands,eT (pt oa t v) x=eT t x)/\Region.wanted o (yiel ops (pt oa t v))=Region.wanted o (yiel ops t):=by
 unfold pt;cases hd:oa.dst with
 |none=>exact⟨fun _ _=>rfl,rfl⟩
 |some d=>
  have h1:=h d hd;refine⟨fun x hx=> ?_,?_⟩
  ·cases x with
   |tmp i=>
    show st t d v i=t i
    refine upd_ne fun e=>h1 ?_
    subst e;unfold Oper.looksAt;exact Ax.2 (.inl (List.mem_filterMap.2 ⟨.tmp i,by simpa using hx,rfl⟩))
   |_=>rfl
  ·unfold Region.wanted;cases hg:o.guard with
   |none=>rfl
   |some p=>
    obtain⟨g,want⟩:=p;dsimp only;have:yiel ops (st t d v) g=yiel ops t g:=by
     unfold yiel;cases hd2: (ops[g]?).bind (·.dst)with
     |none=>rfl
     |some d2=>
      simp only[AU];have:st t d v d2=t d2:=upd_ne fun e=>h1 (by
       subst e;unfold Oper.looksAt;rw[hg];exact Ax.2 (.inr (by simp[hd2])))
      rw[this]
    rw[this]
theorem B6{oa oj:Oper}{t:Nat->Value}{va vj:Value}(h:∀d,oa.dst=some d->oj.dst≠some d):pt oj (pt oa t va) vj=pt oa (pt oj t vj) va:=by
 unfold pt;cases ha:oa.dst with
 |none=>rfl
 |some d=>
  cases hj:oj.dst with
  |none=>rfl
  |some e=>
   have hne:d≠e:=fun x=>h d ha (by rw[hj,x])
   funext i;show upd (upd t d va) e vj i=upd (upd t e vj) d va i
   unfold upd;by_cases h1:i=e
   ·subst h1;simp[Ne.symm hne]
   ·by_cases h2:i=d
    ·subst h2;simp[hne]
    ·simp[h1,h2]
theorem Qv.congr{o:Oper}{t t':Nat->Value}{v:Value}(h:Qv ops o t v)(h1:∀x∈o.op.operands,eT t x=eT t' x)(h2:Region.wanted o (yiel ops t)=Region.wanted o (yiel ops t')):Qv ops o t' v:=by
 unfold Qv at h⊢;rw[<-h2];split
 ·rename_i hw;rw[if_pos hw]at h;exact⟨h.1,by rw[<-mN h.1 h1];exact h.2⟩
 ·rename_i hw;rw[if_neg hw]at h;exact h
theorem Rv.congr{o:Oper}{t t':Nat->Value}{H:Hp}{v:Value}(h:Rv ops o t H v)(h1:∀x∈o.op.operands,eT t x=eT t' x)(h2:Region.wanted o (yiel ops t)=Region.wanted o (yiel ops t')):Rv ops o t' H v:=by
 unfold Rv at h⊢;rw[<-h2];split
 ·rename_i hw;rw[if_pos hw]at h;exact fun G a hG ha=>(h G a hG ha).congr h1
 ·rename_i hw;rw[if_neg hw]at h;exact h
theorem Rv.up{o:Oper}{t:Nat->Value}{H H':Hp}{v:Value}(h:Rv ops o t H v)(e:Ext H H'):Rv ops o t H' v:=by
 unfold Rv at h⊢;split
 ·rename_i hw;rw[if_pos hw]at h;exact fun G a hG ha=>h G a (e.trans hG) ha
 ·rename_i hw;rw[if_neg hw]at h;exact h
theorem Fv.congr{o:Oper}{t t':Nat->Value}{H:Hp}{nf i:Nat}{v:Value}{δ:List (Nat×AB)}(h:Fv ops o t H nf i v δ)(h1:∀x∈o.op.operands,eT t x=eT t' x)(h2:Region.wanted o (yiel ops t)=Region.wanted o (yiel ops t')):Fv ops o t' H nf i v δ:=by
 obtain⟨h0,h⟩:=h;refine⟨h0,?_⟩;rw[<-h2];split
 ·rename_i hw;rw[if_pos hw]at h;exact fun G hG ha=>(h G hG ha).congr h1
 ·rename_i hw;rw[if_neg hw]at h;exact h
theorem Pp(G:Hp)(a:Nat)(x:AB):Kz G [(a,x)]=upd G a (some x):=rfl
theorem cJ{G:Hp}{a b:Nat}{δ ε:List (Nat×AB)}(hne:a≠b)(h1:δ=[]\/∃x,δ=[(a,x)])(h2:ε=[]\/∃x,ε=[(b,x)]):Kz (Kz G δ) ε=Kz (Kz G ε) δ:=by
 rcases h1 with rfl|⟨x,rfl⟩
 ·rfl
 ·rcases h2 with rfl|⟨y,rfl⟩
  ·rfl
  ·funext i;show upd (upd G a (some x)) b (some y) i=upd (upd G b (some y)) a (some x) i
   unfold upd;by_cases h3:i=b
   ·subst h3;simp[Ne.symm hne]
   ·by_cases h4:i=a
    ·subst h4;simp[hne]
    ·simp[h3,h4]
theorem Ms{i:Nat}{o:Oper}(h:ops[i]? =some o):dstOf ops i=o.dst:=by unfold dstOf;rw[h];rfl
theorem EL{G:Hp}{b:Nat}(h:G b=none)(x:AB):Ext G (upd G b (some x)):=fun c y hc=>by rw[upd_ne (fun e=>by rw[e,h]at hc;cases hc)];exact hc
theorem Ext.none'{H G:Hp}(h:Ext H G){b:Nat}(e:G b=none):H b=none:=by
 cases hb:H b with
 |none=>rfl
 |some x=>rw[h b x hb]at e;cases e
theorem QJ{G:Hp}{a b:Nat}(h:a≠b)(x y:Option AB):upd (upd G a x) b y=upd (upd G b y) a x:=by
 funext i;unfold upd;by_cases h3:i=b
 ·subst h3;simp[Ne.symm h]
 ·by_cases h4:i=a
  ·subst h4;simp[h]
  ·simp[h3,h4]
theorem Fr.any{G:Hp}{m:Nat}(h:Fr G m)(b:Nat)(x:AB)(k:Nat):Fr (upd G b (some x)) (max (max m (b+1)) k):=fun c hc=>by rw[upd_ne om];exact h c om
theorem iP(hR:wK Rf)(hO:Order ops anc n){a j:Nat}{l:List Nat}{t:Nat->Value}{H G:Hp}{nf:Nat}(hne:a≠j)(h1:anc j a=false)(h2:anc a j=false)(hp:IS (cl a) (cl j)=true)(h:WD ops cl n ds Rf B n0 Q (a::j::l) t H G nf):WD ops cl n ds Rf B n0 Q (j::a::l) t H G nf:=by
 obtain⟨oa,ha,h⟩:=h;have la:∀oj,ops[j]? =some oj->∀d,oa.dst=some d->d ∉ oj.looksAt ops:=fun oj hj d hd hm=>by
  rcases hO.names j oj a d hj (fun e=>hne e.symm) (by rw[Ms ha];exact hd) hm with x|x
  ·rw[h1]at x;cases x
  ·rw[h2]at x;cases x
 have lj:∀oj,ops[j]? =some oj->∀d,oj.dst=some d->d ∉ oa.looksAt ops:=fun oj hj d hd hm=>by
  rcases hO.names a oa j d ha hne (by rw[Ms hj];exact hd) hm with x|x
  ·rw[h2]at x;cases x
  ·rw[h1]at x;cases x
 have ld:∀oj,ops[j]? =some oj->∀d,oa.dst=some d->oj.dst≠some d:=fun oj hj d hd=>by
  rw[<-Ms hj];exact hO.dst a j d hne (by rw[Ms ha];exact hd)
 rcases hca:cl a with _|_|_|_|_|_|_|_|_|ka
 ·rw[hca]at h;obtain⟨va,hva,oj,hj,h⟩:=h;obtain⟨e1,e2⟩:=Cm (t:=t) (v:=va) (la oj hj);have lk:∀vj,(∀x∈oa.op.operands,eT (pt oj t vj) x=eT t x)/\Region.wanted oa (yiel ops (pt oj t vj))=Region.wanted oa (yiel ops t):=fun vj=>Cm (t:=t) (v:=vj) (lj oj hj)
  refine⟨oj,hj,?_⟩;rcases hcj:cl j with _|_|_|_|_|_|_|_|_|kj;all_goals rw[hcj]at h
  ·obtain⟨vj,hvj,h⟩:=h;obtain⟨f1,f2⟩:=lk vj;refine⟨vj,hvj.congr e1 e2,oa,ha,?_⟩;rw[hca];exact⟨va,hva.congr (fun x hx=>(f1 x hx).symm) f2.symm,by rw[<-B6 (ld oj hj)];exact h⟩
  ·obtain⟨vj,hvj,h⟩:=h;obtain⟨f1,f2⟩:=lk vj;refine⟨vj,hvj.congr e1 e2,oa,ha,?_⟩;rw[hca];exact⟨va,hva.congr (fun x hx=>(f1 x hx).symm) f2.symm,by rw[<-B6 (ld oj hj)];exact h⟩
  ·intro nf1 hl1 hf1;obtain⟨hw,h⟩:=h nf1 hl1 hf1;refine⟨by rw[<-e2];exact hw,(h.congr e1).mono fun vj H' q=> ?_⟩;obtain⟨nf',q1,q2⟩:=q;obtain⟨f1,f2⟩:=lk vj;refine⟨nf',q1,oa,ha,?_⟩;rw[hca];exact⟨va,hva.congr (fun x hx=>(f1 x hx).symm) f2.symm,by rw[<-B6 (ld oj hj)];exact q2⟩
  ·refine⟨h.1,fun nf1 hl1 hf1=> ?_⟩;obtain⟨hw,h'⟩:=h.2 nf1 hl1 hf1;refine⟨by rw[<-e2];exact hw,(h'.congr e1).mono fun vj H' q=> ?_⟩;obtain⟨q0,nf',q1,q2⟩:=q;obtain⟨f1,f2⟩:=lk vj;refine⟨q0,nf',q1,oa,ha,?_⟩;rw[hca];exact⟨va,hva.congr (fun x hx=>(f1 x hx).symm) f2.symm,by rw[<-B6 (ld oj hj)];exact q2⟩
  ·obtain⟨vj,δ,hvj,h⟩:=h;obtain⟨f1,f2⟩:=lk vj;refine⟨vj,δ,hvj.congr e1 e2,oa,ha,?_⟩;rw[hca];exact⟨va,hva.congr (fun x hx=>(f1 x hx).symm) f2.symm,by rw[<-B6 (ld oj hj)];exact h⟩
  ·refine⟨h.1,fun b hb hn=> ?_⟩;obtain⟨vj,x,h1,h2⟩:=h.2 b hb hn;obtain⟨f1,f2⟩:=lk vj;refine⟨vj,x,(GH h.1.1 fun x hx=>(e1 x hx).symm).trans h1,fun nf2 hl2 hfr=>⟨oa,ha,?_⟩⟩;rw[hca];exact⟨va,hva.congr (fun x hx=>(f1 x hx).symm) f2.symm,by rw[<-B6 (ld oj hj)];exact h2 nf2 hl2 hfr⟩
  ·refine⟨h.1,fun G1 nf1 hG hl1 hf1=> ?_,fun vj H' nf' h0 hr hG hf1=>⟨oa,ha,?_⟩⟩
   ·obtain⟨hw,h'⟩:=h.2.1 G1 nf1 hG hl1 hf1;exact⟨by rw[<-e2];exact hw,h'.congr e1⟩
   ·obtain⟨f1,f2⟩:=lk vj;rw[hca];exact⟨va,hva.congr (fun x hx=>(f1 x hx).symm) f2.symm,by rw[<-B6 (ld oj hj)];exact h.2.2 vj H' nf' h0 hr hG hf1⟩
  ·obtain⟨hB,vj,hvj,h⟩:=h;obtain⟨f1,f2⟩:=lk vj;refine⟨hB,vj,hvj.congr e1 e2,oa,ha,?_⟩;rw[hca];exact⟨va,hva.congr (fun x hx=>(f1 x hx).symm) f2.symm,by rw[<-B6 (ld oj hj)];exact h⟩
  ·intro nf1 hl1 hf1;obtain⟨hw,h⟩:=h nf1 hl1 hf1;refine⟨by rw[<-e2];exact hw,(h.congr e1).mono fun vj H' q=> ?_⟩;obtain⟨q0,nf',q1,q2⟩:=q;obtain⟨f1,f2⟩:=lk vj;refine⟨q0,nf',q1,oa,ha,?_⟩;rw[hca];exact⟨va,hva.congr (fun x hx=>(f1 x hx).symm) f2.symm,by rw[<-B6 (ld oj hj)];exact q2⟩
  ·refine⟨h.1,fun G1 nf1 hG hl1 hf1=> ?_,fun vj H' nf' h0 hr hG hf1=>⟨oa,ha,?_⟩⟩
   ·obtain⟨hw,h'⟩:=h.2.1 G1 nf1 hG hl1 hf1;exact⟨by rw[<-e2];exact hw,h'.congr e1⟩
   ·obtain⟨f1,f2⟩:=lk vj;rw[hca];exact⟨va,hva.congr (fun x hx=>(f1 x hx).symm) f2.symm,by rw[<-B6 (ld oj hj)];exact h.2.2 vj H' nf' h0 hr hG hf1⟩
 ·rw[hca]at h;obtain⟨va,hva,oj,hj,h⟩:=h;obtain⟨e1,e2⟩:=Cm (t:=t) (v:=va) (la oj hj);have lk:∀vj,(∀x∈oa.op.operands,eT (pt oj t vj) x=eT t x)/\Region.wanted oa (yiel ops (pt oj t vj))=Region.wanted oa (yiel ops t):=fun vj=>Cm (t:=t) (v:=vj) (lj oj hj)
  refine⟨oj,hj,?_⟩;rcases hcj:cl j with _|_|_|_|_|_|_|_|_|kj;all_goals rw[hcj]at h
  ·obtain⟨vj,hvj,h⟩:=h;obtain⟨f1,f2⟩:=lk vj;refine⟨vj,hvj.congr e1 e2,oa,ha,?_⟩;rw[hca];exact⟨va,(hva.congr (fun x hx=>(f1 x hx).symm) f2.symm),by rw[<-B6 (ld oj hj)];exact h⟩
  ·obtain⟨vj,hvj,h⟩:=h;obtain⟨f1,f2⟩:=lk vj;refine⟨vj,hvj.congr e1 e2,oa,ha,?_⟩;rw[hca];exact⟨va,(hva.congr (fun x hx=>(f1 x hx).symm) f2.symm),by rw[<-B6 (ld oj hj)];exact h⟩
  ·rw[hca,hcj]at hp;exact absurd hp (by simp[IS])
  ·refine⟨h.1,fun nf1 hl1 hf1=> ?_⟩;obtain⟨hw,h'⟩:=h.2 nf1 hl1 hf1;refine⟨by rw[<-e2];exact hw,(h'.congr e1).mono fun vj H' q=> ?_⟩;obtain⟨q0,nf',q1,q2⟩:=q;obtain⟨f1,f2⟩:=lk vj;refine⟨q0,nf',q1,oa,ha,?_⟩;rw[hca];exact⟨va,(hva.congr (fun x hx=>(f1 x hx).symm) f2.symm).up (h.1.trans q0),by rw[<-B6 (ld oj hj)];exact q2⟩
  ·obtain⟨vj,δ,hvj,h⟩:=h;obtain⟨f1,f2⟩:=lk vj;refine⟨vj,δ,hvj.congr e1 e2,oa,ha,?_⟩;rw[hca];exact⟨va,(hva.congr (fun x hx=>(f1 x hx).symm) f2.symm),by rw[<-B6 (ld oj hj)];exact h⟩
  ·refine⟨h.1,fun b hb hn=> ?_⟩;obtain⟨vj,x,h1,h2⟩:=h.2 b hb hn;obtain⟨f1,f2⟩:=lk vj;refine⟨vj,x,(GH h.1.1 fun x hx=>(e1 x hx).symm).trans h1,fun nf2 hl2 hfr=>⟨oa,ha,?_⟩⟩;rw[hca];exact⟨va,(hva.congr (fun x hx=>(f1 x hx).symm) f2.symm).up (h.1.2.2.2.1.trans (EL hn x)),by rw[<-B6 (ld oj hj)];exact h2 nf2 hl2 hfr⟩
  ·refine⟨h.1,fun G1 nf1 hG hl1 hf1=> ?_,fun vj H' nf' h0 hr hG hf1=>⟨oa,ha,?_⟩⟩
   ·obtain⟨hw,h'⟩:=h.2.1 G1 nf1 hG hl1 hf1;exact⟨by rw[<-e2];exact hw,h'.congr e1⟩
   ·obtain⟨f1,f2⟩:=lk vj;rw[hca];exact⟨va,(hva.congr (fun x hx=>(f1 x hx).symm) f2.symm).up (h.1.2.trans hG),by rw[<-B6 (ld oj hj)];exact h.2.2 vj H' nf' h0 hr hG hf1⟩
  ·rw[hca,hcj]at hp;exact absurd hp (by simp[IS])
  ·rw[hca,hcj]at hp;exact absurd hp (by simp[IS])
  ·rw[hca,hcj]at hp;exact absurd hp (by simp[IS])
 ·rw[hca]at hp;exact absurd hp (by simp[IS])
 ·rw[hca]at hp;exact absurd hp (by simp[IS])
 ·rw[hca]at h;obtain⟨va,δa,hva,oj,hj,h⟩:=h;obtain⟨e1,e2⟩:=Cm (t:=t) (v:=va) (la oj hj);have lk:∀vj,(∀x∈oa.op.operands,eT (pt oj t vj) x=eT t x)/\Region.wanted oa (yiel ops (pt oj t vj))=Region.wanted oa (yiel ops t):=fun vj=>Cm (t:=t) (v:=vj) (lj oj hj)
  refine⟨oj,hj,?_⟩;rcases hcj:cl j with _|_|_|_|_|_|_|_|_|kj;all_goals rw[hcj]at h
  ·obtain⟨vj,hvj,h⟩:=h;obtain⟨f1,f2⟩:=lk vj;refine⟨vj,hvj.congr e1 e2,oa,ha,?_⟩;rw[hca];exact⟨va,δa,hva.congr (fun x hx=>(f1 x hx).symm) f2.symm,by rw[<-B6 (ld oj hj)];exact h⟩
  ·obtain⟨vj,hvj,h⟩:=h;obtain⟨f1,f2⟩:=lk vj;refine⟨vj,hvj.congr e1 e2,oa,ha,?_⟩;rw[hca];exact⟨va,δa,hva.congr (fun x hx=>(f1 x hx).symm) f2.symm,by rw[<-B6 (ld oj hj)];exact h⟩
  ·rw[hca,hcj]at hp;exact absurd hp (by simp[IS])
  ·rw[hca,hcj]at hp;exact absurd hp (by simp[IS])
  ·obtain⟨vj,δ,hvj,h⟩:=h;obtain⟨f1,f2⟩:=lk vj;refine⟨vj,δ,hvj.congr e1 e2,oa,ha,?_⟩;rw[hca];refine⟨va,δa,hva.congr (fun x hx=>(f1 x hx).symm) f2.symm,?_⟩;rw[<-B6 (ld oj hj),<-cJ (a:=nf+a) (b:=nf+j) om hva.1 hvj.1];exact h
  ·rw[hca,hcj]at hp;exact absurd hp (by simp[IS])
  ·rw[hca,hcj]at hp;exact absurd hp (by simp[IS])
  ·rw[hca,hcj]at hp;exact absurd hp (by simp[IS])
  ·rw[hca,hcj]at hp;exact absurd hp (by simp[IS])
  ·rw[hca,hcj]at hp;exact absurd hp (by simp[IS])
 ·rw[hca]at h;obtain⟨⟨hm,hg,hB,hE,m,hfm⟩,h⟩:=h;have hz:G (max m n0)=none:=hfm _ om;obtain⟨va0,xa0,ha0,h0⟩:=h (max m n0) om hz;obtain⟨oj,hj,h0⟩:=h0 _ om (hfm.any (max m n0) xa0 n0);have lk:∀vj,(∀x∈oa.op.operands,eT (pt oj t vj) x=eT t x)/\Region.wanted oa (yiel ops (pt oj t vj))=Region.wanted oa (yiel ops t):=fun vj=>Cm (t:=t) (v:=vj) (lj oj hj)
  have mr:∀va,(∀x∈oj.op.operands,eT (pt oa t va) x=eT t x)/\Region.wanted oj (yiel ops (pt oa t va))=Region.wanted oj (yiel ops t):=fun va=>Cm (t:=t) (v:=va) (la oj hj)
  refine⟨oj,hj,?_⟩;rcases hcj:cl j with _|_|_|_|_|_|_|_|_|kj;all_goals rw[hcj]at h0
  ·obtain⟨vj,hvj,_⟩:=h0;have hvj:=hvj.congr (mr va0).1 (mr va0).2;refine⟨vj,hvj,oa,ha,?_⟩;rw[hca];refine⟨⟨hm,hg,hB,hE,m,hfm⟩,fun b hb hn=> ?_⟩;obtain⟨va,x,h1,h2⟩:=h b hb hn;refine⟨va,x,(GH hm (lk vj).1).trans h1,fun nf2 hl2 hfr=> ?_⟩;obtain⟨oj2,hj2,h3⟩:=h2 nf2 hl2 hfr;rw[hj]at hj2;obtain rfl:=AC hj2;rw[hcj]at h3;obtain⟨vj2,hv2,h4⟩:=h3;have:=hvj.det (hv2.congr (mr va).1 (mr va).2);subst this;rw[<-B6 (ld oj hj)];exact h4
  ·rw[hca,hcj]at hp;exact absurd hp (by simp[IS])
  ·rw[hca,hcj]at hp;exact absurd hp (by simp[IS])
  ·rw[hca,hcj]at hp;exact absurd hp (by simp[IS])
  ·rw[hca,hcj]at hp;exact absurd hp (by simp[IS])
  ·obtain⟨⟨hmj,hgj,_,_⟩,_⟩:=h0;refine⟨⟨hmj,hgj,hB,hE,m,hfm⟩,fun b2 hb2 hn2=> ?_⟩;obtain⟨va1,xa1,_,k1⟩:=h (max (max m n0) (b2+1)) om (hfm _ om);obtain⟨oj2,hj2,k2⟩:=k1 _ om (hfm.any (max (max m n0) (b2+1)) xa1 n0);rw[hj]at hj2;obtain rfl:=AC hj2;rw[hcj]at k2;obtain⟨vj,xj,kj,_⟩:=k2.2 b2 hb2 (by rw[upd_ne om];exact hn2);rw[GH (G:=H) hmj (mr va1).1]at kj;refine⟨vj,xj,kj,fun nf2 hl2 hfr2=>⟨oa,ha,?_⟩⟩;rw[hca];refine⟨⟨hm,hg,(hB.trans hE).trans (EL hn2 xj),Ext.refl _,nf2,hfr2⟩,fun b hb hn=> ?_⟩;have hne:b≠b2:=fun e=>by rw[e,BU]at hn;cases hn
   have hnb:G b=none:=by rw[upd_ne hne]at hn;exact hn
   obtain⟨va,xa,q1,q2⟩:=h b hb hnb;refine⟨va,xa,(GH hm (lk vj).1).trans q1,fun nf3 hl3 hfr3=> ?_⟩;obtain⟨oj2,hj2,q3⟩:=q2 _ om (hfm.any b xa n0);rw[hj]at hj2;obtain rfl:=AC hj2;rw[hcj]at q3;obtain⟨vj2,xj2,p1,p2⟩:=q3.2 b2 hb2 (by rw[upd_ne hne.symm];exact hn2);rw[GH (G:=H) hmj (mr va).1,kj]at p1;cases p1
   rw[QJ hne.symm,<-B6 (ld oj hj)];rw[QJ hne.symm]at hfr3;exact p2 nf3 hl3 hfr3
  ·refine⟨⟨hB,hE⟩,fun G1 nf1 hG hl1 hf1=> ?_,fun vj H' nf' hl' hr hG hf1=>⟨oa,ha,?_⟩⟩
   ·obtain⟨hw,h'⟩:=h0.2.1 G1 nf1 hG hl1 hf1;exact⟨by rw[<-(mr va0).2];exact hw,h'.congr (mr va0).1⟩
   ·rw[hca];refine⟨⟨hm,hg,(hB.trans hE).trans hG,Ext.refl _,nf',hf1⟩,fun b hb hn=> ?_⟩;have hnb:G b=none:=hG.none' hn;obtain⟨va,xa,q1,q2⟩:=h b hb hnb;refine⟨va,xa,(GH hm (lk vj).1).trans q1,fun nf2 hl2 hfr2=> ?_⟩;obtain⟨oj2,hj2,q3⟩:=q2 _ om (hfm.any b xa n0);rw[hj]at hj2;obtain rfl:=AC hj2;rw[hcj]at q3;rw[<-B6 (ld oj hj)];refine q3.2.2 vj _ nf2 hl2 (hR _ _ _ _ _ _ hr hG hn) (fun c y hc=> ?_) hfr2;by_cases e:c=b
    ·subst e;rw[BU]at hc⊢;exact hc
    ·rw[upd_ne e]at hc⊢;exact hG c y hc
  ·rw[hca,hcj]at hp;exact absurd hp (by simp[IS])
  ·rw[hca,hcj]at hp;exact absurd hp (by simp[IS])
  ·rw[hca,hcj]at hp;exact absurd hp (by simp[IS])
 ·rw[hca]at hp;exact absurd hp (by simp[IS])
 ·rw[hca]at h;obtain⟨⟨hB,hBf⟩,va,hva,oj,hj,h⟩:=h;obtain⟨e1,e2⟩:=Cm (t:=t) (v:=va) (la oj hj);have lk:∀vj,(∀x∈oa.op.operands,eT (pt oj t vj) x=eT t x)/\Region.wanted oa (yiel ops (pt oj t vj))=Region.wanted oa (yiel ops t):=fun vj=>Cm (t:=t) (v:=vj) (lj oj hj)
  refine⟨oj,hj,?_⟩;rcases hcj:cl j with _|_|_|_|_|_|_|_|_|kj;all_goals rw[hcj]at h
  ·obtain⟨vj,hvj,h⟩:=h;obtain⟨f1,f2⟩:=lk vj;refine⟨vj,hvj.congr e1 e2,oa,ha,?_⟩;rw[hca];exact⟨⟨hB,hBf⟩,va,hva.congr (fun x hx=>(f1 x hx).symm) f2.symm,by rw[<-B6 (ld oj hj)];exact h⟩
  ·obtain⟨vj,hvj,h⟩:=h;obtain⟨f1,f2⟩:=lk vj;refine⟨vj,hvj.congr e1 e2,oa,ha,?_⟩;rw[hca];exact⟨⟨hB,hBf⟩,va,hva.congr (fun x hx=>(f1 x hx).symm) f2.symm,by rw[<-B6 (ld oj hj)];exact h⟩
  ·rw[hca,hcj]at hp;exact absurd hp (by simp[IS])
  ·rw[hca,hcj]at hp;exact absurd hp (by simp[IS])
  ·obtain⟨vj,δ,hvj,h⟩:=h;obtain⟨f1,f2⟩:=lk vj;refine⟨vj,δ,hvj.congr e1 e2,oa,ha,?_⟩;rw[hca];have hB2:Ext B (Kz G δ):=by
    rcases hvj.1 with rfl|⟨x,rfl⟩
    ·exact hB
    ·exact fun c y hc=>by rw[Pp,upd_ne (fun e=>by rw[e,hBf _ om]at hc;cases hc)];exact hB c y hc
   exact⟨⟨hB2,hBf⟩,va,hva.congr (fun x hx=>(f1 x hx).symm) f2.symm,by rw[<-B6 (ld oj hj)];exact h⟩
  ·rw[hca,hcj]at hp;exact absurd hp (by simp[IS])
  ·rw[hca,hcj]at hp;exact absurd hp (by simp[IS])
  ·obtain⟨hB2,vj,hvj,h⟩:=h;obtain⟨f1,f2⟩:=lk vj;refine⟨hB2,vj,hvj.congr e1 e2,oa,ha,?_⟩;rw[hca];exact⟨⟨hB,hBf⟩,va,hva.congr (fun x hx=>(f1 x hx).symm) f2.symm,by rw[<-B6 (ld oj hj)];exact h⟩
  ·intro nf1 hl1 hf1;obtain⟨hw,h⟩:=h nf1 hl1 hf1;refine⟨by rw[<-e2];exact hw,(h.congr e1).mono fun vj H' q=> ?_⟩;obtain⟨q0,nf',q1,q2⟩:=q;obtain⟨f1,f2⟩:=lk vj;refine⟨q0,nf',q1,oa,ha,?_⟩;rw[hca];exact⟨⟨q0,fun c hc=>q0.none' (q1 c hc)⟩,va,hva.congr (fun x hx=>(f1 x hx).symm) f2.symm,by rw[<-B6 (ld oj hj)];exact q2⟩
  ·rw[hca,hcj]at hp;exact absurd hp (by simp[IS])
 ·rw[hca]at hp;exact absurd hp (by simp[IS])
 ·rw[hca]at hp;exact absurd hp (by simp[IS])
theorem cM{a:Nat}{l l':List Nat}{t:Nat->Value}{H G:Hp}{nf:Nat}(k:∀t H G nf,WD ops cl n ds Rf B n0 Q l t H G nf->WD ops cl n ds Rf B n0 Q l' t H G nf)(h:WD ops cl n ds Rf B n0 Q (a::l) t H G nf):WD ops cl n ds Rf B n0 Q (a::l') t H G nf:=by
 obtain⟨oa,ha,h⟩:=h;refine⟨oa,ha,?_⟩;rcases hca:cl a with _|_|_|_|_|_|_|_|_|m;all_goals rw[hca]at h
 ·obtain⟨v,hv,h⟩:=h;exact⟨v,hv,k _ _ _ _ h⟩
 ·obtain⟨v,hv,h⟩:=h;exact⟨v,hv,k _ _ _ _ h⟩
 ·exact fun nf1 hl1 hf1=>⟨(h nf1 hl1 hf1).1,(h nf1 hl1 hf1).2.mono fun v H' ⟨nf',q1,q2⟩=>⟨nf',q1,k _ _ _ _ q2⟩⟩
 ·exact⟨h.1,fun nf1 hl1 hf1=>⟨(h.2 nf1 hl1 hf1).1,(h.2 nf1 hl1 hf1).2.mono fun v H' ⟨q0,nf',q1,q2⟩=>⟨q0,nf',q1,k _ _ _ _ q2⟩⟩⟩
 ·obtain⟨v,δ,hv,h⟩:=h;exact⟨v,δ,hv,k _ _ _ _ h⟩
 ·exact⟨h.1,fun b hb hn=>by obtain⟨v,x,h1,h2⟩:=h.2 b hb hn;exact⟨v,x,h1,fun nf2 hl hfr=>k _ _ _ _ (h2 nf2 hl hfr)⟩⟩
 ·exact⟨h.1,h.2.1,fun v H' nf' h0 hr hG hf=>k _ _ _ _ (h.2.2 v H' nf' h0 hr hG hf)⟩
 ·obtain⟨hB,v,hv,h⟩:=h;exact⟨hB,v,hv,k _ _ _ _ h⟩
 ·exact fun nf1 hl1 hf1=>⟨(h nf1 hl1 hf1).1,(h nf1 hl1 hf1).2.mono fun v H' ⟨q0,nf',q1,q2⟩=>⟨q0,nf',q1,k _ _ _ _ q2⟩⟩
 ·exact⟨h.1,h.2.1,fun v H' nf' h0 hr hG hf=>k _ _ _ _ (h.2.2 v H' nf' h0 hr hG hf)⟩
theorem Ru(hR:wK Rf)(hO:Order ops anc n){j:Nat}:∀(l1 l2:List Nat),(∀a∈l1,a≠j/\anc j a=false/\anc a j=false/\IS (cl a) (cl j)=true)->∀(t:Nat->Value) (H G:Hp) (nf:Nat),WD ops cl n ds Rf B n0 Q (l1++j::l2) t H G nf->WD ops cl n ds Rf B n0 Q (j:: (l1++l2)) t H G nf
 |[],l2,_,t,H,G,nf,h=>h
 |a::l1,l2,hl,t,H,G,nf,h=>by
  obtain⟨h1,h2,h3,h4⟩:=hl a (by simp);exact iP hR hO h1 h2 h3 h4 (cM (fun t H G nf k=>Ru hR hO l1 l2 (fun b hb=>hl b (by simp[hb])) t H G nf k) h)
def Zg(anc:Nat->Nat->Bool)(cl:Nat->Nat)(n:Nat):List Nat->Bool
 |[]=>true
 |a::l=>l.all (fun j=> !Nat.beq a j&& !anc a j&&(anc j a||IS (cl a) (cl j)))&&Zg anc cl n l
theorem N1{anc:Nat->Nat->Bool}{cl:Nat->Nat}{n:Nat}{j:Nat}:∀(l1 l2:List Nat),Zg anc cl n (l1++j::l2)=true->(∀a∈l1,a≠j/\anc a j=false/\(anc j a=true\/IS (cl a) (cl j)=true))/\(∀b∈l2,j≠b)
 |[],l2,h=>by
  simp only[List.nil_append,Zg,AA,AS]at h;exact⟨fun a ha=>by simp at ha,fun b hb e=>by have:=h.1 b hb;subst e;simp[Nat.beq_refl]at this⟩
 |a::l1,l2,h=>by
  simp only[List.cons_append,Zg,AA,AS]at h;obtain⟨g1,g2⟩:=N1 l1 l2 h.2;refine⟨fun b hb=> ?_,g2⟩;rcases AV.1 hb with rfl|hb
  ·have:=h.1 j (by simp);simp only[AA,A7,A6]at this;exact⟨fun e=>by subst e;simp[Nat.beq_refl]at this,this.1.2,this.2⟩
  ·exact g1 b hb
def GZ:Op->Bool
 | .load .. | .lookup .. =>true
 |_=>false
theorem Rv.of{o:Oper}{t:Nat->Value}{H:Hp}{a:Nat}{v:Value}(hr:GZ o.op=true)(h:hop tz H a (eT t) o.op=some (v,[]))(hg:o.guard=none):Rv ops o t H v:=by
 unfold Rv;rw[if_pos (BY hg _)];intro G b hG hb;have hk:HM o.op=true:=by revert hr;cases o.op<;>simp[GZ,HM]
 refine WOp.hop Cv Ce hb (δ:=[]) ?_ ⟨rfl,rfl⟩;rw[<-Mc hG hk h];revert hr;cases o.op<;>simp[GZ]<;>rfl
theorem Fv.of{o:Oper}{t:Nat->Value}{H:Hp}{nf i:Nat}{v:Value}{δ:List (Nat×AB)}(hr:HM o.op=true)(hδ:δ=[]\/∃x,δ=[(nf+i,x)])(h:hop tz H (nf+i) (eT t) o.op=some (v,δ))(hg:o.guard=none):Fv ops o t H nf i v δ:=by
 refine⟨hδ,?_⟩;rw[if_pos (BY hg _)];exact fun G hG ha=>WOp.hop Cv Ce ha (Mc hG hr h) ⟨rfl,rfl⟩
end
theorem I0{Rf:Nat->Hp->Value->Hp->Prop}{B:Hp}{n0:Nat}(hR:wK Rf){id:Nat}{ops:Array Oper}{cl:Nat->Nat}{n:Nat}{ds:List Deferred}{Q:QT}{anc:Nat->Nat->Bool}{top:Bool}{t:Nat->Value}{H:Hp}{nf:Nat}(hO:Order ops anc n)(ord:List Nat)(hall: (List.range ops.size).all (fun i=>ord.contains i)=true)(hlt:ord.all (Nat.blt · ops.size)=true)(hok:Zg anc cl n ord=true)(hf:Fr H nf)
  (h:WD ops cl n ds Rf B n0 (fun A H=>Q .norm A H) ord t H H nf):WC Tryz.prog top (.region id ops true) Q ⟨n,t,ds⟩ H:=by
 refine cQ kr (fun S A' H'=>∃l t' Hb nf',A'=⟨n,t',ds⟩/\(∀i∈l,i<ops.size)/\(∀i,i<ops.size->(i∈l↔S.getD i false=false))/\Zg anc cl n l=true/\WD ops cl n ds Rf B n0 (fun A H=>Q .norm A H) l t' Hb H' nf'/\Ext Hb H'/\Fr Hb nf'/\(∀i∈l,H' (nf'+i)=none)/\S.size=ops.size/\(∀i j,S.getD i false=true->anc i j=true->S.getD j false=true)/\∃nf1,Fr H' nf1) hO.ok ?_ (fun S A' H' i o hI hi ho=> ?_) fun S A' H' hI hr=> ?_
 ·have hz:∀i,(Array.replicate ops.size false).getD i false=false:=fun i=>by
   rw[AL,Array.getElem?_replicate];split<;>rfl
  refine⟨ord,t,H,nf,rfl,fun i hi=>by have:=AS.1 hlt i hi;rwa [Nat.blt_eq]at this,fun i hi=>⟨fun _=>hz i,fun _=> ?_⟩,hok,h,Ext.refl H,hf,fun i _=>hf _ om,by simp,(fun i j hi _=>by rw[hz]at hi;cases hi),nf,hf⟩;have:=AS.1 hall i (by simpa using hi);simpa using this
 ·obtain⟨l,t',Hb,nf',rfl,hll,hl,hokl,hW,hE,hF,hfree,hsz,cl2,nf1,hf1⟩:=hI;obtain⟨hi1,hi2,o2,ho2,hedge⟩:=Hv hi;rw[ho]at ho2;obtain rfl:=AC ho2;have hiS:S.getD i false=false:=by rw[AL,hi2];rfl
  have hilt:i<S.size:=by rw[hsz];exact hi1
  have up:∀j,anc i j=true->S.getD j false=true:=fun j hj=>by
   obtain⟨e,he,hb,h1⟩:=hO.sound i o ho j hj;have h2:=hedge e he hb;rcases h1 with rfl|h1
   ·exact h2
   ·exact cl2 _ _ h2 h1
  obtain⟨l1,l2,rfl⟩:=List.append_of_mem ((hl i hi1).2 hiS);obtain⟨k1,k2⟩:=N1 l1 l2 hokl;have notd:∀a∈l1,anc i a=false:=fun a ha=>by
   cases hh:anc i a with
   |false=>rfl
   |true=>
    have h1:=up a hh;have h2:=(hl a (by have:=(hO.lt i a hh);omega)).1 (by simp[ha]);rw[h2]at h1;cases h1
  have hW2:=Ru hR hO l1 l2 (fun a ha=>⟨(k1 a ha).1,notd a ha,(k1 a ha).2.1,(k1 a ha).2.2.resolve_left (by rw[notd a ha];simp)⟩) t' Hb H' nf' hW;obtain⟨o3,ho3,hW3⟩:=hW2;rw[ho]at ho3;obtain rfl:=AC ho3;have hput:∀v,AF.put ⟨n,t',ds⟩ o.dst v=⟨n,pt o t' v,ds⟩:=fun v=>by
   unfold pt;cases hd:o.dst with
   |none=>rfl
   |some d=>
    have:=hO.slot i d (by rw[Ms ho];exact hd);exact CT (by rw[Nat.blt_eq];exact this) v
  have ok_sub:∀(l1 l2:List Nat),Zg anc cl n (l1++i::l2)=true->Zg anc cl n (l1++l2)=true:=by
   intro l1;induction l1 with
   |nil=>intro l2 h;simp only[List.nil_append,Zg,AA]at h;exact h.2
   |cons a l1 ih=>
    intro l2 h;simp only[List.cons_append,Zg,AA,AS]at h⊢;exact⟨fun b hb=>h.1 b (by rcases Ax.1 hb with x|x<;>simp[x]),ih l2 h.2⟩
  have hmem:∀k,k<ops.size->(k∈l1++l2↔ (S.setIfInBounds i true).getD k false=false):=fun k hk=>by
   rw[Da hilt];have h1:=hl k hk;by_cases e:i=k
   ·subst e;rw[if_pos rfl];simp only[Bool.true_eq_false,iff_false];intro hm;rcases Ax.1 hm with x|x
    ·exact(k1 i x).1 rfl
    ·exact k2 i x rfl
   ·rw[if_neg e,<-h1];simp only[Ax,AV];constructor
    ·rintro(x|x)
     ·exact .inl x
     ·exact .inr (.inr x)
    ·rintro(x|rfl|x)
     ·exact .inl x
     ·exact absurd rfl e
     ·exact .inr x
  have hll2:∀k∈l1++l2,k<ops.size:=fun k hk=>hll k (by rcases Ax.1 hk with x|x<;>simp[x])
  have hcl:∀k j,(S.setIfInBounds i true).getD k false=true->anc k j=true->(S.setIfInBounds i true).getD j false=true:=fun k j hk hj=>by
   rw[Da hilt]at hk⊢;by_cases e:i=j
   ·rw[if_pos e]
   ·rw[if_neg e];by_cases e2:i=k
    ·subst e2;exact up j hj
    ·rw[if_neg e2]at hk;exact cl2 k j hk hj
  have hnot:∀k∈l1++l2,k≠i:=fun k hk e=>by
   subst e;rcases Ax.1 hk with x|x
   ·exact(k1 k x).1 rfl
   ·exact k2 k x rfl
  rcases hci:cl i with _|_|_|_|_|_|_|_|_|m
  ·rw[hci]at hW3;obtain⟨v,hv,hW3⟩:=hW3;have hv:=hv.op;by_cases hw:Region.wanted o (yiel ops t')=true
   ·rw[if_pos hw]at hv⊢;refine(EI n t' ds▸hv H' (nf'+i) (hfree i (by simp))).mono fun u G' q=> ?_
    obtain⟨rfl,rfl⟩:=q;exact⟨l1++l2,_,Hb,nf',hput _,hll2,hmem,ok_sub l1 l2 hokl,hW3,hE,hF,fun k hk=>hfree k (by rcases Ax.1 hk with x|x<;>simp[x]),by simp[hsz],hcl,nf1,hf1⟩
   ·rw[if_neg hw]at hv⊢;subst hv;exact⟨l1++l2,_,Hb,nf',hput _,hll2,hmem,ok_sub l1 l2 hokl,hW3,hE,hF,fun k hk=>hfree k (by rcases Ax.1 hk with x|x<;>simp[x]),by simp[hsz],hcl,nf1,hf1⟩
  ·rw[hci]at hW3;obtain⟨v,hv,hW3⟩:=hW3;unfold Rv at hv;by_cases hw:Region.wanted o (yiel ops t')=true
   ·rw[if_pos hw]at hv⊢;refine(EI n t' ds▸hv H' (nf'+i) hE (hfree i (by simp))).mono fun u G' q=> ?_
    obtain⟨rfl,rfl⟩:=q;exact⟨l1++l2,_,Hb,nf',hput _,hll2,hmem,ok_sub l1 l2 hokl,hW3,hE,hF,fun k hk=>hfree k (by rcases Ax.1 hk with x|x<;>simp[x]),by simp[hsz],hcl,nf1,hf1⟩
   ·rw[if_neg hw]at hv⊢;subst hv;exact⟨l1++l2,_,Hb,nf',hput _,hll2,hmem,ok_sub l1 l2 hokl,hW3,hE,hF,fun k hk=>hfree k (by rcases Ax.1 hk with x|x<;>simp[x]),by simp[hsz],hcl,nf1,hf1⟩
  ·rw[hci]at hW3;obtain⟨hw,hW3⟩:=hW3 (max nf1 nf') om (fun a ha=>hf1 a om);rw[if_pos hw];refine(EI n t' ds▸hW3).mono fun v G' q=> ?_
   obtain⟨nf2,q1,q2⟩:=q;exact⟨l1++l2,_,G',nf2,hput _,hll2,hmem,ok_sub l1 l2 hokl,q2,Ext.refl _,q1,fun k _=>q1 _ om,by simp[hsz],hcl,nf2,q1⟩
  ·rw[hci]at hW3;obtain⟨hw,hW3⟩:=hW3.2 (max nf1 nf') om (fun a ha=>hf1 a om);rw[if_pos hw];refine(EI n t' ds▸hW3).mono fun v G' q=> ?_
   obtain⟨_,nf2,q1,q2⟩:=q;exact⟨l1++l2,_,G',nf2,hput _,hll2,hmem,ok_sub l1 l2 hokl,q2,Ext.refl _,q1,fun k _=>q1 _ om,by simp[hsz],hcl,nf2,q1⟩
  ·rw[hci]at hW3;obtain⟨v,δ,hv,hW3⟩:=hW3;have hi':H' (nf'+i)=none:=hfree i (by simp);have hE2:Ext Hb (Kz H' δ):=by
    rcases hv.1 with rfl|⟨x,rfl⟩
    ·exact hE
    ·exact hE.far (hF _ om) x
   have hfree2:∀k∈l1++l2,Kz H' δ (nf'+k)=none:=fun k hk=>by
    have h1:=hfree k (by rcases Ax.1 hk with x|x<;>simp[x]);rcases hv.1 with rfl|⟨x,rfl⟩
    ·exact h1
    ·rw[Pp,upd_ne (by have:=hnot k hk;omega)];exact h1
   have hf2:∃m,Fr (Kz H' δ) m:=by
    rcases hv.1 with rfl|⟨x,rfl⟩
    ·exact⟨nf1,hf1⟩
    ·exact⟨max nf1 (nf'+i+1),fun a ha=>by rw[Pp,upd_ne om];exact hf1 a om⟩
   obtain⟨_,hv⟩:=hv;by_cases hw:Region.wanted o (yiel ops t')=true
   ·rw[if_pos hw]at hv⊢;refine(EI n t' ds▸hv H' hE hi').mono fun u G' q=> ?_
    obtain⟨rfl,rfl⟩:=q;exact⟨l1++l2,_,Hb,nf',hput _,hll2,hmem,ok_sub l1 l2 hokl,hW3,hE2,hF,hfree2,by simp[hsz],hcl,hf2⟩
   ·rw[if_neg hw]at hv⊢;obtain⟨rfl,rfl⟩:=hv;exact⟨l1++l2,_,Hb,nf',hput _,hll2,hmem,ok_sub l1 l2 hokl,hW3,hE,hF,hfree2,by simp[hsz],hcl,nf1,hf1⟩
  ·rw[hci]at hW3;obtain⟨⟨hm,hg,_,_,_⟩,hW3⟩:=hW3;obtain⟨v,x,h1,h2⟩:=hW3 (max nf1 n0) om (hf1 _ om);rw[if_pos (BY hg _)];have hfr:Fr (upd H' (max nf1 n0) (some x)) (max (max nf1 (max nf1 n0+1)) n0):=hf1.any _ x n0;refine EI n t' ds▸WOp.hop Cv Ce (hf1 _ om) ((GH (G:=Hb) hm fun _ _=>rfl).trans h1) ?_;exact⟨l1++l2,_,_,_,hput _,hll2,hmem,ok_sub l1 l2 hokl,h2 _ om hfr,Ext.refl _,hfr,fun k _=>hfr _ om,by simp[hsz],hcl,_,hfr⟩
  ·rw[hci]at hW3;obtain⟨⟨hB,hG⟩,hsp,hk⟩:=hW3;obtain⟨hw,h'⟩:=hsp H' (max nf1 n0) (hB.trans hE) om (hf1.up om);rw[if_pos hw];refine(EI n t' ds▸h').mono fun v G' q=> ?_
   obtain⟨q0,q1,nf2,q2⟩:=q;have q3:=q2.up (show nf2<=max nf2 n0 from om);exact⟨l1++l2,_,G',_,hput _,hll2,hmem,ok_sub l1 l2 hokl,hk v G' _ om q1 q0 q3,Ext.refl _,q3,fun k _=>q3 _ om,by simp[hsz],hcl,_,q3⟩
  ·rw[hci]at hW3;obtain⟨⟨hB,_⟩,v,hv,hW3⟩:=hW3;unfold Rv at hv;by_cases hw:Region.wanted o (yiel ops t')=true
   ·rw[if_pos hw]at hv⊢;refine(EI n t' ds▸hv H' (nf'+i) hB (hfree i (by simp))).mono fun u G' q=> ?_
    obtain⟨rfl,rfl⟩:=q;exact⟨l1++l2,_,Hb,nf',hput _,hll2,hmem,ok_sub l1 l2 hokl,hW3,hE,hF,fun k hk=>hfree k (by rcases Ax.1 hk with x|x<;>simp[x]),by simp[hsz],hcl,nf1,hf1⟩
   ·rw[if_neg hw]at hv⊢;subst hv;exact⟨l1++l2,_,Hb,nf',hput _,hll2,hmem,ok_sub l1 l2 hokl,hW3,hE,hF,fun k hk=>hfree k (by rcases Ax.1 hk with x|x<;>simp[x]),by simp[hsz],hcl,nf1,hf1⟩
  ·rw[hci]at hW3;obtain⟨hw,hW3⟩:=hW3 (max nf1 nf') om (fun a ha=>hf1 a om);rw[if_pos hw];refine(EI n t' ds▸hW3).mono fun v G' q=> ?_
   obtain⟨_,nf2,q1,q2⟩:=q;exact⟨l1++l2,_,G',nf2,hput _,hll2,hmem,ok_sub l1 l2 hokl,q2,Ext.refl _,q1,fun k _=>q1 _ om,by simp[hsz],hcl,nf2,q1⟩
  ·rw[hci]at hW3;obtain⟨⟨hB,hG⟩,hsp,hk⟩:=hW3;obtain⟨hw,h'⟩:=hsp H' (max nf1 n0) (hB.trans hE) om (hf1.up om);rw[if_pos hw];refine(EI n t' ds▸h').mono fun v G' q=> ?_
   obtain⟨q0,q1,nf2,q2⟩:=q;have q3:=q2.up (show nf2<=max nf2 n0 from om);exact⟨l1++l2,_,G',_,hput _,hll2,hmem,ok_sub l1 l2 hokl,hk v G' _ om q1 q0 q3,Ext.refl _,q3,fun k _=>q3 _ om,by simp[hsz],hcl,_,q3⟩
 ·obtain⟨l,t',Hb,nf',rfl,hll,hl,hokl,hW,_,_,_,hsz,cl2,_⟩:=hI;have all:∀i,i<ops.size->S.getD i false=true:=by
   intro i;induction i using Nat.strongRecOn with
   |_ i ih=>
    intro hi;cases hS:S.getD i false with
    |true=>rfl
    |false=>
     exfalso;have hSi:S[i]? =some false:=by
      rw[AL]at hS;have:i<S.size:=by rw[hsz];exact hi
      rw[AK this]at hS⊢;simpa using hS
     have:i∈Region.ready .any ops S:=by
      unfold Region.ready;rw[List.mem_filter,An];refine⟨hi,?_⟩;rw[AL,hSi,AK hi];simp only[AQ,Bool.not_false,Bool.true_and,AU,Array.all_eq_true'];intro e he;cases hb:Region.binds .any e with
      |false=>rfl
      |true=>
       have hlt:=hO.edge i ops[i] (AK hi) e (by simpa using he) hb;rw[ih e.on hlt om];rfl
     rw[hr]at this;cases this
  have hnil:l=[]:=by
   cases l with
   |nil=>rfl
   |cons a l=>
    exfalso;have h1:=hll a (by simp);have h2:=(hl a h1).1 (by simp);rw[all a h1]at h2;cases h2
  subst hnil;exact hW
noncomputable def Bm(cls:List Nat)(i:Nat):Nat:=cls.getD i 2
noncomputable def Nx(ops:Array Oper)(cls ord:List Nat)(n:Nat):Bool:=Region.ok Tryz.prog.types ops true&&IT ops&&IZ ops.toList 0&&Nat.ble (Dx ops.toList 0) n&&(List.range ops.size).all (fun i=>ord.contains i)&&ord.all (Nat.blt · ops.size)&&Zg (anc (CheckFast.beforeF ops).toList) (Bm cls) n ord
section
variable{id:Nat}{ops:Array Oper}{n nf:Nat}{ds:List Deferred}{top:Bool}{t:Nat->Value}{H G:Hp}{cls l:List Nat}{Rf:Nat->Hp->Value->Hp->Prop}{B:Hp}{n0:Nat}
theorem Bh {Q:QT} (cls ord:List Nat) (hk:Nx ops cls ord n=true) (hf:Fr H nf) (h:WD ops (Bm cls) n ds (fun _ _ _ _=>False) H nf (fun A H=>Q .norm A H) ord t H H nf):WC Tryz.prog top (.region id ops true) Q ⟨n,t,ds⟩ H:=by
 unfold Nx at hk;simp only[AA]at hk;obtain⟨⟨⟨⟨⟨⟨h1,h2⟩,h3⟩,h4⟩,h5⟩,h6⟩,h7⟩:=hk;exact I0 (fun _ _ _ _ _ _ h=>h.elim) (Hd h1 h2 h3 (Nat.ble_eq.mp h4)) ord h5 h6 h7 hf h
variable{Q:AF->Hp->Prop}{i:Nat}{o:Oper}
theorem BX (h:Q ⟨n,t,ds⟩ G):WD ops (Bm cls) n ds Rf B n0 Q [] t H G nf:=h
def LE:List Oper->Nat->Option Oper
 |[],_=>none
 |o::_,0=>some o
 |_::l,i+1=>LE l i
theorem PK:∀(l:List Oper) (i:Nat),LE l i=l[i]?
 |[],_=>rfl
 |_::_,0=>rfl
 |_::l,i+1=>PK l i
theorem GE{ops:Array Oper}{i:Nat}{o:Oper}(h:LE ops.toList i=some o):ops[i]? =some o:=by
 rw[PK,Ae]at h;exact h
noncomputable def kC(ops:Array Oper)(cls:List Nat)(k i:Nat):Option (Oper×Nat):=match LE ops.toList i with
 |some o=>match o.dst,o.guard with
  |some d,none=>bif Nat.beq (Bm cls i) k&&(Nat.beq k 0&&YG o.op||(Nat.beq k 1&&GZ o.op||Nat.beq k 4&&HM o.op))then some (o,d)else none
  |_,_=>none
 |none=>none
theorem TF{k d:Nat}(h:kC ops cls k i=some (o,d)):ops[i]? =some o/\Bm cls i=k/\o.dst=some d/\o.guard=none/\((k=0/\YG o.op=true)\/(k=1/\GZ o.op=true\/k=4/\HM o.op=true)):=by
 unfold kC at h;split at h
 ·rename_i o' ho;split at h
  ·rename_i d' h1 h2;cases hb: (Nat.beq (Bm cls i) k&&(Nat.beq k 0&&YG o'.op||(Nat.beq k 1&&GZ o'.op||Nat.beq k 4&&HM o'.op)))with
   |false=>rw[hb]at h;cases h
   |true=>
    rw[hb]at h;cases h
    simp only[AA,A6]at hb;have hb2:=hb.2.imp (fun h=>(⟨AE h.1,h.2⟩:k=0/\_)) (fun h=>h.imp (fun h=>(⟨AE h.1,h.2⟩:k=1/\_)) (fun h=>(⟨AE h.1,h.2⟩:k=4/\_)));exact⟨GE ho,AE hb.1,h1,h2,hb2⟩
  ·cases h
 ·cases h
noncomputable def RZ(ops:Array Oper)(cls:List Nat)(k i:Nat):Option (Oper×Nat×FuncId×List Operand):=match LE ops.toList i with
 |some o=>match o.dst,o.guard,o.op with
  |some d,none,.call {callee:= .value (.func g),args,.. }=>bif Nat.beq (Bm cls i) k then some (o,d,g,args.toList)else none
  |_,_,_=>none
 |none=>none
variable{g:FuncId}
theorem La{k d:Nat}{args:List Operand}(h:RZ ops cls k i=some (o,d,g,args)):ops[i]? =some o/\Bm cls i=k/\o.dst=some d/\o.guard=none/\∃ats,o.op= .call {callee:= .value (.func g),args:=⟨args⟩,argTypes:=ats}:=by
 unfold RZ at h;split at h
 ·rename_i o' ho;split at h
  ·rename_i d' g' args' ats h1 h2 h3;cases hb:Nat.beq (Bm cls i) k with
   |false=>rw[hb]at h;cases h
   |true=>
    rw[hb]at h;cases h
    exact⟨GE ho,AE hb,h1,h2,ats,h3⟩
  ·cases h
 ·cases h
noncomputable def iA(ops:Array Oper)(cls:List Nat)(i:Nat):Option Oper:=match LE ops.toList i with
 |some o=>match o.dst,o.guard with
  |none,none=>bif Nat.beq (Bm cls i) 2 then some o else none
  |_,_=>none
 |none=>none
theorem gy(h:iA ops cls i=some o):ops[i]? =some o/\Bm cls i=2/\o.dst=none/\o.guard=none:=by
 unfold iA at h;split at h
 ·rename_i o' ho;split at h
  ·rename_i h1 h2;cases hb:Nat.beq (Bm cls i) 2 with
   |false=>rw[hb]at h;cases h
   |true=>rw[hb]at h;cases h;exact⟨GE ho,AE hb,h1,h2⟩
  ·cases h
 ·cases h
theorem dq{d:Nat}{v:Value}(hk:kC ops cls 0 i=some (o,d))(h:hop tz pE 0 (eT t) o.op=some (v,[]))(k:WD ops (Bm cls) n ds Rf B n0 Q l (st t d v) H G nf):WD ops (Bm cls) n ds Rf B n0 Q (i::l) t H G nf:=by
 obtain⟨ho,hc,hd,hg,hq⟩:=TF hk;refine⟨o,ho,?_⟩;rw[hc];have hq2:YG o.op=true:=by rcases hq with h|h|h;exact h.2;exact absurd h.1 dZ;exact absurd h.1 dZ
 refine⟨v,by unfold Qv;rw[if_pos (BY hg _)];exact⟨hq2,Vw hq2 h⟩,?_⟩;unfold pt;rw[hd];exact k
theorem dr{d:Nat}{v:Value}(hk:kC ops cls 1 i=some (o,d))(h:hop tz H (nf+i) (eT t) o.op=some (v,[]))(k:WD ops (Bm cls) n ds Rf B n0 Q l (st t d v) H G nf):WD ops (Bm cls) n ds Rf B n0 Q (i::l) t H G nf:=by
 obtain⟨ho,hc,hd,hg,hr⟩:=TF hk;refine⟨o,ho,?_⟩;rw[hc];refine⟨v,Rv.of (by rcases hr with h|h|h;exact absurd h.1 dZ;exact h.2;exact absurd h.1 dZ) h hg,?_⟩;unfold pt;rw[hd];exact k
theorem da{d:Nat}{v:Value}{x:AB}(hk:kC ops cls 4 i=some (o,d))(h:hop tz H (nf+i) (eT t) o.op=some (v,[(nf+i,x)]))(k:WD ops (Bm cls) n ds Rf B n0 Q l (st t d v) H (upd G (nf+i) (some x)) nf):WD ops (Bm cls) n ds Rf B n0 Q (i::l) t H G nf:=by
 obtain⟨ho,hc,hd,hg,hr⟩:=TF hk;refine⟨o,ho,?_⟩;rw[hc];refine⟨v,[(nf+i,x)],Fv.of (by rcases hr with h|h|h;exact absurd h.1 dZ;exact absurd h.1 dZ;exact h.2) (.inr ⟨x,rfl⟩) h hg,?_⟩;unfold pt;rw[hd];exact k
theorem dp{d:Nat}{args:List Operand}{vs:List Value}{v:Value}(hk:RZ ops cls 1 i=some (o,d,g,args))(hv:args.map (eT t)=vs)(h:∀G,Ext H G->Pure g vs v G)(k:WD ops (Bm cls) n ds Rf B n0 Q l (st t d v) H G nf):WD ops (Bm cls) n ds Rf B n0 Q (i::l) t H G nf:=by
 obtain⟨ho,hc,hd,hg,ats,hop⟩:=La hk;refine⟨o,ho,?_⟩;rw[hc];refine⟨v,?_,by unfold pt;rw[hd];exact k⟩;unfold Rv;rw[if_pos (BY hg _)];intro G a hG _;obtain⟨⟨fn,c,hf,hb⟩,h⟩:=h G hG;refine WOp.call (first:= #[]) (cap:= #[]) hop rfl hf hb (C4 hf) ?_;have e: (#[]:Array Value).toList++args.map (eT t)++(#[]:Array Value).toList=vs:=by simpa using hv
 dsimp only;rw[e];exact h
theorem dm{d:Nat}{args:List Operand}{vs:List Value}{QF:Value->Hp->Prop}(hk:RZ ops cls 3 i=some (o,d,g,args))(he:Ext H G)(hv:args.map (eT t)=vs)(h:Ct g vs QF G)(hx:∀v H',QF v H'->Ext G H')(k:∀v H' nf',nf<=nf'->QF v H'->Fr H' nf'->WD ops (Bm cls) n ds Rf B n0 Q l (st t d v) H' H' nf'):WD ops (Bm cls) n ds Rf B n0 Q (i::l) t H G nf:=by
 obtain⟨ho,hc,hd,hg,ats,hop⟩:=La hk;obtain⟨⟨fn,c,hf,hb⟩,h⟩:=h;refine⟨o,ho,?_⟩;rw[hc];refine⟨he,?_⟩;intro nf1 hl _;refine⟨BY hg _,WOp.call (first:= #[]) (cap:= #[]) hop rfl hf hb (C4 hf) ?_⟩;have e: (#[]:Array Value).toList++args.map (eT t)++(#[]:Array Value).toList=vs:=by simpa using hv
 dsimp only;rw[e];exact h.fin.mono fun v H' q=>by unfold pt;rw[hd];obtain⟨q,nf2,hf⟩:=q;exact⟨hx v H' q,max nf2 nf,hf.up om,k v H' _ om q (hf.up om)⟩
theorem dw{v:Value}{b:Nat}{x y:AB}(hk:iA ops cls i=some o)(h:∀nf1,hop tz G nf1 (eT t) o.op=some (v,[(b,x)]))(hb:G b=some y)(k:∀nf',nf<=nf'->Fr (upd G b (some x)) nf'->WD ops (Bm cls) n ds Rf B n0 Q l t (upd G b (some x)) (upd G b (some x)) nf'):WD ops (Bm cls) n ds Rf B n0 Q (i::l) t H G nf:=by
 obtain⟨ho,hc,hd,hg⟩:=gy hk;refine⟨o,ho,?_⟩;rw[hc];intro nf1 hl hf;refine⟨BY hg _,WOp.hop Cv Ce hf.at (h nf1) ?_⟩;unfold pt;rw[hd];exact⟨nf1,hf.old hb x,k nf1 hl (hf.old hb x)⟩
theorem dc{d:Nat}{args:List Operand}{vs:List Value}{QF:Value->Hp->Prop}(hk:RZ ops cls 2 i=some (o,d,g,args))(hv:args.map (eT t)=vs)(h:Ct g vs QF G)(k:∀v H' nf',nf<=nf'->QF v H'->Fr H' nf'->WD ops (Bm cls) n ds Rf B n0 Q l (st t d v) H' H' nf'):WD ops (Bm cls) n ds Rf B n0 Q (i::l) t H G nf:=by
 obtain⟨ho,hc,hd,hg,ats,hop⟩:=La hk;obtain⟨⟨fn,c,hf,hb⟩,h⟩:=h;refine⟨o,ho,?_⟩;rw[hc];intro nf1 hl _;refine⟨BY hg _,WOp.call (first:= #[]) (cap:= #[]) hop rfl hf hb (C4 hf) ?_⟩;have e: (#[]:Array Value).toList++args.map (eT t)++(#[]:Array Value).toList=vs:=by simpa using hv
 dsimp only;rw[e];exact h.fin.mono fun v H' q=>by unfold pt;rw[hd];obtain⟨q,nf2,hf⟩:=q;exact⟨max nf2 nf,hf.up om,k v H' _ om q (hf.up om)⟩
noncomputable def RY(ops:Array Oper)(cls:List Nat)(k i:Nat):Option (Oper×Nat×Nat×Bool):=match LE ops.toList i with
 |some o=>match o.dst,o.guard with
  |some d,some (j,w)=>match(ops[j]?).bind (·.dst)with
   |some dj=>bif Nat.beq (Bm cls i) k&&(Nat.beq k 0&&YG o.op||(Nat.beq k 1&&GZ o.op||Nat.beq k 4&&HM o.op))then some (o,d,dj,w)else none
   |none=>none
  |_,_=>none
 |none=>none
theorem WQ{k d dj:Nat}{w:Bool}(h:RY ops cls k i=some (o,d,dj,w)):ops[i]? =some o/\Bm cls i=k/\o.dst=some d/\Region.wanted o (yiel ops t)=(ob (t dj)==some w)/\((k=0/\YG o.op=true)\/(k=1/\GZ o.op=true\/k=4/\HM o.op=true)):=by
 unfold RY at h;split at h
 ·rename_i o' ho;split at h
  ·rename_i d' j w' h1 h2;split at h
   ·rename_i dj' h3;cases hb: (Nat.beq (Bm cls i) k&&(Nat.beq k 0&&YG o'.op||(Nat.beq k 1&&GZ o'.op||Nat.beq k 4&&HM o'.op)))with
    |false=>rw[hb]at h;cases h
    |true=>
     rw[hb]at h;cases h
     simp only[AA,A6]at hb;have hb2:=hb.2.imp (fun h=>(⟨AE h.1,h.2⟩:k=0/\_)) (fun h=>h.imp (fun h=>(⟨AE h.1,h.2⟩:k=1/\_)) (fun h=>(⟨AE h.1,h.2⟩:k=4/\_)));refine⟨GE ho,AE hb.1,h1,?_,hb2⟩;unfold Region.wanted;rw[h2];dsimp only;rw[Oe h3]
   ·cases h
  ·cases h
 ·cases h
noncomputable def TE(ops:Array Oper)(cls:List Nat)(k i:Nat):Option (Oper×Nat×Nat×Bool):=match LE ops.toList i with
 |some o=>match o.dst,o.guard with
  |some d,some (j,w)=>match(ops[j]?).bind (·.dst)with
   |some dj=>bif Nat.beq (Bm cls i) k then some (o,d,dj,w)else none
   |none=>none
  |_,_=>none
 |none=>none
theorem Pf{k d dj:Nat}{w:Bool}(h:TE ops cls k i=some (o,d,dj,w)):ops[i]? =some o/\Bm cls i=k/\o.dst=some d/\Region.wanted o (yiel ops t)=(ob (t dj)==some w):=by
 unfold TE at h;split at h
 ·rename_i o' ho;split at h
  ·rename_i d' j w' h1 h2;split at h
   ·rename_i dj' h3;cases hb:Nat.beq (Bm cls i) k with
    |false=>rw[hb]at h;cases h
    |true=>
     rw[hb]at h;cases h
     refine⟨GE ho,AE hb,h1,?_⟩;unfold Region.wanted;rw[h2];dsimp only;rw[Oe h3]
   ·cases h
  ·cases h
 ·cases h
theorem wn{d dj:Nat}{w c:Bool}{v:Value}(hk:RY ops cls 0 i=some (o,d,dj,w))(hg: (ob (t dj)==some w)=c)(h:c=true->hop tz pE 0 (eT t) o.op=some (v,[]))(k:WD ops (Bm cls) n ds Rf B n0 Q l (st t d (gw c v)) H G nf):WD ops (Bm cls) n ds Rf B n0 Q (i::l) t H G nf:=by
 obtain⟨ho,hc,hd,hw,hq⟩:=WQ (t:=t) hk;have hq2:YG o.op=true:=by rcases hq with h|h|h;exact h.2;exact absurd h.1 dZ;exact absurd h.1 dZ
 rw[hg]at hw;refine⟨o,ho,?_⟩;rw[hc];refine⟨gw c v,?_,by unfold pt;rw[hd];exact k⟩;unfold Qv;rw[hw];cases c with
 |true=>rw[if_pos rfl];exact⟨hq2,Vw hq2 (h rfl)⟩
 |false=>rw[if_neg (by simp)];rfl
theorem wk{d dj:Nat}{w c:Bool}{v:Value}(hk:RY ops cls 1 i=some (o,d,dj,w))(hg: (ob (t dj)==some w)=c)(h:c=true->hop tz H (nf+i) (eT t) o.op=some (v,[]))(k:WD ops (Bm cls) n ds Rf B n0 Q l (st t d (gw c v)) H G nf):WD ops (Bm cls) n ds Rf B n0 Q (i::l) t H G nf:=by
 obtain⟨ho,hc,hd,hw,hr⟩:=WQ (t:=t) hk;have hr2:GZ o.op=true:=by rcases hr with h|h|h;exact absurd h.1 dZ;exact h.2;exact absurd h.1 dZ
 rw[hg]at hw;refine⟨o,ho,?_⟩;rw[hc];refine⟨gw c v,?_,by unfold pt;rw[hd];exact k⟩;unfold Rv;rw[hw];cases c with
 |true=>
  rw[if_pos rfl];have:=Rv.of (ops:=ops) (o:={o with guard:=none}) (t:=t) (v:=v) hr2 (h rfl) rfl;unfold Rv at this;rw[if_pos (BY rfl _)]at this;intro G a hG hb;have hk':HM o.op=true:=by revert hr2;cases o.op<;>simp[GZ,HM]
  refine WOp.hop Cv Ce hb (δ:=[]) ?_ ⟨rfl,rfl⟩;rw[show gw true v=v from rfl,<-Mc hG hk' (h rfl)];revert hr2;cases o.op<;>simp[GZ]<;>rfl
 |false=>rw[if_neg (by simp)];rfl
theorem wo{d dj:Nat}{w c:Bool}{args:Array Operand}{ats:Array TypeId}{vs:List Value}{v:Value}(hk:TE ops cls 1 i=some (o,d,dj,w))(hop:o.op= .call {callee:= .value (.func g),args,argTypes:=ats})(hg: (ob (t dj)==some w)=c)(hv:c=true->args.toList.map (eT t)=vs)(h:c=true->∀G,Ext H G->Pure g vs v G)(k:WD ops (Bm cls) n ds Rf B n0 Q l (st t d (gw c v)) H G nf):WD ops (Bm cls) n ds Rf B n0 Q (i::l) t H G nf:=by
 obtain⟨ho,hc,hd,hw⟩:=Pf (t:=t) hk;rw[hg]at hw;refine⟨o,ho,?_⟩;rw[hc];refine⟨gw c v,?_,by unfold pt;rw[hd];exact k⟩;unfold Rv;rw[hw];cases c with
 |true=>
  rw[if_pos rfl];intro G a hG _;obtain⟨⟨fn,c,hf,hb⟩,h⟩:=h rfl G hG;refine WOp.call (first:= #[]) (cap:= #[]) hop rfl hf hb (C4 hf) ?_;have e: (#[]:Array Value).toList++args.toList.map (eT t)++(#[]:Array Value).toList=vs:=by simpa using hv rfl
  rw[e];exact h
 |false=>rw[if_neg (by simp)];rfl
noncomputable def n9(ops:Array Oper)(cls:List Nat)(i:Nat):Option (Oper×Nat):=match LE ops.toList i with
 |some o=>match o.dst,o.guard with
  |some d,none=>bif Nat.beq (Bm cls i) 5&&dB o.op then some (o,d)else none
  |_,_=>none
 |none=>none
theorem iB{d:Nat}(h:n9 ops cls i=some (o,d)):ops[i]? =some o/\Bm cls i=5/\o.dst=some d/\o.guard=none/\dB o.op=true:=by
 unfold n9 at h;split at h
 ·rename_i o' ho;split at h
  ·rename_i d' h1 h2;cases hb: (Nat.beq (Bm cls i) 5&&dB o'.op)with
   |false=>rw[hb]at h;cases h
   |true=>
    rw[hb]at h;cases h
    rw[AA]at hb;exact⟨GE ho,AE hb.1,h1,h2,hb.2⟩
  ·cases h
 ·cases h
theorem d5{d:Nat}{v:Nat->Value}{x:Nat->AB}(hk:n9 ops cls i=some (o,d))(he:Ext B G)(hf:Fr G nf)(h:∀b,hop tz G b (eT t) o.op=some (v b,[(b,x b)]))(k:∀b nf',n0<=b->n0<=nf'->G b=none->Fr (upd G b (some (x b))) nf'->Ext B (upd G b (some (x b)))->WD ops (Bm cls) n ds Rf B n0 Q l (st t d (v b)) (upd G b (some (x b))) (upd G b (some (x b))) nf'):WD ops (Bm cls) n ds Rf B n0 Q (i::l) t G G nf:=by
 obtain⟨ho,hc,hd,hg,hm⟩:=iB hk;refine⟨o,ho,?_⟩;rw[hc];refine⟨⟨hm,hg,he,Ext.refl _,nf,hf⟩,fun b hb hn=>⟨v b,x b,h b,fun nf2 hl hfr=> ?_⟩⟩;unfold pt;rw[hd];exact k b nf2 hb hl hn hfr (he.trans (EL hn _))
theorem d6{d:Nat}{args:List Operand}{vs:List Value}(hk:RZ ops cls 6 i=some (o,d,g,args))(he:Ext B G)(hv:args.map (eT t)=vs)(h:∀G1,Ext B G1->Ct g vs (fun v H'=>Ext G1 H'/\Rf i G1 v H') G1)(k:∀v H' nf',n0<=nf'->Rf i G v H'->Ext G H'->Ext B H'->Fr H' nf'->WD ops (Bm cls) n ds Rf B n0 Q l (st t d v) H' H' nf'):WD ops (Bm cls) n ds Rf B n0 Q (i::l) t G G nf:=by
 obtain⟨ho,hc,hd,hg,ats,hop⟩:=La hk;refine⟨o,ho,?_⟩;rw[hc];refine⟨⟨he,Ext.refl _⟩,fun G1 nf1 hG hl hf1=> ?_,fun v H' nf' h0 hr hG hf=>by unfold pt;rw[hd];exact k v H' nf' h0 hr hG (he.trans hG) hf⟩;obtain⟨⟨fn,c,hf,hb⟩,h⟩:=h G1 hG;refine⟨BY hg _,WOp.call (first:= #[]) (cap:= #[]) hop rfl hf hb (C4 hf) ?_⟩;have e: (#[]:Array Value).toList++args.map (eT t)++(#[]:Array Value).toList=vs:=by simpa using hv
 dsimp only;rw[e];exact h.fin.mono fun v H' q=>by obtain⟨⟨q1,q2⟩,nf2,hf⟩:=q;exact⟨q1,q2,nf2,hf⟩
theorem Ta{Q:QT}(Rf:Hp->Value->Hp->Prop)(hR:∀G v H b x,Rf G v H->Ext G H->H b=none->Rf (upd G b (some x)) v (upd H b (some x)))(cls ord:List Nat)(hk:Nx ops cls ord n=true)(hf:Fr H nf)(h:WD ops (Bm cls) n ds (fun _=>Rf) H nf (fun A H=>Q .norm A H) ord t H H nf):WC Tryz.prog top (.region id ops true) Q ⟨n,t,ds⟩ H:=by
 unfold Nx at hk;simp only[AA]at hk;obtain⟨⟨⟨⟨⟨⟨h1,h2⟩,h3⟩,h4⟩,h5⟩,h6⟩,h7⟩:=hk;exact I0 (fun _ G v H b x h=>hR G v H b x h) (Hd h1 h2 h3 (Nat.ble_eq.mp h4)) ord h5 h6 h7 hf h
theorem Ct.mono{vs:List Value}{Q Q':Value->Hp->Prop}{H:Hp}(h:Ct g vs Q H)(k:∀v H',Q v H'->Q' v H'):Ct g vs Q' H:=⟨h.1,h.2.mono k⟩
end
end
section
open Go.Conc Go.Proofs
section
def uV(g:FuncId)(vs:List Value)(v:Value):Prop:=∃(fn:Func) (e:Array Value->Sem Value),Tryz.prog.funcs[g]? =some fn/\fn.body=none/\(fn.name=="runtime.NumGoroutine")=false/\Extern.findNext fn=none/\Extern.find fn=some e/\plainVl vs=true/\plainV v=true/\∀(w:World) (E':Event->Prop),Ran Tryz.prog (e vs.toArray) w v w E'
section
variable[Md]{top:Bool}{ops:Array Oper}{l:List Oper}{Q:AF->Hp->Prop}{n nf:Nat}{t:Nat->Value}{ds:List Deferred}{H:Hp}{o:Oper}
theorem ox {d:Nat} {g:FuncId} {args:List Operand} {vs:List Value} {v:Value} (hc:oA n o=some (d,g,args)) (hv:args.map (eT t)=vs) (h:uV g vs v) (k:WL top ops l Q ⟨n,st t d v,ds⟩ H):WL top ops (o::l) Q ⟨n,t,ds⟩ H:=by
 obtain⟨hd,hn,hx,hg,ats,hop⟩:=TG hc;obtain⟨fn,e,h1,h2,h3,h4,h5,h6,h7,h8⟩:=h;subst hv;exact CL hx (BY hg _) (WOp.extern hop rfl h1 h2 h3 h4 h5 h6 h7 h8 (by rw[hd,CT hn];exact k))
end
theorem aZ{g:FuncId}{vs:List Value}{v:Value}(h:gd g vs=some v):uV g vs v:=by
 letI:Md:={Rd:=fun _=>False,ok:=fun _ _ _=>True}
 exact(F5 (ord:=fun _=>none) fun _ _ e=>by cases e).ext g vs v h
variable{x y:Int}
theorem Wh{c:Int}(hx:0<=x)(hy:0<=y)(hc:0<=c/\c<=1):uV 116 [.int .u64 x,.int .u64 y,.int .u64 c] (.tuple #[.int .u64 ((x+y+c)%18446744073709551616),.int .u64 ((x+y+c)/18446744073709551616)]):=by
 obtain⟨a,rfl⟩:=AI hx;obtain⟨b,rfl⟩:=AI hy;obtain⟨e,rfl⟩:=AI hc.1;apply aZ;have:Nat.ble e 1=true:=Nat.ble_eq.mpr om;show(match Nat.ble e 1 with
  |true=>some (Extern.MathBitsCarry.pair ((a+b+e)%18446744073709551616) ((a+b+e)/18446744073709551616))
  |false=>none)=_
 rw[this];simp[Extern.MathBitsCarry.pair]
theorem Uc{c:Int}(hx:0<=x/\x<18446744073709551616)(hy:0<=y/\y<18446744073709551616)(hc:0<=c/\c<=1):uV 145 [.int .u64 x,.int .u64 y,.int .u64 c] (.tuple #[.int .u64 ((x - y - c)%18446744073709551616),.int .u64 (if x<y+c then 1 else 0)]):=by
 obtain⟨a,rfl⟩:=AI hx.1;obtain⟨b,rfl⟩:=AI hy.1;obtain⟨e,rfl⟩:=AI hc.1;apply aZ;have:Nat.ble e 1=true:=Nat.ble_eq.mpr om;show(match Nat.ble e 1 with
  |true=>some (Extern.MathBitsCarry.pair ((a+18446744073709551616 - b - e)%18446744073709551616) (bif Nat.blt a (b+e)then 1 else 0))
  |false=>none)=_
 rw[this];simp only[Extern.MathBitsCarry.pair,AO,Value.tuple.injEq];have h1: (((a+18446744073709551616 - b - e)%18446744073709551616:Nat):Int)=((a:Int) - b - e)%18446744073709551616:=om;have h2: ((bif Nat.blt a (b+e)then 1 else 0:Nat):Int)=if(a:Int)<b+e then 1 else 0:=by
  by_cases hlt:a<b+e
  ·rw[show Nat.blt a (b+e)=true by rw[Nat.blt_eq];exact hlt,if_pos om];rfl
  ·rw[show Nat.blt a (b+e)=false by rw[<-Bool.not_eq_true,Nat.blt_eq];exact hlt,if_neg om];rfl
 rw[<-h1,<-h2];rfl
theorem Cd(x:Int):IntKind.wrap .i64 x=(x+9223372036854775808)%18446744073709551616 - 9223372036854775808:=by
 have e: (2^IntKind.bits .i64:Int)=18446744073709551616:=rfl;have e2: (2^(IntKind.bits .i64 - 1):Int)=9223372036854775808:=rfl;unfold IntKind.wrap;dsimp only;rw[e,e2];by_cases h:x%18446744073709551616 >= 9223372036854775808
 ·rw[if_pos (by simp[IntKind.signed,h])];omega
 ·rw[if_neg (by simp[h])];omega
theorem EN(x:Int):IntKind.wrap .u64 x=x%18446744073709551616:=by
 have e: (2^IntKind.bits .u64:Int)=18446744073709551616:=rfl;unfold IntKind.wrap;dsimp only;rw[e,if_neg (by simp[IntKind.signed])]
theorem uZ(h: -9223372036854775808<=x/\x<9223372036854775808):IntKind.wrap .i64 x=x:=by rw[Cd];omega
section
variable(Γ:TypeId->Option TI)(t:TypeId)
theorem iF (a:Int):Cr Γ .shr t (.int .i64 a) (.int .u64 63)=some (.int .i64 (a/9223372036854775808)):=by
 have e:a.fdiv (2^(min (Int.toNat 63) (IntKind.bits .i64)))=a/9223372036854775808:=by
  rw[show(2:Int)^(min (Int.toNat 63) (IntKind.bits .i64))=9223372036854775808 from rfl,Int.fdiv_eq_ediv_of_nonneg _ om]
 unfold Cr;dsimp only;rw[if_pos dZ];exact congrArg (fun x=>some (Value.int .i64 x)) e
theorem iG(a:Int):Cr Γ .shr t (.int .u64 a) (.int .u64 32)=some (.int .u64 (a/4294967296)):=by
 have e:a.fdiv (2^(min (Int.toNat 32) (IntKind.bits .u64)))=a/4294967296:=by
  rw[show(2:Int)^(min (Int.toNat 32) (IntKind.bits .u64))=4294967296 from rfl,Int.fdiv_eq_ediv_of_nonneg _ om]
 unfold Cr;dsimp only;rw[if_pos dZ];exact congrArg (fun x=>some (Value.int .u64 x)) e
theorem Pj{a:Int}(h:0<=a/\a<18446744073709551616):Cr Γ .and t (.int .u64 a) (.int .u64 4294967295)=some (.int .u64 (a%4294967296)):=by
 obtain⟨n,rfl⟩:=AI h.1;have e: (BitVec.ofInt (IntKind.bits .u64) (n:Int)&&&BitVec.ofInt (IntKind.bits .u64) 4294967295).toNat=n%4294967296:=by
  rw[BitVec.toNat_and];rw[show(BitVec.ofInt (IntKind.bits .u64) (n:Int)).toNat=n from ?_,show(BitVec.ofInt (IntKind.bits .u64) 4294967295).toNat=2^32 - 1 from rfl,Nat.and_two_pow_sub_one_eq_mod];show(BitVec.ofInt 64 (n:Int)).toNat=n
  rw[BitVec.toNat_ofInt];omega
 simp only[Cr,Ag,e,AO,Value.int.injEq,true_and];rw[EN];omega
end
theorem Lb(k k2:IntKind)(a b:Int):B9 tz 52 [(0,.int k a),(1,.int k2 b)]=some (.agg #[.int k a,.int k2 b]):=kr
theorem bV:B9 tz 52 []=some (.agg #[.int .i64 0,.int .u64 0]):=kr
def GI(a:Int):Int:=IntKind.wrap .i64 (a/18446744073709551616)
def EG(a:Int):Int:=a%18446744073709551616
def W(a:Int):Value:= .agg #[.int .i64 (GI a),.int .u64 (EG a)]
theorem DO(a:Int):W a= .agg #[.int .i64 (GI a),.int .u64 (EG a)]:=rfl
variable{b:Int}
theorem X0{a c d:Int}{k k2:IntKind}(h1:a=c)(h2:b=d):Value.agg #[.int k a,.int k2 b]=Value.agg #[.int k c,.int k2 d]:=by rw[h1,h2]
theorem uw{a:Int}(ha: -9223372036854775808<=a/\a<9223372036854775808):Value.agg #[.int .i64 (a/9223372036854775808),.int .u64 (IntKind.wrap .u64 a)]=W a:=by
 refine X0 ?_ ?_
 ·unfold GI;rw[Cd];omega
 ·unfold EG;rw[EN]
theorem qU(a b:Int):Value.agg #[.int .i64 (IntKind.wrap .i64 ((IntKind.wrap .u64 (GI a)+IntKind.wrap .u64 (GI b)+(EG a+EG b+0)/18446744073709551616)%18446744073709551616)),.int .u64 ((EG a+EG b+0)%18446744073709551616)]=W (a+b):=by
 refine X0 ?_ ?_
 ·unfold GI EG;simp only[Cd,EN];omega
 ·unfold EG;omega
theorem mh(a b:Int):Value.agg #[.int .i64 (IntKind.wrap .i64 ((IntKind.wrap .u64 (GI a) - IntKind.wrap .u64 (GI b) - if EG a<EG b+0 then 1 else 0)%18446744073709551616)),.int .u64 ((EG a - EG b - 0)%18446744073709551616)]=W (a - b):=by
 refine X0 ?_ ?_
 ·unfold GI EG;simp only[Cd,EN];split<;>omega
 ·unfold EG;omega
theorem uX{a:Int}(ha: -170141183460469231731687303715884105728<=a/\a<170141183460469231731687303715884105728)(hb: -170141183460469231731687303715884105728<=b/\b<170141183460469231731687303715884105728):W a=W b↔a=b:=by
 constructor
 ·intro h;unfold W at h;simp only[Value.agg.injEq,Array.mk.injEq,List.cons.injEq,Value.int.injEq,true_and,and_true]at h;obtain⟨h1,h2⟩:=h;unfold GI at h1;unfold EG at h2;simp only[Cd]at h1;omega
 ·intro h;rw[h]
def sg(a b:Int):Int:=if a<b then -1 else if a>b then 1 else 0
theorem dz{a:Int}(ha: -170141183460469231731687303715884105728<=a/\a<170141183460469231731687303715884105728)(hb: -170141183460469231731687303715884105728<=b/\b<170141183460469231731687303715884105728):
  (¬GI a=GI b->(if GI a<GI b then -1 else if GI a>GI b then 1 else 0)=sg a b)/\(GI a=GI b->(if EG a<EG b then -1 else if EG a>EG b then 1 else 0)=sg a b):=by
 unfold sg GI EG;simp only[Cd];refine⟨fun h=> ?_,fun h=> ?_⟩
 ·split<;>split<;>(try split)<;>(try split)<;>omega
 ·split<;>split<;>(try split)<;>(try split)<;>omega
theorem QM(x:Int):0<=IntKind.wrap .u64 x/\IntKind.wrap .u64 x<18446744073709551616:=by rw[EN];omega
theorem rH(a b:Int):0<=(EG a+EG b+0)/18446744073709551616/\(EG a+EG b+0)/18446744073709551616<=1:=by unfold EG;omega
theorem XQ(x y:Int):x*y=(x/4294967296)*(y/4294967296)*18446744073709551616+((x/4294967296)*(y%4294967296)+(x%4294967296)*(y/4294967296))*4294967296+(x%4294967296)*(y%4294967296):=by
 have hx:x=(x/4294967296)*4294967296+x%4294967296:=om;have hy:y=(y/4294967296)*4294967296+y%4294967296:=om;generalize x/4294967296=a at*;generalize x%4294967296=b at*;generalize y/4294967296=c at*;generalize y%4294967296=d at*;subst hx hy;simp only[Int.add_mul,Int.mul_add];simp only[Int.mul_assoc,Int.mul_left_comm,Int.mul_comm,Int.reduceMul];omega
theorem H9{a:Int}(ha:0<=a/\a<=4294967295)(hb:0<=b/\b<=4294967295):0<=a*b/\a*b<=18446744065119617025:=by
 refine⟨Int.mul_nonneg ha.1 hb.1,?_⟩;have:=Int.mul_le_mul ha.2 hb.2 hb.1 om;omega
theorem vB{x y:Int}(hx:0<=x/\x<18446744073709551616)(hy:0<=y/\y<18446744073709551616):
  IntKind.wrap .u64 (IntKind.wrap .u64 (IntKind.wrap .u64 (x/4294967296*(y/4294967296))+IntKind.wrap .u64 (IntKind.wrap .u64 (x/4294967296*(y%4294967296))+IntKind.wrap .u64 (x%4294967296*(y%4294967296))/4294967296)/4294967296)+IntKind.wrap .u64 (IntKind.wrap .u64 (IntKind.wrap .u64 (x/4294967296*(y%4294967296))+IntKind.wrap .u64 (x%4294967296*(y%4294967296))/4294967296)%4294967296+IntKind.wrap .u64 (x%4294967296*(y/4294967296)))/4294967296)=x*y/18446744073709551616:=by
 rw[XQ x y];have h1:=H9 (a:=x/4294967296) (b:=y/4294967296) om om;have h2:=H9 (a:=x/4294967296) (b:=y%4294967296) om om;have h3:=H9 (a:=x%4294967296) (b:=y/4294967296) om om;have h4:=H9 (a:=x%4294967296) (b:=y%4294967296) om om;simp only[EN];generalize x/4294967296*(y/4294967296)=A at*;generalize x/4294967296*(y%4294967296)=B at*;generalize x%4294967296*(y/4294967296)=C at*;generalize x%4294967296*(y%4294967296)=D at*;omega
theorem jK{a:Int}(ha: -9223372036854775808<=a/\a<9223372036854775808):0<=(a.natAbs:Int)/\(a.natAbs:Int)<18446744073709551616:=om
theorem oN(Γ:TypeId->Option TI)(a b:Bool):Cr Γ .neq 4 (.bool a) (.bool b)=(fF Γ 4 (.bool a) (.bool b)).map fun c=> .bool (!c):=rfl
theorem Wj{a:Int}: ((!decide (a<0)==decide (b<0))=true->(a.natAbs:Int)*b.natAbs=0 - a*b)/\((!decide (a<0)==decide (b<0))=false->(a.natAbs:Int)*b.natAbs=a*b):=by
 have ea:a<0->(a.natAbs:Int)= -a:=om;have ea2:¬a<0->(a.natAbs:Int)=a:=om;have eb:b<0->(b.natAbs:Int)= -b:=om;have eb2:¬b<0->(b.natAbs:Int)=b:=om;by_cases h1:a<0<;>by_cases h2:b<0<;>simp[h1,h2]
 ·rw[ea h1,eb h2,Int.neg_mul_neg]
 ·rw[ea h1,eb2 h2,Int.neg_mul]
 ·rw[ea2 h1,eb h2,Int.mul_neg]
 ·rw[ea2 h1,eb2 h2]
theorem YY{a:Int}(h: (!decide (a<0)==decide (b<0))=true):W (0 - (a.natAbs:Int)*b.natAbs)=W (a*b):=by
 rw[Wj.1 h];congr 1;omega
theorem YX{a:Int}(h: (!decide (a<0)==decide (b<0))=false):Value.agg #[.int .i64 (IntKind.wrap .i64 ((a.natAbs:Int)*b.natAbs/18446744073709551616)),.int .u64 ((a.natAbs:Int)*b.natAbs%18446744073709551616)]=W (a*b):=by
 rw[<-Wj.2 h];rfl
theorem uY{k:Nat}(h:k+1<9223372036854775808):IntKind.wrap .i64 ((k:Int)+1)=((k+1:Nat):Int):=by rw[Cd];omega
def Rd{α:Type}(s:Nat)(f:α->List Value)(H:Hp)(A:Option Addr)(l:List α):Prop:=∀(k:Nat) (h:k<l.length),∃b o,A=some ⟨b,o,none⟩/\Cs (H b) (o+k*s) s=some (f l[k])
theorem PQ{H G:Hp}(h:Ext H G){b o n:Nat}{c:List Value}(k:Cs (H b) o n=some c):Cs (G b) o n=some c:=by
 cases hb:H b with
 |none=>rw[hb]at k;cases k
 |some x=>rw[hb]at k;rw[h _ _ hb];exact k
theorem Bd{H:Hp}{nf:Nat}(hf:Fr H nf){b o n:Nat}{c:List Value}(k:Cs (H b) o n=some c):b<nf:=Nat.lt_of_not_le fun e=>by rw[hf b e]at k;cases k
theorem Rd.ext{α:Type}{s:Nat}{f:α->List Value}{H G:Hp}{A:Option Addr}{l:List α}(h:Rd s f H A l)(e:Ext H G):Rd s f G A l:=fun k hk=>by
 obtain⟨b,o,h1,h2⟩:=h k hk;exact⟨b,o,h1,PQ e h2⟩
def intC(n:Int):List Value:=[.int .i64 n]
def boolC(b:Bool):List Value:=[.bool b]
theorem U9(a:Int):0<=EG a/\EG a<18446744073709551616:=by unfold EG;omega
end
end
section
open Go.Conc Go.Proofs
variable[Md]
theorem ai{a b:Prop}(x:a)(y:b):a/\b:=⟨x,y⟩
theorem gx.wx:type_of%wz:=wz
theorem xx{H G:Hp}(e:Ext H G:=by(repeat refine Ext.up (hf0 _ (by omega)) ?_);first|exact Ext.refl _|exact he):Ext H G:=e
theorem xt{a b c:Value}(h:a=b)(k:b=c:=by simp(disch:=omega)only[wx,fz]<;>rfl):a=c:=h.trans k
section
variable{top:Bool}{ops:Array Oper}{l:List Oper}{Q:AF->Hp->Prop}{n nf:Nat}{t:Nat->Value}{ds:List Deferred}{H:Hp}{o:Oper}{d dj b:Nat}{v:Value}{x y:AB}{w c:Bool}{g:FuncId}{args:List Operand}{vs:List Value}{QF:Value->Hp->Prop}
theorem xM(hc:dD ops n o=some (d,dj,w))(hg: (ob (t dj)==some w)=false)(k:WL top ops l Q ⟨n,st t d undef,ds⟩ H):WL top ops (o::l) Q ⟨n,t,ds⟩ H:=by
 obtain⟨hd,hn,hx,hw⟩:=Mz (t:=t) hc;rw[hg]at hw;exact Ld hw (by rw[hd,CT hn];exact k)
theorem xq(k:WL top ops l Q ⟨n,st t d v,ds⟩ H)(hf:Fr H nf:=by exact hf)(hc:ck n o=some d:=by rfl)(h:hop tz H nf (eT t) o.op=some (v,[]):=by simp(disch:=omega)only[wx,fz]<;>rfl):WL top ops (o::l) Q ⟨n,t,ds⟩ H:=oq hf hc h k
theorem xg(k:WL top ops l Q ⟨n,st t d (gw c v),ds⟩ H)(hf:Fr H nf:=by exact hf)(hc:dD ops n o=some (d,dj,w):=by rfl)(hg: (ob (t dj)==some w)=c:=by simp(disch:=omega)only[wx,fz]<;>rfl)(h:c=true->hop tz H nf (eT t) o.op=some (v,[]):=by intro hgd;(try simp only[AA,A7]at hgd);simp(disch:=omega)only[wx,fz,hgd]<;>rfl):WL top ops (o::l) Q ⟨n,t,ds⟩ H:=og hf hc hg h k
theorem lE(k:WL top ops l Q ⟨n,st t d undef,ds⟩ H)(hc:dD ops n o=some (d,dj,w):=by rfl)(hg: (ob (t dj)==some w)=false:=by simp(disch:=omega)only[wx,fz]<;>rfl):WL top ops (o::l) Q ⟨n,t,ds⟩ H:=xM hc hg k
theorem xa(k:Fr (upd H nf (some x)) (nf+1)->WL top ops l Q ⟨n,st t d v,ds⟩ (upd H nf (some x)))(hf:Fr H nf:=by exact hf)(hc:ck n o=some d:=by rfl)(h:hop tz H nf (eT t) o.op=some (v,[(nf,x)]):=by simp(disch:=omega)only[wx,fz]<;>rfl):WL top ops (o::l) Q ⟨n,t,ds⟩ H:=oa hf hc h k
theorem xs(k:Fr (upd H b (some x)) nf->WL top ops l Q ⟨n,t,ds⟩ (upd H b (some x)))(hf:Fr H nf:=by exact hf)(hc:uT o=true:=by rfl)(h:hop tz H nf (eT t) o.op=some (v,[(b,x)]):=by simp(disch:=omega)only[wx,fz]<;>rfl)(hb:H b=some y:=by simp(disch:=omega)only[wx,fz]<;>rfl):WL top ops (o::l) Q ⟨n,t,ds⟩ H:=os hf hc h hb k
theorem xp(hc:oA n o=some (d,g,args):=by rfl)(hv:args.map (eT t)=vs:=by simp(disch:=omega)only[wx,fz]<;>rfl)(h:Pure g vs v H)(k:WL top ops l Q ⟨n,st t d v,ds⟩ H):WL top ops (o::l) Q ⟨n,t,ds⟩ H:=op hc hv h k
theorem Te{args:Array Operand}{ats:Array TypeId}(hc:dD ops n o=some (d,dj,w):=by rfl)(hop:o.op= .call {callee:= .value (.func g),args,argTypes:=ats}:=by rfl)(hg: (ob (t dj)==some w)=c:=by simp(disch:=omega)only[wx,fz]<;>rfl)(hv:c=true->args.toList.map (eT t)=vs:=by intro hgd;(try simp only[AA,A7]at hgd);simp(disch:=omega)only[wx,fz,hgd]<;>rfl)(h:c=true->Pure g vs v H)(k:WL top ops l Q ⟨n,st t d (gw c v),ds⟩ H):WL top ops (o::l) Q ⟨n,t,ds⟩ H:=xN hc hop hg hv h k
theorem xc(hf:Fr H nf:=by exact hf)(hc:oA n o=some (d,g,args):=by rfl)(hv:args.map (eT t)=vs:=by simp(disch:=omega)only[wx,fz]<;>rfl)(h:Ct g vs QF H)(k:∀v H' nf',nf<=nf'->QF v H'->Fr H' nf'->WL top ops l Q ⟨n,st t d v,ds⟩ H'):WL top ops (o::l) Q ⟨n,t,ds⟩ H:=oc hf hc hv h k
end
section
variable{ops:Array Oper}{n nf:Nat}{ds:List Deferred}{t:Nat->Value}{H G:Hp}{cls l:List Nat}{Rf:Nat->Hp->Value->Hp->Prop}{B:Hp}{n0:Nat}{Q:AF->Hp->Prop}{i:Nat}{o:Oper}{d dj b:Nat}{v:Value}{x y:AB}{w c:Bool}{g:FuncId}{args:List Operand}{vs:List Value}{QF:Value->Hp->Prop}
theorem CA (k:WD ops (Bm cls) n ds Rf B n0 Q l (st t d v) H G nf) (hk:kC ops cls 0 i=some (o,d):=by rfl) (h:hop tz pE 0 (eT t) o.op=some (v,[]):=by simp(disch:=omega)only[wx,fz]<;>rfl):WD ops (Bm cls) n ds Rf B n0 Q (i::l) t H G nf:=dq hk h k
theorem Cq(k:WD ops (Bm cls) n ds Rf B n0 Q l (st t d v) H G nf)(hk:kC ops cls 1 i=some (o,d):=by rfl)(h:hop tz H (nf+i) (eT t) o.op=some (v,[]):=by simp(disch:=omega)only[wx,fz]<;>rfl):WD ops (Bm cls) n ds Rf B n0 Q (i::l) t H G nf:=dr hk h k
theorem EM(k:WD ops (Bm cls) n ds Rf B n0 Q l (st t d (gw c v)) H G nf)(hk:RY ops cls 0 i=some (o,d,dj,w):=by rfl)(hg: (ob (t dj)==some w)=c:=by simp(disch:=omega)only[wx,fz]<;>rfl)(h:c=true->hop tz pE 0 (eT t) o.op=some (v,[]):=by intro hgd;(try simp only[AA,A7]at hgd);simp(disch:=omega)only[wx,fz,hgd]<;>rfl):WD ops (Bm cls) n ds Rf B n0 Q (i::l) t H G nf:=wn hk hg h k
theorem FG(k:WD ops (Bm cls) n ds Rf B n0 Q l (st t d (gw c v)) H G nf)(hk:RY ops cls 1 i=some (o,d,dj,w):=by rfl)(hg: (ob (t dj)==some w)=c:=by simp(disch:=omega)only[wx,fz]<;>rfl)(h:c=true->hop tz H (nf+i) (eT t) o.op=some (v,[]):=by intro hgd;(try simp only[AA,A7]at hgd);simp(disch:=omega)only[wx,fz,hgd]<;>rfl):WD ops (Bm cls) n ds Rf B n0 Q (i::l) t H G nf:=wk hk hg h k
theorem w8(k:WD ops (Bm cls) n ds Rf B n0 Q l (st t d undef) H G nf)(hk:RY ops cls 0 i=some (o,d,dj,w):=by rfl)(hg: (ob (t dj)==some w)=false:=by simp(disch:=omega)only[wx,fz]<;>rfl):WD ops (Bm cls) n ds Rf B n0 Q (i::l) t H G nf:=wn (c:=false) (v:=undef) hk hg (fun h=>by cases h) k
theorem w9(k:WD ops (Bm cls) n ds Rf B n0 Q l (st t d undef) H G nf)(hk:RY ops cls 1 i=some (o,d,dj,w):=by rfl)(hg: (ob (t dj)==some w)=false:=by simp(disch:=omega)only[wx,fz]<;>rfl):WD ops (Bm cls) n ds Rf B n0 Q (i::l) t H G nf:=wk (c:=false) (v:=undef) hk hg (fun h=>by cases h) k
theorem xA{args:Array Operand}{ats:Array TypeId}(k:WD ops (Bm cls) n ds Rf B n0 Q l (st t d undef) H G nf)(hk:TE ops cls 1 i=some (o,d,dj,w):=by rfl)(hop:o.op= .call {callee:= .value (.func g),args,argTypes:=ats}:=by rfl)(hg: (ob (t dj)==some w)=false:=by simp(disch:=omega)only[wx,fz]<;>rfl):WD ops (Bm cls) n ds Rf B n0 Q (i::l) t H G nf:=wo (c:=false) (v:=undef) (vs:=[]) hk hop hg (fun h=>by cases h) (fun h=>by cases h) k
theorem Wr(k:WD ops (Bm cls) n ds Rf B n0 Q l (st t d v) H (upd G (nf+i) (some x)) nf)(hk:kC ops cls 4 i=some (o,d):=by rfl)(h:hop tz H (nf+i) (eT t) o.op=some (v,[(nf+i,x)]):=by simp(disch:=omega)only[wx,fz]<;>rfl):WD ops (Bm cls) n ds Rf B n0 Q (i::l) t H G nf:=da hk h k
theorem Fx(k:∀nf',nf<=nf'->Fr (upd G b (some x)) nf'->WD ops (Bm cls) n ds Rf B n0 Q l t (upd G b (some x)) (upd G b (some x)) nf')(hk:iA ops cls i=some o:=by rfl)(h:∀nf1,hop tz G nf1 (eT t) o.op=some (v,[(b,x)]):=by intro _;simp(disch:=omega)only[wx,fz]<;>rfl)(hb:G b=some y:=by simp(disch:=omega)only[wx,fz]<;>rfl):WD ops (Bm cls) n ds Rf B n0 Q (i::l) t H G nf:=dw hk h hb k
theorem EB(hk:RZ ops cls 1 i=some (o,d,g,args):=by rfl)(hv:args.map (eT t)=vs:=by simp(disch:=omega)only[wx,fz]<;>rfl)(h:∀G,Ext H G->Pure g vs v G)(k:WD ops (Bm cls) n ds Rf B n0 Q l (st t d v) H G nf):WD ops (Bm cls) n ds Rf B n0 Q (i::l) t H G nf:=dp hk hv h k
theorem HN{args:Array Operand}{ats:Array TypeId}(hk:TE ops cls 1 i=some (o,d,dj,w):=by rfl)(hop:o.op= .call {callee:= .value (.func g),args,argTypes:=ats}:=by rfl)(hg: (ob (t dj)==some w)=c:=by simp(disch:=omega)only[wx,fz]<;>rfl)(hv:c=true->args.toList.map (eT t)=vs:=by intro hgd;(try simp only[AA,A7]at hgd);simp(disch:=omega)only[wx,fz,hgd]<;>rfl)(h:c=true->∀G,Ext H G->Pure g vs v G)(k:WD ops (Bm cls) n ds Rf B n0 Q l (st t d (gw c v)) H G nf):WD ops (Bm cls) n ds Rf B n0 Q (i::l) t H G nf:=wo hk hop hg hv h k
theorem xC(hk:RZ ops cls 2 i=some (o,d,g,args):=by rfl)(hv:args.map (eT t)=vs:=by simp(disch:=omega)only[wx,fz]<;>rfl)(h:Ct g vs QF G)(k:∀v H' nf',nf<=nf'->QF v H'->Fr H' nf'->WD ops (Bm cls) n ds Rf B n0 Q l (st t d v) H' H' nf'):WD ops (Bm cls) n ds Rf B n0 Q (i::l) t H G nf:=dc hk hv h k
end
section
variable{top:Bool}{Q:QT}{n:Nat}{t:Nat->Value}{ds:List Deferred}{H:Hp}{c:Operand}{x y:Code}{b:Bool}{p:Prop}[Decidable p]{i j:Int}
theorem xi (h1:b=true->WC Tryz.prog top x Q ⟨n,t,ds⟩ H) (h2:b=false->WC Tryz.prog top y Q ⟨n,t,ds⟩ H) (hx:okX c=true:=by rfl) (hc:eT t c= .bool b:=by simp(disch:=omega)only[wx,fz]<;>rfl):WC Tryz.prog top (.cond c x y) Q ⟨n,t,ds⟩ H:=pN hx hc h1 h2
theorem C8(h1:p->WC Tryz.prog top x Q ⟨n,t,ds⟩ H)(h2:¬p->WC Tryz.prog top y Q ⟨n,t,ds⟩ H)(hx:okX c=true:=by rfl)(hc:eT t c= .bool (decide p):=by simp(disch:=omega)only[wx,fz]<;>rfl):WC Tryz.prog top (.cond c x y) Q ⟨n,t,ds⟩ H:=wL hx hc h1 h2
theorem HR(h1:i=j->WC Tryz.prog top x Q ⟨n,t,ds⟩ H)(h2:¬i=j->WC Tryz.prog top y Q ⟨n,t,ds⟩ H)(hx:okX c=true:=by rfl)(hc:eT t c= .bool (i==j):=by simp(disch:=omega)only[wx,fz]<;>rfl):WC Tryz.prog top (.cond c x y) Q ⟨n,t,ds⟩ H:=wN hx hc h1 h2
theorem Kf(h1:¬i=j->WC Tryz.prog top x Q ⟨n,t,ds⟩ H)(h2:i=j->WC Tryz.prog top y Q ⟨n,t,ds⟩ H)(hx:okX c=true:=by rfl)(hc:eT t c= .bool (i !=j):=by simp(disch:=omega)only[wx,fz]<;>rfl):WC Tryz.prog top (.cond c x y) Q ⟨n,t,ds⟩ H:=wM hx hc h1 h2
theorem Od{a:Code}{A:AF}(R:AF->Hp->Prop)(h:WC Tryz.prog top a (I5 R Q) A H)(k:∀A' H',R A' H'->WC Tryz.prog top y Q A' H'):WC Tryz.prog top (.seq a y) Q A H:=BO (h.mono fun ex A' H' q=>by
 cases ex with
 |norm=>exact k A' H' q
 |_=>exact q)
theorem xT(h:WC Tryz.prog top x Q ⟨n,t,ds⟩ H)(hx:okX c=true:=by rfl)(hc:eT t c= .bool true:=by simp(disch:=omega)only[wx,fz]<;>rfl):WC Tryz.prog top (.cond c x y) Q ⟨n,t,ds⟩ H:=R4 hx hc h
theorem xF(h:WC Tryz.prog top y Q ⟨n,t,ds⟩ H)(hx:okX c=true:=by rfl)(hc:eT t c= .bool false:=by simp(disch:=omega)only[wx,fz]<;>rfl):WC Tryz.prog top (.cond c x y) Q ⟨n,t,ds⟩ H:=oy hx hc h
end
def Lp(B N nf:Nat)(H:Hp)(ds:List Deferred)(R:Nat->(Nat->Value)->Nat->Hp->Prop)(m:Nat)(A:AF)(G:Hp):Prop:=∃(k:Nat) (t:Nat->Value) (nf1:Nat),m=B - k/\A=⟨N,t,ds⟩/\k<=B/\nf<=nf1/\Fr G nf1/\Ext H G/\R k t nf1 G
section
variable{top:Bool}{Q:QT}{N nf2 k:Nat}{t:Nat->Value}{ds:List Deferred}{H1 G:Hp}{c:Code}{R:Nat->(Nat->Value)->Nat->Hp->Prop}
theorem xl (B nf:Nat) (H:Hp) (hf:Fr H1 nf2) (R:Nat->(Nat->Value)->Nat->Hp->Prop) (i:R 0 t nf2 H1) (h:∀k t nf1 G,k<=B->nf<=nf1->Fr G nf1->Ext H G->R k t nf1 G->WC Tryz.prog top c (I5 (fun A' H'=>∃m',m'<B - k/\Lp B N nf H ds R m' A' H') Q) ⟨N,t,ds⟩ G) (hn:nf<=nf2:=by omega) (he:Ext H H1:=by exact xx):WC Tryz.prog top (.loop c) Q ⟨N,t,ds⟩ H1:=
 Pr (Lp B N nf H ds R) (m:=B - 0) ⟨0,t,nf2,rfl,rfl,Nat.zero_le _,hn,hf,he,i⟩ fun m A G ⟨k,t,nf1,e1,e2,hk,hn,hf,he,r⟩=>by
  subst e1 e2;exact h k t nf1 G hk hn hf he r
theorem xe{B nf:Nat}{H:Hp}(hf:Fr G nf2)(i:R (k+1) t nf2 G)(hk:k<B:=by omega)(hn:nf<=nf2:=by omega)(he:Ext H G:=by exact xx):∃m',m'<B - k/\Lp B N nf H ds R m' ⟨N,t,ds⟩ G:=⟨B - (k+1),by omega,k+1,t,nf2,rfl,rfl,hk,hn,hf,he,i⟩
end
theorem xh{p:Prop}(h:p:=by and_intros<;>first|rfl|(simp(disch:=omega)only[wx,fz,gz]<;>rfl)):p:=h
theorem xz{p:Prop}(h:p:=by and_intros<;>simp(disch:=omega)only[wx,fz,gz,uY]<;>rfl):p:=h
theorem xv{α:Type}{a b:α}(h:a=b:=by simp(disch:=omega)only[wx,fz]<;>rfl):a=b:=h
class Rt(Q':QT)(Q:outParam QT):Prop where h:∀{A H},Q .ret A H->Q' .ret A H
instance(priority:=low)(Q:QT):Rt Q Q:=⟨fun h=>h⟩
instance(n:AF->Hp->Prop)(Q' Q:QT)[r:Rt Q' Q]:Rt (I5 n Q') Q:=⟨fun h=>r.h h⟩
instance(i:Nat)(Q' Q:QT)[r:Rt Q' Q]:Rt (HD i Q') Q:=⟨fun h=>r.h h⟩
theorem rt{Q' Q:QT}{A:AF}{H:Hp}[r:Rt Q' Q](h:Q .ret A H):Q' .ret A H:=r.h h
class Nq(i j:Nat):Prop where h:Nat.beq i j=false
theorem jG{i j:Nat}(h:i≠j):Nat.beq i j=false:=by
 cases e:Nat.beq i j with
 |true=>exact absurd (AE e) h
 |false=>rfl
instance(i k:Nat):Nq i (k+i+1):=⟨jG (by omega)⟩
class Nr(j i:Nat):Prop where h:Nat.beq i j=false
instance(j k:Nat):Nr j (k+j+1):=⟨jG (by omega)⟩
instance(i j:Nat)[r:Nr j i]:Nq i j:=⟨r.h⟩
class Xt(i:Nat)(Q':QT)(Q:outParam QT):Prop where h:∀{A H},Q .norm A H->Q' (.exit i) A H
instance(i:Nat)(n:AF->Hp->Prop)(Q' Q:QT)[r:Xt i Q' Q]:Xt i (I5 n Q') Q:=⟨fun h=>r.h h⟩
instance(priority:=high)(i:Nat)(Q:QT):Xt i (HD i Q) Q:=⟨fun h=>ab h⟩
instance(i j:Nat)(Q' Q:QT)[e:Nq i j][r:Xt i Q' Q]:Xt i (HD j Q') Q:=⟨fun h=>aa e.h (r.h h)⟩
theorem xo{i:Nat}{P:Program}{top:Bool}{Q' Q:QT}{A:AF}{H:Hp}[r:Xt i Q' Q](h:Q .norm A H):WC P top (.exit i) Q' A H:=Ps (r.h h)
section
variable{top:Bool}{ops:Array Oper}{l:List Oper}{Q:AF->Hp->Prop}{n nf:Nat}{t:Nat->Value}{ds:List Deferred}{H:Hp}
theorem Ba {o0 o1:Oper} {d0 d1:Nat} {v0 v1:Value} (k:WL top ops l Q ⟨n,st (st t d0 v0) d1 v1,ds⟩ H) (hf:Fr H nf:=by exact hf) (c0:ck n o0=some d0:=by rfl) (h0:hop tz H nf (eT (t)) o0.op=some (v0,[]):=by simp(disch:=omega)only[wx,fz]<;>rfl) (c1:ck n o1=some d1:=by rfl) (h1:hop tz H nf (eT (st t d0 v0)) o1.op=some (v1,[]):=by simp(disch:=omega)only[wx,fz]<;>rfl):WL top ops (o0::o1::l) Q ⟨n,t,ds⟩ H:=oq hf c0 h0 (oq hf c1 h1 k)
theorem B0{o0 o1 o2:Oper}{d0 d1 d2:Nat}{v0 v1 v2:Value}(k:WL top ops l Q ⟨n,st (st (st t d0 v0) d1 v1) d2 v2,ds⟩ H)(hf:Fr H nf:=by exact hf)(c0:ck n o0=some d0:=by rfl)(h0:hop tz H nf (eT (t)) o0.op=some (v0,[]):=by simp(disch:=omega)only[wx,fz]<;>rfl)(c1:ck n o1=some d1:=by rfl)(h1:hop tz H nf (eT (st t d0 v0)) o1.op=some (v1,[]):=by simp(disch:=omega)only[wx,fz]<;>rfl)(c2:ck n o2=some d2:=by rfl)(h2:hop tz H nf (eT (st (st t d0 v0) d1 v1)) o2.op=some (v2,[]):=by simp(disch:=omega)only[wx,fz]<;>rfl):WL top ops (o0::o1::o2::l) Q ⟨n,t,ds⟩ H:=oq hf c0 h0 (oq hf c1 h1 (oq hf c2 h2 k))
theorem Dv{o0 o1 o2 o3:Oper}{d0 d1 d2 d3:Nat}{v0 v1 v2 v3:Value}(k:WL top ops l Q ⟨n,st (st (st (st t d0 v0) d1 v1) d2 v2) d3 v3,ds⟩ H)(hf:Fr H nf:=by exact hf)(c0:ck n o0=some d0:=by rfl)(h0:hop tz H nf (eT (t)) o0.op=some (v0,[]):=by simp(disch:=omega)only[wx,fz]<;>rfl)(c1:ck n o1=some d1:=by rfl)(h1:hop tz H nf (eT (st t d0 v0)) o1.op=some (v1,[]):=by simp(disch:=omega)only[wx,fz]<;>rfl)(c2:ck n o2=some d2:=by rfl)(h2:hop tz H nf (eT (st (st t d0 v0) d1 v1)) o2.op=some (v2,[]):=by simp(disch:=omega)only[wx,fz]<;>rfl)(c3:ck n o3=some d3:=by rfl)(h3:hop tz H nf (eT (st (st (st t d0 v0) d1 v1) d2 v2)) o3.op=some (v3,[]):=by simp(disch:=omega)only[wx,fz]<;>rfl):WL top ops (o0::o1::o2::o3::l) Q ⟨n,t,ds⟩ H:=oq hf c0 h0 (oq hf c1 h1 (oq hf c2 h2 (oq hf c3 h3 k)))
theorem Eg{o0 o1 o2 o3 o4:Oper}{d0 d1 d2 d3 d4:Nat}{v0 v1 v2 v3 v4:Value}(k:WL top ops l Q ⟨n,st (st (st (st (st t d0 v0) d1 v1) d2 v2) d3 v3) d4 v4,ds⟩ H)(hf:Fr H nf:=by exact hf)(c0:ck n o0=some d0:=by rfl)(h0:hop tz H nf (eT (t)) o0.op=some (v0,[]):=by simp(disch:=omega)only[wx,fz]<;>rfl)(c1:ck n o1=some d1:=by rfl)(h1:hop tz H nf (eT (st t d0 v0)) o1.op=some (v1,[]):=by simp(disch:=omega)only[wx,fz]<;>rfl)(c2:ck n o2=some d2:=by rfl)(h2:hop tz H nf (eT (st (st t d0 v0) d1 v1)) o2.op=some (v2,[]):=by simp(disch:=omega)only[wx,fz]<;>rfl)(c3:ck n o3=some d3:=by rfl)(h3:hop tz H nf (eT (st (st (st t d0 v0) d1 v1) d2 v2)) o3.op=some (v3,[]):=by simp(disch:=omega)only[wx,fz]<;>rfl)(c4:ck n o4=some d4:=by rfl)(h4:hop tz H nf (eT (st (st (st (st t d0 v0) d1 v1) d2 v2) d3 v3)) o4.op=some (v4,[]):=by simp(disch:=omega)only[wx,fz]<;>rfl):WL top ops (o0::o1::o2::o3::o4::l) Q ⟨n,t,ds⟩ H:=oq hf c0 h0 (oq hf c1 h1 (oq hf c2 h2 (oq hf c3 h3 (oq hf c4 h4 k))))
theorem Dk{o0 o1 o2 o3 o4 o5:Oper}{d0 d1 d2 d3 d4 d5:Nat}{v0 v1 v2 v3 v4 v5:Value}(k:WL top ops l Q ⟨n,st (st (st (st (st (st t d0 v0) d1 v1) d2 v2) d3 v3) d4 v4) d5 v5,ds⟩ H)(hf:Fr H nf:=by exact hf)(c0:ck n o0=some d0:=by rfl)(h0:hop tz H nf (eT (t)) o0.op=some (v0,[]):=by simp(disch:=omega)only[wx,fz]<;>rfl)(c1:ck n o1=some d1:=by rfl)(h1:hop tz H nf (eT (st t d0 v0)) o1.op=some (v1,[]):=by simp(disch:=omega)only[wx,fz]<;>rfl)(c2:ck n o2=some d2:=by rfl)(h2:hop tz H nf (eT (st (st t d0 v0) d1 v1)) o2.op=some (v2,[]):=by simp(disch:=omega)only[wx,fz]<;>rfl)(c3:ck n o3=some d3:=by rfl)(h3:hop tz H nf (eT (st (st (st t d0 v0) d1 v1) d2 v2)) o3.op=some (v3,[]):=by simp(disch:=omega)only[wx,fz]<;>rfl)(c4:ck n o4=some d4:=by rfl)(h4:hop tz H nf (eT (st (st (st (st t d0 v0) d1 v1) d2 v2) d3 v3)) o4.op=some (v4,[]):=by simp(disch:=omega)only[wx,fz]<;>rfl)(c5:ck n o5=some d5:=by rfl)(h5:hop tz H nf (eT (st (st (st (st (st t d0 v0) d1 v1) d2 v2) d3 v3) d4 v4)) o5.op=some (v5,[]):=by simp(disch:=omega)only[wx,fz]<;>rfl):WL top ops (o0::o1::o2::o3::o4::o5::l) Q ⟨n,t,ds⟩ H:=oq hf c0 h0 (oq hf c1 h1 (oq hf c2 h2 (oq hf c3 h3 (oq hf c4 h4 (oq hf c5 h5 k)))))
end
theorem xy{p:Prop}(h:p:=by simp(disch:=omega)only[wx,fz]):p:=h
end
section
open Go.Conc Go.Proofs gx
variable[Md]
theorem Vp(H:Hp)(k:IntKind)(a:Int):Pure 114 [.int k a] (.bool false) H:=by
 refine Pure.of rfl (BV Tryz.func114 rfl 6 rfl fun nf t hf _ ht=> ?_);have hf0:=hf;refine BO (BQ ?_);have fz:=ai (@bne_self_eq_false Int _ _) (ht 0 _ rfl);refine xq (BP (BO (BQ ?_)));refine Dv (BP (BT (rt ?_)));exact BW rfl ⟨by(simp(disch:=omega)only[wx,fz]<;>rfl),xx⟩
theorem RI(H:Hp)(k:IntKind)(a:Int):Pure 115 [.int k a] (.bool false) H:=by
 refine Pure.of rfl (BV Tryz.func115 rfl 6 rfl fun nf t hf _ ht=> ?_);have hf0:=hf;refine BO (BQ ?_);have fz:=ai (@bne_self_eq_false Int _ _) (ht 0 _ rfl);refine xq (BP (BO (BQ ?_)));refine Dv (BP (BT (rt ?_)));exact BW rfl ⟨by(simp(disch:=omega)only[wx,fz]<;>rfl),xx⟩
theorem sk(H:Hp)(a b:Int):Pure 71 [.int .i64 a,.int .i64 b] (.int .i64 (if a<b then -1 else if a>b then 1 else 0)) H:=by
 refine Pure.of rfl (BV Tryz.func71 rfl 20 rfl fun nf t hf _ ht=> ?_);have hf0:=hf;refine BO (BQ ?_);have fz:=ai (ht 1 _ rfl) (ht 0 _ rfl);refine xq (BP (BO (BQ ?_)));refine xq ?_;refine xp (h:=Vp _ _ _) (k:= ?_);refine xq (BP (BO (BQ ?_)));refine xq ?_;refine xp (h:=Vp _ _ _) (k:= ?_);refine xq (BP (BO (BO (BQ ?_))));refine xq (BP ?_);refine xF (BR (BO (BO (BQ ?_))));refine xq (BP ?_);refine xF (BR (BO (BO (BQ ?_))));refine B0 (BP ?_);refine C8 (fun c3=> ?_) fun c3=> ?_
 ·refine BO (BQ ?_);have fz:=ai c3 fz;refine xq (BP (BT (rt ?_)));exact BW rfl ⟨by simp(disch:=first|decide|omega)only[wx,fz,Ag,Ab],xx⟩
 ·refine BR (BO (BO (BQ ?_)));have fz:=ai c3 fz;refine B0 (BP ?_);refine C8 (fun c4=> ?_) fun c4=> ?_
  ·refine BO (BQ ?_);have fz:=ai c4 fz;refine xq (BP (BT (rt ?_)));exact BW rfl ⟨by simp(disch:=first|decide|omega)only[wx,fz,Ag,Ab],xx⟩
  ·refine BR (BO (BQ ?_));have fz:=ai c4 fz;refine xq (BP (BT (rt ?_)));exact BW rfl ⟨by simp(disch:=first|decide|omega)only[wx,fz,Ag,Ab],xx⟩
theorem nz(H:Hp)(a b:Int):Pure 72 [.int .u64 a,.int .u64 b] (.int .i64 (if a<b then -1 else if a>b then 1 else 0)) H:=by
 refine Pure.of rfl (BV Tryz.func72 rfl 20 rfl fun nf t hf _ ht=> ?_);have hf0:=hf;refine BO (BQ ?_);have fz:=ai (ht 1 _ rfl) (ht 0 _ rfl);refine xq (BP (BO (BQ ?_)));refine xq ?_;refine xp (h:=RI _ _ _) (k:= ?_);refine xq (BP (BO (BQ ?_)));refine xq ?_;refine xp (h:=RI _ _ _) (k:= ?_);refine xq (BP (BO (BO (BQ ?_))));refine xq (BP ?_);refine xF (BR (BO (BO (BQ ?_))));refine xq (BP ?_);refine xF (BR (BO (BO (BQ ?_))));refine B0 (BP ?_);refine C8 (fun c3=> ?_) fun c3=> ?_
 ·refine BO (BQ ?_);have fz:=ai c3 fz;refine xq (BP (BT (rt ?_)));exact BW rfl ⟨by simp(disch:=first|decide|omega)only[wx,fz,Ag,Ab],xx⟩
 ·refine BR (BO (BO (BQ ?_)));have fz:=ai c3 fz;refine B0 (BP ?_);refine C8 (fun c4=> ?_) fun c4=> ?_
  ·refine BO (BQ ?_);have fz:=ai c4 fz;refine xq (BP (BT (rt ?_)));exact BW rfl ⟨by simp(disch:=first|decide|omega)only[wx,fz,Ag,Ab],xx⟩
  ·refine BR (BO (BQ ?_));have fz:=ai c4 fz;refine xq (BP (BT (rt ?_)));exact BW rfl ⟨by simp(disch:=first|decide|omega)only[wx,fz,Ag,Ab],xx⟩
theorem LD{a:Int}(ha: -9223372036854775808<=a/\a<9223372036854775808)(H:Hp):Pure 19 [.int .i64 a] (W a) H:=by
 refine Pure.of rfl (BV Tryz.func19 rfl 8 rfl fun nf t hf _ ht=> ?_);have hf0:=hf;refine BO (BQ ?_);have fz:=ai @Lb (ai @iF (ht 0 _ rfl));refine xa fun hf=> ?_
 refine BP (BO (BQ (Eg ?_)));refine xs fun hf=> ?_
 refine BP (BT (rt ?_));exact Ch rfl xv ⟨by exact uw ha,xx⟩
theorem KG(H:Hp)(a b:Int):Pure 73 [W a,W b] (W (a+b)) H:=by
 refine Pure.of rfl (BV Tryz.func73 rfl 32 rfl fun nf t hf _ ht=> ?_);have hf0:=hf;refine BO (BQ ?_);have fz:=ai @Lb (ai @DO (ai (ht 1 _ rfl) (ht 0 _ rfl)));refine xa fun hf=> ?_
 refine xa fun hf=> ?_
 refine xa fun hf=> ?_
 refine BP (BO (BQ (Dv ?_)));refine ox rfl (by simp(disch:=first|decide|omega)only[wx,fz]<;>rfl) (Wh (U9 _).1 (U9 _).1 dZ) ?_;refine Eg (BP (BO (BQ ?_)));refine Dk ?_;refine xq ?_;refine ox rfl (by simp(disch:=first|decide|omega)only[wx,fz]<;>rfl) (Wh (QM _).1 (QM _).1 (rH _ _)) ?_;refine Eg (BP (BO (BQ ?_)));refine Dv ?_;refine xs fun hf=> ?_
 refine BP (BT (rt ?_));exact Ch rfl xv ⟨by exact qU a b,xx⟩
theorem LP(H:Hp)(a b:Int):Pure 119 [W a,W b] (W (a - b)) H:=by
 refine Pure.of rfl (BV Tryz.func119 rfl 32 rfl fun nf t hf _ ht=> ?_);have hf0:=hf;refine BO (BQ ?_);have fz:=ai @Lb (ai @DO (ai (ht 1 _ rfl) (ht 0 _ rfl)));refine xa fun hf=> ?_
 refine xa fun hf=> ?_
 refine xa fun hf=> ?_
 refine BP (BO (BQ (Dv ?_)));refine ox rfl (by simp(disch:=first|decide|omega)only[wx,fz]<;>rfl) (Uc (U9 _) (U9 _) dZ) ?_;refine Eg (BP (BO (BQ ?_)));refine Dk ?_;refine xq ?_;refine ox rfl (by simp(disch:=first|decide|omega)only[wx,fz]<;>rfl) (Uc (QM _) (QM _) (by split<;>decide)) ?_;refine Eg (BP (BO (BQ ?_)));refine Dv ?_;refine xs fun hf=> ?_
 refine BP (BT (rt ?_));exact Ch rfl xv ⟨by exact mh a b,xx⟩
theorem Gj{a b:Int}(ha: -170141183460469231731687303715884105728<=a/\a<170141183460469231731687303715884105728)(hb: -170141183460469231731687303715884105728<=b/\b<170141183460469231731687303715884105728)(H:Hp):Pure 31 [W a,W b] (.int .i64 (sg a b)) H:=by
 refine Pure.of rfl (BV Tryz.func31 rfl 20 rfl fun nf t hf _ ht=> ?_);have hf0:=hf;refine BO (BQ ?_);have fz:=ai @DO (ai (ht 1 _ rfl) (ht 0 _ rfl));refine xa fun hf=> ?_
 refine xa fun hf=> ?_
 refine xq (BP (BO (BO (BQ ?_))));refine Eg (BP ?_);refine Kf (fun c1=> ?_) fun c1=> ?_
 ·refine BO (BQ ?_);have fz:=ai c1 fz;refine Dv ?_;refine xp (h:=sk _ _ _) (k:= ?_);refine xq (BP (BT (rt ?_)));exact BW rfl ⟨by simp(disch:=first|decide|omega)only[wx,fz];simp[(dz ha hb).1,(dz ha hb).2,c1],xx⟩
 ·refine BR (BO (BQ ?_));have fz:=ai c1 fz;refine Dv ?_;refine xp (h:=nz _ _ _) (k:= ?_);refine xq (BP (BT (rt ?_)));exact BW rfl ⟨by simp(disch:=first|decide|omega)only[wx,fz];simp[(dz ha hb).1,(dz ha hb).2,c1],xx⟩
theorem Ys{a:Int}(ha: -9223372036854775808<=a/\a<9223372036854775808)(H:Hp):Pure 118 [.int .i64 a] (.int .u64 (a.natAbs)) H:=by
 refine Pure.of rfl (BV Tryz.func118 rfl 10 rfl fun nf t hf _ ht=> ?_);have hf0:=hf;refine BO (BQ ?_);have fz:=(ht 0 _ rfl);refine xq (BP (BO (BO (BQ ?_))));refine Ba (BP ?_);refine C8 (fun c1=> ?_) fun c1=> ?_
 ·refine BO (BQ ?_);have fz:=ai c1 fz;refine Dv (BP (BT (rt ?_)));exact BW rfl ⟨by simp(disch:=first|decide|omega)only[wx,fz,EN];first|(congr 1;omega)|omega,xx⟩
 ·refine BR (BO (BQ ?_));have fz:=ai c1 fz;refine B0 (BP (BT (rt ?_)));exact BW rfl ⟨by simp(disch:=first|decide|omega)only[wx,fz,EN];first|(congr 1;omega)|omega,xx⟩
theorem fg{x y:Int}(hx:0<=x/\x<18446744073709551616)(hy:0<=y/\y<18446744073709551616)(H:Hp):Pure 117 [.int .u64 x,.int .u64 y] (.tuple #[.int .u64 (x*y/18446744073709551616),.int .u64 (x*y%18446744073709551616)]) H:=by
 refine Pure.of rfl (BV Tryz.func117 rfl 51 rfl fun nf t hf _ ht=> ?_);have hf0:=hf;refine BO (BQ ?_);have fz:=ai @iG (ai (ht 1 _ rfl) (ht 0 _ rfl));refine Ba (BP (BO (BQ ?_)));refine xq ?_;refine oq hf rfl (by simp(disch:=first|decide|omega|assumption)only[wx,fz,Pj]<;>rfl) ?_;refine xq (BP (BO (BQ ?_)));refine B0 (BP (BO (BQ ?_)));refine xq ?_;refine oq hf rfl (by simp(disch:=first|decide|omega|assumption)only[wx,fz,Pj]<;>rfl) ?_;refine xq (BP (BO (BQ ?_)));refine B0 (BP (BO (BQ ?_)));refine Dv (BP (BO (BQ ?_)));refine Dk ?_;refine xq (BP (BO (BQ ?_)));refine xq ?_;refine oq hf rfl (by simp(disch:=first|decide|exact QM _)only[wx,fz,Pj]<;>rfl) ?_;refine xq (BP (BO (BQ ?_)));refine B0 (BP (BO (BQ ?_)));refine Dk (BP (BO (BQ ?_)));refine Dk ?_;refine B0 (BP (BO (BQ ?_)));refine Dv (BP (BT (rt ?_)));exact TA rfl ⟨by simp(disch:=first|decide|omega)only[wx,fz,vB hx hy];rw[EN],xx⟩
theorem dW{a b:Int}(ha: -9223372036854775808<=a/\a<9223372036854775808)(hb: -9223372036854775808<=b/\b<9223372036854775808)(H:Hp):Pure 74 [.int .i64 a,.int .i64 b] (W (a*b)) H:=by
 refine Pure.of rfl (BV Tryz.func74 rfl 29 rfl fun nf t hf _ ht=> ?_);have hf0:=hf;refine BO (BQ ?_);have fz:=ai @DO (ai @oN (ai @bV (ai @Lb (ai (ht 1 _ rfl) (ht 0 _ rfl)))));refine xa fun hf=> ?_
 refine BP (BO (BQ (xq ?_)));refine xp (h:=Ys (by assumption) _) (k:= ?_);refine xq ?_;refine xp (h:=Ys (by assumption) _) (k:= ?_);refine xp (h:=fg (jK ha) (jK hb) _) (k:= ?_);refine Eg (BP (BO (BQ ?_)));refine Dv ?_;refine xa fun hf=> ?_
 refine xs fun hf=> ?_
 refine BP (BO (BO (BQ (Eg (BP ?_)))));refine xi (fun c1=> ?_) fun c1=> ?_
 ·refine BO (BQ ?_);have fz:=ai c1 fz;refine Ba ?_;refine xp (h:=LP _ 0 (a.natAbs*b.natAbs)) (k:= ?_);refine xs fun hf=> ?_
  refine BP (BT (rt ?_));exact Ch rfl xv ⟨by first|exact YY c1|exact YX c1,xx⟩
 ·refine BR (BO (BQ ?_));have fz:=ai c1 fz;refine xq ?_;refine xs fun hf=> ?_
  refine BP (BT (rt ?_));exact Ch rfl xv ⟨by first|exact YY c1|exact YX c1,xx⟩
structure Ar where
 f:Int
 t:Int
 lo:Int
 ca:Int
 co:Int
 deriving DecidableEq
def Ar.v(a:Ar):Value:= .agg #[.int .i64 a.f,.int .i64 a.t,.int .i64 a.lo,.int .i64 a.ca,.int .i64 a.co]
def fitB(a:Ar)(x:Int):Bool:=decide (x >= a.lo)&&(a.ca==4611686018427387904||decide (x<=a.ca))
theorem sL(H:Hp)(a:Ar)(x:Int):Pure 69 [a.v,.int .i64 x] (.bool (fitB a x)) H:=by
 refine Pure.of rfl (BV Tryz.func69 rfl 20 rfl fun nf t hf _ ht=> ?_);have hf0:=hf;refine BO (BQ ?_);have fz:=ai @Ar.v.eq_1 (ai (ht 1 _ rfl) (ht 0 _ rfl));refine xa fun hf=> ?_
 refine xq (BP (BO (BQ ?_)));iterate 16 first|refine xq ?_|refine xg ?_
 refine BP (BT (rt ?_));exact BW rfl ⟨by simp(disch:=first|decide|omega)only[wx,fz,fitB],xx⟩
theorem RH(H:Hp)(a n:Int):Pure 102 [.int .i64 a,.int .i64 n] (.bool (decide (a >= 0)&&decide (a<n))) H:=by
 refine Pure.of rfl (BV Tryz.func102 rfl 12 rfl fun nf t hf _ ht=> ?_);have hf0:=hf;refine BO (BQ ?_);have fz:=ai (ht 1 _ rfl) (ht 0 _ rfl);refine xq (BP (BO (BQ ?_)));iterate 8 first|refine xq ?_|refine xg ?_
 refine BP (BT (rt ?_));exact BW rfl ⟨by(simp(disch:=omega)only[wx,fz]<;>rfl),xx⟩
def Cp(a:Ar)(n:Int):Int:=
 if(!(decide (a.f >= 0)&&decide (a.f<n))|| !(decide (a.t >= 0)&&decide (a.t<n)))=true then 21 else
 if(decide (a.lo<0)||decide (a.lo>4398046511104))=true then 22 else
 if(a.ca !=4611686018427387904&&(decide (a.ca<a.lo)||decide (a.ca>4398046511104)))=true then 22 else
 if(decide (a.co< -4398046511104)||decide (a.co>4398046511104))=true then 23 else 0
theorem SW(H:Hp)(a:Ar)(n:Int):Pure 50 [a.v,.int .i64 n] (.int .u16 (Cp a n)) H:=by
 refine Pure.of rfl (BV Tryz.func50 rfl 48 rfl fun nf t hf _ ht=> ?_);have hf0:=hf;refine BO (BQ ?_);have fz:=ai @Ar.v.eq_1 (ai (ht 1 _ rfl) (ht 0 _ rfl));refine xa fun hf=> ?_
 refine xq (BP (BO (BO (BQ ?_))));refine B0 ?_;refine xp (h:=RH _ _ _) (k:= ?_);iterate 5 first|refine xq ?_|refine xg ?_
 refine Te (h:=fun hgd=>RH _ _ _) (k:= ?_);iterate 2 first|refine xq ?_|refine xg ?_
 refine BP (xi (fun c1=> ?_) fun c1=> ?_)
 ·refine BO (BQ ?_);have fz:=ai c1 fz;refine xq (BP (BT (rt ?_)));exact BW rfl ⟨by simp(disch:=first|decide|omega)only[wx,fz,Cp,Ag,AP,Ab],xx⟩
 ·refine BR (BO (BO (BQ ?_)));have fz:=ai c1 fz;iterate 8 first|refine xq ?_|refine xg ?_
  refine BP (xi (fun c2=> ?_) fun c2=> ?_)
  ·refine BO (BQ ?_);have fz:=ai c2 fz;refine xq (BP (BT (rt ?_)));exact BW rfl ⟨by simp(disch:=first|decide|omega)only[wx,fz,Cp,Ag,AP,Ab],xx⟩
  ·refine BR (BO (BO (BQ ?_)));have fz:=ai c2 fz;iterate 15 first|refine xq ?_|refine xg ?_
   refine BP (xi (fun c3=> ?_) fun c3=> ?_)
   ·refine BO (BQ ?_);have fz:=ai c3 fz;refine xq (BP (BT (rt ?_)));exact BW rfl ⟨by simp(disch:=first|decide|omega)only[wx,fz,Cp,Ag,AP,Ab],xx⟩
   ·refine BR (BO (BO (BQ ?_)));have fz:=ai c3 fz;iterate 8 first|refine xq ?_|refine xg ?_
    refine BP (xi (fun c4=> ?_) fun c4=> ?_)
    ·refine BO (BQ ?_);have fz:=ai c4 fz;refine xq (BP (BT (rt ?_)));exact BW rfl ⟨by simp(disch:=first|decide|omega)only[wx,fz,Cp,Ag,AP,Ab],xx⟩
    ·refine BR (BO (BQ ?_));have fz:=ai c4 fz;refine xq (BP (BT (rt ?_)));exact BW rfl ⟨by simp(disch:=first|decide|omega)only[wx,fz,Cp,Ag,AP,Ab],xx⟩
def Ar.c(a:Ar):List Value:=[.int .i64 a.f,.int .i64 a.t,.int .i64 a.lo,.int .i64 a.ca,.int .i64 a.co]
def C7(n:Int):List Ar->Int
 |[]=>0
 |a::l=>if Cp a n=0 then C7 n l else Cp a n
theorem FX(n:Int)(L:List Ar){k:Nat}(hk:k<L.length):C7 n (L.drop k)=if Cp L[k] n=0 then C7 n (L.drop (k+1))else Cp L[k] n:=by
 rw[A4 hk];rfl
def Dm:List Int->Int->Int
 |[],a=>if a=0 then 0 else 25
 |s::l,a=>if s< -4398046511104\/s>4398046511104 then 24 else Dm l (a+s)
theorem F6(S:List Int)(a:Int){k:Nat}(hk:k<S.length):Dm (S.drop k) a=if S[k]< -4398046511104\/S[k]>4398046511104 then 24 else Dm (S.drop (k+1)) (a+S[k]):=by
 rw[A4 hk];rfl
def rightI(S:List Int)(L:List Ar):Int:=if S.length>64\/L.length>256 then 20 else if C7 S.length L=0 then Dm S 0 else C7 S.length L
theorem JE{S:List Int}{L:List Ar}{A B:Option Addr}{c d:Nat}{H:Hp}(hA:Rd 1 intC H A S)(hB:Rd 5 Ar.c H B L):Pure 23 [.agg #[.slice A S.length c,.slice B L.length d]] (.int .u16 (rightI S L)) H:=by
 refine Pure.of rfl (BV Tryz.func23 rfl 54 rfl fun nf t hf _ ht=> ?_);have hf0:=hf;refine BO (BQ ?_);have fz:=(ht 0 _ rfl);refine xa fun hf=> ?_
 refine xq (BP (BO (BO (BQ ?_))));iterate 10 first|refine xq ?_|refine xg ?_
 refine BP (xi (fun c1=> ?_) fun c1=> ?_)
 ·refine BO (BQ ?_);have fz:=ai c1 fz;refine xq (BP (BT (rt ?_)));exact BW rfl ⟨by simp(disch:=first|decide|omega)only[wx,fz];rw[rightI,if_pos (by simp at c1;omega)],xx⟩
 ·have hl:S.length<=64/\L.length<=256:=by simp at c1;omega
  refine BR (BO (BO (BQ ?_)));have fz:=ai c1 fz;refine Dv (BP (BS ?_));refine By fun T1 hT=> ?_
  have gz:=ai (xt (hT 22)) (ai (xt (hT 21)) (ai (xt (hT 20)) (ai (xt (hT 1)) trivial)));clear hT;refine xl L.length nf H hf (fun k t nf1 G=>C7 S.length L=C7 S.length (L.drop k)/\(t 1=T1 1/\t 20=T1 20/\t 21=T1 21)/\t 22= .int .i64 (k:Int)/\G nf=some (.own [.slice A S.length c,.slice B L.length d])) ⟨rfl,xh⟩ ?_;rintro k t nf1 G hk1 hn1 hf he ⟨i1,uz,h22,b0⟩;have hfl:=hf;have l0:=hf.lt b0;refine BO (BQ ?_);have fz:=ai b0 (ai h22 (ai uz gz));refine xq (BP (BO ?_));refine C8 (fun c2=> ?_) fun c2=> ?_
  ·refine BR (BO (BS (BO (BQ ?_))));obtain⟨b,o,eB,ho⟩:=(hB.ext he) k om;have fz:=ai @Ar.c.eq_1 (ai ho (ai eB (ai c2 fz)));refine Ba ?_;refine xa fun hf=> ?_
   refine xs fun hf=> ?_
   refine BP (BO (BQ (Dv ?_)));refine xp (h:=SW _ _ _) (k:= ?_);refine xq (BP (BO (BQ ?_)));refine Ba (BP ?_);refine Kf (fun c3=> ?_) fun c3=> ?_
   ·refine BO (BQ ?_);have fz:=ai c3 fz;refine Ba (BP (BT (rt ?_)));exact BW rfl ⟨by simp(disch:=first|decide|omega)only[wx,fz];rw[rightI,if_neg om];have e:=FX (S.length) L (k:=k) om;rw[if_neg (by simpa using c3),<-i1]at e;rw[if_neg (by rw[e];simpa using c3),e],xx⟩
   ·refine BR (BQ ?_);have fz:=ai c3 fz;refine Ba (BP ?_);exact xe hf ⟨(by rw[i1,FX _ _ om,if_pos (by simpa using c3)]),xz⟩
  ·have e1:C7 S.length L=0:=by rw[i1,Az om];rfl
   refine xo (BO (BQ ?_));have fz:=ai c2 fz;refine xq (BP (BO (BO (BQ ?_))));refine Dv (BP (BS ?_));refine By fun T2 hT=> ?_
   have g6:=xt (hT 6);have gz:=ai g6 (ai (xt (hT 38)) (ai (xt (hT 37)) (ai (xt (hT 36)) gz)));clear hT;refine xl S.length nf H hf (fun k t nf1 G=>∃(a:Int),Dm S 0=Dm (S.drop k) a/\(-4398046511104*(k:Int)<=a/\a<=4398046511104*(k:Int))/\t 6= .int .i64 a/\(t 36=T2 36/\t 37=T2 37)/\t 38= .int .i64 (k:Int)) ⟨0,rfl,om,by rw[g6]<;>rfl,xh⟩ ?_;rintro k t nf1 G hk2 hn2 hf he ⟨a,i2,i3,h6,uz,h38⟩;have hfl:=hf;refine BO (BQ ?_);have fz:=ai h6 (ai h38 (ai uz gz));refine xq (BP (BO ?_));refine C8 (fun c4=> ?_) fun c4=> ?_
   ·refine BR (BO (BS (BO (BQ ?_))));obtain⟨b,o,eA,ho⟩:=(hA.ext he) k om;have fz:=ai @intC.eq_1 (ai ho (ai eA (ai c4 fz)));refine B0 (BP (BO (BO (BQ ?_))));iterate 6 first|refine xq ?_|refine xg ?_
    refine BP (xi (fun c5=> ?_) fun c5=> ?_)
    ·refine BO (BQ ?_);have fz:=ai c5 fz;refine xq (BP (BT (rt ?_)));exact BW rfl ⟨by simp(disch:=first|decide|omega)only[wx,fz];rw[rightI,if_neg om,if_pos e1,i2,F6 _ _ om,if_pos (by simp at c5;omega)],xx⟩
    ·have hr: -4398046511104<=S[k]/\S[k]<=4398046511104:=by simp at c5;omega
     refine BR (BQ ?_);have fz:=ai c5 fz;refine Dv (BP (BQ ?_));refine Ba (BP ?_);exact xe hf ⟨a+S[k],(by rw[i2,F6 _ _ om,if_neg om]),om,(by simp(disch:=first|decide|omega)only[wx,fz,uZ]<;>rfl),xz⟩
   ·have e2:Dm S 0=if a=0 then 0 else 25:=by rw[i2,Az om];rfl
    refine xo (BO (BO (BQ ?_)));have fz:=ai c4 fz;refine Ba (BP ?_);refine Kf (fun c6=> ?_) fun c6=> ?_
    ·refine BO (BQ ?_);have fz:=ai c6 fz;refine xq (BP (BT (rt ?_)));exact BW rfl ⟨by simp(disch:=first|decide|omega)only[wx,fz];rw[rightI,if_neg om,if_pos e1,e2,if_neg c6],xx⟩
    ·refine BR (BO (BQ ?_));have fz:=ai c6 fz;refine xq (BP (BT (rt ?_)));exact BW rfl ⟨by simp(disch:=first|decide|omega)only[wx,fz];rw[rightI,if_neg om,if_pos e1,e2,if_pos c6],xx⟩
section
def alongI(x:List Int)(a:Int):Int:=if a >= x.length then 0 else x.getD a.toNat 0
theorem Bc(x:List Int){k:Nat}(h:k<x.length):alongI x k=x[k]:=by
 unfold alongI;rw[if_neg om];simp[h]
theorem Xz(x:List Int){a:Int}(h:a >= x.length):alongI x a=0:=if_pos h
variable{x:List Int}
theorem We{A:Option Addr}{c:Nat}{H:Hp}(hA:Rd 1 intC H A x){a:Int}(ha:0<=a):Pure 75 [.slice A x.length c,.int .i64 a] (.int .i64 (alongI x a)) H:=by
 refine Pure.of rfl (BV Tryz.func75 rfl 13 rfl fun nf t hf _ ht=> ?_);have hf0:=hf;refine BO (BQ ?_);have fz:=ai (ht 1 _ rfl) (ht 0 _ rfl);refine xq (BP (BO (BO (BQ ?_))));refine Dv (BP ?_);refine C8 (fun c1=> ?_) fun c1=> ?_
 ·refine BO (BQ ?_);have fz:=ai c1 fz;refine xq (BP (BT (rt ?_)));exact BW rfl ⟨by simp(disch:=first|decide|omega)only[wx,fz];rw[Xz _ c1],xx⟩
 ·refine BR (BO (BQ ?_));have fz:=ai c1 fz;refine Ba ?_;obtain⟨k,rfl⟩:=AI ha;obtain⟨b,o,eA,ho⟩:=hA k om;have fz:=ai @intC.eq_1 (ai ho (ai eA fz));refine B0 (BP (BT (rt ?_)));exact BW rfl ⟨by rw[Bc _ om];simp(disch:=first|decide|omega)only[wx,fz];,xx⟩
def Mx(x:List Int):List Ar->Nat->Int
 |[],_=>0
 |a::l,k=>a.co*alongI x k+Mx x l (k+1)
def I2(L:List Ar)(x:List Int):Int:=Mx x L 0
theorem Mw(x:List Int)(L:List Ar){k:Nat}(hk:k<L.length):Mx x (L.drop k) k=L[k].co*alongI x k+Mx x (L.drop (k+1)) (k+1):=by
 rw[A4 hk];rfl
def R64(a:Int):Prop:= -9223372036854775808<=a/\a<9223372036854775808
theorem CZ(h:∀n∈x,R64 n)(a:Int):R64 (alongI x a):=by
 unfold alongI;split
 ·exact⟨om,om⟩
 ·rename_i hn;rw[List.getD_eq_getElem?_getD];cases hg:x[a.toNat]? with
  |none=>exact⟨dZ,dZ⟩
  |some n=>exact h n (Ao hg)
theorem Mu{S:List Int}{L:List Ar}{A B X:Option Addr}{c d e:Nat}{H:Hp}(hB:Rd 5 Ar.c H B L)(hX:Rd 1 intC H X x)(hL:L.length<4611686018427387904)(hc:∀a∈L,R64 a.co)(hx:∀n∈x,R64 n):Pure 32 [.agg #[.slice A S.length c,.slice B L.length d],.slice X x.length e] (W (I2 L x)) H:=by
 refine Pure.of rfl (BV Tryz.func32 rfl 26 rfl fun nf t hf _ ht=> ?_);have hf0:=hf;refine BO (BQ ?_);have fz:=ai @DO (ai (ht 1 _ rfl) (ht 0 _ rfl));refine xa fun hf=> ?_
 refine xa fun hf=> ?_
 refine BP (BO (BQ (xa fun hf=> ?_)));refine BP (BO (BO (BQ (Dv (BP (BS ?_))))));refine By fun T1 hT=> ?_
 have gz:=ai (xt (hT 11)) (ai (xt (hT 10)) (ai (xt (hT 9)) (ai (xt (hT 5)) (ai (xt (hT 4)) (ai (xt (hT 1)) trivial)))));clear hT;refine xl L.length nf H hf (fun k t nf1 G=>∃(a:Int),I2 L x=a+Mx x (L.drop k) k/\(t 1=T1 1/\t 4=T1 4/\t 5=T1 5/\t 9=T1 9/\t 10=T1 10)/\t 11= .int .i64 (k:Int)/\G nf=some (.own [.slice A S.length c,.slice B L.length d])/\G (nf+1)=some (.own [.int .i64 0,.int .u64 0])/\G (nf+1+1)=some (.own [.int .i64 (GI a),.int .u64 (EG a)])) ⟨0,(by rw[Int.zero_add];rfl),xh⟩ ?_;rintro k t nf1 G hk1 hn1 hf he ⟨a,i1,uz,h11,b0,b1,b2⟩;have hfl:=hf;have l0:=hf.lt b0;have l1:=hf.lt b1;have l2:=hf.lt b2;refine BO (BQ ?_);have fz:=ai b2 (ai b1 (ai b0 (ai h11 (ai uz (ai gz @DO)))));refine xq (BP (BO ?_));refine C8 (fun c1=> ?_) fun c1=> ?_
 ·refine BR (BO (BS (BO (BQ ?_))));have fz:=ai c1 fz;refine xq ?_;obtain⟨b,o,eB,ho⟩:=(hB.ext he) k om;have fz:=ai @Ar.c.eq_1 (ai ho (ai eB fz));refine Ba ?_;refine xa fun hf=> ?_
  refine xq ?_;refine xs fun hf=> ?_
  refine BP (TZ H xx fun hE=> ?_);refine Bh [1,0,1,0,0,1,1,1,2] [0,1,2,3,4,5,6,7,8] kr hf ?_;iterate 5 first|refine CA ?_|refine Cq ?_
  refine EB (h:=fun G hG=>We (hX.ext (hE.trans hG)) om) (k:= ?_);refine EB (h:=fun G hG=>dW (hc _ (AM _)) (CZ hx _) _) (k:= ?_);refine EB (h:=fun G hG=>KG _ _ _) (k:= ?_);refine Fx fun nf2 hl2 hf=> ?_
  refine BX (BQ (Ba (BP ?_)));exact xe hf ⟨a+L[k].co*alongI x k,(by rw[i1,Mw _ _ om];omega),xz⟩
 ·refine xo (BO (BQ ?_));have fz:=ai c1 fz;refine xq ?_;refine xs fun hf=> ?_
  refine BP (BT (rt ?_));exact Ch rfl xv ⟨by rw[show I2 L x=a by rw[i1,Az om];exact Int.add_zero a];simp(disch:=first|decide|omega)only[wx,fz];,xx⟩
end
section
theorem qT(p:Addr):Cr tz .neq 100 (.pointer (some p)) (.pointer none)=some (.bool true):=kr
theorem qV(p:Addr):Cr tz .eql 100 (.pointer (some p)) (.pointer none)=some (.bool false):=kr
theorem su:B9 tz 48 []=some (.agg #[.int .i64 0,.int .i64 0,.int .i64 0,.int .i64 0,.int .i64 0]):=kr
def DS(n a:Int):Bool:=decide (a >= 0)&&decide (a<n)
def pM(H:Hp)(g:Nat)(n:Nat)(L:List Ar):Prop:=∃A c u v,H g=some (.own [.int .i64 n,.slice A L.length c,u,v])/\Rd 5 Ar.c H A L
variable{H:Hp}{g k n:Nat}{L:List Ar}
theorem pM.ext{G:Hp}(h:pM H g n L)(e:Ext H G):pM G g n L:=by
 obtain⟨A,c,u,v,h1,h2⟩:=h;exact⟨A,c,u,v,e _ _ h1,h2.ext e⟩
theorem aJ{u v w:Value}(hg:H g=some (.own [.int .i64 n,u,v,w]))(a:Int):Pure 141 [.pointer (some ⟨g,0,none⟩),.int .i64 a] (.bool (DS n a)) H:=by
 refine Pure.of rfl (BV Tryz.func141 rfl 19 rfl fun nf t hf _ ht=> ?_);have hf0:=hf;refine BO (BQ ?_);have fz:=ai @qT (ai hg (ai (ht 1 _ rfl) (ht 0 _ rfl)));refine xq (BP (BO (BQ ?_)));iterate 15 first|refine xq ?_|refine xg ?_
 refine BP (BT (rt ?_));exact BW rfl ⟨by simp(disch:=first|decide|omega)only[wx,fz,DS,Bool.true_and],xx⟩
def Ke:Value:= .agg #[.int .i64 0,.int .i64 0,.int .i64 0,.int .i64 0,.int .i64 0]
def Rn(n:Nat)(L:List Ar)(a:Int):Value:=if a<0 then .tuple #[Ke,.bool false]else match L[a.toNat]? with
 |some x=>if(DS n x.f&&DS n x.t)=true then .tuple #[x.v,.bool true]else .tuple #[Ke,.bool false]
 |none=> .tuple #[Ke,.bool false]
theorem bz{a:Int}(h:a<0\/a >= L.length):Rn n L a= .tuple #[Ke,.bool false]:=by
 unfold Rn;split
 ·rfl
 ·rw[Ap om]
theorem Pm(h:k<L.length):Rn n L k=if(DS n L[k].f&&DS n L[k].t)=true then .tuple #[L[k].v,.bool true]else .tuple #[Ke,.bool false]:=by
 unfold Rn;rw[if_neg om];simp[h]
theorem TP(n:Nat)(L:List Ar)(a:Int):plainV (Rn n L a)=true:=by
 unfold Rn;split
 ·rfl
 ·split
  ·split<;>rfl
  ·rfl
theorem R8{fn:Func}{Q:Value->Hp->Prop}{t:Nat->Value}{ty j:Nat}(hr:fn.results= #[.cell k ty,.tmp j]){u:Value}(hl:EC tz H ty (t k)=some u)(h:Q (.tuple #[u,t j]) H):GQ fn Q .ret ⟨n,t,[]⟩ H:=Iq (v:= .tuple #[u,t j]) (by simp) (by rw[hr];simp[Dn,NR,hl]) h
theorem bv(hg:pM H g n L)(a:Int):Pure 103 [.pointer (some ⟨g,0,none⟩),.int .i64 a] (Rn n L a) H:=by
 refine Pure.of (TP n L a) (BV Tryz.func103 rfl 44 rfl fun nf t hf _ ht=> ?_);have hf0:=hf;obtain⟨A,c,u,v,g1,g2⟩:=hg;have lg:=hf.lt g1;refine BO (BQ ?_);have fz:=ai @su (ai @qV (ai g1 (ai (ht 1 _ rfl) (ht 0 _ rfl))));refine xa fun hf=> ?_
 refine xq (BP (BO (BO (BQ ?_))));iterate 15 first|refine xq ?_|refine xg ?_
 refine BP (xi (fun c1=> ?_) fun c1=> ?_)
 ·refine BO (BQ ?_);have fz:=ai c1 fz;refine xq ?_;refine xs fun hf=> ?_
  refine xq (BP (BT (rt ?_)));exact R8 rfl xv ⟨by rw[bz (by simp at c1;omega)];simp(disch:=first|decide|omega)only[wx,fz];rfl,xx⟩
 ·have hr:0<=a/\a<L.length:=by simp at c1;omega
  obtain⟨k,rfl⟩:=AI hr.1;obtain⟨b,o,eA,ho⟩:=g2 k om;have lb:=Bd hf0 ho;refine BR (BO (BQ ?_));have fz:=ai @Ar.c.eq_1 (ai ho (ai eA (ai c1 fz)));refine Dk ?_;refine xq ?_;refine xa fun hf=> ?_
  refine xs fun hf=> ?_
  refine BP (BO (BO (BQ (B0 ?_))));refine xp (h:=aJ (by simp(disch:=first|decide|omega)only[wz,g1]<;>rfl) _) (k:= ?_);iterate 5 first|refine xq ?_|refine xg ?_
  refine Te (h:=fun hgd=>aJ (by simp(disch:=first|decide|omega)only[wz,g1]<;>rfl) _) (k:= ?_);iterate 2 first|refine xq ?_|refine xg ?_
  refine BP (xi (fun c2=> ?_) fun c2=> ?_)
  ·refine BO (BQ ?_);have fz:=ai c2 fz;refine xq ?_;refine xs fun hf=> ?_
   refine xq (BP (BT (rt ?_)));exact R8 rfl xv ⟨by rw[Pm om,if_neg (by intro h;simp only[AA]at h;simp[h.1,h.2]at c2)];simp(disch:=first|decide|omega)only[wx,fz];rfl,xx⟩
  ·refine BR (BO (BQ ?_));have fz:=ai c2 fz;refine xq ?_;refine xs fun hf=> ?_
   refine xq (BP (BT (rt ?_)));exact R8 rfl xv ⟨by rw[Pm om,if_pos (by simp only[Bool.or_eq_false_iff,Bool.not_eq_false']at c2;simp[c2.1,c2.2])];simp(disch:=first|decide|omega)only[wx,fz];rfl,xx⟩
end
end
section
open Go.Conc Go.Proofs
variable[Md]
section
def GS(H:Hp)(s:Nat)(v:Value)(xs:List Value)(n:Nat):Prop:=xs.length=n*s/\((n=0/\v= .slice none 0 0)\/∃b,v= .slice (some ⟨b,0,none⟩) n (CJ+s)/\H b=some (.own xs))
def GSb(v:Value)(b:Nat):Prop:=∃n c o,v= .slice (some ⟨b,o,none⟩) n c
theorem GS.keep{H H':Hp}{s:Nat}{v:Value}{xs:List Value}{n:Nat}(h:GS H s v xs n)(k:∀b,GSb v b->H' b=H b):GS H' s v xs n:=by
 obtain⟨h1,h2⟩:=h;refine⟨h1,h2.imp id ?_⟩;rintro⟨b,rfl,h3⟩;exact⟨b,rfl,by rw[k b ⟨_,_,_,rfl⟩];exact h3⟩
theorem GS.nil(H:Hp)(s:Nat):GS H s (.slice none 0 0) [] 0:=⟨by simp,.inl ⟨rfl,rfl⟩⟩
theorem Bo(b:Nat):¬GSb (.slice none 0 0) b:=by rintro⟨_,_,_,h⟩;cases h
theorem GS.live{H:Hp}{s:Nat}{v:Value}{xs:List Value}{n:Nat}(h:GS H s v xs n){b:Nat}(k:GSb v b):H b=some (.own xs):=by
 obtain⟨h1,⟨h2,rfl⟩|⟨b',rfl,h3⟩⟩:=h
 ·exact(Bo b k).elim
 ·obtain⟨_,_,_,e⟩:=k;cases e
  exact h3
noncomputable def wV(ty s b:Nat):Bool:=match Iv tz ty with
 | .slice e=>match tz e with
  |some q=>Nat.beq q.size s&&Nat.beq q.bytes b
  |none=>false
 |_=>false
def Na(ty s b:Nat):Prop:=wV ty s b=true
theorem Na.ex{ty s b:Nat}(h:Na ty s b):∃e q,Iv tz ty= .slice e/\tz e=some q/\q.size=s/\q.bytes=b:=by
 unfold Na wV at h;split at h
 ·rename_i e he;split at h
  ·rename_i q hq;rw[AA]at h;exact⟨e,q,he,hq,AE h.1,AE h.2⟩
  ·cases h
 ·cases h
theorem I3:Na 22 1 8:=by unfold Na;kernel_rfl
theorem YT:Na 23 5 40:=by unfold Na;kernel_rfl
theorem Wv:Na 26 1 1:=by unfold Na;kernel_rfl
theorem QP:Na 27 1 8:=by unfold Na;kernel_rfl
theorem Po{H:Hp}{nf ty s by' k n:Nat}{v x:Value}{xs ys:List Value}(ht:Na ty s by')(g:GS H s v xs n)(hs:s≠0)(hs2:s<1000)(hx:ER H s k x=some ys)(hxv:∃a c m,x= .slice a k c/\m=c)(ho:ys.all (·.oneCell')=true)(hk:k≠0)(hy:ys.length=k*s)(hb: (2*(n+k)+1000)*by'<=281474976710656)(hn:n+k<4611686018427387904):
  (n=0/\v= .slice none 0 0/\B5 tz H nf ty ty v x=some (.slice (some ⟨nf,0,none⟩) (n+k) (CJ+s),[(nf,.own (xs++ys))]))\/∃b,v= .slice (some ⟨b,0,none⟩) n (CJ+s)/\H b=some (.own xs)/\B5 tz H nf ty ty v x=some (.slice (some ⟨nf,0,none⟩) (n+k) (CJ+s),[(nf,.own (xs++ys)),(b,.dead)]):=by
 obtain⟨e,q,h1,h2,rfl,rfl⟩:=ht.ex;obtain⟨a,c,_,rfl,_⟩:=hxv;obtain⟨g1,⟨rfl,rfl⟩|⟨b,rfl,g2⟩⟩:=g
 ·have e0:xs=[]:=List.eq_nil_of_length_eq_zero (by rw[g1];omega);subst e0;refine .inl ⟨rfl,rfl,?_⟩;unfold B5;simp only[Ag,h1,h2,hx,ho];unfold K5;dsimp only;rw[if_neg hk,if_neg om,if_pos ⟨hb,hn,hs⟩,if_pos ⟨rfl,by unfold CJ;omega⟩,AW,List.nil_append]
 ·refine .inr ⟨b,rfl,g2,?_⟩;unfold B5;simp only[Ag,h1,h2,hx,ho];unfold K5;dsimp only;have hl:ld H ⟨b,0,none⟩ (n*q.size)=some xs:=by
   rw[OA,g2,Ez,if_pos om,List.drop_zero,<-g1,List.take_length]
  rw[if_neg hk,if_neg (by unfold CJ;omega),if_pos ⟨hb,hn,hs⟩,if_neg (by unfold CJ;omega),hl];dsimp only;rw[if_neg om,if_pos ⟨rfl,by unfold CJ i5;omega⟩,g2]
theorem FU{top:Bool}{ops:Array Oper}{l:List Oper}{Q:AF->Hp->Prop}{N nf:Nat}{t:Nat->Value}{ds:List Deferred}{H:Hp}{o:Oper}{d ty s by' k n:Nat}{v x:Value}{xs ys:List Value}(hf:Fr H nf)(hc:ck N o=some d)(hop:hop tz H nf (eT t) o.op=B5 tz H nf ty ty v x)(ht:Na ty s by')(g:GS H s v xs n)(hs:Nat.blt 0 s&&Nat.blt s 1000)(hx:ER H s k x=some ys)(hxv:∃a c m,x= .slice a k c/\m=c)(ho:ys.all (·.oneCell')=true)(hk:k≠0)(hy:ys.length=k*s)(hb: (2*(n+k)+1000)*by'<=281474976710656)(hn:n+k<4611686018427387904)
  (K:∀v' H',GS H' s v' (xs++ys) (n+k)->(∀c,c≠nf->¬GSb v c->H' c=H c)->Fr H' (nf+1)->(∀c,GSb v' c->c=nf)->WL top ops l Q ⟨N,st t d v',ds⟩ H'):WL top ops (o::l) Q ⟨N,t,ds⟩ H:=by
 obtain⟨hd,hN,hx',hg⟩:=M0 hc;rw[AA,Nat.blt_eq,Nat.blt_eq]at hs;have hlen: (xs++ys).length=(n+k)*s:=by rw[AN,g.1,hy,Nat.add_mul]
 rcases Po ht g om hs.2 hx hxv ho hk hy hb hn with⟨rfl,rfl,e⟩|⟨b,rfl,hb2,e⟩
 ·refine CL hx' (BY hg _) (WOp.hop Cv Ce hf.at (hop.trans e) ?_);rw[hd,CT hN];refine K _ _ ⟨hlen,.inr ⟨nf,rfl,BU _ _ _⟩⟩ (fun c hc _=>upd_ne hc) (hf.new _) ?_;rintro c ⟨_,_,_,e⟩;cases e;rfl
 ·refine CL hx' (BY hg _) (WOp.hop Cv Ce hf.at (hop.trans e) ?_);rw[hd,CT hN];have hlt:=hf.lt hb2;refine K _ _ ⟨hlen,.inr ⟨nf,rfl,?_⟩⟩ (fun c hc hn=> ?_) ?_ ?_
  ·show upd (upd H nf _) b _ nf=_
   rw[upd_ne om,BU]
  ·show upd (upd H nf _) b _ c=_
   rw[upd_ne (fun e=>hn ⟨_,_,_,by rw[e]⟩),upd_ne hc]
  ·have h1:=hf.new (.own (xs++ys));exact h1.old (b:=b) (y:= .own xs) (by rw[upd_ne om];exact hb2) _
  ·rintro c ⟨_,_,_,e⟩;cases e;rfl
theorem Ht{H:Hp}{b o n c s k:Nat}{ys:List Value}(h0:k≠0)(hk:k<=n)(h:Cs (H b) o (k*s)=some ys):ER H s k (.slice (some ⟨b,o,none⟩) n c)=some ys:=by rw[Ns _ _ _ _ _ _ h0 hk,OA];exact h
theorem Bu{H:Hp}{b n c s:Nat}{ys:List Value}(h:H b=some (.own ys))(hl:ys.length=s)(hn:1<=n):ER H s 1 (.slice (some ⟨b,0,none⟩) n c)=some ys:=Ht dZ hn (by rw[h,Ez,Nat.one_mul,AW,if_pos om,List.drop_zero,<-hl,List.take_length])
variable{α:Type}
theorem Fm{s:Nat}{f:α->List Value}(hf:∀x,(f x).length=s):∀l:List α,(l.flatMap f).length=l.length*s
 |[]=>by simp
 |x::l=>by rw[List.flatMap_cons,AN,hf,Fm hf l,AY,Nat.add_mul,Nat.one_mul,Nat.add_comm]
theorem LX{s:Nat}{f:α->List Value}(hf:∀x,(f x).length=s):∀(l:List α) (k:Nat) (h:k<l.length),((l.flatMap f).drop (k*s)).take s=f l[k]
 |x::l,0,h=>by simp[List.take_append_of_le_length,hf]
 |x::l,k+1,h=>by
  rw[List.flatMap_cons,Nat.add_mul,Nat.one_mul,Nat.add_comm,List.drop_append,Az (by rw[hf];omega),List.nil_append,hf,Nat.add_sub_cancel_left];exact LX hf l k (by simpa using h)
theorem GS.rd{H:Hp}{s:Nat}{f:α->List Value}(hf:∀x,(f x).length=s){v:Value}{l:List α}(h:GS H s v (l.flatMap f) l.length):∃A c,v= .slice A l.length c/\Rd s f H A l:=by
 obtain⟨h1,⟨h2,rfl⟩|⟨b,rfl,h3⟩⟩:=h
 ·refine⟨none,0,by rw[h2],fun k hk=>om⟩
 ·refine⟨_,_,rfl,fun k hk=>⟨b,0,rfl,?_⟩⟩;rw[h3,Ez,AW,if_pos (by rw[h1];have:=Nat.mul_le_mul_right s (show k+1<=l.length from om);rw[Nat.add_mul]at this;omega),LX hf]
def Nw(H H':Hp)(s:Nat)(v:Value)(xs:List Value)(n:Nat):Prop:=Ext H H'/\GS H' s v xs n/\∀b,GSb v b->H b=none
theorem GS.new{G:Hp}{s:Nat}{v:Value}{xs:List Value}{n m:Nat}(h:GS G s v xs n)(hf:Fr G m)(x:AB):GS (upd G m (some x)) s v xs n:=h.keep fun b hb=>upd_ne (by have:=hf.lt (h.live hb);omega)
theorem Ext.fr{H G H':Hp}{m:Nat}{v:Value}(he:Ext H G)(hm:H m=none)(hv:∀b,GSb v b->H b=none)(fr:∀c,c≠m->¬GSb v c->H' c=G c):Ext H H':=fun a x e=>by
 rw[fr a (fun e2=>by rw[e2,hm]at e;cases e) (fun h=>by rw[hv a h]at e;cases e)];exact he a x e
theorem Gg(f:α->List Value)(l:List α){k:Nat}(h:k<l.length): (l.take k).flatMap f++f l[k]=(l.take (k+1)).flatMap f:=by
 rw[List.take_add_one,AD h,BF];simp
noncomputable def so(n:Nat)(o:Oper):Option (Nat×Operand×List Operand):=match o.dst,o.guard,o.op with
 |some d,none,.call {callee:= .value x,args,.. }=>bif Nat.blt d n&&IL o.op then some (d,x,args.toList)else none
 |_,_,_=>none
theorem TD{n d:Nat}{x:Operand}{args:List Operand}{o:Oper}(h:so n o=some (d,x,args)):o.dst=some d/\Nat.blt d n=true/\IL o.op=true/\o.guard=none/\∃ats,o.op= .call {callee:= .value x,args:=⟨args⟩,argTypes:=ats}:=by
 unfold so at h;split at h
 ·rename_i d' x' args' ats h1 h2 h3;cases hb: (Nat.blt d' n&&IL o.op)with
  |false=>rw[hb]at h;cases h
  |true=>
   rw[hb]at h;cases h
   rw[AA]at hb;exact⟨h1,hb.1,hb.2,h2,ats,h3⟩
 ·cases h
section
variable{top:Bool}{ops:Array Oper}{l:List Oper}{Q:AF->Hp->Prop}{N nf:Nat}{t:Nat->Value}{ds:List Deferred}{H:Hp}{o:Oper}
theorem wY {d:Nat} {x:Operand} {g:FuncId} {first cap:Array Value} {args:List Operand} {vs:List Value} {QF:Value->Hp->Prop} (hf0:Fr H nf) (hc:so N o=some (d,x,args)) (hx:eT t x= .func (.func g) first cap) (hv:first.toList++args.map (eT t)++cap.toList=vs) (h:Ct g vs QF H) (k:∀v H' nf',nf<=nf'->QF v H'->Fr H' nf'->WL top ops l Q ⟨N,st t d v,ds⟩ H'):WL top ops (o::l) Q ⟨N,t,ds⟩ H:=by
 obtain⟨hd,hn,hx',hg,ats,hop⟩:=TD hc;obtain⟨⟨fn,c,hf,hb⟩,h⟩:=h;refine CL hx' (BY hg _) (WOp.call hop hx hf hb (C4 hf) ?_);dsimp only;rw[hv];exact h.fin.mono fun v H' q=>by rw[hd,CT hn];obtain⟨q,nf2,hf⟩:=q;exact k v H' _ (Nat.le_max_right nf2 nf) q (hf.up (Nat.le_max_left _ _))
theorem qa{d:Nat}{x:Operand}{g:FuncId}{first cap:Array Value}{args:List Operand}{vs:List Value}{v:Value}(hc:so N o=some (d,x,args))(hx:eT t x= .func (.func g) first cap)(hv:first.toList++args.map (eT t)++cap.toList=vs)(h:Pure g vs v H)(k:WL top ops l Q ⟨N,st t d v,ds⟩ H):WL top ops (o::l) Q ⟨N,t,ds⟩ H:=by
 obtain⟨hd,hn,hx',hg,ats,hop⟩:=TD hc;obtain⟨⟨fn,c,hf,hb⟩,h⟩:=h;refine CL hx' (BY hg _) (WOp.call hop hx hf hb (C4 hf) ?_);dsimp only;rw[hv];exact h.mono fun u H' q=>by obtain⟨rfl,rfl⟩:=q;rw[hd,CT hn];exact k
end
theorem NZ(a:Nat)(k:IntKind)(x:Int):D0 tz a 22 1 [(0,.int k x)]=some (.slice (some ⟨a,0,none⟩) 1 1,[(a,.own [.int k x])]):=kr
theorem LG(a:Nat)(k:IntKind)(x:Int):D0 tz a 27 1 [(0,.int k x)]=some (.slice (some ⟨a,0,none⟩) 1 1,[(a,.own [.int k x])]):=kr
theorem oM(a:Nat)(x:Bool):D0 tz a 26 1 [(0,.bool x)]=some (.slice (some ⟨a,0,none⟩) 1 1,[(a,.own [.bool x])]):=kr
theorem tJ(a:Nat)(f t lo ca co:Int):D0 tz a 23 1 [(0,.agg #[.int .i64 f,.int .i64 t,.int .i64 lo,.int .i64 ca,.int .i64 co])]=some (.slice (some ⟨a,0,none⟩) 1 1,[(a,.own [.int .i64 f,.int .i64 t,.int .i64 lo,.int .i64 ca,.int .i64 co])]):=kr
end
end
end Go.Proofs.YtjlallgaadmeaaaGreatDoor
