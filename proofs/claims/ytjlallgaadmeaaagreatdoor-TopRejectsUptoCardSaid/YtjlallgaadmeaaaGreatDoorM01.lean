/- Parts of the proof, joined: EE EF EG EH EI EJ EK EL EM EN EO EP. Conditions: none. -/
import Derived.Test.YtjlallgaadmeaaaGreatDoorM00
import Derived.MapKept
import Derived.Conc.DeferLaws
set_option linter.unusedVariables false
set_option linter.unusedSimpArgs false
set_option linter.unusedSectionVars false
set_option maxRecDepth 100000
namespace Go.Proofs.YtjlallgaadmeaaaGreatDoor
section
open Go.Conc
section
variable{P:Program}{Γ:TypeId->Option TI}{t:TypeId}{w:World}{E:Event->Prop}{φ:Ph}{D:Nat->Prop}
variable{A':Array Value}
theorem Bj {A:Array Value}:B3 φ D A A'↔BZ φ D A.toList A'.toList:=by obtain⟨l⟩:=A;simp only[B3]
theorem Wu{A:Array Value}{v v':Value}(h:B3 φ D A A')(hv:vrel φ D v v')(i:Nat):B3 φ D (A.setIfInBounds i v) (A'.setIfInBounds i v'):=by
 rw[DF]at h⊢;refine⟨by simp[h.1],fun k x hk=> ?_⟩;rw[Array.getElem?_setIfInBounds]at hk⊢;split at hk
 ·rename_i e;rw[if_pos e];split at hk
  ·rename_i hlt;rw[if_pos (by rw[h.1];exact hlt)];obtain rfl:=AC hk;exact⟨v',rfl,hv⟩
  ·cases hk
 ·rename_i e;rw[if_neg e];exact h.2 k x hk
theorem HT{v v':Value}(h:vrel φ D v v'):B3 φ D v.cells v'.cells:=by
 have one:∀{x x':Value},vrel φ D x x'->B3 φ D #[x] #[x']:=fun hx=>by
  simp only[B3,BZ];exact⟨_,_,rfl,hx,rfl⟩
 cases v with
 |agg cs=>
  obtain⟨cs',rfl,hc⟩:=Dh.1 h;exact hc
 |pointer a=>
  obtain⟨a',rfl,_⟩:=HU h;exact one h
 |slice a n c=>
  obtain⟨a',c',rfl,_⟩:=Dw h;exact one h
 |map r=>
  cases r<;>simp only[vrel]at h
  ·subst h;exact one (by simp only[vrel])
  ·obtain⟨h1,rfl⟩:=h;exact one (by simp only[vrel];simpa using h1)
 |chan r=>
  cases r<;>simp only[vrel]at h
  ·subst h;exact one (by simp only[vrel])
  ·obtain⟨h1,rfl⟩:=h;exact one (by simp only[vrel];simpa using h1)
 |func g x c=>
  have h0:=h;simp only[vrel]at h;obtain⟨_,_,_,rfl,_⟩:=h;exact one h0
 |iface u x=>
  have h0:=h;simp only[vrel]at h;obtain⟨_,rfl,_⟩:=h;exact one h0
 |tuple u=>
  have h0:=h;simp only[vrel]at h;obtain⟨_,rfl,_⟩:=h;exact one h0
 |_=>simp only[vrel]at h;subst h;exact one (by simp only[vrel])
def JI(φ:Ph)(D:Nat->Prop):List (Nat×Value)->List (Nat×Value)->Prop
 |[],l=>l=[]
 |p::r,l=>∃v' r',l=(p.1,v')::r'/\vrel φ D p.2 v'/\JI φ D r r'
theorem OH(off:Nat):∀(l l':List Value) (n:Nat) (A A':Array Value),BZ φ D l l'->B3 φ D A A'->
  B3 φ D ((l.zipIdx n).foldl (fun cs p=>cs.setIfInBounds (off+p.2) p.1) A) ((l'.zipIdx n).foldl (fun cs p=>cs.setIfInBounds (off+p.2) p.1) A')
 |[],l',n,A,A',h,hA=>by
  simp only[BZ]at h;subst h;exact hA
 |v::l,l',n,A,A',h,hA=>by
  simp only[BZ]at h;obtain⟨v',r',rfl,h1,h2⟩:=h;simp only[List.zipIdx_cons,List.foldl_cons];exact OH off l r' (n+1) _ _ h2 (Wu hA h1 _)
theorem Jc{pl pl':Nat->Option (Nat×Nat)}(hp:∀i q,pl i=some q->pl' i=some q):∀(ps ps':List (Nat×Value)) (A A' r:Array Value),JI φ D ps ps'->B3 φ D A A'->Instr.fill pl A ps=some r->∃r',Instr.fill pl' A' ps'=some r'/\B3 φ D r r'
 |[],ps',A,A',r,hs,hA,h=>by
  simp only[JI]at hs;subst hs;simp only[Instr.fill,AO]at h;subst h;exact⟨A',rfl,hA⟩
 |(i,v)::ps,ps',A,A',r,hs,hA,h=>by
  simp only[JI]at hs;obtain⟨v',r',rfl,h1,h2⟩:=hs;simp only[Instr.fill]at h⊢;split at h
  ·cases h
  ·rename_i off size hpl;rw[hp _ _ hpl];dsimp only;have hc:=HT h1;have e1:v'.cells.size=v.cells.size:=((DF _ _).1 hc).1;have e2:A'.size=A.size:=((DF _ _).1 hA).1;rw[e1,e2];split at h
   ·cases h
   ·rename_i hn;rw[if_neg hn];refine Jc hp ps r' _ _ r h2 ?_ h;have:=OH (φ:=φ) (D:=D) off v.cells.toList v'.cells.toList 0 A A' (Bj.1 hc) hA;rw[<-Array.foldl_toList,<-Array.foldl_toList,Array.toList_zipIdx,Array.toList_zipIdx];exact this
theorem IU{α β:Type}(f:α->Sem β)(g:α->β):∀(l:List α),(∀x∈l,Ran P (f x) w (g x) w E)->Ran P (l.mapM f) w (l.map g) w E
 |[],_=>by rw[List.mapM_nil];exact Ran.pure _
 |x::l,h=>by
  rw[List.mapM_cons];exact Ran.bind (h x (by simp)) (Ran.bind (IU f g l fun y hy=>h y (by simp[hy])) (Ran.pure _))
theorem Zp{α β:Type}(f:α->Sem β)(g:α->β)(a:Array α)(h:∀x∈a.toList,Ran P (f x) w (g x) w E):Ran P (a.mapM f) w (a.map g) w E:=by
 rw[Array.mapM_eq_mapM_toList];have:=IU f g a.toList h;have h2:Ran P (List.toArray<$>a.toList.mapM f) w (a.toList.map g).toArray w E:=by
  refine⟨?_,fun e he=> ?_⟩
  ·rw[Sem.run_map,this.run];rfl
  ·rw[Sem.events_map]at he;exact this.ev e he
 have e: (a.toList.map g).toArray=a.map g:=by apply Array.ext';rw[BG]
 rw[<-e];exact h2
theorem KF{ev ev':Operand->Value}:∀(l:List (Nat×Operand)),(∀p∈l,vrel φ D (ev p.2) (ev' p.2))->JI φ D (l.map fun p=>(p.1,ev p.2)) (l.map fun p=>(p.1,ev' p.2))
 |[],_=>rfl
 |p::l,h=>⟨_,_,rfl,h p (by simp),KF l fun q hq=>h q (by simp[hq])⟩
theorem Ic{A:Array Value}(h:C1 A=true):B3 φ D A A:=(E5 A A h).2 rfl
theorem E6{v:Value}(h:plainV v=true):C1 v.cells=true:=by
 cases v with
 |agg cs=>rw[plainV]at h;exact h
 |_=>simp only[Value.cells,C1,plainVl,h,Bool.and_true]
theorem O8(hΓ:TOk P Γ)(hF:∀t i fs,Γ t=some i->i.d= .struct fs->∀f∈fs.toList,∃x,P.info? f.type=some x){ps ps':List (Nat×Value)}{v:Value}(h:B9 Γ t ps=some v)(hs:JI φ D ps ps'):∃v',Ran P (Instr.build t ps'.toArray) w v' w E/\vrel φ D v v':=by
 unfold B9 at h;split at h;case h_2=>cases h
 rename_i i hi;have hz:=hΓ.zero t i hi;split at h
 ·rename_i fs hd;cases hf:Instr.fill (lJ Γ fs) i.zero.cells ps with
  |none=>rw[hf]at h;cases h
  |some r=>
   rw[hf]at h;obtain rfl:=AC h;have hx:=hF t i fs hi hd;let g:Field->Nat×Nat:=fun f=>(f.offset,((P.info? f.type).map (·.size)).getD 0)
   obtain⟨r',h1,h2⟩:=Jc (φ:=φ) (D:=D) (pl':=fun k=>(fs.map g)[k]?) (fun k q hk=>by
    unfold lJ at hk;cases hfk:fs[k]? with
    |none=>rw[hfk]at hk;cases hk
    |some f=>
     rw[hfk]at hk;dsimp only at hk;cases hq:Γ f.type with
     |none=>rw[hq]at hk;cases hk
     |some q0=>
      rw[hq]at hk;obtain⟨x,hx1,hx2,_⟩:=hΓ.inf _ _ hq;simp only[AU,AO]at hk;subst hk;show(fs.map g)[k]? =_
      rw[Al,hfk];simp[g,hx1,hx2]) ps ps' _ _ r hs (Ic (E6 hz.1)) hf
   refine⟨.agg r',?_,Dh.2 ⟨r',rfl,h2⟩⟩;unfold Instr.build;refine Ran.bind (hΓ.rZero hi) (Ran.bind (hΓ.rD hi hd) ?_);dsimp only;refine Ran.bind (Zp _ g fs fun f hf=> ?_) ?_
   ·obtain⟨x,hx1⟩:=hx f hf;have:g f=(f.offset,x.size):=by simp[g,hx1]
    rw[this];exact Ran.bind (ND hx1) (Ran.pure _)
   ·rw[h1];exact Ran.pure _
 ·rename_i n e hd;split at h;case h_2=>cases h
  rename_i q hq;cases hf:Instr.fill (fun k=>some (k*q.size,q.size)) i.zero.cells ps with
  |none=>rw[hf]at h;cases h
  |some r=>
   rw[hf]at h;obtain rfl:=AC h;obtain⟨r',h1,h2⟩:=Jc (φ:=φ) (D:=D) (pl':=fun k=>some (k*q.size,q.size)) (fun k p hk=>hk) ps ps' _ _ r hs (Ic (E6 hz.1)) hf;refine⟨.agg r',?_,Dh.2 ⟨r',rfl,h2⟩⟩;unfold Instr.build;refine Ran.bind (hΓ.rZero hi) (Ran.bind (hΓ.rD hi hd) ?_);dsimp only;refine Ran.bind (hΓ.rSize hq) ?_;rw[h1];exact Ran.pure _
 ·cases h
theorem XL{op:UnOp}{x x' v:Value}(h:fD op x=some v)(hx:vrel φ D x x'):Ran P (Op.unary op x') w v w E/\vrel φ D v v:=by
 cases x<;>simp only[fD]at h<;>first|cases h|skip
 ·obtain rfl:=CQ.1 hx;cases op<;>simp only at h<;>first|cases h|skip
  exact⟨Ran.pure _,CQ.2 rfl⟩
 ·obtain rfl:=Bb.1 hx;cases op<;>simp only at h<;>first|cases h|skip
  ·exact⟨Ran.pure _,Bb.2 rfl⟩
  ·exact⟨Ran.pure _,Bb.2 rfl⟩
theorem Sd(hΓ:TOk P Γ){op:BinOp}{a b a' b' v:Value}(h:Cr Γ op t a b=some v)(ha:vrel φ D a a')(hb:vrel φ D b b')(x y:Operand):Ran P (do eqGuard op t x y a' b';binOp op t a' b') w v w E/\vrel φ D v v:=by
 unfold Cr at h;split at h
 ·rename_i k n k' m;obtain rfl:=Bb.1 ha;obtain rfl:=Bb.1 hb;have hg:Ran P (eqGuard op t x y (.int k n) (.int k' m)) w () w E:=by cases op<;>exact Ran.pure _
  suffices hh:Ran P (binOp op t (.int k n) (.int k' m)) w v w E/\vrel φ D v v from⟨Ran.bind hg hh.1,hh.2⟩
  cases op<;>dsimp only at h
  case shl=>
   split at h
   ·rename_i h0;obtain rfl:=AC h;refine⟨?_,Bb.2 rfl⟩;show Ran P (Op.shift .shl k n k' m) w _ w E
    unfold Op.shift;rw[if_neg om];exact Ran.pure _
   ·cases h
  case shr=>
   split at h
   ·rename_i h0;obtain rfl:=AC h;refine⟨?_,Bb.2 rfl⟩;show Ran P (Op.shift .shr k n k' m) w _ w E
    unfold Op.shift;rw[if_neg om];exact Ran.pure _
   ·cases h
  all_goals
   split at h
   case isFalse=>cases h
   rename_i hk
   subst hk
   simp only[binOp,ne_eq,not_true_eq_false,Ab,Op.intArith,Op.intDiv,Op.intBits,Op.intCmp]
   first
    |(obtain rfl:=AC h
      first
       |exact⟨Ran.pure _,Bb.2 rfl⟩
       |exact⟨Ran.pure _,CQ.2 rfl⟩)
    |(split at h
      ·cases h
      ·rename_i h0;obtain rfl:=AC h;rw[if_neg h0];exact⟨Ran.pure _,Bb.2 rfl⟩)
    |cases h
 ·split at h
  ·cases hq:fF Γ t a b with
   |none=>rw[hq]at h;cases h
   |some r=>
    rw[hq]at h;obtain rfl:=AC h;obtain⟨h1,h2,h3,h4,h5⟩:=Hw (P:=P) (w:=w) (E:=E) hΓ hq ha hb (.inl rfl) x y;refine⟨Ran.bind h1 ?_,CQ.2 rfl⟩;rw[h4];exact Ran.bind h2 (Ran.pure _)
  ·cases hq:fF Γ t a b with
   |none=>rw[hq]at h;cases h
   |some r=>
    rw[hq]at h;obtain rfl:=AC h;obtain⟨h1,h2,h3,h4,h5⟩:=Hw (P:=P) (w:=w) (E:=E) hΓ hq ha hb (.inr rfl) x y;refine⟨Ran.bind h1 ?_,CQ.2 rfl⟩;rw[h5];exact Ran.bind h2 (Ran.pure _)
  ·cases h
end
section
variable{P:Program}{Γ:TypeId->Option TI}{t:TypeId}{w:World}{E:Event->Prop}{φ:Ph}{D:Nat->Prop}
theorem Ih (f:Int->Int->Int) (m2:Value->Value->Sem Value) (hm:∀k x k' y,m2 (.int k x) (.int k' y)=pure (.int k (f x y))):∀(n:Nat) (l l':List Value) (v:Value),l.length=n->Ii f l=some v->BZ φ D l l'->∃x r,l'=x::r/\Ran P (r.foldlM m2 x) w v w E/\vrel φ D v v
 |n,[],l',v,hn,h,hl=>by unfold Ii at h;cases h
 |n,[x],l',v,hn,h,hl=>by
  simp only[BZ]at hl;obtain⟨x',r',rfl,hx,rfl⟩:=hl;cases x<;>unfold Ii at h<;>cases h
  obtain rfl:=Bb.1 hx;exact⟨_,_,rfl,Ran.pure _,Bb.2 rfl⟩
 |n,x::y::l,l',v,hn,h,hl=>by
  simp only[BZ]at hl;obtain⟨x',r',rfl,hx,y',r2,rfl,hy,hl⟩:=hl;cases x<;>cases y<;>unfold Ii at h<;>first|cases h|skip
  rename_i k a k' b;obtain rfl:=Bb.1 hx;obtain rfl:=Bb.1 hy;obtain⟨z,r,e1,h1,h2⟩:=Ih f m2 hm (n - 1) (.int k (f a b)::l) (.int k (f a b)::r2) v (by simp at hn⊢;omega) h (by simp only[BZ];exact⟨_,_,rfl,Bb.2 rfl,hl⟩);obtain⟨rfl,rfl⟩:=List.cons.inj e1;refine⟨_,_,rfl,?_,h2⟩;rw[List.foldlM_cons,hm];exact Ran.bind (Ran.pure _) h1
termination_by n=>n
decreasing_by simp at hn;omega
theorem L8(hΓ:TOk P Γ){b:Builtin}{ts:Array TypeId}{ty:TypeId}{cs:Array Bool}{vs:List Value}{vs':Array Value}{v:Value}(h:Fh Γ b ts vs=some v)(hv:BZ φ D vs vs'.toList):Ran P (builtin b ts ty cs vs') w (.value v) w E/\vrel φ D v v:=by
 unfold Fh at h;split at h
 ·split at h;case h_2=>cases h
  rename_i t a n c r h0;split at h;case h_2=>cases h
  rename_i e hd;obtain⟨i,hi,hid⟩:=Br hd (by simp);obtain rfl:=AC h;simp only[BZ]at hv;obtain⟨x',r',he,hx,_⟩:=hv;obtain⟨a',c',rfl,_⟩:=Dw hx;have h1:vs'[0]? =some (.slice a' n c'):=by
   rw[<-Ae,he];rfl
  refine⟨?_,Bb.2 rfl⟩;unfold builtin Builtin.len_;simp only[h0,h1];exact Ran.bind (Ran.bind (hΓ.rD hi hid) (Ran.pure _)) (Ran.pure _)
 ·obtain⟨x,r,h1,h2,h3⟩:=Ih (P:=P) (w:=w) (E:=E) _ Builtin.min2 (fun k x k' y=>rfl) _ vs vs'.toList v rfl h hv;refine⟨?_,h3⟩;unfold builtin Builtin.min_;rw[h1];exact Ran.bind h2 (Ran.pure _)
 ·obtain⟨x,r,h1,h2,h3⟩:=Ih (P:=P) (w:=w) (E:=E) _ Builtin.max2 (fun k x k' y=>rfl) _ vs vs'.toList v rfl h hv;refine⟨?_,h3⟩;unfold builtin Builtin.max_;rw[h1];exact Ran.bind h2 (Ran.pure _)
 ·cases h
variable{ev':Operand->Value}
theorem Dg{ev:Operand->Value}:∀(l:List Operand),(∀x∈l,vrel φ D (ev x) (ev' x))->BZ φ D (l.map ev) (l.map ev')
 |[],_=>by simp only[List.map_nil,BZ]
 |x::l,h=>by
  simp only[List.map_cons,BZ];exact⟨_,_,rfl,h x (by simp),Dg l fun y hy=>h y (by simp[hy])⟩
theorem Nh{ev:Operand->Value}{a:Array Operand}(h:∀x∈a.toList,vrel φ D (ev x) (ev' x)):B3 φ D (a.map ev) (a.map ev'):=by
 rw[Bj,BG,BG];exact Dg _ h
theorem ME{ev:Operand->Value}{a:Option Operand}(h:∀x,a=some x->vrel φ D (ev x) (ev' x)):Ze φ D (a.map ev) (a.map ev'):=by
 cases a with
 |none=>rfl
 |some x=>exact⟨_,rfl,h x rfl⟩
def FOk(P:Program)(Γ:TypeId->Option TI):Prop:=∀t i fs,Γ t=some i->i.d= .struct fs->∀f∈fs.toList,∃x,P.info? f.type=some x
theorem XM(hΓ:TOk P Γ)(hF:FOk P Γ){o:Oper}{ev:Operand->Value}{v:Value}(h:GB Γ ev o.op=some v)(hv:∀x∈o.op.operands,vrel φ D (ev x) (ev' x)):
  ∃v',Ran P (execOp ev' o) w (.value v') w E/\vrel φ D v v':=by
 obtain⟨dst,op,type,pos,after,guard⟩:=o;dsimp only at h hv;have vv:∀{s:Sem Value} {x:Value},Ran P s w x w E->Ran P (do pure (Next.value (<-s))) w (.value x) w E:=fun h=>Ran.bind h (Ran.pure _)
 cases op
 case move x=>cases h;exact⟨_,Ran.pure _,hv x (by simp[Op.operands])⟩
 case assign x=>cases h;exact⟨_,Ran.pure _,hv x (by simp[Op.operands])⟩
 case pick c a b=>
  simp only[GB]at h
  have hc:=hv c (by simp[Op.operands])
  split at h
  ·rename_i q hq;cases h
   rw[hq]at hc;have e:=CQ.1 hc;refine⟨if q then ev' a else ev' b,?_,?_⟩
   ·unfold execOp;dsimp only;rw[e];exact Ran.bind (a:=q) (Ran.pure _) (Ran.pure _)
   ·cases q
    ·exact hv b (by simp[Op.operands])
    ·exact hv a (by simp[Op.operands])
  ·cases h
 case build t ps=>
  have hs:JI φ D (ps.toList.map fun p=>(p.1,ev p.2)) (ps.toList.map fun p=>(p.1,ev' p.2)):=KF _ fun p hp=>hv p.2 (by simp only[Op.operands];simp;exact⟨p.1,by simpa using hp⟩)
  obtain⟨v',h1,h2⟩:=O8 (P:=P) (w:=w) (E:=E) hΓ hF h hs
  refine⟨v',vv ?_,h2⟩
  have: (ps.map fun(i,x)=>(i,ev' x))=(ps.toList.map fun p=>(p.1,ev' p.2)).toArray:=by apply Array.ext';rw[BG]
  rw[this]
  exact h1
 case nilCheck x=>
  simp only[GB]at h
  have hx:=hv x (by simp[Op.operands])
  split at h
  ·rename_i a ha;cases h
   rw[ha]at hx⊢;obtain⟨_,_,e⟩:=HV.1 hx;refine⟨ev' x,?_,hx⟩;unfold execOp;dsimp only;rw[e];exact Ran.pure _
  ·rename_i f p q ha;cases h
   rw[ha]at hx⊢;refine⟨ev' x,?_,hx⟩;simp only[vrel,Dt]at hx;obtain⟨_,x',c',e,rfl,_⟩:=hx;unfold execOp;dsimp only;rw[e];exact Ran.pure _
  ·rename_i u y ha;cases h
   rw[ha]at hx⊢;refine⟨ev' x,?_,hx⟩;simp only[vrel]at hx;obtain⟨x',e,_⟩:=hx;unfold execOp;dsimp only;rw[e];exact Ran.pure _
  ·cases h
 case binOp op t x y yt=>
  obtain⟨h1,h2⟩:=Sd (P:=P) (w:=w) (E:=E) hΓ h (hv x (by simp[Op.operands])) (hv y (by simp[Op.operands])) x y
  exact⟨v,vv h1,h2⟩
 case unOp op t x=>
  obtain⟨h1,h2⟩:=XL (P:=P) (w:=w) (E:=E) h (hv x (by simp[Op.operands]))
  exact⟨v,vv h1,h2⟩
 case convert s d x=>
  simp only[GB]at h
  have hx:=hv x (by simp[Op.operands])
  split at h
  ·rename_i k1 k k2 n h1 h2 h3;cases h
   obtain⟨i,hi,hid⟩:=Br h1 (by simp);obtain⟨j,hj,hjd⟩:=Br h2 (by simp);rw[h3]at hx;have e:=Bb.1 hx;refine⟨_,vv ?_,Bb.2 rfl⟩;rw[e];exact Ran.bind (hΓ.rD hi hid) (Ran.bind (hΓ.rD hj hjd) (Ran.pure _))
  ·cases h
 case makeInterface t x=>
  simp only[GB]at h
  split at h
  ·cases h
  ·cases h
  ·rename_i hd1 hd2;cases h
   obtain⟨i,hi,hid⟩:=Br (Γ:=Γ) (t:=t) rfl (fun e=>hd2 e);refine⟨.iface t (ev' x),vv ?_,?_⟩
   ·unfold Instr.makeInterface;refine Ran.bind (hΓ.rD hi hid) ?_;split
    ·rename_i ms hms;exact absurd hms (hd1 ms)
    ·exact Ran.pure _
   ·simp only[vrel];exact⟨_,rfl,hv x (by simp[Op.operands])⟩
 case makeFunc g x c=>
  cases g<;>simp only[GB,AO,reduceCtorEq]at h
  subst h
  refine⟨_,vv (Ran.pure _),?_⟩
  simp only[vrel,Dt]
  exact⟨_,_,_,rfl,rfl,Nh fun y hy=>hv y (by simp only[Op.operands];simp at hy⊢;exact .inl hy),Nh fun y hy=>hv y (by simp only[Op.operands];simp at hy⊢;exact .inr hy)⟩
 case slice t x lo hi mx=>
  obtain⟨v',h1,h2⟩:=O5 (P:=P) (w:=w) (E:=E) hΓ h (hv x (by simp[Op.operands])) (ME (a:=lo) fun y hy=>hv y (by simp[Op.operands,hy])) (ME (a:=hi) fun y hy=>hv y (by simp[Op.operands,hy])) (ME (a:=mx) fun y hy=>hv y (by simp[Op.operands,hy]))
  exact⟨v',vv h1,h2⟩
 case fieldAddr t x f=>
  obtain⟨v',h1,h2⟩:=J9 (P:=P) (w:=w) (E:=E) hΓ h (hv x (by simp[Op.operands]))
  exact⟨v',vv h1,h2⟩
 case field t x f=>
  obtain⟨v',h1,h2⟩:=O7 (P:=P) (w:=w) (E:=E) hΓ h (hv x (by simp[Op.operands]))
  exact⟨v',vv h1,h2⟩
 case indexAddr t x i=>
  obtain⟨v',h1,h2⟩:=J8 (P:=P) (w:=w) (E:=E) hΓ h (hv x (by simp[Op.operands])) (hv i (by simp[Op.operands]))
  exact⟨v',vv h1,h2⟩
 case index t x i=>
  obtain⟨v',h1,h2⟩:=O6 (P:=P) (w:=w) (E:=E) hΓ h (hv x (by simp[Op.operands])) (hv i (by simp[Op.operands]))
  exact⟨v',vv h1,h2⟩
 case extract x i=>
  simp only[GB]at h
  have hx:=hv x (by simp[Op.operands])
  split at h
  ·rename_i vs hvs;rw[hvs]at hx;simp only[vrel]at hx;obtain⟨vs',e,h1⟩:=hx;obtain⟨v',h2,h3⟩:=((DF _ _).1 h1).2 i v h;refine⟨v',vv ?_,h3⟩;rw[e];unfold Instr.extract;simp only[h2];exact Ran.pure _
  ·cases h
 case call c=>
  obtain⟨callee,args,ats⟩:=c
  cases callee with
  |builtin b=>
   have h0:BZ φ D (args.toList.map ev) (args.map ev').toList:=by
    rw[BG];exact Dg _ fun y hy=>hv y (by simp only[Op.operands,Call.operands];simpa using hy)
   obtain⟨h1,h2⟩:=L8 (P:=P) (w:=w) (E:=E) (ty:=type) (cs:=args.map fun| .const _=>true|_=>false) hΓ h h0
   exact⟨v,Ran.bind (Ran.pure _) h1,h2⟩
  |value f=>simp[GB]at h
  |invoke r m=>simp[GB]at h
 all_goals(simp[GB]at h)
end
section
variable[RdC]
structure Mv(O:Nat->Prop)(w w':World):Prop where
 keep:∀b:Nat,b<w.heap.size->¬O b->w'.heap[b]? =w.heap[b]?
 size:w.heap.size<=w'.heap.size
 tape:w'.tape=w.tape
 os:w'.os=w.os
 output:w'.output=w.output
theorem Mv.refl(O:Nat->Prop)(w:World):Mv O w w:=⟨fun _ _ _=>rfl,AH _,rfl,rfl,rfl⟩
theorem Mv.at(O:Nat->Prop)(w:World)(d:Nat):Mv O w (w.at d):=⟨fun _ _ _=>rfl,AH _,rfl,rfl,rfl⟩
theorem Mv.moves{O:Nat->Prop}{w w':World}(h:Mv O w w'){es:Array Event}(he:∀e∈es,EvO (grow O w w') RD e):Moves O RD w w' es:=⟨h.keep,h.size,h.tape,h.os,h.output,he⟩
theorem B4(O:Nat->Prop)(w:World):grow O w w=O:=by
 funext b;exact propext ⟨fun h=>h.elim id fun h=>absurd h.1 (by have:=h.2;omega),.inl⟩
def Fw(P:Program)(s:Sem Next)(X:Nat->Option Obj)(O:Nat->Prop)(φ:Ph)(H:Hp)(w:World)(v:Value)(H':Hp):Prop:=
 ∃(n:Next) (v':Value) (φ':Ph) (w':World),(n= .value v'\/(n= .skip/\v'=undef))/\Ran P s w n w' (EvO (grow O w w') RD)/\Mv O w w'/\Gr φ H φ' H'/\Rel X (grow O w w') φ' H' w'/\vrel φ' (dom H') v v'
section
variable{P:Program}{Γ:TypeId->Option TI}{t:TypeId}{w w':World}{E:Event->Prop}{φ:Ph}{H:Hp}{X:Nat->Option Obj}{O:Nat->Prop}
theorem Fw.still {s:Sem Next} {v v':Value} (hr:Rel X O φ H w) (h:Ran P s w (.value v') w (EvO O RD)) (hv:vrel φ (dom H) v v'):Fw P s X O φ H w v H:=
 ⟨.value v',v',φ,w,.inl rfl,by rw[B4];exact h,Mv.refl _ _,Gr.refl _ _,by rw[B4];exact hr,hv⟩
theorem RQ{a:Addr}(h:O a.block)(wr:Bool):EvO O RD ⟨.cell a,wr,false⟩:=⟨.inl h,rfl⟩
theorem Mo{a:Addr}(h:Uni O RD a.block):EvO O RD ⟨.cell a,false,false⟩:=⟨h.imp id fun x=>⟨x,rfl⟩,rfl⟩
theorem Q9{a:Addr}{v:Value}(h:w.cell? a=some v)(hE:E ⟨.cell a,false,false⟩):Ran P (load a) w v w E:=by
 refine⟨by rw[run_load,h],fun e he=> ?_⟩;rw[events_load,h]at he;simp at he;rw[he];exact hE
theorem JO(a:Addr)(hE:∀n,E ⟨.cell (a.add n),false,false⟩):∀(l:List Value) (i:Nat) (acc:Array Value),(∀(j:Nat) v,l[j]? =some v->w.cell? (a.add (i+j))=some v)->Ran P (loadCellsFrom a i l.length acc) w (acc++l.toArray) w E
 |[],i,acc,h=>by
  have:acc++([]:List Value).toArray=acc:=by simp
  rw[this];exact Ran.pure _
 |v::l,i,acc,h=>by
  refine Ran.bind (Q9 (h 0 v rfl) (hE _)) ?_;have e:acc++(v::l).toArray=acc.push v++l.toArray:=by simp
  rw[e];refine JO a hE l (i+1) (acc.push v) fun j u hj=> ?_
  have:=h (j+1) u (by simpa using hj);rwa [show i+(j+1)=i+1+j from om]at this
variable{l:List Value}
theorem IV{a:Addr}(hE:∀n,E ⟨.cell (a.add n),false,false⟩)(h:∀(j:Nat) v,l[j]? =some v->w.cell? (a.add j)=some v):Ran P (loadCells a l.length) w l.toArray w E:=by
 have:=JO (P:=P) a hE l 0 #[] (fun j v hj=>by rw[AW];exact h j v hj);rwa [show(#[]:Array Value)++l.toArray=l.toArray by simp]at this
def ld(H:Hp)(p:Addr)(n:Nat):Option (List Value):=
 match H p.block with
 |some (.own c)|some (.ro c)=>if p.off+n<=c.length then some ((c.drop p.off).take n)else none
 |_=>none
variable{C:Array Value}
theorem iE{b o k:Nat}{e:TypeId}{z:Nat×Nat}(h:w.heap[b]? =some (.cells C e z)):w.cell? (Addr.add ⟨b,o,none⟩ k)=C[o+k]? :=by
 unfold World.cell? Addr.add;by_cases hk:k=0
 ·simp[hk,h]
 ·simp[hk,h]
theorem MN(hr:Rel X O φ H w){p:Addr}{n:Nat}(h:ld H p n=some l)(hs:p.spot=none):Uni O RD (φ.f p.block)/\∃l':List Value,l'.length=n/\BZ φ (dom H) l l'/\∀(j:Nat) v,l'[j]? =some v->w.cell? ((φ.ad p).add j)=some v:=by
 have key:∀(c:List Value) (C:Array Value) (e:TypeId) (z:Nat×Nat),w.heap[φ.f p.block]? =some (.cells C e z)->crel φ (dom H) (φ.sh p.block) c C->p.off+n<=c.length->l=(c.drop p.off).take n->∃l':List Value,l'.length=n/\BZ φ (dom H) l l'/\∀(j:Nat) v,l'[j]? =some v->w.cell? ((φ.ad p).add j)=some v:=by
  intro c C e z hw hc hl hll;have hC:∀j,j<n->∃v',C[p.off+φ.sh p.block+j]? =some v'/\∀v,l[j]? =some v->vrel φ (dom H) v v':=by
   intro j hj;have hlt:p.off+j<c.length:=om;obtain⟨v',h1,h2⟩:=hc (p.off+j) c[p.off+j] (AD hlt);refine⟨v',by rw[<-h1];congr 1;omega,fun v hv=> ?_⟩;rw[hll,List.getElem?_take,if_pos hj,List.getElem?_drop,AD hlt]at hv;rw[<-AC hv];exact h2
  refine⟨(List.range n).map fun j=>(C[p.off+φ.sh p.block+j]?).getD undef,by simp,(Bp _ _).2 ⟨by rw[hll];simp;omega,fun j v hv=> ?_⟩,fun j v hv=> ?_⟩
  ·have hj:j<n:=by
    have:=(Ah.1 hv).1;rw[hll]at this;simp at this;omega
   obtain⟨v',h1,h2⟩:=hC j hj;exact⟨v',by simp[hj,h1],h2 v hv⟩
  ·have hj:j<n:=by simpa using(Ah.1 hv).1
   obtain⟨v',h1,_⟩:=hC j hj;simp[hj,h1]at hv;subst hv;rw[show φ.ad p=⟨φ.f p.block,p.off+φ.sh p.block,none⟩from rfl,iE hw,h1]
 unfold ld at h;split at h
 ·rename_i c hc;split at h
  ·rename_i hl;obtain⟨h1,h2,o,h3,C,e,rfl,h4,h5,h6⟩:=hr.own _ _ hc rfl;exact⟨.inl h1,key c C e _ h3 h6 hl (AC h).symm⟩
  ·cases h
 ·rename_i c hc;split at h
  ·rename_i hl;obtain⟨C,e,z,h1,h2⟩:=hr.ro _ _ hc;obtain⟨h3,h4⟩:=hr.frame _ _ h1;exact⟨h3,key c C e z h4 h2 hl (AC h).symm⟩
  ·cases h
 ·cases h
theorem Z7{p:Addr}{n:Nat}(h:ld H p n=some l):l.length=n:=by
 unfold ld at h;split at h
 ·split at h
  ·obtain rfl:=AC h;simp;omega
  ·cases h
 ·split at h
  ·obtain rfl:=AC h;simp;omega
  ·cases h
 ·cases h
def PA(C:Array Value):Nat->List Value->Array Value
 |_,[]=>C
 |k,v::vs=>PA (C.setIfInBounds k v) (k+1) vs
theorem KE:∀(vs:List Value) (C:Array Value) (k:Nat),(PA C k vs).size=C.size
 |[],C,k=>rfl
 |v::vs,C,k=>by rw[PA,KE vs];simp
theorem L9:∀(vs:List Value) (C:Array Value) (k j:Nat),k+vs.length<=C.size->(PA C k vs)[j]? =if k<=j/\j<k+vs.length then vs[j - k]? else C[j]?
 |[],C,k,j,h=>by rw[PA,if_neg (by simp only[As];omega)]
 |v::vs,C,k,j,h=>by
  simp only[AY]at h⊢;rw[PA,L9 vs _ _ _ (by simp;omega),Array.getElem?_setIfInBounds];by_cases h1:k+1<=j/\j<k+1+vs.length
  ·rw[if_pos h1,if_pos om,show j - k=(j - (k+1))+1 from om];rfl
  ·rw[if_neg h1];by_cases h2:k=j
   ·subst h2;rw[if_pos rfl,if_pos om,if_pos om,Nat.sub_self];rfl
   ·rw[if_neg h2,if_neg om]
theorem Ou{b o:Nat}{e:TypeId}{z:Nat×Nat}(h:w.heap[b]? =some (.cells C e z))(v:Value)(i:Nat): (w.setCell ⟨b,o,none⟩ v).heap[i]? =if i=b then some (.cells (C.setIfInBounds o v) e z)else w.heap[i]? :=by
 unfold World.setCell;dsimp only;rw[Array.getElem?_modify];by_cases hi:b=i
 ·subst hi;rw[if_pos rfl,if_pos rfl,h];rfl
 ·rw[if_neg hi,if_neg (fun e=>hi e.symm)]
theorem Fc{b o:Nat}{e:TypeId}(hE:∀n,E ⟨.cell ⟨b,n,none⟩,true,false⟩):∀(vs:List Value) (i:Nat) (C:Array Value) (w:World),w.heap[b]? =some (.cells C e (0,0))->o+i+vs.length<=C.size->(∀v∈vs,v.oneCell'=true)->
  ∃w',Ran P (storeCells ⟨b,o,none⟩ vs i) w () w' E/\(∀j:Nat,w'.heap[j]? =if j=b then some (.cells (PA C (o+i) vs) e (0,0))else w.heap[j]?)/\w'.heap.size=w.heap.size/\w'.tape=w.tape/\w'.os=w.os/\w'.output=w.output/\w'.drawn=w.drawn
 |[],i,C,w,hw,hl,h1=>by
  refine⟨w,Ran.pure _,fun j=> ?_,rfl,rfl,rfl,rfl,rfl⟩;by_cases hj:j=b
  ·rw[if_pos hj,hj,hw];rfl
  ·rw[if_neg hj]
 |v::vs,i,C,w,hw,hl,h1=>by
  simp only[AY]at hl;have ha: (Addr.add ⟨b,o,none⟩ i)=⟨b,o+i,none⟩:=by
   unfold Addr.add;by_cases hi:i=0<;>simp[hi]
  have hc:w.cell? ⟨b,o+i,none⟩=some (C[o+i]' om):=by
   unfold World.cell?;simp only[hw,Option.isSome_none,AP,Ab];rw[AK]
  have hf:w.frozen? ⟨b,o+i,none⟩=false:=by
   unfold World.frozen?;simp only[hw];simp
  have hst:Ran P (store ⟨b,o+i,none⟩ v) w () (w.setCell ⟨b,o+i,none⟩ v) E:=by
   have hv:=h1 v (by simp);refine⟨?_,fun x hx=> ?_⟩
   ·rw[run_store _ _ _ _ _ hv,hc];simp[hf]
   ·rw[events_store _ _ _ _ _ _ hv]at hx;simp[hc,hf]at hx;rw[hx];exact hE _
  have hw1:=Ou (o:=o+i) hw v;obtain⟨w',k1,k2,k3,k4,k5,k6,k7⟩:=Fc (o:=o) hE vs (i+1) (C.setIfInBounds (o+i) v) (w.setCell ⟨b,o+i,none⟩ v) (by rw[hw1 b,if_pos rfl]) (by simp;omega) (fun u hu=>h1 u (by simp[hu]));refine⟨w',?_,fun j=> ?_,?_,k4,k5,k6,k7⟩
  ·unfold storeCells;rw[ha];exact Ran.bind hst k1
  ·rw[k2 j,show o+(i+1)=o+i+1 from om];by_cases hj:j=b
   ·rw[if_pos hj,if_pos hj];rfl
   ·rw[if_neg hj,if_neg hj,hw1 j,if_neg hj]
  ·rw[k3];unfold World.setCell;simp
end
end
section
variable[RdC]
def Kz(H:Hp)(δ:List (Nat×AB)):Hp:=δ.foldl (fun H x=>upd H x.1 (some x.2)) H
def fI(a:Nat):Value:= .pointer (some ⟨a,0,none⟩)
def EC(Γ:TypeId->Option TI)(H:Hp)(t:TypeId)(v:Value):Option Value:=
 match Γ t,v with
 |some i,.pointer (some p)=>if aggD i.d then(ld H p i.size).map fun l=> .agg ⟨l⟩else
  match ld H p 1 with
  |some [v]=>some v
  |_=>none
 |_,_=>none
def Cz(c:List Value)(k:Nat)(vs:List Value):List Value:=c.take k++vs++c.drop (k+vs.length)
def P5(H:Hp)(p:Addr)(vs:List Value):Option AB:=
 match H p.block with
 |some (.own c)=>if p.off+vs.length<=c.length then some (.own (Cz c p.off vs))else none
 |_=>none
def GY(z:Array Value)(n:Nat):List Value:=(List.range n).map fun j=>z[j%z.size]!
section
variable{P:Program}{Γ:TypeId->Option TI}{t:TypeId}{w w':World}{E:Event->Prop}{φ:Ph}{H:Hp}{X:Nat->Option Obj}{O:Nat->Prop}
theorem DJ {s:Sem Value} {v:Value} (h:Ran P s w v w' E):Ran P (do pure (Next.value (<-s))) w (.value v) w' E:=Ran.bind h (Ran.pure _)
theorem SI{s:Sem Unit}(h:Ran P s w () w' E):Ran P (do s;pure Next.skip) w .skip w' E:=Ran.bind h (Ran.pure _)
variable{x x':Value}
theorem Kk(hΓ:TOk P Γ)(hr:Rel X O φ H w){v:Value}(h:EC Γ H t x=some v)(hx:vrel φ (dom H) x x'):∃v',Ran P (Instr.loadAt t x') w v' w (EvO O RD)/\vrel φ (dom H) v v':=by
 unfold EC at h;split at h;case h_2=>cases h
 rename_i i p hi;obtain⟨h1,h2,rfl⟩:=HV.1 hx;split at h
 ·rename_i ha;cases hl:ld H p i.size with
  |none=>rw[hl]at h;cases h
  |some l=>
   rw[hl]at h;obtain rfl:=AC h;obtain⟨k1,l',k2,k3,k4⟩:=MN hr hl h2;refine⟨.agg ⟨l'⟩,?_,Dh.2 ⟨_,rfl,by simp only[B3];exact k3⟩⟩;unfold Instr.loadAt;refine Ran.bind (a:=φ.ad p) (Ran.pure _) ?_;unfold loadVar;refine Ran.bind (hΓ.rAgg hi) ?_;rw[if_pos ha];refine Ran.bind (hΓ.rSize hi) ?_;rw[<-k2];exact Ran.bind (IV (fun n=>Mo (by rw[Et];exact k1)) k4) (Ran.pure _)
 ·rename_i ha;split at h
  ·rename_i u hl;obtain rfl:=AC h;obtain⟨k1,l',k2,k3,k4⟩:=MN hr hl h2;simp only[BZ]at k3;obtain⟨v',r',rfl,k5,_⟩:=k3;have k6:=k4 0 v' rfl;rw[show(φ.ad p).add 0=φ.ad p from rfl]at k6;refine⟨v',?_,k5⟩;unfold Instr.loadAt;refine Ran.bind (a:=φ.ad p) (Ran.pure _) ?_;unfold loadVar;refine Ran.bind (hΓ.rAgg hi) ?_;rw[if_neg ha];exact Q9 k6 (Mo k1)
  ·cases h
theorem SO(c vs:List Value)(k j:Nat)(h:k+vs.length<=c.length): (Cz c k vs)[j]? =if k<=j/\j<k+vs.length then vs[j - k]? else c[j]? :=by
 unfold Cz;by_cases h1:j<k
 ·rw[if_neg om,List.append_assoc,Ac (by simp;omega),List.getElem?_take,if_pos h1]
 ·by_cases h2:j<k+vs.length
  ·rw[if_pos om,List.append_assoc,Ad (by simp;omega),Ac (by simp;omega)];congr 1;simp;omega
  ·rw[if_neg om,Ad (by simp;omega),List.getElem?_drop];congr 1;simp;omega
theorem SN(c vs:List Value)(k:Nat)(h:k+vs.length<=c.length): (Cz c k vs).length=c.length:=by unfold Cz;simp;omega
theorem QE{D:Nat->Prop}{v v':Value}(h:vrel φ D v v'):v'.oneCell'=v.oneCell':=by
 cases v with
 |agg cs=>obtain⟨_,rfl,_⟩:=Dh.1 h;rfl
 |pointer a=>obtain⟨_,rfl,_⟩:=HU h;rfl
 |slice a n c=>obtain⟨_,_,rfl,_⟩:=Dw h;rfl
 |map r=>cases r<;>simp only[vrel]at h<;>first|(obtain⟨_,rfl⟩:=h;rfl)|(subst h;rfl)
 |chan r=>cases r<;>simp only[vrel]at h<;>first|(obtain⟨_,rfl⟩:=h;rfl)|(subst h;rfl)
 |func g x c=>simp only[vrel]at h;obtain⟨_,_,_,rfl,_⟩:=h;rfl
 |iface u x=>simp only[vrel]at h;obtain⟨_,rfl,_⟩:=h;rfl
 |tuple u=>simp only[vrel]at h;obtain⟨_,rfl,_⟩:=h;rfl
 |_=>simp only[vrel]at h;subst h;rfl
theorem Jx(hr:Rel X O φ H w){p:Addr}{vs vs':List Value}{b:AB}(h:P5 H p vs=some b)(hs:p.spot=none)(hv:BZ φ (dom H) vs vs')(h1:∀v∈vs,v.oneCell'=true):
  ∃w',Ran P (storeCells (φ.ad p) vs') w () w' (EvO O RD)/\Mv O w w'/\grow O w w'=O/\Rel X O φ (upd H p.block (some b)) w'/\Gr φ H φ (upd H p.block (some b)):=by
 unfold P5 at h;split at h;case h_2=>cases h
 rename_i c hc;split at h;case isFalse=>cases h
 rename_i hl;obtain rfl:=AC h;obtain⟨ho,hX,o,hw,C,e,rfl,h4,h5,h6⟩:=hr.own _ _ hc rfl;obtain⟨hlen,hpt⟩:=(Bp _ _).1 hv;have h1':∀v∈vs',v.oneCell'=true:=by
  intro v hm;obtain⟨i,hi⟩:=List.mem_iff_getElem?.1 hm;have hlt:i<vs.length:=by rw[<-hlen];exact(Ah.1 hi).1
  obtain⟨v2,k1,k2⟩:=hpt i vs[i] (AD hlt);rw[hi]at k1;obtain rfl:=AC k1;rw[QE k2];exact h1 _ (AM _)
 obtain⟨w',k1,k2,k3,k4,k5,k6,k7⟩:=Fc (P:=P) (E:=EvO O RD) (b:=φ.f p.block) (o:=p.off+φ.sh p.block) (e:=e) (fun n=>RQ ho _) vs' 0 C w hw (by rw[hlen];omega) h1';have hg:grow O w w'=O:=by
  funext b;refine propext ⟨fun h=>h.elim id fun h=> ?_,.inl⟩;have h8:=h.1;have h9:=h.2;omega
 have hset:=Rel.set hr hc (y:= .own (Cz c p.off vs)) rfl rfl (o:= .cells (PA C (p.off+φ.sh p.block+0) vs') e (0,0)) k2 ⟨_,e,rfl,by rw[KE];exact h4,by rw[SN _ _ _ hl];exact h5,fun i v hi=> ?_⟩
 ·refine⟨w',k1,⟨fun b hb hO=> ?_,om,k4,k5,k6⟩,hg,hset.1,hset.2⟩;rw[k2,if_neg (show¬b=φ.f p.block from fun e=>hO (e▸ho))]
 ·have gm:∀u u',vrel φ (dom H) u u'->vrel φ (dom (upd H p.block (some (.own (Cz c p.off vs))))) u u':=fun u u' hu=>CB (fun a ha=>⟨Bx ha,Bs φ a⟩) _ _ hu
  rw[SO _ _ _ _ hl]at hi;rw[L9 _ _ _ _ (by rw[hlen];omega),hlen];split at hi
  ·rename_i hj;rw[if_pos om];obtain⟨v',q1,q2⟩:=hpt _ _ hi;refine⟨v',?_,gm _ _ q2⟩;rw[<-q1];congr 1;omega
  ·rename_i hj;rw[if_neg om];obtain⟨v',q1,q2⟩:=h6 i v hi;exact⟨v',q1,gm _ _ q2⟩
theorem FV(hr:Rel X O φ H w){a:Nat}(ha:H a=none){c:List Value}{C:Array Value}(e:TypeId)(hc:BZ φ (dom H) c C.toList):
  ∃w',Ran P (newRow e C) w ⟨w.heap.size,0,none⟩ w' (EvO (grow O w w') RD)/\Mv O w w'/\Gr φ H (φ.put a w.heap.size 0 C.size) (upd H a (some (.own c)))/\Rel X (grow O w w') (φ.put a w.heap.size 0 C.size) (upd H a (some (.own c))) w':=by
 have hg:Gr φ H (φ.put a w.heap.size 0 C.size) (upd H a (some (.own c))):=fun b hb=>⟨Bx hb,EK (fun e=>hb (e▸ha))⟩
 obtain⟨hlen,hpt⟩:=(Bp _ _).1 hc;simp only[Array.length_toList]at hlen;have hn:=Rel.new hr ha (x:= .own c) rfl (o:= .cells C e (0,0)) (s:=0) (z:=C.size) (w':={w with heap:=w.heap.push (.cells C e (0,0))}) (O':=grow O w {w with heap:=w.heap.push (.cells C e (0,0))}) rfl (.inr ⟨AH _,by simp⟩) (fun b hb=> .inl hb) ⟨C,e,rfl,by rw[show(φ.put a w.heap.size 0 C.size).sh a=0 from BU ..,show(φ.put a w.heap.size 0 C.size).sz a=C.size from BU ..];omega,by rw[show(φ.put a w.heap.size 0 C.size).sz a=C.size from BU ..];omega,fun i v hi=>by
   obtain⟨v',k1,k2⟩:=hpt i v hi;refine⟨v',?_,CB hg _ _ k2⟩;rw[show(φ.put a w.heap.size 0 C.size).sh a=0 from BU ..,AW];simpa using k1⟩
 refine⟨_,⟨rfl,fun e he=> ?_⟩,⟨fun b hb hO=> ?_,by simp,rfl,rfl,rfl⟩,hg,hn.1⟩
 ·simp[newRow]at he
 ·show(w.heap.push _)[b]? =_
  rw[Array.getElem?_push_lt hb,AK hb]
theorem Uw{a:Nat}{x:AB}{b s z:Nat}(hs:s=0):vrel (φ.put a b s z) (dom (upd H a (some x))) (fI a) (.pointer (some ⟨b,0,none⟩)):=by
 unfold fI;rw[HV];refine⟨C9,rfl,?_⟩;subst hs;unfold Ph.ad;rw[show(φ.put a b 0 z).f a=b from BU ..,show(φ.put a b 0 z).sh a=0 from BU ..]
theorem Rq(hΓ:TOk P Γ)(hr:Rel X O φ H w){a:Nat}(ha:H a=none){i:TI}(hi:Γ t=some i):Fw P (do pure (Next.value (<-Instr.alloc t true (.tuple #[])))) X O φ H w (fI a) (upd H a (some (.own i.zero.cells.toList))):=by
 have hz:=(hΓ.zero t i hi).1;obtain⟨w',k1,k2,k3,k4⟩:=FV (P:=P) hr ha (c:=i.zero.cells.toList) (C:=i.zero.cells) t (Bj.1 (Ic (E6 hz)));refine⟨_,_,_,w',.inl rfl,DJ ?_,k2,k3,k4,Uw rfl⟩;unfold Instr.alloc;refine Ran.bind (hΓ.rZero hi) ?_;exact Ran.bind k1 (Ran.pure _)
theorem Xv(hr:Rel X O φ H w){a:Nat}(ha:H a=none)(hx:vrel φ (dom H) x x'):Fw P (do pure (Next.value (<-Instr.box t x'))) X O φ H w (fI a) (upd H a (some (.own x.cells.toList))):=by
 obtain⟨w',k1,k2,k3,k4⟩:=FV (P:=P) hr ha (c:=x.cells.toList) (C:=x'.cells) t (Bj.1 (HT hx));exact⟨_,_,_,w',.inl rfl,DJ (Ran.bind k1 (Ran.pure _)),k2,k3,k4,Uw rfl⟩
theorem QZ(hΓ:TOk P Γ)(hr:Rel X O φ H w){i:TI}(hi:Γ t=some i){p:Addr}{y y':Value}(hx:vrel φ (dom H) (.pointer (some p)) x')(hy:vrel φ (dom H) y y')(hsz:y.cells.size=i.size)(h1:∀v∈y.cells.toList,v.oneCell'=true){b:AB}(h:P5 H p y.cells.toList=some b):
  Fw P (do Instr.storeAt t x' y';pure Next.skip) X O φ H w undef (upd H p.block (some b)):=by
 obtain⟨d1,d2,rfl⟩:=HV.1 hx;have hc:=HT hy;obtain⟨w',k1,k2,k3,k4,k5⟩:=Jx (P:=P) hr h d2 (Bj.1 hc) h1;refine⟨.skip,undef,φ,w',.inr ⟨rfl,rfl⟩,SI ?_,k2,k5,by rw[k3];exact k4,(Bi _ _ Cu).2 rfl⟩;rw[k3];unfold Instr.storeAt;refine Ran.bind (a:=φ.ad p) (Ran.pure _) ?_;unfold storeVar;refine Ran.bind (hΓ.rSize hi) ?_;rw[if_neg (by rw[((DF _ _).1 hc).1,hsz];exact fun e=>e rfl)];exact k1
end
end
section
variable[RdC]
def Fz(Γ:TypeId->Option TI)(a:Nat)(t:TypeId)(l c:Value):Option (Value×List (Nat×AB)):=
 match Iv Γ t,l,c with
 | .slice e,.int _ l,.int _ c=>match Γ e with
  |some q=>if 0<=l/\l<=c/\c<9223372036854775808/\c*q.bytes<=281474976710656 then some (.slice (some ⟨a,0,none⟩) l.toNat c.toNat,[(a,.own (GY q.zero.cells (c.toNat*q.size)))])else none
  |none=>none
 |_,_,_=>none
def D0(Γ:TypeId->Option TI)(a:Nat)(t:TypeId)(n:Nat)(ps:List (Nat×Value)):Option (Value×List (Nat×AB)):=
 match Iv Γ t with
 | .slice e=>match Γ e with
  |some q=>if n*q.size<=16777216/\n<CJ then
    match Instr.fill (fun k=>some (k*q.size,q.size)) ⟨GY q.zero.cells (n*q.size)⟩ ps with
    |some cells=>some (.slice (some ⟨a,0,none⟩) n n,[(a,.own cells.toList)])
    |none=>none
   else none
  |none=>none
 |_=>none
def K5(H:Hp)(a:Nat)(q:TI)(s:Value)(k:Nat)(xs:List Value):Option (Value×List (Nat×AB)):=
 match s with
 | .slice base n c=>
  if k=0 then(if c<CJ/\c<n then none else some (.slice base n c,[]))
  else if c<CJ/\n+k<=c then match base with
   |some p=>(P5 H (p.add (n*q.size)) xs).map fun b=>(.slice base (n+k) c,[(p.block,b)])
   |none=>none
  else if(2*(n+k)+1000)*q.bytes<=281474976710656/\n+k<4611686018427387904/\q.size≠0 then
   if n=0/\c<CJ then some (.slice (some ⟨a,0,none⟩) k (CJ+q.size),[(a,.own xs)])
   else match base with
   |some p=>match ld H p (n*q.size)with
    |some old=>
     if c<CJ then some (.slice (some ⟨a,0,none⟩) (n+k) (CJ+q.size),[(a,.own (old++xs))])
     else if c=CJ+q.size/\c<i5 then match H p.block with
      |some (.own _)=>some (.slice (some ⟨a,0,none⟩) (n+k) (CJ+q.size),[(a,.own (old++xs)),(p.block,.dead)])
      |_=>none
     else none
    |none=>none
   |none=>none
  else none
 |_=>none
def ER(H:Hp)(s k:Nat):Value->Option (List Value)
 | .slice a n _=>if k=0 then some []else match a with
  |some p=>if k<=n then ld H p (k*s)else none
  |none=>none
 |_=>none
theorem Hr(H:Hp)(s:Nat)(a:Option Addr)(n c:Nat):ER H s 0 (.slice a n c)=some []:=by simp[ER]
theorem Ns(H:Hp)(s k:Nat)(p:Addr)(n c:Nat)(h0:k≠0)(h:k<=n):ER H s k (.slice (some p) n c)=ld H p (k*s):=by simp[ER,h0,h]
section
variable{P:Program}{Γ:TypeId->Option TI}{t:TypeId}{w w':World}{E:Event->Prop}{φ:Ph}{H:Hp}{X:Nat->Option Obj}{O:Nat->Prop}
theorem Jy {n:Int} (h:0<=n) (k:n<9223372036854775808):IntKind.wrap .i64 n=n:=by
 have e:n%(2^IntKind.bits .i64:Int)=n:=Int.emod_eq_of_lt h (by show n<2^64;omega);unfold IntKind.wrap;dsimp only;rw[e,if_neg];simp only[IntKind.signed,Bool.true_and,BE];show¬(n >= 2^63)
 omega
theorem Ky(b:Nat):Ran P (askRoom b) w () w (EvO O RD):=by
 unfold askRoom;split
 ·refine⟨rfl,fun e he=> ?_⟩;rw[events_mark]at he;simp at he;rw[he];rfl
 ·exact Ran.pure _
theorem Kp:∀(l:List Value),plainVl l=true->∀v∈l,plainV v=true
 |[],_,v,h=>by cases h
 |x::l,h,v,hv=>by
  simp only[plainVl,AA]at h;rcases AV.1 hv with rfl|hv
  ·exact h.1
  ·exact Kp l h.2 v hv
theorem MC:∀(l:List Value),(∀v∈l,plainV v=true)->plainVl l=true
 |[],_=>rfl
 |x::l,h=>by simp only[plainVl,h x (by simp),MC l fun v hv=>h v (by simp[hv]),Bool.and_true]
theorem Ki{z:Array Value}(h:C1 z=true){n:Nat}(hz:n≠0->z.size≠0):plainVl (GY z n)=true:=by
 obtain⟨l⟩:=z;simp only[C1]at h;refine MC _ fun v hv=> ?_
 unfold GY at hv;obtain⟨j,hj,rfl⟩:=List.mem_map.1 hv;have h0:=hz (by have:=An.1 hj;omega);have hlt:j%l.length<l.length:=Nat.mod_lt _ (by simp at h0;exact Nat.pos_of_ne_zero (by simpa using h0));refine Kp l h _ ?_;simp only[Ay,List.getElem!_toArray];rw[getElem!_pos l _ hlt];exact AM _
theorem Nu(z:Array Value)(n:Nat): ((Array.range n).map (z[· %z.size]!)).toList=GY z n:=by
 rw[BG,Array.toList_range];rfl
theorem P8(hΓ:TOk P Γ){i:TI}(hi:Γ t=some i)(n:Nat):∃z:Array Value,(∀(E:Event->Prop) (k:Array Value->Sem Value) (v:Value) (w':World),Ran P (k z) w v w' E->Ran P (if n=0 then(pure #[]>>=k)else(zeroValue t>>=fun x=>pure x.cells>>=k)) w v w' E)/\((Array.range n).map (z[· %z.size]!)).toList=GY i.zero.cells n:=by
 by_cases h:n=0
 ·refine⟨#[],fun E k v w' hk=>by rw[if_pos h];exact Ran.bind (Ran.pure _) hk,?_⟩;rw[h,Nu];rfl
 ·exact⟨i.zero.cells,fun E k v w' hk=>by rw[if_neg h];exact Ran.bind (hΓ.rZero hi) (Ran.bind (Ran.pure _) hk),Nu _ _⟩
theorem QA(hΓ:TOk P Γ)(hr:Rel X O φ H w){a:Nat}(ha:H a=none){l c l' c' v:Value}{δ:List (Nat×AB)}(h:Fz Γ a t l c=some (v,δ))(hl:vrel φ (dom H) l l')(hc:vrel φ (dom H) c c'):Fw P (do pure (Next.value (<-Instr.makeSlice t l' c'))) X O φ H w v (Kz H δ):=by
 unfold Fz at h;split at h;case h_2=>cases h
 rename_i e k1 l k2 c hd;obtain⟨i,hi,hid⟩:=Br hd (by simp);obtain rfl:=Bb.1 hl;obtain rfl:=Bb.1 hc;split at h;case h_2=>cases h
 rename_i q hq;split at h;case isFalse=>cases h
 rename_i hcond;obtain⟨c1,c2,c3,c4⟩:=hcond;cases h
 obtain⟨x,hx,hxb⟩:=hΓ.rInfo (P:=P) (w:=w) (E:=EvO O RD) hq;obtain⟨z,hz1,hz2⟩:=P8 (P:=P) (w:=w) hΓ hq (c.toNat*q.size);have hz:=hΓ.zero e q hq;have hpl:plainVl (GY q.zero.cells (c.toNat*q.size))=true:=Ki (E6 hz.1) (fun h0=>by rw[hz.2];intro e0;rw[e0]at h0;simp at h0);obtain⟨w',n1,n2,n3,n4⟩:=FV (P:=P) hr ha (c:=GY q.zero.cells (c.toNat*q.size)) (C:=(Array.range (c.toNat*q.size)).map (z[· %z.size]!)) e (by rw[hz2];exact(E4 _ _ hpl).2 rfl);have up:∀x,EvO O RD x->EvO (grow O w w') RD x:=fun x hx=>by
  obtain⟨loc,wr,sy⟩:=x;cases loc with
  |cell ad=>exact⟨hx.1.imp .inl id,hx.2⟩
  |obj b=>exact⟨.inl hx.1,hx.2⟩
  |_=>exact hx
 refine⟨_,.slice (some ⟨w.heap.size,0,none⟩) l.toNat c.toNat,_,w',.inl rfl,DJ ?_,n2,n3,n4,?_⟩
 ·unfold Instr.makeSlice;refine Ran.bind (hΓ.rD hi hid) ?_;dsimp only;refine Ran.bind (Kb k1 l) (Ran.bind (Kb k2 c) (Ran.bind (hx.mono up) ?_));rw[Jy c1 om,Jy om c3,hxb];have e1: (decide (c<0)||decide ((q.bytes:Int)*c>2^48))=false:=by
   have:¬((q.bytes:Int)*c>2^48):=by
    rw[Int.mul_comm];have h48: (2:Int)^48=281474976710656:=dZ;omega
   simp only[this,decide_false,Bool.or_false,decide_eq_false_iff_not];omega
  simp only[e1,Bool.false_or];rw[if_neg (by simp;omega)];refine Ran.bind (Ran.mono (Ky (O:=O) _) up) ?_;refine Ran.bind (hΓ.rSize hq) ?_;exact hz1 _ (fun zero=>newRow e ((Array.range (c.toNat*q.size)).map (zero[· %zero.size]!))>>=fun a=>pure (Value.slice (some a) l.toNat c.toNat)) _ _ (Ran.bind n1 (Ran.pure _))
 ·show vrel _ _ (.slice (some ⟨a,0,none⟩) l.toNat c.toNat) _
  rw[Cj];refine⟨C9,rfl,⟨w.heap.size,0,none⟩,c.toNat,rfl,rfl,.inl ?_,om,fun _=>rfl,fun h1=> ?_⟩
  ·unfold Ph.ad;rw[show(φ.put a w.heap.size 0 _).f a=w.heap.size from BU ..,show(φ.put a w.heap.size 0 _).sh a=0 from BU ..]
  ·unfold CJ at h1;omega
end
end
section
variable[RdC]
section
variable{P:Program}{Γ:TypeId->Option TI}{t:TypeId}{w w':World}{E:Event->Prop}{φ:Ph}{H:Hp}{X:Nat->Option Obj}{O:Nat->Prop}
theorem RP {w w':World} {x:Event} (hx:EvO O RD x):EvO (grow O w w') RD x:=by
 obtain⟨loc,wr,sy⟩:=x;cases loc with
 |cell ad=>exact⟨hx.1.imp .inl id,hx.2⟩
 |obj b=>exact⟨.inl hx.1,hx.2⟩
 |_=>exact hx
theorem Nn{a b z n c:Nat}{x:AB}{c':Nat}(hn:n<=c')(hc:Rb (φ.put a b 0 z) ⟨a,0,none⟩ c c'):vrel (φ.put a b 0 z) (dom (upd H a (some x))) (.slice (some ⟨a,0,none⟩) n c) (.slice (some ⟨b,0,none⟩) n c'):=by
 rw[Cj];refine⟨C9,rfl,⟨b,0,none⟩,c',rfl,rfl,.inl ?_,hn,hc⟩;unfold Ph.ad;rw[show(φ.put a b 0 z).f a=b from BU ..,show(φ.put a b 0 z).sh a=0 from BU ..]
theorem Og(hΓ:TOk P Γ)(hr:Rel X O φ H w){a:Nat}(ha:H a=none){n:Nat}{ps ps':List (Nat×Value)}{v:Value}{δ:List (Nat×AB)}(h:D0 Γ a t n ps=some (v,δ))(hs:JI φ (dom H) ps ps'):Fw P (do pure (Next.value (<-Instr.buildSlice t n ps'.toArray))) X O φ H w v (Kz H δ):=by
 unfold D0 at h;split at h;case h_2=>cases h
 rename_i e hd;obtain⟨i,hi,hid⟩:=Br hd (by simp);split at h;case h_2=>cases h
 rename_i q hq;split at h;case isFalse=>cases h
 rename_i hsz;split at h;case h_2=>cases h
 rename_i cells hf;cases h
 obtain⟨z,hz1,hz2⟩:=P8 (P:=P) (w:=w) hΓ hq (n*q.size);have hz:=hΓ.zero e q hq;have hpl:plainVl (GY q.zero.cells (n*q.size))=true:=Ki (E6 hz.1) (fun h0=>by rw[hz.2];intro e0;rw[e0]at h0;simp at h0);obtain⟨cells',hf',hc⟩:=Jc (φ:=φ) (D:=dom H) (pl':=fun k=>some (k*q.size,q.size)) (fun k p hk=>hk) ps ps' _ ((Array.range (n*q.size)).map (z[· %z.size]!)) cells hs (by rw[Bj,hz2];exact(E4 _ _ hpl).2 rfl) hf;obtain⟨w',n1,n2,n3,n4⟩:=FV (P:=P) hr ha (c:=cells.toList) (C:=cells') e (Bj.1 hc);refine⟨_,.slice (some ⟨w.heap.size,0,none⟩) n n,_,w',.inl rfl,DJ ?_,n2,n3,n4,?_⟩
 ·unfold Instr.buildSlice;refine Ran.bind (hΓ.rD hi hid) ?_;dsimp only;refine Ran.bind (hΓ.rSize hq) ?_;rw[if_neg om];refine hz1 _ (fun zero=>match Instr.fill (fun i=>some (i*q.size,q.size)) ((Array.range (n*q.size)).map (zero[· %zero.size]!)) ps'.toArray.toList with
   |some cells=>(do pure (.slice (some (<-newRow e cells)) n n))
   |_=>stuck "buildSlice: a part of the wrong size") _ _ ?_
  simp only[hf'];exact Ran.bind n1 (Ran.pure _)
 ·exact Nn (AH _) ⟨fun _=>rfl,fun h1=>by have:=hsz.2;omega⟩
theorem Fe(hr:Rel X O φ H w){s k:Nat}{x x':Value}{l:List Value}(h:ER H s k x=some l)(hx:vrel φ (dom H) x x'):∃l':List Value,Ran P (Builtin.firstCells s k x') w l'.toArray w (EvO O RD)/\BZ φ (dom H) l l':=by
 unfold ER at h;split at h;case h_2=>cases h
 rename_i a n c;split at h
 ·rename_i hk;cases h
  refine⟨[],?_,by simp only[BZ]⟩;subst hk;obtain⟨a',c',rfl,_⟩:=Dw hx;cases a' with
  |none=>exact Ran.pure _
  |some a'=>
   show Ran P (loadCells a' (0*s)) w _ w _
   rw[Nat.zero_mul];exact Ran.pure _
 ·rename_i hk;split at h;case h_2=>cases h
  rename_i p;split at h;case isFalse=>cases h
  rename_i hkn;obtain⟨d1,d2,a',c',rfl,d3,d4,d5,d6⟩:=Cj.1 hx;have:a'=φ.ad p:=d4.resolve_right om;subst this;obtain⟨k1,l',k2,k3,k4⟩:=MN hr h d2;refine⟨l',?_,k3⟩;show Ran P (loadCells (φ.ad p) (k*s)) w _ w _
  rw[<-k2];exact IV (fun n=>Mo (by rw[Et];exact k1)) k4
theorem OE(n:Nat):∀(r c:Nat),Builtin.growBy n r c<=max c (n+(n+768)/4)
 |0,c=>by unfold Builtin.growBy;omega
 |r+1,c=>by
  unfold Builtin.growBy;split
  ·omega
  ·have:=OE n r (c+(c+768)/4);omega
theorem Sm{n c:Nat}(h:c<n):Builtin.nextslicecap n c<=2*n+1000:=by
 unfold Builtin.nextslicecap;split
 ·omega
 ·split
  ·omega
  ·have:=OE n 4 c;omega
theorem cS(hr:Rel X O φ H w){b:Nat}(hb:dom H b):Rel X O φ (upd H b (some .dead)) w/\Gr φ H φ (upd H b (some .dead)):=by
 have hg:Gr φ H φ (upd H b (some .dead)):=fun c hc=>⟨Bx hc,Bs φ c⟩
 have key:∀c y,upd H b (some .dead) c=some y->y≠ .dead->H c=some y:=fun c y hy hd=>by
  by_cases e:c=b
  ·rw[e,BU]at hy;exact absurd (AC hy).symm hd
  ·rwa [upd_ne e]at hy
 refine⟨⟨Jb hr.fin b _,hr.frame,fun c y hy hm=> ?_,fun c y hy=> ?_,fun c d y z hy hz hm hm2 e=> ?_⟩,hg⟩
 ·have h1:=key c y hy (fun e=>by rw[e]at hm;cases hm);obtain⟨k1,k2,o,k3,k4⟩:=hr.own c y h1 hm;exact⟨k1,k2,o,k3,DH hg (by unfold dom;rw[h1];exact fun e=>by cases e) k4⟩
 ·obtain⟨C,q,z,k1,k2⟩:=hr.ro c y (key c _ hy (fun e=>by cases e));exact⟨C,q,z,k1,DG hg k2⟩
 ·exact hr.inj c d y z (key c y hy (fun e=>by rw[e]at hm;cases hm)) (key d z hz (fun e=>by rw[e]at hm2;cases hm2)) hm hm2 e
theorem Rel.move(hr:Rel X O φ H w){a b:Nat}{x y:AB}(ha:H a=none)(hb:H b=some x)(hx:x.mine=true)(hy:y.mine=true){o:Obj}{s z:Nat}(hw:∀c:Nat,w'.heap[c]? =if c=φ.f b then some o else w.heap[c]?)
  (hbr:brel (φ.put a (φ.f b) s z) (dom (upd (upd H a (some y)) b (some .dead))) a y o):Rel X O (φ.put a (φ.f b) s z) (upd (upd H a (some y)) b (some .dead)) w'/\Gr φ H (φ.put a (φ.f b) s z) (upd (upd H a (some y)) b (some .dead)):=by
 have hab:a≠b:=fun e=>by rw[e,hb]at ha;cases ha
 have hg:Gr φ H (φ.put a (φ.f b) s z) (upd (upd H a (some y)) b (some .dead)):=fun c hc=>⟨Bx (Bx hc),EK (fun e=>hc (e▸ha))⟩
 obtain⟨ho,hX,q,hq,_⟩:=hr.own b x hb hx;have fa: (φ.put a (φ.f b) s z).f a=φ.f b:=BU ..;have fne:∀c,c≠a->(φ.put a (φ.f b) s z).f c=φ.f c:=fun c hc=>upd_ne hc
 have key:∀c u,upd (upd H a (some y)) b (some .dead) c=some u->u≠ .dead->(c=a/\u=y)\/(c≠a/\c≠b/\H c=some u):=fun c u hu hd=>by
  by_cases e:c=b
  ·rw[e,BU]at hu;exact absurd (AC hu).symm hd
  ·rw[upd_ne e]at hu;by_cases e2:c=a
   ·rw[e2,BU]at hu;exact .inl ⟨e2,(AC hu).symm⟩
   ·rw[upd_ne e2]at hu;exact .inr ⟨e2,e,hu⟩
 have nd:∀u:AB,u.mine=true->u≠ .dead:=fun u hm e=>by rw[e]at hm;cases hm
 refine⟨⟨Jb (Jb hr.fin a y) b _,fun c u hu=> ?_,fun c u hu hm=> ?_,fun c u hu=> ?_,fun c d u v hu hv hm hm2 e=> ?_⟩,hg⟩
 ·obtain⟨h1,h2⟩:=hr.frame c u hu;rw[hw,if_neg (show¬c=φ.f b from fun e=>by rw[e,hX]at hu;cases hu)];exact⟨h1,h2⟩
 ·rcases key c u hu (nd u hm)with⟨rfl,rfl⟩|⟨h1,h2,h3⟩
  ·rw[fa];exact⟨ho,hX,o,by rw[hw,if_pos rfl],hbr⟩
  ·rw[fne c h1];obtain⟨k1,k2,p,k3,k4⟩:=hr.own c u h3 hm;refine⟨k1,k2,p,?_,DH hg (by unfold dom;rw[h3];exact fun e=>by cases e) k4⟩;rw[hw,if_neg (show¬φ.f c=φ.f b from fun e=>h2 (hr.inj c b u x h3 hb hm hx e))];exact k3
 ·rcases key c _ hu (fun e=>by cases e)with⟨rfl,h1⟩|⟨h1,h2,h3⟩
  ·rw[<-h1]at hy;cases hy
  ·obtain⟨C,q,z,k1,k2⟩:=hr.ro c u h3;exact⟨C,q,z,by rw[fne c h1];exact k1,by rw[show(φ.put a (φ.f b) s _).sh c=φ.sh c from upd_ne h1];exact DG hg k2⟩
 ·rcases key c u hu (nd u hm)with⟨rfl,rfl⟩|⟨h1,h2,h3⟩<;>rcases key d v hv (nd v hm2)with⟨rfl,rfl⟩|⟨g1,g2,g3⟩
  ·rfl
  ·rw[fa,fne d g1]at e;exact absurd (hr.inj d b v x g3 hb hm2 hx e.symm) g2
  ·rw[fa,fne c h1]at e;exact absurd (hr.inj c b u x h3 hb hm hx e) h2
  ·rw[fne c h1,fne d g1]at e;exact hr.inj c d u v h3 g3 hm hm2 e
end
end
section
variable[RdC]
section
variable{P:Program}{Γ:TypeId->Option TI}{t:TypeId}{w w':World}{E:Event->Prop}{φ:Ph}{H:Hp}{X:Nat->Option Obj}{O:Nat->Prop}
variable{x x':Value}
theorem Ff {s k:Nat}  {l:List Value} (h:ER H s k x=some l):l.length=k*s:=by
 unfold ER at h;split at h;case h_2=>cases h
 split at h
 ·rename_i hk;cases h;simp[hk]
 ·split at h;case h_2=>cases h
  split at h;case isFalse=>cases h
  exact Z7 h
theorem Jm(hΓ:TOk P Γ){i q:TI}{e:TypeId}(hi:Γ t=some i)(hid:i.d= .slice e)(hq:Γ e=some q){ty:TypeId}{base:Option Addr}{n c:Nat}{k:Nat}(hk:Builtin.lenOf x'=pure k)(hle:n+k<=c){new:List Value}(h1:Ran P (Builtin.firstCells q.size k x') w new.toArray w E)
  (h2:match base with|some a=>Ran P (storeCells (a.add (n*q.size)) new) w () w' E|none=>w'=w):Ran P (Builtin.append_ #[t,t] ty #[.slice base n c,x']) w (.slice base (n+k) c) w' E:=by
 unfold Builtin.append_;simp only[List.getElem?_toArray,AX,Am];refine Ran.bind (hΓ.rD hi hid) ?_;dsimp only;refine Ran.bind (hΓ.rSize hq) ?_;refine Ran.bind (hΓ.rD hi hid) ?_;refine Ran.bind (Ran.pure _) ?_;simp only[AP,Ab,Bool.not_false,Ag,hk,false_or];refine Ran.bind (Ran.pure _) ?_;rw[if_pos hle];refine Ran.bind h1 ?_;cases base with
 |none=>subst h2;exact Ran.pure _
 |some a=>exact Ran.bind h2 (Ran.pure _)
theorem cI(hΓ:TOk P Γ)(hr:Rel X O φ H w){i q:TI}{e:TypeId}(hi:Γ t=some i)(hid:i.d= .slice e)(hq:Γ e=some q){ty:TypeId}{base:Option Addr}{n c:Nat}{k:Nat}(hk:Builtin.lenOf x'=pure k)(hgt:c<n+k)(hb: (2*(n+k)+1000)*q.bytes<=281474976710656)(hb2:n+k<4611686018427387904)
  {s:Value}{lo lx:List Value}(hs:vrel φ (dom H) s (.slice base n c))(hlo:ER H q.size n s=some lo)(hx:vrel φ (dom H) x x')(hlx:ER H q.size k x=some lx){a:Nat}(ha:H a=none):
  ∃cap w',n+k<=cap/\Ran P (Builtin.append_ #[t,t] ty #[.slice base n c,x']) w (.slice (some ⟨w.heap.size,0,none⟩) (n+k) cap) w' (EvO (grow O w w') RD)/\Mv O w w'/\Gr φ H (φ.put a w.heap.size 0 (cap*q.size)) (upd H a (some (.own (lo++lx))))/\Rel X (grow O w w') (φ.put a w.heap.size 0 (cap*q.size)) (upd H a (some (.own (lo++lx)))) w':=by
 obtain⟨cap,d,hc1,hc2⟩:=Ran.choose (P:=P) (w:=w) (E:=EvO O RD) (.appendCap (n+k) c e);have hcap:n+k<=cap:=by
  have:cap=(n+k)+w.tape w.drawn (.appendCap (n+k) c e)%(2^63 - (n+k)):=by rw[hc2,if_neg (by simp[Question.forced])];rfl
  omega
 have hr2:Rel X O φ H (w.at d):=hr.sameHeap rfl;have hz:=hΓ.zero e q hq;obtain⟨old,h0,hold⟩:=Fe (P:=P) hr2 hlo hs;obtain⟨new,h1,hnew⟩:=Fe (P:=P) hr2 hlx hx;have l0:old.length=n*q.size:=by rw[<-Ff hlo];exact((Bp _ _).1 hold).1
 have l1:new.length=k*q.size:=by rw[<-Ff hlx];exact((Bp _ _).1 hnew).1
 have g0:=Ff hlo;have g1:=Ff hlx;let C:Array Value:=old.toArray++new.toArray++Builtin.zeroCells q.zero.cells (cap - (n+k))
 have hC:C.size=cap*q.size:=by
  show(old.toArray++new.toArray++Builtin.zeroCells q.zero.cells (cap - (n+k))).size=_
  simp only[Array.size_append,Ay,Builtin.zeroCells,Array.size_map,Array.size_range,hz.2,l0,l1];rw[<-Nat.add_mul,<-Nat.add_mul];congr 1;omega
 have hrow:∃w',Ran P (newRow e C) (w.at d) ⟨w.heap.size,0,none⟩ w' (EvO (grow O w w') RD)/\Mv O w w'/\Gr φ H (φ.put a w.heap.size 0 C.size) (upd H a (some (.own (lo++lx))))/\Rel X (grow O w w') (φ.put a w.heap.size 0 C.size) (upd H a (some (.own (lo++lx)))) w':=by
  have hg:Gr φ H (φ.put a w.heap.size 0 C.size) (upd H a (some (.own (lo++lx)))):=fun b hb=>⟨Bx hb,EK (fun e=>hb (e▸ha))⟩
  have hn:=Rel.new hr2 ha (x:= .own (lo++lx)) rfl (o:= .cells C e (0,0)) (s:=0) (z:=C.size) (w':={w.at d with heap:=w.heap.push (.cells C e (0,0))}) (O':=grow O w {w.at d with heap:=w.heap.push (.cells C e (0,0))}) rfl (.inr ⟨AH _,by simp[World.at]⟩) (fun b hb=> .inl hb) ⟨C,e,rfl,by rw[show(φ.put a (w.at d).heap.size 0 C.size).sh a=0 from BU ..,show(φ.put a (w.at d).heap.size 0 C.size).sz a=C.size from BU ..];omega,by
    rw[show(φ.put a (w.at d).heap.size 0 C.size).sz a=C.size from BU ..,hC,AN,g0,g1,<-Nat.add_mul];exact Nat.mul_le_mul_right _ hcap,fun j v hj=>by
    rw[show(φ.put a (w.at d).heap.size 0 C.size).sh a=0 from BU ..,AW];have hoe:BZ φ (dom H) (lo++lx) (old++new):=by
     rw[Bp];refine⟨by rw[AN,AN,l0,l1,g0,g1],fun j v hj=> ?_⟩;by_cases hlt:j<lo.length
     ·rw[Ac hlt]at hj;rw[Ac om];exact((Bp _ _).1 hold).2 j v hj
     ·rw[Ad om]at hj;rw[Ad om,show j - old.length=j - lo.length from om];exact((Bp _ _).1 hnew).2 _ v hj
    obtain⟨v',k1,k2⟩:=((Bp _ _).1 hoe).2 j v hj;refine⟨v',?_,CB hg _ _ k2⟩;have hlt:j<(old++new).length:=(Ah.1 k1).1;show(old.toArray++new.toArray++Builtin.zeroCells q.zero.cells (cap - (n+k)))[j]? =_
    rw[BK (by simpa using hlt)];simpa using k1⟩
  refine⟨{w.at d with heap:=w.heap.push (.cells C e (0,0))},⟨rfl,fun e he=> ?_⟩,⟨fun b hb hO=> ?_,by simp[World.at],rfl,rfl,rfl⟩,hg,hn.1⟩
  ·simp[newRow]at he
  ·show(w.heap.push _)[b]? =_
   rw[Array.getElem?_push_lt hb,AK hb]
 obtain⟨w',n1,n2,n3,n4⟩:=hrow;refine⟨cap,w',hcap,?_,n2,by rw[<-hC];exact n3,by rw[<-hC];exact n4⟩;have up:∀x,EvO O RD x->EvO (grow O w w') RD x:=fun x hx=>RP hx
 have info:∀u:World,∃y,Ran P (typeInfo e) u y u (EvO (grow O w w') RD)/\y.bytes=q.bytes:=fun u=>hΓ.rInfo hq
 obtain⟨y,hy,hyb⟩:=info w;obtain⟨z,hz1,hzb⟩:=info (w.at d);unfold Builtin.append_;simp only[List.getElem?_toArray,AX,Am];refine Ran.bind (hΓ.rD hi hid) ?_;dsimp only;refine Ran.bind (hΓ.rSize hq) ?_;refine Ran.bind (hΓ.rD hi hid) ?_;refine Ran.bind (Ran.pure _) ?_;simp only[AP,Ab,Bool.not_false,Ag,hk,false_or];refine Ran.bind (Ran.pure _) ?_;rw[if_neg om];refine Ran.bind hy ?_;have e1:¬(((n+k:Nat):Int)>IntKind.i64.max/\y.bytes=0):=by
  have:IntKind.i64.max=9223372036854775807:=dZ;rw[this];omega
 rw[if_neg e1];refine Ran.bind hy ?_;have e2:¬(Builtin.nextslicecap (n+k) c*y.bytes>2^48):=by
  have h1:=Nat.mul_le_mul_right q.bytes (Sm hgt);rw[hyb];have: (2:Nat)^48=281474976710656:=dZ;omega
 rw[if_neg e2];refine Ran.bind (hc1.mono up) (Ran.bind hz1 (Ran.bind ((Ky (O:=O) _).mono up) ?_));exact Ran.bind (h0.mono up) (Ran.bind (h1.mono up) (Ran.bind (hΓ.rZero hq) (Ran.bind n1 (Ran.pure _))))
theorem SD(hΓ:TOk P Γ)(hr:Rel X O φ H w){i q:TI}{e:TypeId}(hi:Γ t=some i)(hid:i.d= .slice e)(hq:Γ e=some q){ty:TypeId}{s s' v:Value}{k:Nat}{xs:List Value}{δ:List (Nat×AB)}{a:Nat}(ha:H a=none)(h:K5 H a q s k xs=some (v,δ))(hs:vrel φ (dom H) s s')(hx:vrel φ (dom H) x x')(hk:Builtin.lenOf x'=pure k)(hxs:ER H q.size k x=some xs)(h1:∀v∈xs,v.oneCell'=true):
  Fw P (do pure (Next.value (<-Builtin.append_ #[t,t] ty #[s',x']))) X O φ H w v (Kz H δ):=by
 unfold K5 at h;split at h;case h_2=>cases h
 rename_i base n c;obtain⟨l',hf,hl'⟩:=Fe (P:=P) hr hxs hx;have hlx:=Ff hxs;have hll:l'.length=k*q.size:=by rw[<-hlx];exact((Bp _ _).1 hl').1
 split at h
 ·rename_i hk0;subst hk0;split at h
  ·cases h
  cases h
  have:l'=[]:=by cases l' with|nil=>rfl|cons u r=>simp at hll
  subst this;cases base with
  |none=>
   have hs0:=hs;simp only[vrel]at hs;obtain⟨rfl,rfl,rfl⟩:=hs;exact Fw.still hr (DJ (Jm hΓ hi hid hq hk (AH _) hf rfl)) hs0
  |some p=>
   obtain⟨d1,d2,a',c',rfl,d3,d4,d5,d6⟩:=Cj.1 hs;exact Fw.still hr (DJ (Jm hΓ hi hid hq hk d5 hf (Ran.pure _))) hs
 rename_i hk0;split at h
 ·rename_i hc;split at h;case h_2=>cases h
  rename_i p;obtain⟨d1,d2,a',c',rfl,d3,d4,d5,d6⟩:=Cj.1 hs;have hcc:=d6.1 hc.1;subst hcc;have:a'=φ.ad p:=d4.resolve_right om;subst this;cases hw:P5 H (p.add (n*q.size)) xs with
  |none=>rw[hw]at h;cases h
  |some b=>
   rw[hw]at h;cases h
   obtain⟨w',k1,k2,k3,k4,k5⟩:=Jx (P:=P) hr hw (Gm _ d2) hl' h1;rw[Et]at k4 k5;refine⟨_,.slice (some (φ.ad p)) (n+k) c',φ,w',.inl rfl,DJ (Jm hΓ hi hid hq hk hc.2 (by rw[k3];exact hf) ?_),k2,k5,by rw[k3];exact k4,?_⟩
   ·show Ran P (storeCells ((φ.ad p).add (n*q.size)) l') w () w' _
    rw[k3,Pq φ _ d2];exact k1
   ·rw[Cj];exact⟨(k5 _ d1).1,d2,φ.ad p,c',rfl,d3,.inl rfl,hc.2,fun _=>rfl,d6.2⟩
 rename_i hc;split at h;case isFalse=>cases h
 rename_i hb;obtain⟨b1,b2,b3⟩:=hb;have grow:∀(s':Value) (base':Option Addr) (c':Nat),s'= .slice base' n c'->vrel φ (dom H) (.slice base n c) s'->c'<n+k->∀{lo:List Value},ER H q.size n (.slice base n c)=some lo->Fw P (do pure (Next.value (<-Builtin.append_ #[t,t] ty #[s',x']))) X O φ H w (.slice (some ⟨a,0,none⟩) (n+k) (CJ+q.size)) (upd H a (some (.own (lo++xs)))):=by
  intro s' base' c' e hs hlt lo hlo;subst e;obtain⟨cap,w',g1,g2,g3,g4,g5⟩:=cI (P:=P) (ty:=ty) hΓ hr hi hid hq hk hlt b1 b2 hs hlo hx hxs ha;refine⟨_,_,_,w',.inl rfl,DJ g2,g3,g4,g5,Nn g1 ⟨fun h=>by unfold CJ at h;omega,fun _ _=> ?_⟩⟩;rw[show(φ.put a w.heap.size 0 (cap*q.size)).sz a=cap*q.size from BU ..,Nat.add_sub_cancel_left];show 0+_<=_
  omega
 split at h
 ·rename_i hn;obtain⟨rfl,hcu⟩:=hn;cases h
  obtain⟨base',c',e,hcc⟩:∃base' c',s'= .slice base' 0 c'/\c'=c:=by
   cases base with
   |none=>
    simp only[vrel]at hs;exact⟨none,0,by rw[hs.2.2],hs.2.1.symm⟩
   |some p=>
    obtain⟨d1,d2,a',c',rfl,d3,d4,d5,d6⟩:=Cj.1 hs;exact⟨_,_,rfl,d6.1 hcu⟩
  have:=grow s' base' c' e hs om (lo:=[]) (Hr ..);rw[AW]at this;exact this
 rename_i hn;split at h;case h_2=>cases h
 rename_i p;obtain⟨d1,d2,a',c',rfl,d3,d4,d5,d6⟩:=Cj.1 hs;split at h;case h_2=>cases h
 rename_i old hold;have hlo:ER H q.size n (.slice (some p) n c)=some old:=by
  by_cases h0:n=0
  ·subst h0;have:=Z7 hold;rw[Nat.zero_mul]at this;rw[List.length_eq_zero_iff.1 this];exact Hr ..
  ·rw[Ns _ _ _ _ _ _ h0 (AH _)];exact hold
 split at h
 ·rename_i hcu;cases h
  exact grow _ _ c' rfl hs (by rw[d6.1 hcu];omega) hlo
 rename_i hcu;split at h;case isFalse=>cases h
 rename_i hce;split at h;case h_2=>cases h
 rename_i c0 hc0;cases h
 by_cases hlt:c'<n+k
 ·obtain⟨nx,v',φ',w',g1,g2,g3,g4,g5,g6⟩:=grow _ _ c' rfl hs hlt hlo;obtain⟨kl,kg⟩:=cS g5 (b:=p.block) (Bx d1);refine⟨nx,v',φ',w',g1,g2,g3,g4.trans kg,kl,CB kg _ _ g6⟩
 ·have:a'=φ.ad p:=d4.resolve_right om;subst this;have hcap:p.off+c'*q.size<=φ.sz p.block:=by
   have:=d6.2 om hce.2;rwa [hce.1,Nat.add_sub_cancel_left]at this
  obtain⟨ho,hX,o,hw,C,et,rfl,h4,h5,h6⟩:=hr.own _ _ hc0 rfl;have hnk: (n+k)*q.size<=c'*q.size:=Nat.mul_le_mul_right _ om;rw[Nat.add_mul]at hnk;have hoX:∀v∈l',v.oneCell'=true:=by
   intro v hm;obtain⟨j,hj⟩:=List.mem_iff_getElem?.1 hm;have hjl:j<xs.length:=by rw[hlx,<-hll];exact(Ah.1 hj).1
   obtain⟨v2,k1,k2⟩:=((Bp _ _).1 hl').2 j xs[j] (AD hjl);rw[hj]at k1;obtain rfl:=AC k1;rw[QE k2];exact h1 _ (AM _)
  obtain⟨w',k1,k2,k3,k4,k5,k6,k7⟩:=Fc (P:=P) (E:=EvO O RD) (b:=φ.f p.block) (o:=p.off+φ.sh p.block+n*q.size) (e:=et) (fun n=>RQ ho _) l' 0 C w hw (by rw[hll];omega) hoX;have hgr:Go.Proofs.YtjlallgaadmeaaaGreatDoor.grow O w w'=O:=by
   funext b;refine propext ⟨fun h=>h.elim id fun h=> ?_,.inl⟩;have h8:=h.1;have h9:=h.2;omega
  have hoff:p.off<=φ.sz p.block:=om;have hmv:=Rel.move hr ha hc0 (y:= .own (old++xs)) rfl rfl (o:= .cells (PA C (p.off+φ.sh p.block+n*q.size+0) l') et (0,0)) (s:=p.off+φ.sh p.block) (z:=φ.sz p.block - p.off) k2 ⟨_,et,rfl,by
    rw[KE,show(φ.put a (φ.f p.block) (p.off+φ.sh p.block) (φ.sz p.block - p.off)).sh a=p.off+φ.sh p.block from BU ..,show(φ.put a (φ.f p.block) (p.off+φ.sh p.block) (φ.sz p.block - p.off)).sz a=φ.sz p.block - p.off from BU ..];omega,by
    rw[show(φ.put a (φ.f p.block) (p.off+φ.sh p.block) (φ.sz p.block - p.off)).sz a=φ.sz p.block - p.off from BU ..,AN,Ff hlo,hlx];omega,fun j v hj=>by
    rw[show(φ.put a (φ.f p.block) (p.off+φ.sh p.block) (φ.sz p.block - p.off)).sh a=p.off+φ.sh p.block from BU ..];have gm:∀u u',vrel φ (dom H) u u'->vrel (φ.put a (φ.f p.block) (p.off+φ.sh p.block) (φ.sz p.block - p.off)) (dom (upd (upd H a (some (.own (old++xs)))) p.block (some .dead))) u u':=fun u u' hu=>CB (fun b hb=>⟨Bx (Bx hb),EK (fun e=>hb (e▸ha))⟩) _ _ hu
    have gl:=Ff hlo;rw[L9 _ _ _ _ (by rw[hll];omega),hll];by_cases hjl:j<old.length
    ·rw[if_neg om];rw[Ac hjl]at hj;have:c0[p.off+j]? =some v:=by
      unfold ld at hold;rw[hc0]at hold;dsimp only at hold;split at hold
      ·obtain rfl:=AC hold;rw[List.getElem?_take]at hj;split at hj
       ·rwa [List.getElem?_drop]at hj
       ·cases hj
      ·cases hold
     obtain⟨v',q1,q2⟩:=h6 _ _ this;exact⟨v',by rw[<-q1];congr 1;omega,gm _ _ q2⟩
    ·rw[Ad om]at hj;have hj2:j - old.length<xs.length:=(Ah.1 hj).1;rw[if_pos om];obtain⟨v',q1,q2⟩:=((Bp _ _).1 hl').2 _ _ hj;exact⟨v',by rw[<-q1];congr 1;omega,gm _ _ q2⟩⟩
  refine⟨_,.slice (some (φ.ad p)) (n+k) c',_,w',.inl rfl,DJ (Jm hΓ hi hid hq hk om (by rw[hgr];exact hf) ?_),⟨fun b hb hO=> ?_,om,k4,k5,k6⟩,hmv.2,by rw[hgr];exact hmv.1,?_⟩
  ·show Ran P (storeCells ((φ.ad p).add (n*q.size)) l') w () w' _
   rw[hgr];have: (φ.ad p).add (n*q.size)=⟨φ.f p.block,p.off+φ.sh p.block+n*q.size,none⟩:=by
    unfold Ph.ad Addr.add;by_cases h0:n*q.size=0<;>simp[h0]
   rw[this];exact k1
  ·rw[k2,if_neg (show¬b=φ.f p.block from fun e=>hO (e▸ho))]
  ·rw[Cj];refine⟨Bx C9,rfl,φ.ad p,c',rfl,d3,.inl ?_,om,fun h=>by unfold CJ at h;omega,fun _ _=> ?_⟩
   ·unfold Ph.ad;rw[show(φ.put a (φ.f p.block) (p.off+φ.sh p.block) (φ.sz p.block - p.off)).f a=φ.f p.block from BU ..,show(φ.put a (φ.f p.block) (p.off+φ.sh p.block) (φ.sz p.block - p.off)).sh a=p.off+φ.sh p.block from BU ..];show _=(⟨_,0+_,none⟩:Addr)
    rw[AW]
   ·rw[show(φ.put a (φ.f p.block) (p.off+φ.sh p.block) (φ.sz p.block - p.off)).sz a=φ.sz p.block - p.off from BU ..,Nat.add_sub_cancel_left];show 0+_<=_
    omega
end
end
section
variable[RdC]
def Ng(H:Hp)(q:TI)(d s:Value):Option (Value×List (Nat×AB)):=
 match d,s with
 | .slice db dn _,.slice sb sn sc=>
  if min sn dn=0 then some (.int .i64 0,[])else
  match ER H q.size (min sn dn) (.slice sb sn sc),db with
  |some xs,some p=>if xs.all (·.oneCell')then(P5 H p xs).map fun b=>(.int .i64 (min sn dn:Nat),[(p.block,b)])else none
  |_,_=>none
 |_,_=>none
def mj(Γ:TypeId->Option TI)(kt:TypeId)(a b:Value):Option Bool:=
 match Iv Γ kt,a,b with
 | .int _,.int k x,.int k' y=>if k=k' then some (x==y)else none
 | .struct _,_,_=>fF Γ kt a b
 |_,_,_=>none
def Cy(Γ:TypeId->Option TI)(kt:TypeId)(k:Value):List MapEntry->Nat->Option (Option (Nat×Value))
 |[],_=>some none
 |e::es,i=>match mj Γ kt k e.key with
  |some true=>some (some (i,e.val))
  |some false=>Cy Γ kt k es (i+1)
  |none=>none
def P6(Γ:TypeId->Option TI)(kt:TypeId)(k:Value):Bool:=
 match Iv Γ kt,k with
 | .int _,.int .. =>true
 | .struct _,.agg cs=>(Γ kt).any (·.eq)&&cs.toList.all MS&&(Γ kt).map (·.size)==some cs.size
 |_,_=>false
def F0(Γ:TypeId->Option TI)(H:Hp)(t:TypeId)(m k:Value)(ok:Bool):Option Value:=
 match Iv Γ t with
 | .map kt et=>if P6 Γ kt k then
   match m with
   | .map none=>(Γ et).map fun q=>if ok then .tuple #[q.zero,.bool false]else q.zero
   | .map (some r)=>match H r with
    |some (.mp es _)=>match Cy Γ kt k es 0,Γ et with
     |some (some (_,v)),some _=>some (if ok then .tuple #[v,.bool true]else v)
     |some none,some q=>some (if ok then .tuple #[q.zero,.bool false]else q.zero)
     |_,_=>none
    |_=>none
   |_=>none
  else none
 |_=>none
def HS(Γ:TypeId->Option TI)(H:Hp)(t:TypeId)(m k v:Value):Option (List (Nat×AB)):=
 match Iv Γ t,m with
 | .map kt _,.map (some r)=>if P6 Γ kt k then
   match H r with
   |some (.mp es n)=>match Cy Γ kt k es 0 with
    |some (some (i,_))=>some [(r,.mp (es.modify i fun e=>{e with key:=k,val:=v}) n)]
    |some none=>some [(r,.mp (es++[{key:=k,val:=v,born:=n}]) (n+1))]
    |none=>none
   |_=>none
  else none
 |_,_=>none
section
variable{P:Program}{Γ:TypeId->Option TI}{t:TypeId}{w w':World}{E:Event->Prop}{φ:Ph}{D:Nat->Prop}{H:Hp}{X:Nat->Option Obj}{O:Nat->Prop}
theorem QC (hΓ:TOk P Γ) (hr:Rel X O φ H w) {i q:TI} {e u ty:TypeId} (hi:Γ t=some i) (hid:i.d= .slice e) (hq:Γ e=some q) {d d' s s' v:Value} {δ:List (Nat×AB)} (h:Ng H q d s=some (v,δ)) (hd:vrel φ (dom H) d d') (hs:vrel φ (dom H) s s'):
  Fw P (do pure (Next.value (<-Builtin.copy_ #[t,u] ty #[d',s']))) X O φ H w v (Kz H δ):=by
 unfold Ng at h;split at h;case h_2=>cases h
 rename_i db dn dc sb sn sc;obtain⟨db',dc',rfl,hdb⟩:=Dw hd;obtain⟨sb',sc',rfl,hsb⟩:=Dw hs;have start:∀{w':World} {l':List Value},Ran P (Builtin.firstCells q.size (min sn dn) (.slice sb' sn sc')) w l'.toArray w (EvO O RD)->(match db' with|some a=>Ran P (storeCells a l') w () w' (EvO O RD)|none=>w'=w)->Ran P (Builtin.copy_ #[t,u] ty #[.slice db' dn dc',.slice sb' sn sc']) w (.int .i64 (min sn dn:Nat)) w' (EvO O RD):=by
  intro w' l' h1 h2;unfold Builtin.copy_;simp only[List.getElem?_toArray,AX,Am];refine Ran.bind (hΓ.rD hi hid) ?_;dsimp only;refine Ran.bind (a:=sn) (Ran.pure _) ?_;refine Ran.bind (hΓ.rSize hq) ?_;refine Ran.bind h1 ?_;cases db' with
  |none=>subst h2;exact Ran.pure _
  |some a=>exact Ran.bind h2 (Ran.pure _)
 split at h
 ·rename_i h0;cases h
  obtain⟨l',k1,k2⟩:=Fe (P:=P) hr (Hr H q.size sb sn sc) hs;simp only[BZ]at k2;subst k2;refine Fw.still hr (DJ ?_) (Bb.2 rfl);have:=start (w':=w) (l':=[]) (by rw[h0];exact k1) (by cases db' with|none=>rfl|some a=>exact Ran.pure _);rw[h0]at this;exact this
 ·rename_i h0;split at h;case h_2=>cases h
  rename_i xs p hxs;split at h;case isFalse=>cases h
  rename_i h1;cases hw:P5 H p xs with
  |none=>rw[hw]at h;cases h
  |some b=>
   rw[hw]at h;cases h
   obtain⟨l',k1,k2⟩:=Fe (P:=P) hr hxs hs;obtain⟨d1,d2,a',c',e1,d3,d4,d5,d6⟩:=Cj.1 hd;cases e1
   have:a'=φ.ad p:=d4.resolve_right om;subst this;obtain⟨w',q1,q2,q3,q4,q5⟩:=Jx (P:=P) hr hw d2 k2 (fun v hv=>AS.1 h1 v hv);refine⟨_,_,φ,w',.inl rfl,DJ ?_,q2,q5,by rw[q3];exact q4,Bb.2 rfl⟩;rw[q3];exact start k1 q1
theorem OG{α:Type}(body:α->PUnit->Sem (ForInStep PUnit)):∀(l:List α),(∀x∈l,Ran P (body x ⟨⟩) w (.yield ⟨⟩) w E)->Ran P (forIn l PUnit.unit body) w ⟨⟩ w E
 |[],_=>by rw[List.forIn_nil];exact Ran.pure _
 |x::l,h=>by
  rw[List.forIn_cons];exact Ran.bind (h x (by simp)) (OG body l fun y hy=>h y (by simp[hy]))
theorem ZY{k:IntKind}(hP:P.underlying t=some (.int k)){cs:Array Value}{o:Nat}{v:Value}(h:cs[o]? =some v):Ran P (part t cs o) w v w E:=by
 unfold part;refine Ran.bind (a:=false) (w1:=w) ?_ ?_
 ·unfold isAgg;exact Ran.bind (Ran.underlying hP) (Ran.pure _)
 ·simp only[AP,Ab,h];exact Ran.pure _
variable{k:Value}
theorem HB(hΓ:TOk P Γ){kt:TypeId}(h:P6 Γ kt k=true)(em:Bool)(n:Nat):Ran P (Instr.checkKey em (n+2) kt k) w () w E:=by
 unfold P6 at h;split at h
 ·rename_i j kk x hd;obtain⟨i,hi,hid⟩:=Br hd (by simp);unfold Instr.checkKey;exact Ran.bind (hΓ.rD hi hid) (Ran.pure _)
 ·rename_i fs cs hd;obtain⟨i,hi,hid⟩:=Br hd (by simp);simp only[AA,beq_iff_eq]at h;obtain⟨⟨h1,h2⟩,h3⟩:=h;rw[hi]at h1 h3;simp only[Option.any_some]at h1;simp only[AU,AO]at h3;obtain⟨e1,e2,e3,e4,e5⟩:=hΓ.eq kt i hi h1;have hfs:P.fieldsOf kt=fs:=by
   have:=hΓ.und kt i hi;rw[hid,e1]at this;injection this with this;injection this
  unfold Instr.checkKey;refine Ran.bind (hΓ.rD hi hid) ?_;dsimp only;rw[<-Array.forIn_toList];refine Ran.bind (OG _ _ fun f hf=> ?_) (Ran.pure _);obtain⟨j,hj⟩:=List.mem_iff_getElem?.1 hf;obtain⟨g1,g2,kk,g3⟩:=e5 j f (by rw[hfs];exact hj);have hjl:j<cs.size:=by
   have:=(Ah.1 hj).1;rw[<-hfs,e4]at this;omega
  have hc:cs[j]? =some cs[j]:=AK hjl;rw[if_pos g1];refine Ran.bind (ZY g3 (by rw[g2];exact hc)) (Ran.bind (a:=()) ?_ (Ran.pure _));unfold Instr.checkKey;exact Ran.bind (Ran.underlying g3) (Ran.pure _)
 ·cases h
theorem Fa{kt:TypeId}(h:P6 Γ kt k=true):plainV k=true:=by
 unfold P6 at h;split at h
 ·rfl
 ·rename_i fs cs hd;simp only[AA]at h;obtain⟨l⟩:=cs;simp only[plainV,C1];exact G5 l h.1.2
 ·cases h
def nM(φ:Ph)(D:Nat->Prop)(r r':Option (Nat×Value)):Prop:=match r with
 |none=>r'=none
 |some (j,v)=>∃v',r'=some (j,v')/\vrel φ D v v'
theorem Kt{kt:TypeId}{j:IntKind}{kk:IntKind}{n:Int}(hd:Iv Γ kt= .int j):∀(es es':List MapEntry) (i:Nat) (r:Option (Nat×Value)),Fp φ D es es'->Cy Γ kt (.int kk n) es i=some r->∃r',Instr.findNow (.int j) (.int kk n) es' i=some r'/\nM φ D r r'
 |[],es',i,r,hes,h=>by
  have:es'=[]:=List.length_eq_zero_iff.1 hes.1;subst this;simp only[Cy,AO]at h;subst h;exact⟨none,rfl,rfl⟩
 |e::es,es',i,r,hes,h=>by
  cases es' with
  |nil=>have:=hes.1;simp at this
  |cons e' es'=>
   obtain⟨e2,h2,h3,h4,h5⟩:=hes.2 0 e rfl;simp only[AX,AO]at h2;subst h2;have hes2:Fp φ D es es':=⟨by have:=hes.1;simpa using this,fun j x hx=>by simpa using hes.2 (j+1) x (by simpa using hx)⟩;unfold Cy at h;cases hk:e.key<;>rw[hk]at h h3<;>simp only[mj,hd]at h<;>first|cases h|skip
   rename_i k2 m;have:=Bb.1 h3;unfold Instr.findNow;rw[this];simp only[Instr.sameNow];by_cases hkk:kk=k2
   ·rw[if_pos hkk]at h⊢;by_cases hnm:n=m
    ·have: (n==m)=true:=by simpa using hnm
     rw[this]at h⊢;dsimp only at h⊢;obtain rfl:=AC h;exact⟨_,rfl,_,rfl,h4⟩
    ·have: (n==m)=false:=by simpa using hnm
     rw[this]at h⊢;dsimp only at h⊢;exact Kt hd es es' (i+1) r hes2 h
   ·rw[if_neg hkk]at h;cases h
theorem Hi(hΓ:TOk P Γ){kt:TypeId}(hk:plainV k=true){fs:Array Field}(hd:Iv Γ kt= .struct fs):∀(es es':List MapEntry) (i:Nat) (r:Option (Nat×Value)),Fp φ D es es'->Cy Γ kt k es i=some r->∃r',Ran P (Instr.findAsking kt k es' i) w r' w E/\nM φ D r r'
 |[],es',i,r,hes,h=>by
  have:es'=[]:=List.length_eq_zero_iff.1 hes.1;subst this;simp only[Cy,AO]at h;subst h;exact⟨none,Ran.pure _,rfl⟩
 |e::es,es',i,r,hes,h=>by
  cases es' with
  |nil=>have:=hes.1;simp at this
  |cons e' es'=>
   obtain⟨e2,h2,h3,h4,h5⟩:=hes.2 0 e rfl;simp only[AX,AO]at h2;subst h2;have hes2:Fp φ D es es':=⟨by have:=hes.1;simpa using this,fun j x hx=>by simpa using hes.2 (j+1) x (by simpa using hx)⟩;unfold Cy at h;simp only[mj,hd]at h;split at h
   ·rename_i hq;obtain rfl:=AC h;have h6:=(Hw (P:=P) (w:=w) (E:=E) hΓ hq ((Bi k k hk).2 rfl) h3 (.inl rfl) (.const k) (.const k)).2.1;obtain⟨v',hv⟩:∃v',v'=e'.val:=⟨_,rfl⟩;refine⟨some (i,e'.val),?_,_,rfl,h4⟩;unfold Instr.findAsking;exact Ran.bind h6 (Ran.pure _)
   ·rename_i hq;have h6:=(Hw (P:=P) (w:=w) (E:=E) hΓ hq ((Bi k k hk).2 rfl) h3 (.inl rfl) (.const k) (.const k)).2.1;obtain⟨r',g1,g2⟩:=Hi hΓ hk hd es es' (i+1) r hes2 h;refine⟨r',?_,g2⟩;unfold Instr.findAsking;exact Ran.bind h6 g1
   ·cases h
theorem FB(hΓ:TOk P Γ){kt:TypeId}(hk:P6 Γ kt k=true){es es':List MapEntry}{r:Option (Nat×Value)}(hes:Fp φ D es es')(h:Cy Γ kt k es 0=some r):∃r',Ran P (Instr.findKey kt k es') w r' w E/\nM φ D r r':=by
 have hp:=Fa hk;unfold P6 at hk;split at hk
 ·rename_i j kk x hd;obtain⟨i,hi,hid⟩:=Br hd (by simp);obtain⟨r',h1,h2⟩:=Kt hd es es' 0 r hes h;refine⟨r',?_,h2⟩;unfold Instr.findKey;refine Ran.bind (hΓ.rD hi hid) ?_;rw[h1];exact Ran.pure _
 ·rename_i fs cs hd;obtain⟨i,hi,hid⟩:=Br hd (by simp);cases es' with
  |nil=>
   have:es=[]:=List.length_eq_zero_iff.1 hes.1.symm;subst this;simp only[Cy,AO]at h;subst h;refine⟨none,?_,rfl⟩;unfold Instr.findKey;refine Ran.bind (hΓ.rD hi hid) ?_;exact Ran.pure _
  |cons e' es'=>
   obtain⟨r',h1,h2⟩:=Hi (P:=P) (w:=w) (E:=E) hΓ hp hd es (e'::es') 0 r hes h;refine⟨r',?_,h2⟩;unfold Instr.findKey;refine Ran.bind (hΓ.rD hi hid) ?_;exact h1
 ·cases hk
theorem DZ{b:Nat}{o:Obj}(h:w.heap[b]? =some o)(hc:∀c e z,o≠ .cells c e z)(hn:o.isChan=false)(hb:O b):Ran P (getObj b) w o w (EvO O RD):=by
 have h1: (getObj b).run P w= .ok o w:=by
  unfold getObj;rw[Sem.run,h];cases o<;>first|rfl|exact absurd rfl (hc _ _ _)
 have h2: (getObj b).events P w #[]= #[⟨.obj b,false,false⟩]:=by
  unfold getObj Sem.events;rw[Sem.runT,h];cases o<;>first|rfl|exact absurd rfl (hc _ _ _)|cases hn
 refine⟨h1,fun e he=> ?_⟩;rw[h2]at he;simp at he;rw[he];exact⟨hb,rfl⟩
theorem Mf{b:Nat}{es:Array MapEntry}{n:Nat}(h:w.heap[b]? =some (.map es n))(hb:O b):Ran P (getObj b) w (.map es n) w (EvO O RD):=DZ h (fun _ _ _ e=>by cases e) rfl hb
theorem J4{v v':Value}(h:vrel φ D v v')(b:Bool):vrel φ D (.tuple #[v,.bool b]) (.tuple #[v',.bool b]):=by
 simp only[vrel,B3,BZ];exact⟨_,rfl,_,_,rfl,h,_,_,rfl,rfl,rfl⟩
theorem QB(hΓ:TOk P Γ)(hr:Rel X O φ H w){m m' k' v:Value}{ok:Bool}(h:F0 Γ H t m k ok=some v)(hm:vrel φ (dom H) m m')(hk:vrel φ (dom H) k k'):∃v',Ran P (Instr.lookup t m' k' ok) w v' w (EvO O RD)/\vrel φ (dom H) v v':=by
 unfold F0 at h;split at h;case h_2=>cases h
 rename_i kt et hd;obtain⟨i,hi,hid⟩:=Br hd (by simp);split at h;case isFalse=>cases h
 rename_i hkk;obtain rfl:=(Bi _ _ (Fa hkk)).1 hk;split at h
 ·simp only[vrel]at hm;subst hm;cases hq:Γ et with
  |none=>rw[hq]at h;cases h
  |some q=>
   rw[hq]at h;have hz:vrel φ (dom H) q.zero q.zero:=(Bi _ _ (hΓ.zero _ _ hq).1).2 rfl;obtain⟨r',h1,h2⟩:=FB (P:=P) (w:=w) (E:=EvO O RD) (φ:=φ) (D:=dom H) hΓ hkk (es:=[]) (es':=[]) (r:=none) ⟨rfl,fun i e he=>by cases he⟩ rfl;cases h2
   have run:Ran P (Instr.lookup t (.map none) k' ok) w (if ok then .tuple #[q.zero,.bool false]else q.zero) w (EvO O RD):=by
    unfold Instr.lookup;refine Ran.bind (hΓ.rD hi hid) ?_;dsimp only;refine Ran.bind (Ran.pure _) (Ran.bind (HB hΓ hkk _ 9998) (Ran.bind h1 ?_));exact Ran.bind (hΓ.rZero hq) (Ran.bind (Ran.pure _) (Ran.pure _))
   simp only[AU,AO]at h;subst h;refine⟨_,run,?_⟩;cases ok
   ·exact hz
   ·exact J4 hz false
 ·rename_i r;simp only[vrel]at hm;obtain⟨hm1,rfl⟩:=hm;split at h;case h_2=>cases h
  rename_i es n hes;obtain⟨ho,hX,o,hw,es',rfl,hrel⟩:=hr.own _ _ hes rfl;have pre:∀{r':Option (Nat×Value)} {v:Value},Ran P (Instr.findKey kt k' es'.toList) w r' w (EvO O RD)->Ran P (do
    let(v,ok1) <-match r' with
     |some (_,v)=>pure (v,true)
     |none=>do pure (<-zeroValue et,false)
    pure (if ok then Value.tuple #[v,.bool ok1]else v)) w v w (EvO O RD)->Ran P (Instr.lookup t (.map (some (φ.f r))) k' ok) w v w (EvO O RD):=by
   intro r' v h1 h2;unfold Instr.lookup;refine Ran.bind (hΓ.rD hi hid) ?_;dsimp only;refine Ran.bind (Mf hw ho) ?_;dsimp only;refine Ran.bind (Ran.pure _) (Ran.bind (HB hΓ hkk _ 9998) (Ran.bind h1 ?_));cases r'<;>exact h2
  split at h
  ·rename_i j v q hf hq;obtain⟨r',h1,v',rfl,h2⟩:=FB (P:=P) (w:=w) (E:=EvO O RD) hΓ hkk hrel hf;obtain rfl:=AC h;refine⟨if ok then .tuple #[v',.bool true]else v',pre h1 (Ran.bind (Ran.pure _) (Ran.pure _)),?_⟩;cases ok
   ·exact h2
   ·exact J4 h2 true
  ·rename_i q hf hq;obtain⟨r',h1,h2⟩:=FB (P:=P) (w:=w) (E:=EvO O RD) hΓ hkk hrel hf;cases h2
   have hz:vrel φ (dom H) q.zero q.zero:=(Bi _ _ (hΓ.zero _ _ hq).1).2 rfl;obtain rfl:=AC h;refine⟨if ok then .tuple #[q.zero,.bool false]else q.zero,pre h1 (Ran.bind (hΓ.rZero hq) (Ran.bind (Ran.pure _) (Ran.pure _))),?_⟩;cases ok
   ·exact hz
   ·exact J4 hz false
  ·cases h
 ·cases h
end
end
section
variable[RdC]
section
variable{P:Program}{Γ:TypeId->Option TI}{t:TypeId}{w w':World}{E:Event->Prop}{φ:Ph}{D:Nat->Prop}{H:Hp}{X:Nat->Option Obj}{O:Nat->Prop}
theorem Lz {b:Nat} {o o2:Obj} (h:w.heap[b]? =some o) (hc:∀c e z,o≠ .cells c e z) (hn:o2.isChan=false) (hb:O b):Ran P (setObj b o2) w () {w with heap:=w.heap.setIfInBounds b o2} (EvO O RD):=by
 have h1: (setObj b o2).run P w= .ok () {w with heap:=w.heap.setIfInBounds b o2}:=by
  unfold setObj;rw[Sem.run,h];cases o<;>first|rfl|exact absurd rfl (hc _ _ _)
 have h2: (setObj b o2).events P w #[]= #[⟨.obj b,true,false⟩]:=by
  unfold setObj Sem.events;rw[Sem.runT,h];cases o<;>first|(simp only[hn];rfl)|exact absurd rfl (hc _ _ _)
 refine⟨h1,fun e he=> ?_⟩;rw[h2]at he;simp at he;rw[he];exact⟨hb,rfl⟩
theorem Ly(hr:Rel X O φ H w){a:Nat}{x y:AB}(ha:H a=some x)(hx:x.mine=true)(hy:y.mine=true){o o2:Obj}(ho:w.heap[φ.f a]? =some o)(hc:∀c e z,o≠ .cells c e z)(hn:o2.isChan=false)(hb:brel φ (dom (upd H a (some y))) a y o2):
  ∃w',Ran P (setObj (φ.f a) o2) w () w' (EvO O RD)/\Mv O w w'/\grow O w w'=O/\Rel X O φ (upd H a (some y)) w'/\Gr φ H φ (upd H a (some y)):=by
 have hO:=(hr.own a x ha hx).1;have hlt:φ.f a<w.heap.size:=(AR.1 ho).1;have hw:∀b:Nat,(w.heap.setIfInBounds (φ.f a) o2)[b]? =if b=φ.f a then some o2 else w.heap[b]? :=fun b=>by
  rw[Array.getElem?_setIfInBounds];by_cases e:φ.f a=b
  ·rw[if_pos e,if_pos (e▸hlt),if_pos e.symm]
  ·rw[if_neg e,if_neg (fun h=>e h.symm)]
 obtain⟨k1,k2⟩:=Rel.set (w':={w with heap:=w.heap.setIfInBounds (φ.f a) o2}) hr ha hx hy (o:=o2) hw hb;refine⟨_,Lz ho hc hn hO,⟨fun b hb hn=> ?_,by simp,rfl,rfl,rfl⟩,?_,k1,k2⟩
 ·show(w.heap.setIfInBounds (φ.f a) o2)[b]? =_
  rw[hw,if_neg (show¬b=φ.f a from fun e=>hn (e▸hO))]
 ·funext b;refine propext ⟨fun h=>h.elim id fun h=> ?_,.inl⟩;have h1:=h.1;have h2:=h.2;simp at h2;omega
theorem aj:∀(l m:List Value),Xj l m=some true->l=m
 |[],[],_=>rfl
 |[],_::_,h=>by simp[Xj]at h
 |x::l,[],h=>by cases x<;>simp[Xj]at h
 |x::l,y::m,h=>by
  cases x<;>cases y<;>simp only[Xj]at h<;>first|cases h|skip
  split at h
  ·rename_i hk;split at h
   ·rename_i hn;rw[hk,hn,aj l m h]
   ·cases h
  ·cases h
variable{k:Value}
theorem mi{kt:TypeId}{k2:Value}(hk:P6 Γ kt k=true)(h:mj Γ kt k k2=some true):k2=k:=by
 unfold P6 at hk;split at hk
 ·rename_i j kk x hd;simp only[mj,hd]at h;cases k2<;>simp only at h<;>first|cases h|skip
  split at h
  ·rename_i e;have:=AC h;rw[e,(by simpa using this:x=_)]
  ·cases h
 ·rename_i fs cs hd;simp only[mj,hd,fF]at h;cases k2<;>simp only at h<;>first|cases h|skip
  split at h
  ·have:=aj _ _ h;congr 1;exact Array.ext' this.symm
  ·cases h
 ·cases hk
theorem W8{kt:TypeId}(hk:P6 Γ kt k=true):Instr.sameBits 10000 k k=true:=by
 unfold P6 at hk;split at hk
 ·simp[Instr.sameBits]
 ·rename_i fs cs hd;simp only[AA]at hk;have h:=hk.1.2;have key:∀l:List Value,l.all MS=true->((l.zip l).all fun(x,y)=>Instr.sameBits 9999 x y)=true:=by
   intro l;induction l with
   |nil=>intro _;rfl
   |cons v l ih=>
    intro h;simp only[List.all_cons,AA]at h;simp only[List.zip_cons_cons,List.all_cons,AA];refine⟨?_,ih h.2⟩;cases v<;>simp[MS]at h
    simp[Instr.sameBits]
  unfold Instr.sameBits;simp only[beq_self_eq_true,Bool.true_and];exact key _ h
 ·cases hk
theorem Q1{kt:TypeId}(hk:P6 Γ kt k=true):∀(es:List MapEntry) (i:Nat) (j:Nat) (v:Value),Cy Γ kt k es i=some (some (j,v))->i<=j/\∃e,es[j - i]? =some e/\e.key=k/\e.val=v
 |[],i,j,v,h=>by simp[Cy]at h
 |e::es,i,j,v,h=>by
  unfold Cy at h;split at h
  ·rename_i hq;have:=AC (AC h);obtain⟨rfl,rfl⟩:=Prod.mk.inj this;exact⟨AH _,e,by rw[Nat.sub_self];rfl,mi hk hq,rfl⟩
  ·obtain⟨h1,x,h2,h3⟩:=Q1 hk es (i+1) j v h;exact⟨om,x,by rw[show j - i=(j - (i+1))+1 from om];simpa using h2,h3⟩
  ·cases h
variable{l l':List MapEntry}
theorem S5(h:Fp φ D l l'){e e':MapEntry}(he:S7 φ D e e'):Fp φ D (l++[e]) (l'++[e']):=by
 refine⟨by simp[h.1],fun i x hx=> ?_⟩;by_cases hi:i<l.length
 ·rw[Ac hi]at hx;rw[Ac (by rw[h.1];exact hi)];exact h.2 i x hx
 ·rw[Ad om]at hx;rw[Ad (by rw[h.1];omega),h.1];have:i - l.length=0:=by
   have:=(Ah.1 hx).1;simp at this;omega
  rw[this]at hx⊢;simp at hx⊢;rw[<-hx];exact he
theorem Pa(h:Fp φ D l l')(i:Nat){f f':MapEntry->MapEntry}(hf:∀e e',S7 φ D e e'->S7 φ D (f e) (f' e')):Fp φ D (l.modify i f) (l'.modify i f'):=by
 refine⟨by simp[h.1],fun j x hx=> ?_⟩;rw[List.getElem?_modify]at hx⊢;cases he:l[j]? with
 |none=>rw[he]at hx;simp at hx
 |some e=>
  obtain⟨e',h1,h2⟩:=h.2 j e he;rw[he]at hx;rw[h1];have hx2: (if i=j then f e else e)=x:=AC hx;refine⟨if i=j then f' e' else e',rfl,?_⟩;rw[<-hx2];split
  ·exact hf _ _ h2
  ·exact h2
theorem Ll(hΓ:TOk P Γ)(hr:Rel X O φ H w){m m' k' v v':Value}{δ:List (Nat×AB)}(h:HS Γ H t m k v=some δ)(hm:vrel φ (dom H) m m')(hk:vrel φ (dom H) k k')(hv:vrel φ (dom H) v v'):Fw P (do Instr.mapUpdate t m' k' v';pure Next.skip) X O φ H w undef (Kz H δ):=by
 unfold HS at h;split at h;case h_2=>cases h
 rename_i kt et r hd;obtain⟨i,hi,hid⟩:=Br hd (by simp);split at h;case isFalse=>cases h
 rename_i hkk;obtain rfl:=(Bi _ _ (Fa hkk)).1 hk;split at h;case h_2=>cases h
 rename_i es n hes;simp only[vrel]at hm;obtain⟨hm1,rfl⟩:=hm;obtain⟨ho,hX,o,hw,es',rfl,hrel⟩:=hr.own _ _ hes rfl;have pre:∀{r':Option (Nat×Value)} {w':World},Ran P (Instr.findKey kt k' es'.toList) w r' w (EvO O RD)->Ran P (match r' with
   |some (i,_)=>(do
    let key <-Instr.keyThatStays (((es'[i]?).map (·.key)).getD k') k'
    setObj (φ.f r) (.map (es'.modify i fun e=>{e with key,val:=v'}) n))
   |none=>setObj (φ.f r) (.map (es'.push {key:=k',val:=v',born:=n}) (n+1))) w () w' (EvO O RD)->Ran P (Instr.mapUpdate t (.map (some (φ.f r))) k' v') w () w' (EvO O RD):=by
  intro r' w' h1 h2;unfold Instr.mapUpdate;refine Ran.bind (hΓ.rD hi hid) ?_;dsimp only;refine Ran.bind (Mf hw ho) ?_;dsimp only;refine Ran.bind (HB hΓ hkk _ 9998) (Ran.bind h1 ?_);cases r'<;>exact h2
 have fin:∀(b:AB) (o2:Obj),b.mine=true->o2.isChan=false->brel φ (dom (upd H r (some b))) r b o2->(∀w',Ran P (setObj (φ.f r) o2) w () w' (EvO O RD)->Ran P (Instr.mapUpdate t (.map (some (φ.f r))) k' v') w () w' (EvO O RD))->Fw P (do Instr.mapUpdate t (.map (some (φ.f r))) k' v';pure Next.skip) X O φ H w undef (upd H r (some b)):=by
  intro b o2 hb hc hbr hrun;obtain⟨w',k1,k2,k3,k4,k5⟩:=Ly (P:=P) hr hes rfl hb hw (fun _ _ _ e=>by cases e) hc hbr;exact⟨.skip,undef,φ,w',.inr ⟨rfl,rfl⟩,by rw[k3];exact SI (hrun w' k1),k2,k5,by rw[k3];exact k4,(Bi _ _ Cu).2 rfl⟩
 have mono:∀(b:AB) u u',vrel φ (dom H) u u'->vrel φ (dom (upd H r (some b))) u u':=fun b u u' hu=>CB (fun a ha=>⟨Bx ha,Bs φ a⟩) _ _ hu
 have emono:∀(b:AB),Fp φ (dom (upd H r (some b))) es es'.toList:=fun b=>It (fun a ha=>⟨Bx ha,Bs φ a⟩) hrel
 split at h
 ·rename_i j u hf;cases h
  obtain⟨r',h1,u',rfl,h2⟩:=FB (P:=P) (w:=w) (E:=EvO O RD) hΓ hkk hrel hf;obtain⟨_,e,he,hek,_⟩:=Q1 hkk es 0 j u hf;rw[Nat.sub_zero]at he;obtain⟨e',he',hee,_⟩:=hrel.2 j e he;rw[hek]at hee;have hkey:e'.key=k':=(Bi _ _ (Fa hkk)).1 hee;have hget:es'[j]? =some e':=by simpa using he'
  refine fin _ (.map (es'.modify j fun e=>{e with key:=k',val:=v'}) n) rfl rfl ⟨_,rfl,?_⟩ fun w' hw'=>pre h1 ?_
  ·rw[Array.toList_modify];exact Pa (emono _) j fun e e' h=>⟨(Bi _ _ (Fa hkk)).2 rfl,mono _ _ _ hv,h.2.2⟩
  ·dsimp only;rw[hget];simp only[AU,AQ,hkey];refine Ran.bind (a:=k') ?_ hw';unfold Instr.keyThatStays;rw[if_pos (W8 hkk)];exact Ran.pure _
 ·rename_i hf;cases h
  obtain⟨r',h1,h2⟩:=FB (P:=P) (w:=w) (E:=EvO O RD) hΓ hkk hrel hf;cases h2
  refine fin _ (.map (es'.push {key:=k',val:=v',born:=n}) (n+1)) rfl rfl ⟨_,rfl,?_⟩ fun w' hw'=>pre h1 hw'
  rw[Array.toList_push];exact S5 (emono _) ⟨(Bi _ _ (Fa hkk)).2 rfl,mono _ _ _ hv,rfl⟩
 ·cases h
theorem Qz(hr:Rel X O φ H w){a:Nat}(ha:H a=none):Fw P (do pure (Next.value (<-Instr.makeMap t none))) X O φ H w (.map (some a)) (upd H a (some (.mp [] 0))):=by
 obtain⟨k1,k2⟩:=Rel.new (w':={w with heap:=w.heap.push (.map #[] 0)}) (O':=grow O w {w with heap:=w.heap.push (.map #[] 0)}) hr ha (x:= .mp [] 0) rfl (o:= .map #[] 0) (s:=0) (z:=0) rfl (.inr ⟨AH _,by simp⟩) (fun b hb=> .inl hb) ⟨#[],rfl,rfl,fun i e he=>by cases he⟩;refine⟨_,.map (some w.heap.size),_,_,.inl rfl,DJ (w':={w with heap:=w.heap.push (.map #[] 0)}) ⟨rfl,fun e he=> ?_⟩,⟨fun b hb hO=> ?_,by simp,rfl,rfl,rfl⟩,k2,k1,?_⟩
 ·simp[Instr.makeMap]at he
 ·show(w.heap.push _)[b]? =_
  rw[Array.getElem?_push_lt hb,AK hb]
 ·simp only[vrel];exact⟨C9,by rw[show(φ.put a w.heap.size 0 0).f a=w.heap.size from BU ..]⟩
end
end
section
variable[RdC]
def Jw(Γ:TypeId->Option TI)(H:Hp)(t:TypeId)(x y:Value):Option (List (Nat×AB)):=
 match Γ t,x with
 |some i,.pointer (some p)=>if y.cells.size=i.size/\y.cells.toList.all (·.oneCell')=true then(P5 H p y.cells.toList).map fun b=>[(p.block,b)]else none
 |_,_=>none
def B5(Γ:TypeId->Option TI)(H:Hp)(a:Nat)(t u:TypeId)(s x:Value):Option (Value×List (Nat×AB)):=
 if t=u then match Iv Γ t,x with
  | .slice e,.slice _ k _=>match Γ e with
   |some q=>match ER H q.size k x with
    |some xs=>if xs.all (·.oneCell')then K5 H a q s k xs else none
    |none=>none
   |none=>none
  |_,_=>none
 else none
def Gq(Γ:TypeId->Option TI)(H:Hp)(t:TypeId)(d s:Value):Option (Value×List (Nat×AB)):=
 match Iv Γ t with
 | .slice e=>match Γ e with
  |some q=>Ng H q d s
  |none=>none
 |_=>none
def hop(Γ:TypeId->Option TI)(H:Hp)(a:Nat)(ev:Operand->Value):Op->Option (Value×List (Nat×AB))
 | .alloc e=>(Γ e).map fun i=>(fI a,[(a,.own i.zero.cells.toList)])
 | .box _ x=>some (fI a,[(a,.own (ev x).cells.toList)])
 | .buildSlice t n ps=>D0 Γ a t n (ps.toList.map fun p=>(p.1,ev p.2))
 | .load t x=>(EC Γ H t (ev x)).map fun v=>(v,[])
 | .store t x y=>(Jw Γ H t (ev x) (ev y)).map fun δ=>(undef,δ)
 | .makeMap _ none=>some (.map (some a),[(a,.mp [] 0)])
 | .makeSlice t l c=>Fz Γ a t (ev l) (ev c)
 | .lookup t m k ok=>(F0 Γ H t (ev m) (ev k) ok).map fun v=>(v,[])
 | .mapUpdate t m k v=>(HS Γ H t (ev m) (ev k) (ev v)).map fun δ=>(undef,δ)
 | .insert t m k v=>(HS Γ H t (ev m) (ev k) (ev v)).map fun δ=>(undef,δ)
 | .call {callee:= .builtin .append,args:=⟨[s,x]⟩,argTypes:=⟨[t,u]⟩}=>B5 Γ H a t u (ev s) (ev x)
 | .call {callee:= .builtin .copy,args:=⟨[d,s]⟩,argTypes:=⟨[t,_]⟩}=>Gq Γ H t (ev d) (ev s)
 |op=>(GB Γ ev op).map fun v=>(v,[])
section
variable{P:Program}{Γ:TypeId->Option TI}{w:World}{φ:Ph}{H:Hp}{X:Nat->Option Obj}{O:Nat->Prop}
theorem OD (hΓ:TOk P Γ) (hF:FOk P Γ) (hr:Rel X O φ H w) {a:Nat} (ha:H a=none) {o:Oper} {ev ev':Operand->Value} {v:Value} {δ:List (Nat×AB)} (h:hop Γ H a ev o.op=some (v,δ)) (hv:∀x∈o.op.operands,vrel φ (dom H) (ev x) (ev' x)):
  Fw P (execOp ev' o) X O φ H w v (Kz H δ):=by
 obtain⟨dst,op,type,pos,after,guard⟩:=o;dsimp only at h hv;have dflt:∀{δ:List (Nat×AB)},(GB Γ ev op).map (fun v=>(v,[]))=some (v,δ)->Fw P (execOp ev' ⟨dst,op,type,pos,after,guard⟩) X O φ H w v (Kz H δ):=by
  intro δ h;cases hq:GB Γ ev op with
  |none=>rw[hq]at h;cases h
  |some u=>
   rw[hq]at h;cases h
   obtain⟨v',h1,h2⟩:=XM (P:=P) (w:=w) (E:=EvO O RD) (o:=⟨dst,op,type,pos,after,guard⟩) hΓ hF hq hv;exact Fw.still hr h1 h2
 unfold hop at h;split at h
 ·rename_i e;cases hi:Γ e with
  |none=>rw[hi]at h;cases h
  |some i=>
   rw[hi]at h;cases h
   exact Rq hΓ hr ha hi
 ·cases h
  exact Xv hr ha (hv _ (by simp[Op.operands]))
 ·rename_i t n ps;have hs:JI φ (dom H) (ps.toList.map fun p=>(p.1,ev p.2)) (ps.toList.map fun p=>(p.1,ev' p.2)):=KF _ fun p hp=>hv p.2 (by simp only[Op.operands];simp;exact⟨p.1,by simpa using hp⟩)
  have:=Og (P:=P) hΓ hr ha h hs;have e1: (ps.map fun(i,x)=>(i,ev' x))=(ps.toList.map fun p=>(p.1,ev' p.2)).toArray:=by apply Array.ext';rw[BG]
  rw[<-e1]at this;exact this
 ·rename_i t x;cases hl:EC Γ H t (ev x)with
  |none=>rw[hl]at h;cases h
  |some u=>
   rw[hl]at h;cases h
   obtain⟨v',h1,h2⟩:=Kk (P:=P) hΓ hr hl (hv x (by simp[Op.operands]));exact Fw.still hr (DJ h1) h2
 ·rename_i t x y;cases hw:Jw Γ H t (ev x) (ev y)with
  |none=>rw[hw]at h;cases h
  |some δ'=>
   rw[hw]at h;cases h
   unfold Jw at hw;split at hw;case h_2=>cases hw
   rename_i i p hi hx;split at hw;case isFalse=>cases hw
   rename_i hc;cases hb:P5 H p (ev y).cells.toList with
   |none=>rw[hb]at hw;cases hw
   |some b=>
    rw[hb]at hw;cases hw
    exact QZ hΓ hr hi (by rw[<-hx];exact hv x (by simp[Op.operands])) (hv y (by simp[Op.operands])) hc.1 (fun v hm=>AS.1 hc.2 v hm) hb
 ·cases h
  exact Qz hr ha
 ·exact QA hΓ hr ha h (hv _ (by simp[Op.operands])) (hv _ (by simp[Op.operands]))
 ·rename_i t m k ok;cases hl:F0 Γ H t (ev m) (ev k) ok with
  |none=>rw[hl]at h;cases h
  |some u=>
   rw[hl]at h;cases h
   obtain⟨v',h1,h2⟩:=QB (P:=P) hΓ hr hl (hv m (by simp[Op.operands])) (hv k (by simp[Op.operands]));exact Fw.still hr (DJ h1) h2
 ·rename_i t m k x;cases hl:HS Γ H t (ev m) (ev k) (ev x)with
  |none=>rw[hl]at h;cases h
  |some u=>
   rw[hl]at h;cases h
   exact Ll hΓ hr hl (hv m (by simp[Op.operands])) (hv k (by simp[Op.operands])) (hv x (by simp[Op.operands]))
 ·rename_i t m k x;cases hl:HS Γ H t (ev m) (ev k) (ev x)with
  |none=>rw[hl]at h;cases h
  |some u=>
   rw[hl]at h;cases h
   exact Ll hΓ hr hl (hv m (by simp[Op.operands])) (hv k (by simp[Op.operands])) (hv x (by simp[Op.operands]))
 ·rename_i s x t u;unfold B5 at h;split at h;case isFalse=>cases h
  rename_i htu;subst htu;split at h;case h_2=>cases h
  rename_i e b k c hd hx;obtain⟨i,hi,hid⟩:=Br hd (by simp);split at h;case h_2=>cases h
  rename_i q hq;split at h;case h_2=>cases h
  rename_i xs hxs;split at h;case isFalse=>cases h
  rename_i h1;have hxr:=hv x (by simp[Op.operands,Call.operands]);have hsr:=hv s (by simp[Op.operands,Call.operands]);have hk:Builtin.lenOf (ev' x)=pure k:=by
   rw[hx]at hxr;obtain⟨a',c',e1,_⟩:=Dw hxr;rw[e1];rfl
  rw[show execOp ev' ⟨dst,.call {callee:= .builtin .append,args:=⟨[s,x]⟩,argTypes:=⟨[t,t]⟩},type,pos,after,guard⟩=(do pure (Next.value (<-Builtin.append_ #[t,t] type #[ev' s,ev' x])))from by simp[execOp,resolve,invoke,builtin]];exact SD (P:=P) (ty:=type) hΓ hr hi hid hq ha h hsr hxr hk hxs (fun v hm=>AS.1 h1 v hm)
 ·rename_i d s t u;unfold Gq at h;split at h;case h_2=>cases h
  rename_i e hd;obtain⟨i,hi,hid⟩:=Br hd (by simp);split at h;case h_2=>cases h
  rename_i q hq;rw[show execOp ev' ⟨dst,.call {callee:= .builtin .copy,args:=⟨[d,s]⟩,argTypes:=⟨[t,u]⟩},type,pos,after,guard⟩=(do pure (Next.value (<-Builtin.copy_ #[t,u] type #[ev' d,ev' s])))from by simp[execOp,resolve,invoke,builtin]];exact QC (P:=P) (ty:=type) (u:=u) hΓ hr hi hid hq h (hv d (by simp[Op.operands,Call.operands])) (hv s (by simp[Op.operands,Call.operands]))
 ·exact dflt h
end
end
section
abbrev KT:=(Nat->Prop)->Goroutine->World->Prop
class Md extends RdC where
 ok:Program->Bool->KT->Prop
variable[Md]
structure Closed(P:Program)(main:Bool)(K:KT):Prop where
 step:∀(O:Nat->Prop) (fr:Frame) (cs:List Frame) (w:World),(∀w₁,Keeps (Uni O RD) w w₁->∃fr' cs' w' es,stepG P main (G fr cs) w₁= .go (G fr' cs') w' es/\Moves O RD w₁ w' es/\K (grow O w₁ w') (G fr' cs') w')->K O (G fr cs) w
 ok:Md.ok P main K
def Jp(k:CallKind)(cs:List Frame):Prop:=k= .normal\/(k= .deferred/\∀c r,cs=c::r->∀ch,c.mode≠ .panicking ch)
def Qt(k:CallKind)(r:Option Nat)(cs:List Frame)(top:Bool):Prop:=Jp k cs/\(top=true->r=none)
structure AF where
 n:Nat
 t:Nat->Value
 d:List Deferred
def AF.ev(A:AF):Operand->Value
 | .tmp i=>A.t i
 | .const v=>v
 | .func f=> .func (.func f) #[] #[]
 | .global _=>undef
def okX:Operand->Bool
 | .const v=>plainV v
 | .global _=>false
 |_=>true
def AF.put(A:AF)(d:Option Tmp)(v:Value):AF:={A with t:=match d with
 |some d=>if d<A.n then upd A.t d v else A.t
 |none=>A.t}
def uQ(φ:Ph)(D:Nat->Prop)(d d':Deferred):Prop:=B3 φ D d.args d'.args/\match d.target with
 | .fn f c=>∃f' c',d'.target= .fn f' c'/\Dt φ D f f'/\B3 φ D c c'
 | .collected r=>D r/\d'.target= .collected (φ.f r)
 |_=>False
def pK(φ:Ph)(D:Nat->Prop):List Deferred->List Deferred->Prop
 |[],l=>l=[]
 |d::r,l=>∃d' r',l=d'::r'/\uQ φ D d d'/\pK φ D r r'
def GW(φ:Ph)(D:Nat->Prop)(A:AF)(T:Array Value)(ds:List Deferred):Prop:=NM φ D A.n A.t T/\pK φ D A.d ds
section
variable{P:Program}{main:Bool}{φ φ':Ph}{D D':Nat->Prop}
theorem bE (h:∀a,D a->D' a/\φ.same φ' a) {d d':Deferred} (k:uQ φ D d d'):uQ φ' D' d d':=by
 obtain⟨h1,h2⟩:=k;refine⟨Eh h _ _ h1,?_⟩;split
 ·rename_i f c hf;rw[hf]at h2;obtain⟨f',c',e1,e2,e3⟩:=h2;exact⟨f',c',e1,Mk h e2,Eh h _ _ e3⟩
 ·rename_i r hf;rw[hf]at h2;exact⟨(h _ h2.1).1,by rw[h2.2,(h _ h2.1).2.1]⟩
 ·rename_i h3 h4;split at h2
  ·rename_i f c hf;exact h3 _ _ hf
  ·rename_i r hf;exact h4 _ hf
  ·exact h2
theorem RS(h:∀a,D a->D' a/\φ.same φ' a):∀{d d':List Deferred},pK φ D d d'->pK φ' D' d d'
 |[],_,k=>k
 |d::r,_,⟨d',r',e,h1,h2⟩=>⟨d',r',e,bE h h1,RS h h2⟩
variable{T:Array Value}{ds:List Deferred}
theorem DI(h:∀a,D a->D' a/\φ.same φ' a){A:AF}(k:GW φ D A T ds):GW φ' D' A T ds:=⟨Ei h k.1,RS h k.2⟩
theorem DQ{A:AF}(k:GW φ D A T ds){x:Operand}(hx:okX x=true)(fr:Frame)(hT:fr.tmps=T):vrel φ D (A.ev x) (fr.eval x):=by
 cases x with
 |tmp i=>simp only[AF.ev,Frame.eval,hT];exact k.1.2 i
 |const v=>exact(Bi _ _ hx).2 rfl
 |func f=>simp only[AF.ev,Frame.eval,vrel,Dt,B3,BZ];exact⟨_,_,_,rfl,rfl,rfl,rfl⟩
 |global g=>cases hx
theorem FD{A:AF}(k:GW φ D A T ds){v v':Value}(hv:vrel φ D v v')(d:Option Tmp):GW φ D (A.put d v) (match d with|some d=>T.setIfInBounds d v'|none=>T) ds:=by
 refine⟨?_,k.2⟩;cases d with
 |none=>exact k.1
 |some d=>
  refine⟨by show(T.setIfInBounds d v').size=A.n;simp[k.1.1],fun i=> ?_⟩;show vrel φ D ((if d<A.n then upd A.t d v else A.t) i) ((T.setIfInBounds d v').getD i undef)
  have h1:=k.1.2 i;rw[AL]at h1⊢;rw[Array.getElem?_setIfInBounds];by_cases hd:d<A.n
  ·rw[if_pos hd];by_cases hi:i=d
   ·subst hi;rw[BU,if_pos rfl,if_pos (by rw[k.1.1];exact hd)];exact hv
   ·rw[upd_ne hi,if_neg (fun e=>hi e.symm)];exact h1
  ·rw[if_neg hd];by_cases hi:d=i
   ·subst hi;rw[if_pos rfl,if_neg (by rw[k.1.1];exact hd)];rw[Array.getElem?_eq_none (by rw[k.1.1];exact Nat.le_of_not_lt hd)]at h1;exact h1
   ·rw[if_neg hi];exact h1
theorem NL{v:Value}{b:Bool}(h:vrel φ D v (.bool b)):v= .bool b:=by
 cases v with
 |bool c=>rw[CQ]at h;exact h.symm
 |pointer a=>obtain⟨_,e,_⟩:=HU h;cases e
 |slice a n c=>obtain⟨_,_,e,_⟩:=Dw h;cases e
 |map r=>cases r<;>simp only[vrel,reduceCtorEq,and_false]at h
 |chan r=>cases r<;>simp only[vrel,reduceCtorEq,and_false]at h
 |func g x c=>simp only[vrel,reduceCtorEq,false_and,exists_false]at h
 |iface t x=>simp only[vrel,reduceCtorEq,false_and,exists_false]at h
 |agg c=>simp only[vrel,reduceCtorEq,false_and,exists_false]at h
 |tuple c=>simp only[vrel,reduceCtorEq,false_and,exists_false]at h
 |_=>simp only[vrel,reduceCtorEq]at h
def yiel(ops:Array Oper)(t:Nat->Value)(j:Nat):Option Bool:=
 match((ops[j]?).bind (·.dst)).map t with
 |some (.bool b)=>some b
 |_=>none
theorem FP{n:Nat}{t:Nat->Value}(h:NM φ D n t T)(ops:Array Oper):yielded ops T=yiel ops t:=by
 funext j;unfold yielded yiel;cases hd: (ops[j]?).bind (·.dst)with
 |none=>rfl
 |some d=>
  simp only[Option.bind_some,AU];have h1:=h.2 d;rw[AL]at h1;cases hT:T[d]? with
  |none=>
   rw[hT]at h1;cases ht:t d with
   |bool b=>rw[ht,CQ]at h1;cases h1
   |_=>rfl
  |some v=>
   rw[hT]at h1;simp only[AQ]at h1;cases ht:t d with
   |bool b=>rw[ht,CQ]at h1;subst h1;rfl
   |_=>
    cases hv:v with
    |bool b=>rw[hv]at h1;have:=NL h1;rw[ht]at this;cases this
    |_=>rfl
variable{cs:List Frame}{w w':World}{k:List Item}{o:Oper}
theorem Dq{fr:Frame}{ops:Array Oper}{i:Nat}{rest:List Nat}(hm:fr.mode= .run)(ht:fr.todo= .inRegion ops (i::rest)::k)(ho:ops[i]? =some o)(hw:Region.wanted o (yielded ops fr.tmps)=true)(hd:∀c,o.op≠ .defer c):
  stepG P main (G fr cs) w=stepG.apply P true fr cs none (execOp fr.eval o) w:=by
 obtain⟨fn,tmps,todo,defers,mode,kind,ro⟩:=fr;dsimp only at hm ht hw;subst hm ht;simp only[G,stepG,stepG.exec,ho,AU,AQ,hw,Ag,stepG.oper,Frame.oper?];cases ro with
 |none=>rfl
 |some l=>
  split
  ·rename_i l' c h1 h2;exact absurd h2 (hd c)
  ·rfl
theorem On{fr:Frame}{ops:Array Oper}{i:Nat}{rest:List Nat}(hm:fr.mode= .run)(ht:fr.todo= .inRegion ops (i::rest)::k)(ho:ops[i]? =some o)(hw:Region.wanted o (yielded ops fr.tmps)=false):
  stepG P main (G fr cs) w= .go (G (fr.finish undef) cs) w #[]:=by
 obtain⟨fn,tmps,todo,defers,mode,kind,ro⟩:=fr;dsimp only at hm ht hw;subst hm ht;simp only[G,stepG,stepG.exec,ho,AU,AQ,hw,AP,Ab]
theorem Ep{fr:Frame}{ops:Array Oper}{i:Nat}{rest:List Nat}(ht:fr.todo= .inRegion ops (i::rest)::k)(ho:ops[i]? =some o)(v:Value):fr.finish v={fr with tmps:=(match o.dst with|some d=>fr.tmps.setIfInBounds d v|none=>fr.tmps),todo:= .inRegion ops rest::k}:=by
 unfold Frame.finish;simp only[ht,ho,Option.bind_some];cases o.dst<;>rfl
theorem CV{k:CallKind}(h:Jp k cs): (k== .early)=false:=by
 rcases h with rfl|⟨rfl,_⟩<;>rfl
theorem Df{fr:Frame}{s:Sem Next}{v:Value}{n:Next}(hk: (fr.kind== .early)=false)(hn:n= .value v\/(n= .skip/\v=undef))(h:s.run P w= .ok n w'):stepG.apply P true fr cs none s w= .go (G (fr.finish v) cs) w' (seen P fr.fn (s.events P w #[])):=by
 rcases hn with rfl|⟨rfl,rfl⟩<;>simp[stepG.apply,h,hk,GStep.after,G]
theorem CY{O:Nat->Prop}{es:Array Event}(h:Mv O w w')(he:∀e∈es,EvO (grow O w w') RD e)(f:FuncId):Moves O RD w w' (seen P f es):=h.moves fun e hm=>he e (mem_seen hm)
theorem Sq(O:Nat->Prop)(w:World):Moves O RD w w #[]:=(Mv.refl O w).moves fun e h=>by simp at h
theorem Closed.idle{K:KT}(hK:Closed P main K){O:Nat->Prop}{fr:Frame}{fr':Frame}{cs':List Frame}(h:∀w₁,stepG P main (G fr cs) w₁= .go (G fr' cs') w₁ #[])(hk:∀w₁,Keeps (Uni O RD) w w₁->K O (G fr' cs') w₁):K O (G fr cs) w:=
 hK.step O fr cs w fun w₁ k=>⟨fr',cs',w₁,#[],h w₁,Sq O w₁,by rw[B4];exact hk w₁ k⟩
def WOp(P:Program)(o:Oper)(Q:Value->Hp->Prop)(ev:Operand->Value)(H:Hp):Prop:=
 ∀(main:Bool) (K:KT),Closed P main K->∀(X:Nat->Option Obj) (O:Nat->Prop) (φ:Ph) (w:World) (fr:Frame) (cs:List Frame) (ops:Array Oper) (i:Nat) (rest:List Nat) (k:List Item),
  fr.mode= .run->fr.todo= .inRegion ops (i::rest)::k->ops[i]? =some o->Region.wanted o (yielded ops fr.tmps)=true->Jp fr.kind cs->Rel X O φ H w->(∀x∈o.op.operands,vrel φ (dom H) (ev x) (fr.eval x))->
  (∀(v:Value) (H':Hp) (O':Nat->Prop) (φ':Ph) (w':World) (v':Value),Q v H'->Gr φ H φ' H'->(∀b,O b->O' b)->Rel X O' φ' H' w'->vrel φ' (dom H') v v'->K O' (G (fr.finish v') cs) w')->K O (G fr cs) w
variable{H:Hp}
theorem WOp.mono{Q Q':Value->Hp->Prop}{ev:Operand->Value}(h:WOp P o Q ev H)(k:∀v H',Q v H'->Q' v H'):WOp P o Q' ev H:=
 fun main K hK X O φ w fr cs ops i rest kk h1 h2 h3 h4 h5 h6 h7 h8=>h main K hK X O φ w fr cs ops i rest kk h1 h2 h3 h4 h5 h6 h7 fun v H' O' φ' w' v' q=>h8 v H' O' φ' w' v' (k v H' q)
theorem WOp.congr{Q:Value->Hp->Prop}{ev ev':Operand->Value}(h:WOp P o Q ev H)(k:∀x∈o.op.operands,ev x=ev' x):WOp P o Q ev' H:=
 fun main K hK X O φ w fr cs ops i rest kk h1 h2 h3 h4 h5 h6 h7 h8=>h main K hK X O φ w fr cs ops i rest kk h1 h2 h3 h4 h5 h6 (fun x hx=>by rw[k x hx];exact h7 x hx) h8
variable{Γ:TypeId->Option TI}
theorem JV{a:Nat}{ev:Operand->Value}{op:Op}{r:Value×List (Nat×AB)}(h:hop Γ H a ev op=some r):∀c,op≠ .defer c:=by
 rintro c rfl;simp[hop,GB]at h
theorem WOp.hop(hΓ:TOk P Γ)(hF:FOk P Γ){Q:Value->Hp->Prop}{ev:Operand->Value}{a:Nat}(ha:H a=none){v:Value}{δ:List (Nat×AB)}(h:hop Γ H a ev o.op=some (v,δ))(hq:Q v (Kz H δ)):WOp P o Q ev H:=by
 intro main K hK X O φ w fr cs ops i rest k hm ht ho hw hqu hr hv hk;refine hK.step O fr cs w fun w₁ hk1=> ?_
 obtain⟨n,v',φ',w',h1,h2,h3,h4,h5,h6⟩:=OD (P:=P) hΓ hF (hr.keep hk1) ha (o:=o) h hv;refine⟨fr.finish v',cs,w',_,?_,CY (P:=P) h3 h2.ev fr.fn,hk _ _ _ _ _ _ hq h4 (fun b hb=> .inl hb) h5 h6⟩;rw[Dq hm ht ho hw (JV h),Df (CV hqu) h1 h2.run]
def Dj(P:Program)(top:Bool)(ops:Array Oper)(rest:List Nat)(Q:AF->Hp->Prop)(A:AF)(H:Hp):Prop:=
 ∀(main:Bool) (K:KT),Closed P main K->∀(X:Nat->Option Obj) (O:Nat->Prop) (φ:Ph) (w:World) (fr:Frame) (cs:List Frame) (k:List Item),
  fr.mode= .run->fr.todo= .inRegion ops rest::k->Qt fr.kind fr.roundOf cs top->Rel X O φ H w->GW φ (dom H) A fr.tmps fr.defers->
  (∀(A':AF) (H':Hp) (O':Nat->Prop) (φ':Ph) (w':World) (T':Array Value) (ds':List Deferred),Q A' H'->Gr φ H φ' H'->(∀b,O b->O' b)->Rel X O' φ' H' w'->GW φ' (dom H') A' T' ds'->K O' (G {fr with tmps:=T',defers:=ds',todo:=k} cs) w')->K O (G fr cs) w
theorem Dj.nil{top:Bool}{ops:Array Oper}{Q:AF->Hp->Prop}{A:AF}(h:Q A H):Dj P top ops [] Q A H:=by
 intro main K hK X O φ w fr cs k hm ht hqu hr ha hk;refine hK.idle (fr':={fr with todo:=k}) (cs':=cs) (fun w₁=> ?_) fun w₁ k1=>hk A H O φ w₁ fr.tmps fr.defers h (Gr.refl _ _) (fun _=>id) (hr.keep k1) ha
 obtain⟨fn,tmps,todo,defers,mode,kind,ro⟩:=fr;dsimp only at hm ht;subst hm ht;simp only[G,stepG,stepG.exec]
theorem Dj.op{top:Bool}{ops:Array Oper}{i:Nat}{rest:List Nat}{Q:AF->Hp->Prop}{A:AF}(ho:ops[i]? =some o)(hx:∀x∈o.op.operands,okX x=true)(hw:Region.wanted o (yiel ops A.t)=true)(h:WOp P o (fun v H'=>Dj P top ops rest Q (A.put o.dst v) H') A.ev H):Dj P top ops (i::rest) Q A H:=by
 intro main K hK X O φ w fr cs k hm ht hqu hr ha hk;refine h main K hK X O φ w fr cs ops i rest k hm ht ho (by rw[FP ha.1];exact hw) hqu.1 hr (fun x hxm=>DQ ha (hx x hxm) fr rfl) fun v H' O' φ' w' v' hq hg hO hr' hv=> ?_
 rw[Ep ht ho];refine hq main K hK X O' φ' w' _ cs k hm rfl hqu hr' (FD (DI hg ha) hv o.dst) fun A' H2 O2 φ2 w2 T2 ds2 q g2 o2 r2 a2=> ?_
 exact hk A' H2 O2 φ2 w2 T2 ds2 q (hg.trans g2) (fun b hb=>o2 b (hO b hb)) r2 a2
theorem Dj.skip{top:Bool}{ops:Array Oper}{i:Nat}{rest:List Nat}{Q:AF->Hp->Prop}{A:AF}(ho:ops[i]? =some o)(hw:Region.wanted o (yiel ops A.t)=false)(h:Dj P top ops rest Q (A.put o.dst undef) H):Dj P top ops (i::rest) Q A H:=by
 intro main K hK X O φ w fr cs k hm ht hqu hr ha hk;refine hK.idle (fun w₁=>On hm ht ho (by rw[FP ha.1];exact hw)) fun w₁ k1=> ?_
 rw[Ep ht ho];exact h main K hK X O φ w₁ _ cs k hm rfl hqu (hr.keep k1) (FD ha ((Bi _ _ Cu).2 rfl) o.dst) hk
theorem Dj.mono{top:Bool}{ops:Array Oper}{rest:List Nat}{Q Q':AF->Hp->Prop}{A:AF}(h:Dj P top ops rest Q A H)(k:∀A H,Q A H->Q' A H):Dj P top ops rest Q' A H:=
 fun main K hK X O φ w fr cs kk h1 h2 h3 h4 h5 h6=>h main K hK X O φ w fr cs kk h1 h2 h3 h4 h5 fun A' H' O' φ' w' T' ds' q=>h6 A' H' O' φ' w' T' ds' (k A' H' q)
end
end
end
section
open Go.Conc
variable[Md]
def R6(D:Nat->Prop)(v:Value):Prop:=∀φ D' v',vrel φ D' v v'->vrel φ D v v'
section
variable{φ φ':Ph}{D D':Nat->Prop}
mutual
theorem Im:∀(v v':Value),vrel φ D v v'->∀ψ E u,vrel ψ E v u->vrel ψ D v u
 | .pointer none,v',h,ψ,E,u,k=>by simp only[vrel]at k⊢;exact k
 | .pointer (some a),v',h,ψ,E,u,k=>by simp only[vrel]at h k⊢;exact⟨h.1,k.2⟩
 | .slice none n c,v',h,ψ,E,u,k=>by simp only[vrel]at k⊢;exact k
 | .slice (some a) n c,v',h,ψ,E,u,k=>by simp only[vrel]at h k⊢;exact⟨h.1,k.2⟩
 | .map none,v',h,ψ,E,u,k=>by simp only[vrel]at k⊢;exact k
 | .map (some r),v',h,ψ,E,u,k=>by simp only[vrel]at h k⊢;exact⟨h.1,k.2⟩
 | .chan none,v',h,ψ,E,u,k=>by simp only[vrel]at k⊢;exact k
 | .chan (some _),v',h,ψ,E,u,k=>by simp only[vrel]at h k⊢;exact⟨h.1,k.2⟩
 | .func g x c,v',h,ψ,E,u,k=>by
  simp only[vrel]at h k⊢;obtain⟨g1,x1,c1,_,h2,h3,h4⟩:=h;obtain⟨g2,x2,c2,k1,k2,k3,k4⟩:=k;refine⟨g2,x2,c2,k1,?_,LQ x x1 h3 ψ E x2 k3,LQ c c1 h4 ψ E c2 k4⟩;cases g<;>simp only[Dt]at h2 k2⊢<;>first|exact k2|exact⟨h2.1,k2.2⟩
 | .iface t x,v',h,ψ,E,u,k=>by
  simp only[vrel]at h k⊢;obtain⟨x1,_,h2⟩:=h;obtain⟨x2,k1,k2⟩:=k;exact⟨x2,k1,Im x x1 h2 ψ E x2 k2⟩
 | .agg cs,v',h,ψ,E,u,k=>by
  simp only[vrel]at h k⊢;obtain⟨x1,_,h2⟩:=h;obtain⟨x2,k1,k2⟩:=k;exact⟨x2,k1,LQ cs x1 h2 ψ E x2 k2⟩
 | .tuple cs,v',h,ψ,E,u,k=>by
  simp only[vrel]at h k⊢;obtain⟨x1,_,h2⟩:=h;obtain⟨x2,k1,k2⟩:=k;exact⟨x2,k1,LQ cs x1 h2 ψ E x2 k2⟩
 | .bool b,v',h,ψ,E,u,k=>by simp only[vrel]at k⊢;exact k
 | .int b n,v',h,ψ,E,u,k=>by simp only[vrel]at k⊢;exact k
 | .float b n,v',h,ψ,E,u,k=>by simp only[vrel]at k⊢;exact k
 | .complex b n m,v',h,ψ,E,u,k=>by simp only[vrel]at k⊢;exact k
 | .string b,v',h,ψ,E,u,k=>by simp only[vrel]at k⊢;exact k
 | .nilFunc,v',h,ψ,E,u,k=>by simp only[vrel]at k⊢;exact k
 | .nilIface,v',h,ψ,E,u,k=>by simp only[vrel]at k⊢;exact k
theorem LQ:∀(v v':Array Value),B3 φ D v v'->∀ψ E u,B3 ψ E v u->B3 ψ D v u
 |⟨l⟩,v',h,ψ,E,u,k=>by
  simp only[B3]at h k⊢;exact U4 l v'.toList h ψ E u.toList k
theorem U4:∀(v v':List Value),BZ φ D v v'->∀ψ E u,BZ ψ E v u->BZ ψ D v u
 |[],v',h,ψ,E,u,k=>by simp only[BZ]at k⊢;exact k
 |v::r,v',h,ψ,E,u,k=>by
  simp only[BZ]at h k⊢;obtain⟨x1,r1,_,h2,h3⟩:=h;obtain⟨x2,r2,k1,k2,k3⟩:=k;exact⟨x2,r2,k1,Im v x1 h2 ψ E x2 k2,U4 r r1 h3 ψ E r2 k3⟩
end
theorem U6{v v':Value}(h:vrel φ D v v'):R6 D v:=fun ψ E u k=>Im v v' h ψ E u k
theorem Q4(h:∀a,D a->D' a){v:Value}(k:R6 D v):R6 D' v:=fun ψ E u q=>CB (fun a ha=>⟨h a ha,Bs ψ a⟩) _ _ (k ψ E u q)
theorem Gc{v:Value}(h:plainV v=true):R6 D v:=fun ψ E u k=>(Bi _ _ h).2 ((Bi _ _ h).1 k)
def NU(D:Nat->Prop)(x:AB):Prop:=(∀φ D' a o,brel φ D' a x o->brel φ D a x o)/\∀c,x= .ro c->∀φ D' s C,crel φ D' s c C->crel φ D s c C
variable{C:Array Value}
theorem U5{c:List Value}{s:Nat}(h:crel φ D s c C):∀ψ E s' C',crel ψ E s' c C'->crel ψ D s' c C':=fun ψ E s' C' k i v hv=>by
 obtain⟨u,h1,h2⟩:=h i v hv;obtain⟨u',k1,k2⟩:=k i v hv;exact⟨u',k1,Im v u h2 ψ E u' k2⟩
theorem fj{x:AB}{a:Nat}{o:Obj}(h:brel φ D a x o):NU D x:=by
 refine⟨fun ψ E b p k=> ?_,fun c hc=>by subst hc;exact h.elim⟩;cases x with
 |dead=>exact k
 |ro c=>exact k
 |own c=>
  obtain⟨C,e,h1,h2,h3,h4⟩:=h;obtain⟨C',e',k1,k2,k3,k4⟩:=k;exact⟨C',e',k1,k2,k3,U5 h4 ψ E _ C' k4⟩
 |mp es n=>
  obtain⟨es1,h1,h2,h3⟩:=h;obtain⟨es2,k1,k2,k3⟩:=k;refine⟨es2,k1,k2,fun i e he=> ?_⟩;obtain⟨e1,g1,g2,g3,_⟩:=h3 i e he;obtain⟨e2,q1,q2,q3,q4⟩:=k3 i e he;exact⟨e2,q1,Im _ _ g2 ψ E _ q2,Im _ _ g3 ψ E _ q3,q4⟩
 |lp l=>
  obtain⟨l1,h1,h2,h3,h5,h6,h7,h8,h9,h10⟩:=h;obtain⟨l2,k1,k2,k3,k5,k6,k7,k8,k9,k10⟩:=k;exact⟨l2,k1,k2,k3,⟨k5.1,fun i=>Im _ _ (h5.2 i) ψ E _ (k5.2 i)⟩,k6,k7,k8,h9,k10⟩
 |df b=>exact k
 |ob p l=>exact⟨k.1,k.2.1,h.2.2.1,fun c hc=>⟨(h.2.2.2 c hc).1,(k.2.2.2 c hc).2⟩⟩
 |it m s q n=>exact⟨k.1,h.2.1,k.2.2⟩
theorem fi{c:List Value}{s:Nat}(h:crel φ D s c C):NU D (.ro c):=⟨fun _ _ _ _ k=>k.elim,fun c' hc=>by cases hc;exact U5 h⟩
theorem KJ:NU D .dead:=⟨fun _ _ _ _ k=>k.elim,fun c hc=>by cases hc⟩
theorem KI(h:∀a,D a->D' a){x:AB}(k:NU D x):NU D' x:=by
 refine⟨fun ψ E a o q=> ?_,fun c hc ψ E s C q=>DG (fun a ha=>⟨h a ha,Bs ψ a⟩) (k.2 c hc ψ E s C q)⟩;have h1:=k.1 ψ E a o q;cases x with
 |dead=>exact h1
 |ro c=>exact h1
 |own c=>
  obtain⟨C,e,g1,g2,g3,g4⟩:=h1;exact⟨C,e,g1,g2,g3,DG (fun a ha=>⟨h a ha,Bs ψ a⟩) g4⟩
 |mp es n=>
  obtain⟨es',g1,g2⟩:=h1;exact⟨es',g1,It (fun a ha=>⟨h a ha,Bs ψ a⟩) g2⟩
 |lp l=>
  obtain⟨l',g1,g2,g3,g5,g6,g7,g8,g9,g10⟩:=h1;exact⟨l',g1,g2,g3,Ei (fun a ha=>⟨h a ha,Bs ψ a⟩) g5,g6,g7,g8,h _ g9,g10⟩
 |df b=>exact h1
 |ob p l=>exact⟨h1.1,h1.2.1,fun f f' e=>h1.2.2.1 f f' fun c hc=>e c (h c hc),fun c hc=>⟨h c (h1.2.2.2 c hc).1,(h1.2.2.2 c hc).2⟩⟩
 |it m s q n=>exact⟨h1.1,fun r hr=>h _ (h1.2.1 r hr),h1.2.2⟩
end
def Sc(H:Hp):Prop:=∀a x,H a=some x->NU (dom H) x
theorem Rel.sc{X:Nat->Option Obj}{O:Nat->Prop}{φ:Ph}{H:Hp}{w:World}(h:Rel X O φ H w):Sc H:=by
 intro a x ha;cases hm:x.mine with
 |true=>
  obtain⟨_,_,o,_,h1⟩:=h.own a x ha hm;exact fj h1
 |false=>
  cases x<;>simp only[AB.mine,Bool.true_eq_false,reduceCtorEq]at hm
  ·exact KJ
  ·obtain⟨C,e,z,_,h1⟩:=h.ro a _ ha;exact fi h1
abbrev Dl:=Nat->Option AB
def app(H:Hp)(δ:Dl):Hp:=fun a=>match δ a with
 |some x=>some x
 |none=>H a
def Live(H:Hp)(a:Nat):Prop:=∃x,H a=some x/\x≠ .dead
structure Sub(M G:Hp):Prop where
 live:∀a x,M a=some x->x≠ .dead->G a=some x
 dom:∀a,dom M a->dom G a
theorem Bl{H:Hp}{δ:Dl}{a:Nat}{x:AB}(h:δ a=some x):app H δ a=some x:=by unfold app;rw[h]
theorem Be{H:Hp}{δ:Dl}{a:Nat}(h:δ a=none):app H δ a=H a:=by unfold app;rw[h]
theorem CI{x:AB}(h:x.mine=true):x≠ .dead:=fun e=>by rw[e]at h;cases h
open Classical in
theorem WOp.frame{P:Program}{o:Oper}{M G:Hp}{δ:Dl}{v0:Value}{ev:Operand->Value}(h:WOp P o (fun v H'=>v=v0/\H'=app M δ) ev M)(hs:Sub M G)(hsc:Sc M)(hfin:∃n,∀a,n<=a->M a=none)(hev:∀x∈o.op.operands,R6 (dom M) (ev x))
  (hδ:∀a,δ a≠none->Live M a\/G a=none)(hro:∀a c,δ a≠some (.ro c)):WOp P o (fun v H'=>v=v0/\H'=app G δ/\R6 (dom (app M δ)) v0/\Sc (app M δ)) ev G:=by
 intro main K hK X O φ w fr cs ops i rest k hm ht ho hw hqu hr hv hk;let C:Nat->Prop:=fun b=>∃a y,G a=some y/\y.mine=true/\φ.f a=b/\¬Live M a
 let X':Nat->Option Obj:=fun b=>if C b then w.heap[b]? else X b
 have hXC:∀b,C b->X' b=w.heap[b]? :=fun b hb=>if_pos hb
 have hXN:∀b,¬C b->X' b=X b:=fun b hb=>if_neg hb
 have hCs:∀b,C b->O b/\X b=none/\∃q,w.heap[b]? =some q:=by
  rintro b ⟨a,y,h1,h2,rfl,_⟩;obtain⟨k1,k2,q,k3,_⟩:=hr.own a y h1 h2;exact⟨k1,k2,q,k3⟩
 have hcn:∀a x,M a=some x->x.mine=true->¬C (φ.f a):=by
  rintro a x hx hxm ⟨a2,y,h1,h2,h3,h4⟩;have e:=hr.inj a2 a y x h1 (hs.live a x hx (CI hxm)) h2 hxm h3;exact h4 ⟨x,e▸hx,CI hxm⟩
 have hrM:Rel X' O φ M w:=by
  refine⟨hfin,fun b q hb=> ?_,fun a x hx hxm=> ?_,fun a c hc=> ?_,fun a b x y hx hy hxm hym e=> ?_⟩
  ·by_cases hC:C b
   ·rw[hXC b hC]at hb;exact⟨.inl (hCs b hC).1,hb⟩
   ·rw[hXN b hC]at hb;exact hr.frame b q hb
  ·obtain⟨k1,k2,q,k3,k4⟩:=hr.own a x (hs.live a x hx (CI hxm)) hxm;exact⟨k1,by rw[hXN _ (hcn a x hx hxm)];exact k2,q,k3,(hsc a x hx).1 _ _ _ _ k4⟩
  ·obtain⟨q,e,z,k1,k2⟩:=hr.ro a c (hs.live a _ hc (fun e=>by cases e));refine⟨q,e,z,?_,(hsc a _ hc).2 c rfl _ _ _ _ k2⟩;by_cases hC:C (φ.f a)
   ·rw[hXC _ hC];exact(hr.frame _ _ k1).2
   ·rw[hXN _ hC];exact k1
  ·exact hr.inj a b x y (hs.live a x hx (CI hxm)) (hs.live b y hy (CI hym)) hxm hym e
 refine h main K hK X' O φ w fr cs ops i rest k hm ht ho hw hqu hrM (fun x hx=>hev x hx _ _ _ (hv x hx)) fun v H' O' φ' w' v' q hg hO hr' hv'=> ?_
 obtain⟨rfl,rfl⟩:=q;let ψ:Ph:=⟨fun a=>if dom (app M δ) a then φ'.f a else φ.f a,fun a=>if dom (app M δ) a then φ'.sh a else φ.sh a,fun a=>if dom (app M δ) a then φ'.sz a else φ.sz a⟩
 have ψin:∀a,dom (app M δ) a->φ'.same ψ a:=fun a ha=>⟨if_pos ha,if_pos ha,if_pos ha⟩
 have ψout:∀a,¬dom (app M δ) a->φ.same ψ a:=fun a ha=>⟨if_neg ha,if_neg ha,if_neg ha⟩
 have ψold:∀a,dom G a->φ.same ψ a:=by
  intro a ha;by_cases hd:dom (app M δ) a
  ·have h1:=ψin a hd;have hM:dom M a:=by
    cases hδa:δ a with
    |none=>unfold dom at hd⊢;rwa [Be hδa]at hd
    |some y=>
     rcases hδ a (by rw[hδa];exact fun e=>by cases e)with⟨x,hx,_⟩|hn
     ·unfold dom;rw[hx];exact fun e=>by cases e
     ·exact absurd hn ha
   obtain⟨_,g1,g2,g3⟩:=hg a hM;exact⟨h1.1.trans g1,h1.2.1.trans g2,h1.2.2.trans g3⟩
  ·exact ψout a hd
 have dsub:∀a,dom (app M δ) a->dom (app G δ) a:=by
  intro a ha;unfold dom at ha⊢;cases hδa:δ a with
  |none=>rw[Be hδa]at ha⊢;exact hs.dom a ha
  |some y=>rw[Bl hδa];exact fun e=>by cases e
 have hin:∀c,dom (app M δ) c->dom (app G δ) c/\φ'.same ψ c:=fun c hc=>⟨dsub c hc,ψin c hc⟩
 have hG2:Gr φ G ψ (app G δ):=by
  intro a ha;refine⟨?_,ψold a ha⟩;unfold dom at ha⊢;cases hδa:δ a with
  |none=>rwa [Be hδa]
  |some y=>rw[Bl hδa];exact fun e=>by cases e
 have domS:∀{H:Hp} {a:Nat} {x:AB},H a=some x->dom H a:=fun hx e=>by rw[hx]at e;cases e
 have cases_:∀a x,app G δ a=some x->x≠ .dead->(app M δ a=some x/\ψ.f a=φ'.f a)\/(δ a=none/\G a=some x/\¬Live M a):=by
  intro a x hx hxd;cases hδa:δ a with
  |some y=>
   rw[Bl hδa]at hx;have:app M δ a=some x:=by rw[Bl hδa];exact hx
   exact .inl ⟨this,(ψin a (domS this)).1⟩
  |none=>
   rw[Be hδa]at hx;by_cases hl:Live M a
   ·obtain⟨x2,h1,h2⟩:=hl;have h3:=hs.live a x2 h1 h2;rw[hx]at h3;obtain rfl:=AC h3;have:app M δ a=some x:=by rw[Be hδa];exact h1
    exact .inl ⟨this,(ψin a (domS this)).1⟩
   ·exact .inr ⟨rfl,hx,hl⟩
 have hfr:∀a x,G a=some x->x.mine=true->¬Live M a->X' (φ.f a)=w.heap[φ.f a]? /\w'.heap[φ.f a]? =w.heap[φ.f a]? /\O' (φ.f a):=by
  intro a x hx hxm hl;have hC:C (φ.f a):=⟨a,x,hx,hxm,rfl,hl⟩;obtain⟨k1,k2,q,k3⟩:=hCs _ hC;have hX:=hXC _ hC;rw[k3]at hX;obtain⟨_,g2⟩:=hr'.frame _ _ hX;exact⟨hX.trans k3.symm,g2.trans k3.symm,hO _ k1⟩
 have hX0:∀b,X' b=none->X b=none:=by
  intro b hb;by_cases hC:C b
  ·rw[hXC b hC]at hb;obtain⟨_,k2,_⟩:=hCs b hC;exact k2
  ·rwa [hXN b hC]at hb
 have hrG:Rel X O' ψ (app G δ) w':=by
  refine⟨?_,fun b q hb=> ?_,fun a x hx hxm=> ?_,fun a c hc=> ?_,fun a b x y hx hy hxm hym e=> ?_⟩
  ·obtain⟨n1,h1⟩:=hr'.fin;obtain⟨n2,h2⟩:=hr.fin;refine⟨max n1 n2,fun a ha=> ?_⟩;have h3:=h1 a om;cases hδa:δ a with
   |none=>rw[Be hδa];exact h2 a om
   |some y=>rw[Bl hδa]at h3;cases h3
  ·have hC:¬C b:=fun hC=>by rw[(hCs b hC).2.1]at hb;cases hb
   exact hr'.frame b q (by rw[hXN b hC];exact hb)
  ·rcases cases_ a x hx (CI hxm)with⟨h1,h2⟩|⟨h1,h2,h3⟩
   ·obtain⟨g1,g2,q,g3,g4⟩:=hr'.own a x h1 hxm;rw[h2];exact⟨g1,hX0 _ g2,q,g3,DH hin (domS h1) g4⟩
   ·obtain⟨k1,k2,q,k3,k4⟩:=hr.own a x h2 hxm;obtain⟨g1,g2,g3⟩:=hfr a x h2 hxm h3;rw[(ψold a (domS h2)).1];exact⟨g3,k2,q,g2.trans k3,DH hG2 (domS h2) k4⟩
  ·cases hδa:δ a with
   |some y=>rw[Bl hδa]at hc;exact absurd (hδa.trans hc) (hro a c)
   |none=>
    rw[Be hδa]at hc;obtain⟨q,e,z,k1,k2⟩:=hr.ro a c hc;have hso:=ψold a (domS hc);exact⟨q,e,z,by rw[hso.1];exact k1,by rw[hso.2.1];exact DG hG2 k2⟩
  ·rcases cases_ a x hx (CI hxm)with⟨h1,h2⟩|⟨h1,h2,h3⟩<;>rcases cases_ b y hy (CI hym)with⟨g1,g2⟩|⟨g1,g2,g3⟩
   ·rw[h2,g2]at e;exact hr'.inj a b x y h1 g1 hxm hym e
   ·exfalso;rw[h2,(ψold b (domS g2)).1]at e;obtain⟨_,u2,_⟩:=hr'.own a x h1 hxm;obtain⟨q1,q2,_⟩:=hfr b y g2 hym g3;obtain⟨_,_,q,k3,_⟩:=hr.own b y g2 hym;rw[e,q1,k3]at u2;cases u2
   ·exfalso;rw[g2,(ψold a (domS h2)).1]at e;obtain⟨_,u2,_⟩:=hr'.own b y g1 hym;obtain⟨q1,q2,_⟩:=hfr a x h2 hxm h3;obtain⟨_,_,q,k3,_⟩:=hr.own a x h2 hxm;rw[<-e,q1,k3]at u2;cases u2
   ·rw[(ψold a (domS h2)).1,(ψold b (domS g2)).1]at e;exact hr.inj a b x y h2 g2 hxm hym e
 exact hk v (app G δ) O' ψ w' v' ⟨rfl,rfl,U6 hv',hr'.sc⟩ hG2 hO hrG (CB hin _ _ hv')
end
end Go.Proofs.YtjlallgaadmeaaaGreatDoor
