/- Parts of the proof, joined: EQ ER ES ET EU EV EZ KA KB FA FB FC. Conditions: none. -/
import Derived.Test.YtjlallgaadmeaaaGreatDoorM01
import Derived.Orders
import Derived.CheckFast
set_option linter.unusedVariables false
set_option linter.unusedSimpArgs false
set_option linter.unusedSectionVars false
set_option maxRecDepth 100000
namespace Go.Proofs.YtjlallgaadmeaaaGreatDoor
section
open Go.Conc
variable[Md]
inductive Ex where
 |norm
 |exit (id:Nat)
 |ret
def tu(K:KT)(fr:Frame)(k:List Item)(cs:List Frame)(ex:Ex)(O:Nat->Prop)(w:World)(T:Array Value)(ds:List Deferred):Prop:=
 match ex with
 | .norm=>K O (G {fr with tmps:=T,defers:=ds,todo:=k} cs) w
 | .exit id=>∀k0,exitTo id k0=exitTo id k->K O (G {fr with tmps:=T,defers:=ds,todo:= .code (.exit id)::k0} cs) w
 | .ret=>∀k0,K O (G {fr with tmps:=T,defers:=ds,todo:= .code .ret::k0} cs) w
abbrev QT:=Ex->AF->Hp->Prop
def WC(P:Program)(top:Bool)(c:Code)(Q:QT)(A:AF)(H:Hp):Prop:=
 ∀(main:Bool) (K:KT),Closed P main K->∀(X:Nat->Option Obj) (O:Nat->Prop) (φ:Ph) (w:World) (fr:Frame) (cs:List Frame) (k:List Item),
  fr.mode= .run->fr.todo= .code c::k->Qt fr.kind fr.roundOf cs top->Rel X O φ H w->GW φ (dom H) A fr.tmps fr.defers->
  (∀(ex:Ex) (A':AF) (H':Hp) (O':Nat->Prop) (φ':Ph) (w':World) (T':Array Value) (ds':List Deferred),Q ex A' H'->Gr φ H φ' H'->(∀b,O b->O' b)->Rel X O' φ' H' w'->GW φ' (dom H') A' T' ds'->tu K fr k cs ex O' w' T' ds')->K O (G fr cs) w
def I5(next:AF->Hp->Prop)(Q:QT):QT
 | .norm,A,H=>next A H
 |ex,A,H=>Q ex A H
def HD(id:Nat)(Q:QT):QT
 | .norm,A,H=>Q .norm A H
 | .exit i,A,H=>if i=id then Q .norm A H else Q (.exit i) A H
 | .ret,A,H=>Q .ret A H
section
variable{P:Program}{top main:Bool}{Q:QT}{A:AF}{H:Hp}
variable{cs:List Frame}{k:List Item}
theorem B8 {fr:Frame}  {w:World} {k':List Item} {x:Item} (hm:fr.mode= .run) (ht:fr.todo=x::k) (h:stepG.exec P main true {fr with todo:=x::k} cs none w= .go (G {fr with todo:=k'} cs) w #[]):stepG P main (G fr cs) w= .go (G {fr with todo:=k'} cs) w #[]:=by
 obtain⟨fn,tmps,todo,defers,mode,kind,ro⟩:=fr;dsimp only at hm ht;subst hm ht;exact h
theorem WC.mono{c:Code}{Q':QT}(h:WC P top c Q A H)(k:∀ex A H,Q ex A H->Q' ex A H):WC P top c Q' A H:=
 fun main K hK X O φ w fr cs kk h1 h2 h3 h4 h5 h6=>h main K hK X O φ w fr cs kk h1 h2 h3 h4 h5 fun ex A' H' O' φ' w' T' ds' q=>h6 ex A' H' O' φ' w' T' ds' (k ex A' H' q)
theorem BR(h:Q .norm A H):WC P top .skip Q A H:=by
 intro main K hK X O φ w fr cs k hm ht hqu hr ha hk;exact hK.idle (fun w₁=>B8 hm ht (k':=k) (by simp[stepG.exec,G])) fun w₁ k1=>hk .norm A H O φ w₁ fr.tmps fr.defers h (Gr.refl _ _) (fun _=>id) (hr.keep k1) ha
theorem Rx{l:Nat}(h:Q .norm A H):WC P top (.label l) Q A H:=by
 intro main K hK X O φ w fr cs k hm ht hqu hr ha hk;exact hK.idle (fun w₁=>B8 hm ht (k':=k) (by simp[stepG.exec,G])) fun w₁ k1=>hk .norm A H O φ w₁ fr.tmps fr.defers h (Gr.refl _ _) (fun _=>id) (hr.keep k1) ha
variable{i id:Nat}
theorem Ps(h:Q (.exit id) A H):WC P top (.exit id) Q A H:=by
 intro main K hK X O φ w fr cs k hm ht hqu hr ha hk;have:=hk (.exit id) A H O φ w fr.tmps fr.defers h (Gr.refl _ _) (fun _=>_root_.id) hr ha k rfl;rw[<-ht]at this;exact this
theorem BT(h:Q .ret A H):WC P top .ret Q A H:=by
 intro main K hK X O φ w fr cs k hm ht hqu hr ha hk;have:=hk .ret A H O φ w fr.tmps fr.defers h (Gr.refl _ _) (fun _=>_root_.id) hr ha k;rw[<-ht]at this;exact this
theorem tu.push{K:KT}{fr:Frame}{ex:Ex}{O:Nat->Prop}{w:World}{T:Array Value}{ds:List Deferred}{x:Item}(hx:∀id,exitTo id (x::k)=exitTo id k)(hn:ex≠ .norm)(h:tu K fr k cs ex O w T ds):tu K fr (x::k) cs ex O w T ds:=by
 cases ex with
 |norm=>exact absurd rfl hn
 |exit id=>exact fun k0 h0=>h k0 (h0.trans (hx id))
 |ret=>exact h
theorem BO{x y:Code}(h:WC P top x (I5 (WC P top y Q) Q) A H):WC P top (.seq x y) Q A H:=by
 intro main K hK X O φ w fr cs k hm ht hqu hr ha hk;refine hK.idle (fun w₁=>B8 hm ht (k':= .code x:: .code y::k) (by simp[stepG.exec,G])) fun w₁ k1=> ?_
 refine h main K hK X O φ w₁ _ cs (.code y::k) hm rfl hqu (hr.keep k1) ha fun ex A' H' O' φ' w' T' ds' q g o r a=> ?_
 cases ex with
 |norm=>
  refine q main K hK X O' φ' w' _ cs k hm rfl hqu r a fun ex A2 H2 O2 φ2 w2 T2 ds2 q2 g2 o2 r2 a2=> ?_
  exact hk ex A2 H2 O2 φ2 w2 T2 ds2 q2 (g.trans g2) (fun b hb=>o2 b (o b hb)) r2 a2
 |exit id=>exact(hk _ A' H' O' φ' w' T' ds' q g o r a).push (fun _=>rfl) (by simp)
 |ret=>exact(hk _ A' H' O' φ' w' T' ds' q g o r a).push (x:= .code y) (fun _=>rfl) (by simp)
theorem Pt{c:Operand}{x y:Code}{b:Bool}(hx:okX c=true)(hc:A.ev c= .bool b)(h:WC P top (if b then x else y) Q A H):WC P top (.cond c x y) Q A H:=by
 intro main K hK X O φ w fr cs k hm ht hqu hr ha hk;have he:fr.eval c= .bool b:=CQ.1 (hc▸DQ ha hx fr rfl);refine hK.idle (fun w₁=>B8 hm ht (k':= .code (if b then x else y)::k) ?_) fun w₁ k1=>h main K hK X O φ w₁ _ cs k hm rfl hqu (hr.keep k1) ha hk
 have he2: ({fr with todo:= .code (.cond c x y)::k}:Frame).eval c= .bool b:=by rw[<-he];cases c<;>rfl
 simp only[stepG.exec,he2,G]
theorem BS{c:Code}(h:WC P top c (HD id Q) A H):WC P top (.block id c) Q A H:=by
 intro main K hK X O φ w fr cs k hm ht hqu hr ha hk;refine hK.idle (fun w₁=>B8 hm ht (k':= .code c:: .inBlock id::k) (by simp[stepG.exec,G])) fun w₁ k1=> ?_
 refine h main K hK X O φ w₁ _ cs (.inBlock id::k) hm rfl hqu (hr.keep k1) ha fun ex A' H' O' φ' w' T' ds' q g o r a=> ?_
 cases ex with
 |norm=>
  refine hK.idle (fun w₂=>B8 (k:=k) hm rfl (k':=k) (by simp[stepG.exec,G])) fun w₂ k2=> ?_
  exact hk .norm A' H' O' φ' w₂ T' ds' q g o (r.keep k2) a
 |exit i=>
  intro k0 h0;by_cases hi:i=id
  ·subst hi;have q2:Q .norm A' H':=by simpa[HD]using q
   have h1:exitTo i k0=some k:=by rw[h0];simp[exitTo]
   refine hK.idle (fun w₂=>B8 (k:=k0) hm rfl (k':=k) (by simp[stepG.exec,G,h1])) fun w₂ k2=> ?_
   exact hk .norm A' H' O' φ' w₂ T' ds' q2 g o (r.keep k2) a
  ·have q2:Q (.exit i) A' H':=by simpa[HD,hi]using q
   exact hk (.exit i) A' H' O' φ' w' T' ds' q2 g o r a k0 (by rw[h0];simp only[exitTo];rw[if_neg (by simpa using fun e=>hi (Eq.symm e))])
 |ret=>exact(hk .ret A' H' O' φ' w' T' ds' q g o r a)
theorem Rw{c:Code}(h:WC P top c Q A H):WC P top (.scope c) Q A H:=by
 intro main K hK X O φ w fr cs k hm ht hqu hr ha hk;refine hK.idle (fun w₁=>B8 hm ht (k':= .code c:: .inScope c::k) (by simp[stepG.exec,G])) fun w₁ k1=> ?_
 refine h main K hK X O φ w₁ _ cs (.inScope c::k) hm rfl hqu (hr.keep k1) ha fun ex A' H' O' φ' w' T' ds' q g o r a=> ?_
 cases ex with
 |norm=>
  refine hK.idle (fun w₂=>B8 (k:=k) hm rfl (k':=k) (by simp[stepG.exec,G])) fun w₂ k2=> ?_
  exact hk .norm A' H' O' φ' w₂ T' ds' q g o (r.keep k2) a
 |exit i=>exact(hk _ A' H' O' φ' w' T' ds' q g o r a).push (fun _=>rfl) (by simp)
 |ret=>exact(hk _ A' H' O' φ' w' T' ds' q g o r a).push (x:= .inScope c) (fun _=>rfl) (by simp)
theorem Pr{c:Code}(I:Nat->AF->Hp->Prop){m:Nat}(h0:I m A H)(h:∀m A H,I m A H->WC P top c (I5 (fun A' H'=>∃m',m'<m/\I m' A' H') Q) A H):WC P top (.loop c) Q A H:=by
 intro main K hK X O φ w fr cs k hm ht hqu hr ha hk;have key:∀m A H O φ w T ds,I m A H->Rel X O φ H w->GW φ (dom H) A T ds->(∀(ex:Ex) (A':AF) (H':Hp) (O':Nat->Prop) (φ':Ph) (w':World) (T':Array Value) (ds':List Deferred),Q ex A' H'->Gr φ H φ' H'->(∀b,O b->O' b)->Rel X O' φ' H' w'->GW φ' (dom H') A' T' ds'->tu K fr k cs ex O' w' T' ds')->
   K O (G {fr with tmps:=T,defers:=ds,todo:= .code c:: .inLoop c::k} cs) w:=by
  intro m;induction m using Nat.strongRecOn with
  |_ m ih=>
   intro A H O φ w T ds hI hr ha hk;refine h m A H hI main K hK X O φ w _ cs (.inLoop c::k) hm rfl hqu hr ha fun ex A' H' O' φ' w' T' ds' q g o r a=> ?_
   cases ex with
   |norm=>
    obtain⟨m',hlt,hI'⟩:=q;refine hK.idle (fun w₂=>B8 (k:=k) hm rfl (k':= .code c:: .inLoop c::k) (by simp[stepG.exec,G])) fun w₂ k2=> ?_
    exact ih m' hlt A' H' O' φ' w₂ T' ds' hI' (r.keep k2) a fun ex A2 H2 O2 φ2 w2 T2 ds2 q2 g2 o2 r2 a2=>hk ex A2 H2 O2 φ2 w2 T2 ds2 q2 (g.trans g2) (fun b hb=>o2 b (o b hb)) r2 a2
   |exit i=>exact(hk _ A' H' O' φ' w' T' ds' q g o r a).push (fun _=>rfl) (by simp)
   |ret=>exact(hk _ A' H' O' φ' w' T' ds' q g o r a).push (x:= .inLoop c) (fun _=>rfl) (by simp)
 exact hK.idle (fun w₁=>B8 hm ht (k':= .code c:: .inLoop c::k) (by simp[stepG.exec,G])) fun w₁ k1=>key m A H O φ w₁ fr.tmps fr.defers h0 (hr.keep k1) ha hk
theorem OY{ops:Array Oper}(h:Dj P top ops (List.range ops.size) (fun A H=>Q .norm A H) A H):WC P top (.region id ops false) Q A H:=by
 intro main K hK X O φ w fr cs k hm ht hqu hr ha hk;refine hK.idle (fun w₁=>B8 hm ht (k':= .inRegion ops (List.range ops.size)::k) (by simp[stepG.exec,G])) fun w₁ k1=> ?_
 exact h main K hK X O φ w₁ _ cs k hm rfl hqu (hr.keep k1) ha fun A' H' O' φ' w' T' ds' q g o r a=>hk .norm A' H' O' φ' w' T' ds' q g o r a
theorem Xp{l:Array Bool}(h:l[i]? =some false): ((l.setIfInBounds i true).toList.count false)+1=l.toList.count false:=by
 obtain⟨l⟩:=l;simp only[List.getElem?_toArray]at h;simp only[List.setIfInBounds_toArray];induction l generalizing i with
 |nil=>simp at h
 |cons b l ih=>
  cases i with
  |zero=>
   simp only[AX,AO]at h;subst h;simp
  |succ i=>
   simp only[Am]at h;have:=ih h;simp only[List.set_cons_succ,List.count_cons]at this⊢;omega
variable{md:Region.Mode}
theorem Hv{ops:Array Oper}{S:Array Bool}(h:i∈Region.ready md ops S):i<ops.size/\S[i]? =some false/\∃o,ops[i]? =some o/\∀e∈o.after.toList,Region.binds md e=true->S.getD e.on false=true:=by
 unfold Region.ready at h;rw[List.mem_filter,An]at h;obtain⟨h1,h2⟩:=h;simp only[AA,A7]at h2;refine⟨h1,?_,ops[i],AK h1,fun e he hb=> ?_⟩
 ·have h3:=h2.1;rw[AL]at h3;cases hS:S[i]? with
  |none=>rw[hS]at h3;simp at h3
  |some b=>rw[hS]at h3;simp at h3;rw[h3]
 ·have h3:=h2.2;rw[AK h1]at h3;simp only[AU,AQ,Array.all_eq_true']at h3;have:=h3 e (by simpa using he);rw[hb]at this;simpa using this
theorem SY{ops:Array Oper}{S:Array Bool}(hs:S.size=ops.size)(h:S.toList.count false=0):Region.ready md ops S=[]:=by
 cases hr:Region.ready md ops S with
 |nil=>rfl
 |cons i l=>
  exfalso;obtain⟨h1,h2,_⟩:=Hv (i:=i) (by rw[hr];simp);have:false∈S.toList:=by
   rw[<-Ae]at h2;exact Ao h2
  exact absurd (List.count_pos_iff.2 this) om
theorem cQ{ops:Array Oper}(hx:P.follows .mixedOrders=true)(Inv:Array Bool->AF->Hp->Prop)(hok:∀o∈ops.toList,∀x∈o.op.operands,okX x=true)(h0:Inv (Array.replicate ops.size false) A H)
  (hstep:∀S A H i o,Inv S A H->i∈Region.ready .any ops S->ops[i]? =some o->if Region.wanted o (yiel ops A.t)then WOp P o (fun v H'=>Inv (S.setIfInBounds i true) (A.put o.dst v) H') A.ev H else Inv (S.setIfInBounds i true) (A.put o.dst undef) H)
  (hdone:∀S A H,Inv S A H->Region.ready .any ops S=[]->Q .norm A H):WC P top (.region id ops true) Q A H:=by
 have key:∀(fuel t:Nat) (S:Array Bool) (A:AF) (H:Hp),S.size=ops.size->S.toList.count false=fuel->Inv S A H->Dj P top ops (Region.linearise.go .any ops fuel t S []) (fun A H=>Q .norm A H) A H:=by
  intro fuel;induction fuel with
  |zero=>
   intro t S A H hs hc hI;have e:Region.linearise.go .any ops 0 t S []=[]:=by simp[Region.linearise.go]
   rw[e];exact Dj.nil (hdone S A H hI (SY hs hc))
  |succ fuel ih=>
   intro t S A H hs hc hI;simp only[Region.linearise.go];change Dj P top ops (match(Region.ready .any ops S)[t%(Region.ready .any ops S).length]? with
    |some i=>Region.linearise.go .any ops fuel (t/(Region.ready .any ops S).length) (S.setIfInBounds i true) [i]
    |none=>[].reverse) _ A H
   cases hi: (Region.ready .any ops S)[t%(Region.ready .any ops S).length]? with
   |none=>
    have hnil:Region.ready .any ops S=[]:=by
     cases hr:Region.ready .any ops S with
     |nil=>rfl
     |cons x xs=>
      rw[hr]at hi;have hlt:t%(x::xs).length<(x::xs).length:=Nat.mod_lt _ (by simp);simp at hi;simp at hlt;omega
    exact Dj.nil (hdone S A H hI hnil)
   |some i=>
    dsimp only;rw[linearise_go_acc,List.reverse_singleton,List.singleton_append];have hmem:=Ao hi;obtain⟨h1,h2,o,ho,_⟩:=Hv hmem;have hst:=hstep S A H i o hI hmem ho;have hc2:=Xp h2;have nxt:∀A' H',Inv (S.setIfInBounds i true) A' H'->Dj P top ops (Region.linearise.go .any ops fuel (t/(Region.ready .any ops S).length) (S.setIfInBounds i true) []) (fun A H=>Q .norm A H) A' H':=fun A' H' hI'=>ih _ _ A' H' (by simp[hs]) om hI'
    cases hw:Region.wanted o (yiel ops A.t)with
    |true=>
     rw[hw,if_pos rfl]at hst;refine Dj.op ho (fun x hxm=>hok o ?_ x hxm) hw (hst.mono fun v H' q=>nxt _ _ q);have:=Ao (l:=ops.toList) (i:=i) (by simpa using ho);exact this
    |false=>
     rw[hw,if_neg (by simp)]at hst;exact Dj.skip ho hw (nxt _ _ hst)
 intro main K hK X O φ w fr cs k hm ht hqu hr ha hk;refine hK.step O fr cs w fun w₁ k1=> ?_
 have hstp:∃d t,stepG P main (G fr cs) w₁= .go (G {fr with todo:= .inRegion ops (Region.linearise .any ops t)::k} cs) (w₁.at d) #[]:=by
  refine⟨w₁.drawn+1,w₁.tape w₁.drawn (.order fr.fn id),?_⟩;obtain⟨fn,tmps,todo,defers,mode,kind,ro⟩:=fr;dsimp only at hm ht;subst hm ht;simp[G,stepG,stepG.exec,choose,Sem.run,Question.forced,Question.cut,Region.schedule,hx,World.at]
 obtain⟨d,t,hst⟩:=hstp;refine⟨_,cs,_,#[],hst,⟨fun _ _ _=>rfl,AH _,rfl,rfl,rfl,fun e he=>by simp at he⟩,?_⟩;have hgr:grow O w₁ (w₁.at d)=O:=B4 O w₁;rw[hgr];refine key ops.size t (Array.replicate ops.size false) A H (by simp) (by simp) h0 main K hK X O φ (w₁.at d) _ cs k hm rfl hqu ((hr.keep k1).sameHeap rfl) ha fun A' H' O' φ' w' T' ds' q g o r a=>hk .norm A' H' O' φ' w' T' ds' q g o r a
end
def dlf:List (Nat×AB)->Dl
 |[],_=>none
 |(b,x)::l,a=>match dlf l a with
  |some y=>some y
  |none=>if a=b then some x else none
theorem E3:∀(l:List (Nat×AB)) (H:Hp),Kz H l=app H (dlf l)
 |[],H=>rfl
 |(b,x)::l,H=>by
  have h:=E3 l (upd H b (some x));show Kz (upd H b (some x)) l=_
  rw[h];funext a;unfold app;simp only[dlf];cases dlf l a with
  |some y=>rfl
  |none=>
   dsimp only;by_cases e:a=b
   ·rw[if_pos e,e,BU]
   ·rw[if_neg e,upd_ne e]
theorem CD:∀{l:List (Nat×AB)} {a:Nat} {x:AB},dlf l a=some x->(a,x)∈l
 |[],a,x,h=>by cases h
 |(b,y)::l,a,x,h=>by
  simp only[dlf]at h;cases hd:dlf l a with
  |some z=>rw[hd]at h;cases h;exact List.mem_cons_of_mem _ (CD hd)
  |none=>
   rw[hd]at h;dsimp only at h;split at h
   ·rename_i e;cases h;subst e;exact List.mem_cons_self ..
   ·cases h
theorem WN(l:List (Nat×AB)):∃n,∀a,n<=a->dlf l a=none:=by
 induction l with
 |nil=>exact⟨0,fun _ _=>rfl⟩
 |cons p l ih=>
  obtain⟨n,hn⟩:=ih;refine⟨max n (p.1+1),fun a ha=> ?_⟩;simp only[dlf,hn a om];rw[if_neg om]
def hs(S:Nat->Bool)(dl:Nat->List (Nat×AB))(H:Hp):Nat->Hp
 |0=>H
 |n+1=>if S n then app (hs S dl H n) (dlf (dl n))else hs S dl H n
def ts(S:Nat->Bool)(dst:Nat->Option Tmp)(v:Nat->Value)(t:Nat->Value):Nat->Nat->Value
 |0=>t
 |n+1=>if S n then(match dst n with|some d=>upd (ts S dst v t n) d (v n)|none=>ts S dst v t n)else ts S dst v t n
section
variable{S S':Nat->Bool}{dl:Nat->List (Nat×AB)}{H:Hp}{dst:Nat->Option Tmp}{v:Nat->Value}{t:Nat->Value}
theorem Mb:∀(n:Nat) (a:Nat) (x:AB),hs S dl H n a=some x->(H a=some x/\∀j,j<n->S j=true->dlf (dl j) a=none)\/∃j,j<n/\S j=true/\dlf (dl j) a=some x/\∀k,j<k->k<n->S k=true->dlf (dl k) a=none
 |0,a,x,h=> .inl ⟨h,fun j hj=>om⟩
 |n+1,a,x,h=>by
  unfold hs at h;cases hS:S n with
  |false=>
   rw[hS,if_neg (by simp)]at h;rcases Mb n a x h with⟨h1,h2⟩|⟨j,h1,h2,h3,h4⟩
   ·refine .inl ⟨h1,fun j hj hj2=> ?_⟩;by_cases e:j=n
    ·subst e;rw[hS]at hj2;cases hj2
    ·exact h2 j om hj2
   ·refine .inr ⟨j,om,h2,h3,fun k hk hk2 hk3=> ?_⟩;by_cases e:k=n
    ·subst e;rw[hS]at hk3;cases hk3
    ·exact h4 k hk om hk3
  |true=>
   rw[hS,if_pos rfl]at h;cases hd:dlf (dl n) a with
   |some y=>
    rw[Bl hd]at h;exact .inr ⟨n,om,hS,by rw[hd,<-h],fun k hk hk2=>om⟩
   |none=>
    rw[Be hd]at h;rcases Mb n a x h with⟨h1,h2⟩|⟨j,h1,h2,h3,h4⟩
    ·refine .inl ⟨h1,fun j hj hj2=> ?_⟩;by_cases e:j=n
     ·subst e;exact hd
     ·exact h2 j om hj2
    ·refine .inr ⟨j,om,h2,h3,fun k hk hk2 hk3=> ?_⟩;by_cases e:k=n
     ·subst e;exact hd
     ·exact h4 k hk om hk3
theorem RK:∀(n:Nat) (a:Nat),(∀j,j<n->dlf (dl j) a≠none->S j=S' j)->hs S dl H n a=hs S' dl H n a
 |0,a,h=>rfl
 |n+1,a,h=>by
  have ih:=RK n a fun j hj=>h j om
  unfold hs;by_cases hd:dlf (dl n) a=none
  ·have:∀b:Bool,(if b=true then app (hs S dl H n) (dlf (dl n))else hs S dl H n) a=hs S dl H n a:=fun b=>by
    cases b
    ·rfl
    ·exact Be hd
   have k:∀b:Bool,(if b=true then app (hs S' dl H n) (dlf (dl n))else hs S' dl H n) a=hs S' dl H n a:=fun b=>by
    cases b
    ·rfl
    ·exact Be hd
   rw[this,k,ih]
  ·rw[h n om hd];cases hS:S' n with
   |false=>simpa using ih
   |true=>
    rw[if_pos rfl,if_pos rfl];cases hd2:dlf (dl n) a with
    |none=>exact absurd hd2 hd
    |some y=>rw[Bl hd2,Bl hd2]
theorem LV:∀(n m:Nat) (a:Nat),n<=m->(∀j,n<=j->j<m->S j=true->dlf (dl j) a=none)->hs S dl H m a=hs S dl H n a:=by
 intro n m a hle;induction hle with
 |refl=>intro _;rfl
 | @step m hle ih=>
  intro h;have i1:=ih fun j h1 h2=>h j h1 om
  show(if S m=true then app (hs S dl H m) (dlf (dl m))else hs S dl H m) a=_
  cases hS:S m with
  |false=>rw[if_neg (by simp)];exact i1
  |true=>rw[if_pos rfl,Be (h m hle om hS)];exact i1
theorem GU:∀(n:Nat) (a:Nat),(dom H a\/∃j,j<n/\S j=true/\dlf (dl j) a≠none)->dom (hs S dl H n) a
 |0,a,h=>by
  rcases h with h|⟨j,hj,_⟩
  ·exact h
  ·omega
 |n+1,a,h=>by
  unfold hs;have ih:=GU n a;cases hS:S n with
  |false=>
   rw[if_neg (by simp)];refine ih (h.imp id ?_);rintro⟨j,hj,h1,h2⟩;by_cases e:j=n
   ·subst e;rw[hS]at h1;cases h1
   ·exact⟨j,om,h1,h2⟩
  |true=>
   rw[if_pos rfl];unfold dom;cases hd:dlf (dl n) a with
   |some y=>rw[Bl hd];exact fun e=>by cases e
   |none=>
    rw[Be hd];refine ih (h.imp id ?_);rintro⟨j,hj,h1,h2⟩;by_cases e:j=n
    ·subst e;exact absurd hd h2
    ·exact⟨j,om,h1,h2⟩
theorem PW{n a:Nat}(h:dom (hs S dl H n) a):dom H a\/∃j,j<n/\S j=true/\dlf (dl j) a≠none:=by
 unfold dom at h;cases hx:hs S dl H n a with
 |none=>exact absurd hx h
 |some x=>
  rcases Mb n a x hx with⟨h1,_⟩|⟨j,h1,h2,h3,_⟩
  ·exact .inl (by unfold dom;rw[h1];exact fun e=>by cases e)
  ·exact .inr ⟨j,h1,h2,by rw[h3];exact fun e=>by cases e⟩
theorem PV(n:Nat)(h:∃m,∀a,m<=a->H a=none):∃m,∀a,m<=a->hs S dl H n a=none:=by
 induction n with
 |zero=>exact h
 |succ n ih=>
  obtain⟨m,hm⟩:=ih;obtain⟨k,hk⟩:=WN (dl n);refine⟨max m k,fun a ha=> ?_⟩;show(if S n=true then app (hs S dl H n) (dlf (dl n))else hs S dl H n) a=_
  split
  ·rw[Be (hk a om)];exact hm a om
  ·exact hm a om
theorem Nk(hd:∀i j d,i≠j->dst i=some d->dst j≠some d):∀(n:Nat) (d:Nat),ts S dst v t n d=t d/\(∀j,j<n->S j=true->dst j≠some d)\/∃j,j<n/\S j=true/\dst j=some d/\ts S dst v t n d=v j
 |0,d=> .inl ⟨rfl,fun j hj=>om⟩
 |n+1,d=>by
  have ih:=Nk hd n d;cases hS:S n with
  |false=>
   have e:ts S dst v t (n+1)=ts S dst v t n:=by show(if S n=true then _ else _)=_;rw[hS,if_neg (by simp)]
   rw[e];rcases ih with⟨h1,h2⟩|⟨j,h1,h2,h3,h4⟩
   ·refine .inl ⟨h1,fun j hj hj2=> ?_⟩;by_cases e:j=n
    ·subst e;rw[hS]at hj2;cases hj2
    ·exact h2 j om hj2
   ·exact .inr ⟨j,om,h2,h3,h4⟩
  |true=>
   cases hn:dst n with
   |none=>
    have e:ts S dst v t (n+1)=ts S dst v t n:=by show(if S n=true then _ else _)=_;rw[hS,if_pos rfl,hn]
    rw[e];rcases ih with⟨h1,h2⟩|⟨j,h1,h2,h3,h4⟩
    ·refine .inl ⟨h1,fun j hj hj2=> ?_⟩;by_cases e:j=n
     ·subst e;rw[hn];simp
     ·exact h2 j om hj2
    ·exact .inr ⟨j,om,h2,h3,h4⟩
   |some d2=>
    have e:ts S dst v t (n+1)=upd (ts S dst v t n) d2 (v n):=by show(if S n=true then _ else _)=_;rw[hS,if_pos rfl,hn]
    rw[e];by_cases hdd:d=d2
    ·subst hdd;exact .inr ⟨n,om,hS,hn,BU ..⟩
    ·rw[upd_ne hdd];rcases ih with⟨h1,h2⟩|⟨j,h1,h2,h3,h4⟩
     ·refine .inl ⟨h1,fun j hj hj2=> ?_⟩;by_cases e:j=n
      ·subst e;rw[hn];exact fun e=>hdd (AC e).symm
      ·exact h2 j om hj2
     ·exact .inr ⟨j,om,h2,h3,h4⟩
theorem Nj(hd:∀i j d,i≠j->dst i=some d->dst j≠some d){n m:Nat}{d:Nat}(h:∀j,dst j=some d->((j<n/\S j=true)↔ (j<m/\S' j=true))):ts S dst v t n d=ts S' dst v t m d:=by
 rcases Nk (S:=S) (v:=v) (t:=t) hd n d with⟨h1,h2⟩|⟨j,h1,h2,h3,h4⟩<;>rcases Nk (S:=S') (v:=v) (t:=t) hd m d with⟨k1,k2⟩|⟨i,k1,k2,k3,k4⟩
 ·rw[h1,k1]
 ·have:=(h i k3).2 ⟨k1,k2⟩;exact absurd k3 (h2 i this.1 this.2)
 ·have:=(h j h3).1 ⟨h1,h2⟩;exact absurd h3 (k2 j this.1 this.2)
 ·rw[h4,k4];by_cases e:i=j
  ·rw[e]
  ·exact absurd h3 (hd i j d e k3)
end
def mk(m:List Nat)(H:Hp):Hp:=fun a=>if a∈m then(H a).map fun _=> .dead else H a
def dstOf(ops:Array Oper)(i:Nat):Option Tmp:=(ops[i]?).bind (·.dst)
def AF.with(A:AF)(t:Nat->Value):AF:={A with t:=t}
def memAt(anc:Nat->Nat->Bool)(dl:Nat->List (Nat×AB))(mask:Nat->List Nat)(n:Nat)(H:Hp)(i:Nat):Hp:=mk (mask i) (hs (anc i) dl H n)
def slotsAt(ops:Array Oper)(anc:Nat->Nat->Bool)(v:Nat->Value)(A:AF)(i:Nat):AF:=A.with (ts (anc i) (dstOf ops) v A.t ops.size)
structure Order(ops:Array Oper)(anc:Nat->Nat->Bool)(n:Nat):Prop where
 ok:∀o∈ops.toList,∀x∈o.op.operands,okX x=true
 lt:∀i j,anc i j=true->j<i/\i<ops.size
 sound:∀i (o:Oper),ops[i]? =some o->∀j,anc i j=true->∃e∈o.after.toList,Region.binds .any e=true/\(e.on=j\/anc e.on j=true)
 trans:∀i j k,anc i j=true->anc j k=true->anc i k=true
 dst:∀i j d,i≠j->dstOf ops i=some d->dstOf ops j≠some d
 slot:∀i d,dstOf ops i=some d->d<n
 edge:∀i (o:Oper),ops[i]? =some o->∀e∈o.after.toList,Region.binds .any e=true->e.on<i
 names:∀i (o:Oper) j d,ops[i]? =some o->i≠j->dstOf ops j=some d->d∈o.looksAt ops->anc i j=true\/anc j i=true
structure Drawn(P:Program)(ops:Array Oper)(anc:Nat->Nat->Bool)(dl:Nat->List (Nat×AB))(v:Nat->Value)(mask:Nat->List Nat)(A:AF)(H:Hp):Prop where
 run:∀i (o:Oper),ops[i]? =some o->if Region.wanted o (yiel ops (slotsAt ops anc v A i).t)then WOp P o (fun u H'=>u=v i/\H'=app (memAt anc dl mask ops.size H i) (dlf (dl i))) (slotsAt ops anc v A i).ev (memAt anc dl mask ops.size H i)else v i=undef/\dl i=[]
 dis:∀i j,i<ops.size->j<ops.size->i≠j->anc i j=false->anc j i=false->∀a,dlf (dl j) a≠none->¬Live (memAt anc dl mask ops.size H i) a/\dlf (dl i) a=none
 new:∀i,i<ops.size->∀a,dlf (dl i) a≠none->Live (memAt anc dl mask ops.size H i) a\/hs (anc i) dl H ops.size a=none
 ro:∀i,i<ops.size->∀a c,dlf (dl i) a≠some (.ro c)
section
variable{P:Program}{top:Bool}{Q:QT}{A:AF}{H:Hp}
theorem X6 {c:Code} (h:Sc H->(∃n,∀a,n<=a->H a=none)->(∀i,R6 (dom H) (A.t i))->WC P top c Q A H):WC P top c Q A H:=
 fun main K hK X O φ w fr cs k hm ht hqu hr ha hk=>h hr.sc hr.fin (fun i=>U6 (ha.1.2 i)) main K hK X O φ w fr cs k hm ht hqu hr ha hk
theorem LO{m:List Nat}{H:Hp}{a:Nat}{x:AB}(h:mk m H a=some x)(hx:x≠ .dead):H a=some x:=by
 unfold mk at h;split at h
 ·cases hH:H a with
  |none=>rw[hH]at h;cases h
  |some y=>rw[hH]at h;exact absurd (AC h).symm hx
 ·exact h
theorem Il{m:List Nat}{H:Hp}{a:Nat}:dom (mk m H) a↔dom H a:=by
 unfold dom mk;split
 ·cases H a<;>simp
 ·exact Iff.rfl
def Inv(P:Program)(ops:Array Oper)(anc:Nat->Nat->Bool)(dl:Nat->List (Nat×AB))(v:Nat->Value)(mask:Nat->List Nat)(A:AF)(H:Hp)(S:Array Bool)(A':AF)(H':Hp):Prop:=
 (∀i j,S.getD i false=true->anc i j=true->S.getD j false=true)/\H'=hs (fun i=>S.getD i false) dl H ops.size/\A'=A.with (ts (fun i=>S.getD i false) (dstOf ops) v A.t ops.size)/\
 S.size=ops.size/\∀j,S.getD j false=true->R6 (dom (app (memAt anc dl mask ops.size H j) (dlf (dl j)))) (v j)/\Sc (app (memAt anc dl mask ops.size H j) (dlf (dl j)))
theorem iL{H:Hp}{u:Hp}{a:Nat}(h:dom H a):dom (app H u) a:=by
 unfold dom app at*;split
 ·simp
 ·exact h
theorem Da{S:Array Bool}{i:Nat}(h:i<S.size)(j:Nat): (S.setIfInBounds i true).getD j false=if i=j then true else S.getD j false:=by
 rw[AL,AL,Array.getElem?_setIfInBounds];by_cases e:i=j
 ·subst e;simp[h]
 ·simp[e]
structure Over(P:Program)(ops:Array Oper)(anc:Nat->Nat->Bool)(dl:Nat->List (Nat×AB))(v:Nat->Value)(mask:Nat->List Nat)(A:AF)(H:Hp)(sp:Nat->Bool)(C:Array Bool->Hp->Prop):Prop where
 zero:C (Array.replicate ops.size false) (fun _=>none)
 keep:∀S u i,C S u->i<ops.size->sp i=false->S.getD i false=false->(∀j,anc i j=true->S.getD j false=true)->C (S.setIfInBounds i true) u/\∀a,u a≠none->¬Live (memAt anc dl mask ops.size H i) a/\dlf (dl i) a=none/\dom (hs (fun k=>S.getD k false) dl H ops.size) a
 step:∀S u i o,C S u->ops[i]? =some o->sp i=true->S.getD i false=false->(∀j,anc i j=true->S.getD j false=true)->dl i=[]/\plainV (v i)=true/\Region.wanted o (yiel ops (slotsAt ops anc v A i).t)=true/\
  WOp P o (fun w G=>w=v i/\∃u',C (S.setIfInBounds i true) u'/\G=app (hs (fun k=>S.getD k false) dl H ops.size) u') (slotsAt ops anc v A i).ev (app (hs (fun k=>S.getD k false) dl H ops.size) u)
variable{dl:Nat->List (Nat×AB)}{mask:Nat->List Nat}
theorem OZ{id:Nat}{ops:Array Oper}{anc:Nat->Nat->Bool}{v:Nat->Value}(sp:Nat->Bool)(C:Array Bool->Hp->Prop)(hx:P.follows .mixedOrders=true)(hO:Order ops anc A.n)
  (hrun:∀i (o:Oper),ops[i]? =some o->sp i=false->if Region.wanted o (yiel ops (slotsAt ops anc v A i).t)then WOp P o (fun u H'=>u=v i/\H'=app (memAt anc dl mask ops.size H i) (dlf (dl i))) (slotsAt ops anc v A i).ev (memAt anc dl mask ops.size H i)else v i=undef/\dl i=[])
  (hdis:∀i j,i<ops.size->j<ops.size->i≠j->anc i j=false->anc j i=false->∀a,dlf (dl j) a≠none->¬Live (memAt anc dl mask ops.size H i) a/\dlf (dl i) a=none)
  (hnw:∀i,i<ops.size->∀a,dlf (dl i) a≠none->Live (memAt anc dl mask ops.size H i) a\/hs (anc i) dl H ops.size a=none)(hro:∀i,i<ops.size->∀a c,dlf (dl i) a≠some (.ro c))(hC:Over P ops anc dl v mask A H sp C)
  (hq:∀S u,C S u->(∀i,i<ops.size->S.getD i false=true)->Q .norm (A.with (ts (fun _=>true) (dstOf ops) v A.t ops.size)) (app (hs (fun _=>true) dl H ops.size) u)):WC P top (.region id ops true) Q A H:=by
 refine X6 fun hsc hfin hmen=> ?_
 have size_lt:∀{S:Array Bool} {i:Nat},S.getD i false=true->i<S.size:=fun{S i} h=>by
  rw[AL]at h;cases hS:S[i]? with
  |none=>rw[hS]at h;cases h
  |some b=>exact(AR.1 hS).1
 refine cQ hx (fun S A' G=>∃u H',C S u/\Inv P ops anc dl v mask A H S A' H'/\G=app H' u) hO.ok ?_ (fun S A' G i o hI hi ho=> ?_) fun S A' G hI hr=> ?_
 ·have hz:∀i,(Array.replicate ops.size false).getD i false=false:=fun i=>by
   rw[AL,Array.getElem?_replicate];split<;>rfl
  refine⟨fun _=>none,H,hC.zero,⟨fun i j h _=>(by rw[hz]at h;cases h),?_,?_,by simp,fun j h=>(by rw[hz]at h;cases h)⟩,rfl⟩
  ·funext a;exact(LV (S:=fun i=>(Array.replicate ops.size false).getD i false) 0 ops.size a (Nat.zero_le _) (fun j _ _ h=>by rw[hz]at h;cases h)).symm
  ·unfold AF.with;have:ts (fun i=>(Array.replicate ops.size false).getD i false) (dstOf ops) v A.t ops.size=A.t:=by
    funext d;rcases Nk (S:=fun i=>(Array.replicate ops.size false).getD i false) (v:=v) (t:=A.t) hO.dst ops.size d with⟨h,_⟩|⟨j,_,h,_⟩
    ·exact h
    ·rw[hz]at h;cases h
   rw[this]
 ·obtain⟨u,H',hCu,⟨cl,rfl,rfl,hsz,hfacts⟩,rfl⟩:=hI;obtain⟨hi1,hi2,o2,ho2,hedge⟩:=Hv hi;rw[ho]at ho2;obtain rfl:=AC ho2;have hiS:S.getD i false=false:=by rw[AL,hi2];rfl
  have hilt:i<S.size:=by rw[hsz];exact hi1
  have up:∀j,anc i j=true->S.getD j false=true:=fun j hj=>by
   obtain⟨e,he,hb,h1⟩:=hO.sound i o ho j hj;have h2:=hedge e he hb;rcases h1 with rfl|h1
   ·exact h2
   ·exact cl _ _ h2 h1
  have down:∀j,S.getD j false=true->anc j i=false:=fun j hj=>by
   cases h:anc j i with
   |false=>rfl
   |true=>rw[cl j i hj h]at hiS;cases hiS
  have ne:∀j,S.getD j false=true->j≠i:=fun j hj e=>by rw[e,hiS]at hj;cases hj
  have irr:anc i i=false:=by
   cases h:anc i i with
   |false=>rfl
   |true=>have:=(hO.lt i i h).1;omega
  have apart_:∀j,S.getD j false=true->anc i j=false->∀a,dlf (dl j) a≠none->¬Live (memAt anc dl mask ops.size H i) a/\dlf (dl i) a=none:=fun j hj hn a ha=>
   hdis i j hi1 (by rw[<-hsz];exact size_lt hj) (fun e=>ne j hj e.symm) hn (down j hj) a ha
  have sees:∀d,d∈o.looksAt ops->ts (fun i=>S.getD i false) (dstOf ops) v A.t ops.size d=ts (anc i) (dstOf ops) v A.t ops.size d:=by
   intro d hd;refine Nj hO.dst fun j hj=> ?_
   refine and_congr_right fun _=> ?_
   by_cases e:j=i
   ·subst e;rw[irr,hiS]
   ·rcases hO.names i o j d ho (fun e2=>e e2.symm) hj hd with h|h
    ·rw[h,up j h]
    ·have h1:S.getD j false=false:=by
      cases hS:S.getD j false with
      |false=>rfl
      |true=>rw[down j hS]at h;cases h
     have h2:anc i j=false:=by
      cases h3:anc i j with
      |false=>rfl
      |true=>have:=(hO.lt i j h3).1;have:=(hO.lt j i h).1;omega
     rw[h1,h2]
  have hwant:Region.wanted o (yiel ops (A.with (ts (fun i=>S.getD i false) (dstOf ops) v A.t ops.size)).t)=Region.wanted o (yiel ops (slotsAt ops anc v A i).t):=by
   unfold Region.wanted;cases hg:o.guard with
   |none=>rfl
   |some p=>
    obtain⟨g,want⟩:=p;dsimp only;have:yiel ops (A.with (ts (fun i=>S.getD i false) (dstOf ops) v A.t ops.size)).t g=yiel ops (slotsAt ops anc v A i).t g:=by
     unfold yiel;cases hd: (ops[g]?).bind (·.dst)with
     |none=>rfl
     |some d=>
      simp only[AU];have h1:=sees d (by unfold Oper.looksAt;rw[hg];simp[hd]);show(match some (ts (fun i=>S.getD i false) (dstOf ops) v A.t ops.size d)with|some (.bool b)=>some b|_=>none)=(match some (ts (anc i) (dstOf ops) v A.t ops.size d)with|some (.bool b)=>some b|_=>none)
      rw[h1]
    rw[this]
  have hev:∀x∈o.op.operands,(slotsAt ops anc v A i).ev x=(A.with (ts (fun i=>S.getD i false) (dstOf ops) v A.t ops.size)).ev x:=by
   intro x hxm;cases x with
   |tmp d=>
    refine(sees d ?_).symm;unfold Oper.looksAt;refine List.mem_append_left _ (List.mem_filterMap.2 ⟨.tmp d,by simpa using hxm,rfl⟩)
   |_=>rfl
  have hdomM:∀a,dom (memAt anc dl mask ops.size H i) a↔dom (hs (anc i) dl H ops.size) a:=fun a=>Il
  have hsub:∀u:Hp,(∀a,u a≠none->¬Live (memAt anc dl mask ops.size H i) a)->Sub (memAt anc dl mask ops.size H i) (app (hs (fun i=>S.getD i false) dl H ops.size) u):=by
   refine fun u hu=>⟨fun a x ha hxd=> ?_,fun a ha=> ?_⟩
   ·have h1:=LO ha hxd;rw[Be (Classical.byContradiction fun h=>hu a h ⟨x,ha,hxd⟩)];rw[<-h1];refine RK ops.size a fun j hj hda=> ?_
    cases hS:S.getD j false with
    |true=>
     cases hA:anc i j with
     |true=>rfl
     |false=>exact absurd ⟨x,ha,hxd⟩ (apart_ j hS hA a hda).1
    |false=>
     cases hA:anc i j with
     |true=>rw[up j hA]at hS;cases hS
     |false=>rfl
   ·refine iL ?_;rcases PW ((hdomM a).1 ha)with h|⟨j,hj,h1,h2⟩
    ·exact GU _ _ (.inl h)
    ·exact GU _ _ (.inr ⟨j,hj,up j h1,h2⟩)
  have domJ:∀j,anc i j=true->∀a,dom (app (memAt anc dl mask ops.size H j) (dlf (dl j))) a->dom (memAt anc dl mask ops.size H i) a:=by
   intro j hj a ha;rw[hdomM];cases hd:dlf (dl j) a with
   |some y=>exact GU _ _ (.inr ⟨j,by have:=hO.lt i j hj;omega,hj,by rw[hd];exact fun e=>by cases e⟩)
   |none=>
    unfold dom at ha;rw[Be hd]at ha;rcases PW (Il.1 ha)with h|⟨k,hk,h1,h2⟩
    ·exact GU _ _ (.inl h)
    ·exact GU _ _ (.inr ⟨k,hk,hO.trans i j k hj h1,h2⟩)
  have hscM:Sc (memAt anc dl mask ops.size H i):=by
   intro a x ha;by_cases hxd:x= .dead
   ·subst hxd;exact KJ
   ·have h1:=LO ha hxd;rcases Mb _ _ _ h1 with⟨h2,_⟩|⟨j,h2,h3,h4,_⟩
    ·exact KI (fun b hb=>(hdomM b).2 (GU _ _ (.inl hb))) (hsc a x h2)
    ·exact KI (domJ j h3) ((hfacts j (up j h3)).2 a x (Bl h4))
  have hmenM:∀x∈o.op.operands,R6 (dom (memAt anc dl mask ops.size H i)) ((slotsAt ops anc v A i).ev x):=by
   intro x hxm;have hxo:okX x=true:=hO.ok o (Ao (l:=ops.toList) (i:=i) (by simpa using ho)) x hxm;cases x with
   |tmp d=>
    show R6 _ (ts (anc i) (dstOf ops) v A.t ops.size d)
    rcases Nk (S:=anc i) (v:=v) (t:=A.t) hO.dst ops.size d with⟨h,_⟩|⟨j,h1,h2,h3,h4⟩
    ·rw[h];exact Q4 (fun b hb=>(hdomM b).2 (GU _ _ (.inl hb))) (hmen d)
    ·rw[h4];exact Q4 (domJ j h2) (hfacts j (up j h2)).1
   |const u=>exact Gc hxo
   |func f=>exact Gc rfl
   |global g=>cases hxo
  have hfinM:∃n,∀a,n<=a->memAt anc dl mask ops.size H i a=none:=by
   obtain⟨n,hn⟩:=PV (S:=anc i) (dl:=dl) ops.size hfin;exact⟨n,fun a ha=>by unfold memAt mk;rw[hn a ha];split<;>rfl⟩
  have hcl:∀k j,(S.setIfInBounds i true).getD k false=true->anc k j=true->(S.setIfInBounds i true).getD j false=true:=by
   intro k j hk hkj;rw[Da hilt]at hk⊢;by_cases e:i=j
   ·rw[if_pos e]
   ·rw[if_neg e];by_cases e2:i=k
    ·subst e2;exact up j hkj
    ·rw[if_neg e2]at hk;exact cl k j hk hkj
  have hH:hs (fun k=>(S.setIfInBounds i true).getD k false) dl H ops.size=app (hs (fun k=>S.getD k false) dl H ops.size) (dlf (dl i)):=by
   funext a;cases hda:dlf (dl i) a with
   |some y=>
    rw[Bl hda];rw[LV (S:=fun k=>(S.setIfInBounds i true).getD k false) (i+1) ops.size a hi1 fun j h1 h2 h3=> ?_]
    ·show(if(S.setIfInBounds i true).getD i false=true then _ else _:Hp) a=_
     rw[Da hilt,if_pos rfl,if_pos rfl,Bl hda]
    ·rw[Da hilt,if_neg om]at h3;cases hdj:dlf (dl j) a with
     |none=>rfl
     |some z=>
      have hA:anc i j=false:=by
       cases h:anc i j with
       |false=>rfl
       |true=>have:=(hO.lt i j h).1;omega
      have:=(apart_ j h3 hA a (by rw[hdj];exact fun e=>by cases e)).2;rw[hda]at this;cases this
   |none=>
    rw[Be hda];refine RK ops.size a fun j hj hdj=> ?_
    rw[Da hilt,if_neg (fun e=>by rw[e]at hda;exact hdj hda)]
  have hA: (A.with (ts (fun k=>S.getD k false) (dstOf ops) v A.t ops.size)).put o.dst (v i)=A.with (ts (fun k=>(S.setIfInBounds i true).getD k false) (dstOf ops) v A.t ops.size):=by
   have hdi:dstOf ops i=o.dst:=by unfold dstOf;rw[ho];rfl
   cases hd:o.dst with
   |none=>
    show A.with _=A.with _
    congr 1;funext d;refine Nj hO.dst fun j hj=>and_congr_right fun _=> ?_
    rw[Da hilt,if_neg (fun e=>by rw[<-e,hdi,hd]at hj;cases hj)]
   |some d0=>
    have hlt:=hO.slot i d0 (by rw[hdi,hd]);unfold AF.put;dsimp only;rw[if_pos (show d0<(A.with (ts (fun k=>S.getD k false) (dstOf ops) v A.t ops.size)).n from hlt)];unfold AF.with;congr 1;funext d;by_cases e:d=d0
    ·subst e;rw[BU];rcases Nk (S:=fun k=>(S.setIfInBounds i true).getD k false) (v:=v) (t:=A.t) hO.dst ops.size d with⟨_,h⟩|⟨j,h1,h2,h3,h4⟩
     ·exact absurd (by rw[hdi,hd]) (h i hi1 (by rw[Da hilt,if_pos rfl]))
     ·rw[h4];by_cases e:i=j
      ·rw[e]
      ·exact absurd h3 (hO.dst i j d e (by rw[hdi,hd]))
    ·rw[upd_ne e];refine Nj hO.dst fun j hj=>and_congr_right fun _=> ?_
     rw[Da hilt,if_neg (fun e2=>by rw[<-e2,hdi,hd]at hj;exact e (AC hj).symm)]
  have hInv:R6 (dom (app (memAt anc dl mask ops.size H i) (dlf (dl i)))) (v i)->Sc (app (memAt anc dl mask ops.size H i) (dlf (dl i)))->Inv P ops anc dl v mask A H (S.setIfInBounds i true) ((A.with (ts (fun k=>S.getD k false) (dstOf ops) v A.t ops.size)).put o.dst (v i)) (app (hs (fun k=>S.getD k false) dl H ops.size) (dlf (dl i))):=by
   intro h1 h2;refine⟨hcl,hH.symm,hA,by simp[hsz],fun j hj=> ?_⟩;rw[Da hilt]at hj;by_cases e:i=j
   ·subst e;exact⟨h1,h2⟩
   ·rw[if_neg e]at hj;exact hfacts j hj
  rw[hwant];cases hsp:sp i with
  |true=>
   obtain⟨k1,k2,k3,k4⟩:=hC.step S u i o hCu ho hsp hiS up;have e1:app (memAt anc dl mask ops.size H i) (dlf (dl i))=memAt anc dl mask ops.size H i:=by rw[k1];rfl
   have e2:app (hs (fun k=>S.getD k false) dl H ops.size) (dlf (dl i))=hs (fun k=>S.getD k false) dl H ops.size:=by rw[k1];rfl
   have h3:=hInv (Gc k2) (by rw[e1];exact hscM);rw[e2]at h3;rw[if_pos k3];refine(k4.congr hev).mono fun w G q=> ?_
   obtain⟨rfl,u',q1,rfl⟩:=q;exact⟨u',_,q1,h3,rfl⟩
  |false=>
  have hrun:=hrun i o ho hsp;obtain⟨hC2,hCa⟩:=hC.keep S u i hCu hi1 hsp hiS up;have hcomm:app (app (hs (fun k=>S.getD k false) dl H ops.size) u) (dlf (dl i))=app (app (hs (fun k=>S.getD k false) dl H ops.size) (dlf (dl i))) u:=by
   funext a;by_cases h:u a=none
   ·cases hd:dlf (dl i) a with
    |none=>rw[Be hd,Be h,Be h,Be hd]
    |some y=>rw[Bl hd,Be h,Bl hd]
   ·obtain⟨y,hy⟩:=Option.ne_none_iff_exists'.1 h;rw[Be (hCa a h).2.1,Bl hy,Bl hy]
  cases hw:Region.wanted o (yiel ops (slotsAt ops anc v A i).t)with
  |true=>
   rw[hw,if_pos rfl]at hrun;rw[if_pos rfl];have hnew:∀a,dlf (dl i) a≠none->Live (memAt anc dl mask ops.size H i) a\/app (hs (fun k=>S.getD k false) dl H ops.size) u a=none:=by
    intro a ha;refine(hnw i hi1 a ha).imp _root_.id fun h=> ?_
    rw[Be (Classical.byContradiction fun h2=>ha (hCa a h2).2.1)];rw[<-h];refine RK ops.size a fun j hj hdj=> ?_
    cases hS:S.getD j false with
    |true=>
     cases hAj:anc i j with
     |true=>rfl
     |false=>exact absurd (apart_ j hS hAj a hdj).2 ha
    |false=>
     cases hAj:anc i j with
     |true=>rw[up j hAj]at hS;cases hS
     |false=>rfl
   have hfrm:=WOp.frame hrun (hsub u fun a h=>(hCa a h).1) hscM hfinM hmenM hnew (hro i hi1);refine(hfrm.congr hev).mono fun w G q=> ?_
   obtain⟨rfl,rfl,h1,h2⟩:=q;exact⟨u,_,hC2,hInv h1 h2,hcomm⟩
  |false=>
   rw[hw,if_neg (by simp)]at hrun;rw[if_neg (by simp)];have e:app (memAt anc dl mask ops.size H i) (dlf (dl i))=memAt anc dl mask ops.size H i:=by rw[hrun.2];rfl
   have e2:app (hs (fun k=>S.getD k false) dl H ops.size) (dlf (dl i))=hs (fun k=>S.getD k false) dl H ops.size:=by rw[hrun.2];rfl
   have:=hInv (by rw[hrun.1];exact Gc Cu) (by rw[e];exact hscM);rw[hrun.1,e2]at this;exact⟨u,_,hC2,this,rfl⟩
 ·obtain⟨u,H',hCu,⟨cl,rfl,rfl,hsz,hfacts⟩,rfl⟩:=hI;have all:∀i,i<ops.size->S.getD i false=true:=by
   intro i;induction i using Nat.strongRecOn with
   |_ i ih=>
    intro hi;cases hS:S.getD i false with
    |true=>rfl
    |false=>
     exfalso;have hSi:S[i]? =some false:=by
      rw[AL]at hS;have:i<S.size:=by rw[hsz];exact hi
      rw[AK this]at hS⊢;simpa using hS
     have:i∈Region.ready .any ops S:=by
      unfold Region.ready;rw[List.mem_filter,An];refine⟨hi,?_⟩;rw[AL,hSi,AK hi];simp only[AQ,Bool.not_false,Bool.true_and,AU,Array.all_eq_true'];intro e he;cases hb:Region.binds .any e with
      |false=>rfl
      |true=>
       have hlt:=hO.edge i ops[i] (AK hi) e (by simpa using he) hb;rw[ih e.on hlt om];rfl
     rw[hr]at this;cases this
  have e1:hs (fun k=>S.getD k false) dl H ops.size=hs (fun _=>true) dl H ops.size:=by
   funext a;exact RK ops.size a fun j hj _=>all j hj
  have e2:ts (fun k=>S.getD k false) (dstOf ops) v A.t ops.size=ts (fun _=>true) (dstOf ops) v A.t ops.size:=by
   funext d;exact Nj hO.dst fun j _=>and_congr_right fun hj=>by rw[all j hj]
  rw[e1,e2];exact hq S u hCu all
theorem cO{id:Nat}{ops:Array Oper}{anc:Nat->Nat->Bool}{v:Nat->Value}(hx:P.follows .mixedOrders=true)(hO:Order ops anc A.n)(hD:Drawn P ops anc dl v mask A H)
  (hq:Q .norm (A.with (ts (fun _=>true) (dstOf ops) v A.t ops.size)) (hs (fun _=>true) dl H ops.size)):WC P top (.region id ops true) Q A H:=
 OZ (fun _=>false) (fun _ u=>u=fun _=>none) hx hO (fun i o h _=>hD.run i o h) hD.dis hD.new hD.ro ⟨rfl,fun S u i h _ _ _ _=>⟨h,fun a ha=>absurd (by rw[h]) ha⟩,fun S u i o _ _ h=>by cases h⟩ fun S u h _=>by subst h;exact hq
end
structure Rets(P:Program)(f:FuncId)(kind:CallKind)(O:Nat->Prop)(φ:Ph)(H:Hp)(w:World)(v:Value)(fr:Frame):Prop where
 mode:fr.mode= .returning
 defers:fr.defers=[]
 fn:fr.fn=f
 kind:fr.kind=kind
 res:∃fn,P.funcs[f]? =some fn/\∀w₁,Keeps (Uni O RD) w w₁->∃v',Ran P (results fn fr.tmps) w₁ v' w₁ (EvO O RD)/\vrel φ (dom H) v v'
def Ee(P:Program)(f:FuncId)(args:List Value)(Q:Value->Hp->Prop)(H:Hp):Prop:=
 ∀(main:Bool) (K:KT),Closed P main K->∀(X:Nat->Option Obj) (O:Nat->Prop) (φ:Ph) (w:World) (args':Array Value) (kind:CallKind) (cs:List Frame),Jp kind cs->Rel X O φ H w->BZ φ (dom H) args args'.toList->
  (∀(v:Value) (H':Hp) (O':Nat->Prop) (φ':Ph) (w':World) (fr:Frame),Q v H'->Gr φ H φ' H'->(∀b,O b->O' b)->Rel X O' φ' H' w'->Rets P f kind O' φ' H' w' v fr->K O' (G fr cs) w')->K O (G (Frame.enter P f args' kind) cs) w
def NA(P:Program)(f:FuncId)(Q:Value->Hp->Prop)(A:AF)(H:Hp):Prop:=
 ∀(main:Bool) (K:KT),Closed P main K->∀(X:Nat->Option Obj) (O:Nat->Prop) (φ:Ph) (w:World) (fr:Frame) (cs:List Frame),fr.mode= .returning->fr.fn=f->Jp fr.kind cs->Rel X O φ H w->GW φ (dom H) A fr.tmps fr.defers->
  (∀(v:Value) (H':Hp) (O':Nat->Prop) (φ':Ph) (w':World) (fr':Frame),Q v H'->Gr φ H φ' H'->(∀b,O b->O' b)->Rel X O' φ' H' w'->Rets P f fr.kind O' φ' H' w' v fr'->K O' (G fr' cs) w')->K O (G fr cs) w
def NR(Γ:TypeId->Option TI)(H:Hp)(A:AF):ResultVar->Option Value
 | .tmp t=>some (A.t t)
 | .cell a t=>EC Γ H t (A.t a)
def Dn(Γ:TypeId->Option TI)(H:Hp)(A:AF)(rs:List ResultVar):Option Value:=
 match rs.mapM (NR Γ H A)with
 |some [v]=>some v
 |some vs=>some (.tuple ⟨vs⟩)
 |none=>none
def tL(f:FuncId)(P:Program)(Q:Value->Hp->Prop):QT
 | .norm,A,H=>NA P f Q A H
 | .ret,A,H=>NA P f Q A H
 | .exit _,_,_=>False
def AF.enter(n:Nat)(args:List Value):AF:={n:=n,t:=fun i=>args.getD i undef,d:=[]}
section
variable{P:Program}{Γ:TypeId->Option TI}{main:Bool}{f:FuncId}{Q:Value->Hp->Prop}{A:AF}{H:Hp}
theorem Ee.mono {args:List Value} {Q':Value->Hp->Prop} (h:Ee P f args Q H) (k:∀v H',Q v H'->Q' v H'):Ee P f args Q' H:=
 fun main K hK X O φ w args' kind cs h1 h2 h3 h4=>h main K hK X O φ w args' kind cs h1 h2 h3 fun v H' O' φ' w' fr q=>h4 v H' O' φ' w' fr (k v H' q)
variable{φ:Ph}{w w₁:World}
theorem Kl(hΓ:TOk P Γ){X:Nat->Option Obj}{O:Nat->Prop}(hr:Rel X O φ H w){T:Array Value}(ht:NM φ (dom H) A.n A.t T):∀(rs:List ResultVar) (vs:List Value),rs.mapM (NR Γ H A)=some vs->
  ∃vs':List Value,Ran P (rs.mapM fun
   | .tmp t=>pure (T.getD t undef)
   | .cell a t=>do loadVar t (<-asAddr (T.getD a undef))) w vs' w (EvO O RD)/\BZ φ (dom H) vs vs'
 |[],vs,h=>by
  simp only[List.mapM_nil,Option.pure_def,AO]at h;subst h;exact⟨[],by rw[List.mapM_nil];exact Ran.pure _,by simp only[BZ]⟩
 |r::rs,vs,h=>by
  rw[List.mapM_cons]at h;cases hv:NR Γ H A r with
  |none=>rw[hv]at h;cases h
  |some v=>
   rw[hv]at h;cases hvs:rs.mapM (NR Γ H A)with
   |none=>rw[hvs]at h;cases h
   |some us=>
    rw[hvs]at h;have h2:v::us=vs:=AC h;subst h2;obtain⟨us',k1,k2⟩:=Kl hΓ hr ht rs us hvs;rw[List.mapM_cons];cases r with
    |tmp t=>
     have h3:A.t t=v:=AC hv;subst h3;refine⟨T.getD t undef::us',Ran.bind (Ran.pure _) (Ran.bind k1 (Ran.pure _)),?_⟩;simp only[BZ];exact⟨_,_,rfl,ht.2 t,k2⟩
    |cell a t=>
     obtain⟨v',g1,g2⟩:=Kk (P:=P) hΓ hr hv (ht.2 a);refine⟨v'::us',Ran.bind ?_ (Ran.bind k1 (Ran.pure _)),?_⟩
     ·simp only[NR]at hv;unfold EC at hv;split at hv;case h_2=>cases hv
      rename_i i p hi hp;have h4:=ht.2 a;rw[hp]at h4;obtain⟨_,_,e⟩:=HV.1 h4;rw[e]at g1;dsimp only;rw[e];exact g1
     ·simp only[BZ];exact⟨_,_,rfl,g2,k2⟩
variable{fn:Func}
theorem L7(hΓ:TOk P Γ){X:Nat->Option Obj}{O:Nat->Prop}(hr:Rel X O φ H w){T:Array Value}(ht:NM φ (dom H) A.n A.t T){v:Value}(h:Dn Γ H A fn.results.toList=some v):∃v',Ran P (results fn T) w v' w (EvO O RD)/\vrel φ (dom H) v v':=by
 unfold Dn at h;cases hm:fn.results.toList.mapM (NR Γ H A)with
 |none=>rw[hm]at h;cases h
 |some vs=>
  rw[hm]at h;obtain⟨vs',h1,h2⟩:=Kl (P:=P) hΓ hr ht _ vs hm;have h3:Ran P (fn.results.mapM fun
   | .tmp t=>pure (T.getD t undef)
   | .cell a t=>do loadVar t (<-asAddr (T.getD a undef))) w vs'.toArray w (EvO O RD):=by
   rw[Array.mapM_eq_mapM_toList]
   refine⟨?_,fun e he=> ?_⟩
   ·rw[Sem.run_map,h1.run];rfl
   ·rw[Sem.events_map]at he;exact h1.ev e he
  refine⟨if h:vs'.length=1 then vs'[0]else .tuple vs'.toArray,?_,?_⟩
  ·unfold results;refine Ran.bind h3 ?_;have: (if h:vs'.toArray.size=1 then vs'.toArray[0]else .tuple vs'.toArray)=(if h:vs'.length=1 then vs'[0]else .tuple vs'.toArray):=by
    by_cases hl:vs'.length=1
    ·rw[dif_pos (by simpa using hl),dif_pos hl];simp
    ·rw[dif_neg (by simpa using hl),dif_neg hl]
   rw[this];exact Ran.pure _
  ·cases vs with
   |nil=>
    simp only[BZ]at h2;subst h2;obtain rfl:=AC h;rw[dif_neg (by simp)];simp only[vrel,B3,BZ];exact⟨_,rfl,rfl⟩
   |cons x r=>
    cases r with
    |nil=>
     obtain rfl:=AC h;simp only[BZ]at h2;obtain⟨x',r',rfl,k1,rfl⟩:=h2;rw[dif_pos (show [x'].length=1 from rfl)];exact k1
    |cons y r=>
     obtain rfl:=AC h;have hl:=((Bp _ _).1 h2).1;rw[dif_neg (by rw[hl];simp)];simp only[vrel];refine⟨_,rfl,?_⟩;simp only[B3];exact h2
variable{cs:List Frame}{k:List Item}
theorem HK{fr:Frame}(hm:fr.mode= .run)(ht:fr.todo= .code .ret::k)(hro:fr.roundOf=none):stepG P main (G fr cs) w= .go (G {fr with mode:= .returning} cs) w #[]:=by
 obtain⟨fn,tmps,todo,defers,mode,kind,ro⟩:=fr;dsimp only at hm ht hro;subst hm ht hro;simp[G,stepG,stepG.exec]
theorem LB{fr:Frame}(hm:fr.mode= .run)(ht:fr.todo=[])(hro:fr.roundOf=none):stepG P main (G fr cs) w= .go (G {fr with mode:= .returning} cs) w #[]:=by
 obtain⟨fn,tmps,todo,defers,mode,kind,ro⟩:=fr;dsimp only at hm ht hro;subst hm ht hro;simp[G,stepG,stepG.exec]
theorem Ee.body{c:Code}{args:List Value}(hf:P.funcs[f]? =some fn)(hb:fn.body=some c)(h:WC P true c (tL f P Q) (AF.enter (max args.length fn.ntmps) args) H):Ee P f args Q H:=by
 intro main K hK X O φ w args' kind cs hqu hr ha hk;have hlen:=((Bp _ _).1 ha).1;simp only[Array.length_toList]at hlen;have he:Frame.enter P f args' kind={fn:=f,tmps:=args'++Array.replicate (fn.ntmps - args'.size) undef,todo:=[.code c],defers:=[],mode:= .run,kind}:=by
  unfold Frame.enter;simp only[hf,hb,AU,AQ,Option.bind_some]
 rw[he];have har:GW φ (dom H) (AF.enter (max args.length fn.ntmps) args) (args'++Array.replicate (fn.ntmps - args'.size) undef) []:=by
  refine⟨⟨?_,fun i=> ?_⟩,rfl⟩
  ·show _=max args.length fn.ntmps
   simp;omega
  ·show vrel _ _ (args.getD i undef) _
   rw[AL,List.getD_eq_getElem?_getD];by_cases hi:i<args'.size
   ·rw[BK hi];obtain⟨v',h1,h2⟩:=((Bp _ _).1 ha).2 i args[i] (AD om);rw[AD om];rw[<-Ae,h1];exact h2
   ·rw[Ap om,BD om,Array.getElem?_replicate];split<;>exact(Bi _ _ Cu).2 rfl
 refine h main K hK X O φ w _ cs [] rfl rfl ⟨hqu,fun _=>rfl⟩ hr har fun ex A' H' O' φ' w' T' ds' q g o r a=> ?_
 cases ex with
 |norm=>
  refine hK.idle (fun w₁=>LB rfl rfl rfl) fun w₁ k1=> ?_
  exact q main K hK X O' φ' w₁ _ cs rfl rfl hqu (r.keep k1) a fun v H2 O2 φ2 w2 fr2 q2 g2 o2 r2 e2=>hk v H2 O2 φ2 w2 fr2 q2 (g.trans g2) (fun b hb=>o2 b (o b hb)) r2 e2
 |exit id=>exact q.elim
 |ret=>
  refine fun k0=>hK.idle (fun w₁=>HK (k:=k0) rfl rfl rfl) fun w₁ k1=> ?_
  exact q main K hK X O' φ' w₁ _ cs rfl rfl hqu (r.keep k1) a fun v H2 O2 φ2 w2 fr2 q2 g2 o2 r2 e2=>hk v H2 O2 φ2 w2 fr2 q2 (g.trans g2) (fun b hb=>o2 b (o b hb)) r2 e2
theorem NA.done(hΓ:TOk P Γ)(hf:P.funcs[f]? =some fn)(hd:A.d=[]){v:Value}(hv:Dn Γ H A fn.results.toList=some v)(hq:Q v H):NA P f Q A H:=by
 intro main K hK X O φ w fr cs hm hfn hqu hr ha hk;have hds:fr.defers=[]:=by have:=ha.2;rw[hd]at this;exact this
 exact hk v H O φ w fr hq (Gr.refl _ _) (fun _=>id) hr ⟨hm,hds,hfn,rfl,fn,hf,fun w₁ k1=>L7 hΓ (hr.keep k1) ha.1 hv⟩
theorem Lt{kind:CallKind}{O:Nat->Prop}{v:Value}{fr:Frame}(h:Rets P f kind O φ H w v fr)(k:Keeps (Uni O RD) w w₁)(c:Frame)(cs:List Frame):∃v' es,stepG P main (G fr (c::cs)) w₁=(doReturn P main fr (c::cs) none v' w₁).after es/\(∀e∈es,EvO O RD e)/\vrel φ (dom H) v v':=by
 obtain⟨hm,hd,hfn,hk,fn,hf,hres⟩:=h;obtain⟨v',h1,h2⟩:=hres w₁ k;refine⟨v',seen P fr.fn ((results fn fr.tmps).events P w₁ #[]),?_,fun e he=>h1.ev e (mem_seen he),h2⟩;obtain⟨fn0,tmps,todo,defers,mode,kind0,ro⟩:=fr;dsimp only at hm hd hfn hk h1;subst hm hd hfn;simp[G,stepG,unwind,hf,h1.run]
theorem F7{O:Nat->Prop}{v:Value}{fr:Frame}(h:Rets P f .normal O φ H w v fr)(k:Keeps (Uni O RD) w w₁)(c:Frame)(cs:List Frame):∃v' es,stepG P main (G fr (c::cs)) w₁= .go (G (c.finish v') cs) w₁ es/\(∀e∈es,EvO O RD e)/\vrel φ (dom H) v v':=by
 obtain⟨v',es,h1,h2,h3⟩:=Lt (main:=main) h k c cs;refine⟨v',es,?_,h2,h3⟩;rw[h1];simp[doReturn,h.kind,GStep.after,G]
theorem IK{O:Nat->Prop}{v:Value}{fr:Frame}(h:Rets P f .deferred O φ H w v fr)(k:Keeps (Uni O RD) w w₁)(c:Frame)(cs:List Frame)(hc:c.mode= .returning):∃es,stepG P main (G fr (c::cs)) w₁= .go (G c cs) w₁ es/\∀e∈es,EvO O RD e:=by
 obtain⟨v',es,h1,h2,h3⟩:=Lt (main:=main) h k c cs;refine⟨es,?_,h2⟩;rw[h1];simp[doReturn,h.kind,hc,GStep.after,G]
theorem FQ{c:Code}(hf:P.funcs[f]? =some fn)(hb:fn.body=some c)(hn: (fn.name=="runtime.NumGoroutine")=false)(args:Array Value){E:Event->Prop}:Ran P (callFunc f args) w (.enter f args) w E:=by
 unfold callFunc;refine Ran.bind Ran.program ?_;simp only[hf,hn,AP,Ab,hb,Option.isNone_some];exact Ran.pure _
theorem IQ{fr:Frame}{w':World}{ops:Array Oper}{i:Nat}{rest:List Nat}{s:Sem Next}{args:Array Value}(ht:fr.todo= .inRegion ops (i::rest)::k)(hk: (fr.kind== .early)=false)(h:s.run P w= .ok (.enter f args) w'):stepG.apply P true fr cs none s w= .go (G (Frame.enter P f args .normal) (fr::cs)) w' (seen P fr.fn (s.events P w #[])):=by
 simp[stepG.apply,h,hk,GStep.after,G,ht]
theorem WOp.call{o:Oper}{x:Operand}{args:Array Operand}{ats:Array TypeId}{ev:Operand->Value}{first cap:Array Value}{c:Code}(hop:o.op= .call {callee:= .value x,args,argTypes:=ats})(hx:ev x= .func (.func f) first cap)(hf:P.funcs[f]? =some fn)(hb:fn.body=some c)(hn: (fn.name=="runtime.NumGoroutine")=false)
  (h:Ee P f (first.toList++args.toList.map ev++cap.toList) Q H):WOp P o Q ev H:=by
 intro main K hK X O φ w fr cs ops i rest k hm ht ho hw hqu hr hv hk;refine hK.step O fr cs w fun w₁ k1=> ?_
 have hxr:=hv x (by rw[hop];simp[Op.operands,Call.operands]);rw[hx]at hxr;simp only[vrel,Dt]at hxr;obtain⟨_,first',cap',e1,rfl,h1,h2⟩:=hxr;have hargs:BZ φ (dom H) (args.toList.map ev) (args.map fr.eval).toList:=by
  rw[BG];exact Dg _ fun y hy=>hv y (by rw[hop];simp only[Op.operands,Call.operands];simp;exact .inr (by simpa using hy))
 have app2:∀{l1 l2 m1 m2:List Value},BZ φ (dom H) l1 m1->BZ φ (dom H) l2 m2->BZ φ (dom H) (l1++l2) (m1++m2):=by
  intro l1;induction l1 with
  |nil=>intro l2 m1 m2 g1 g2;simp only[BZ]at g1;subst g1;exact g2
  |cons v l1 ih=>
   intro l2 m1 m2 g1 g2;simp only[BZ]at g1;obtain⟨v',r',rfl,q1,q2⟩:=g1;simp only[List.cons_append,BZ];exact⟨_,_,rfl,q1,ih q2 g2⟩
 have hrun:Ran P (execOp fr.eval o) w₁ (.enter f (first'++args.map fr.eval++cap')) w₁ (EvO O RD):=by
  unfold execOp;rw[hop];dsimp only;unfold resolve;dsimp only;rw[e1];refine Ran.bind (a:=({target:= .fn (.func f) cap',args:=first'++args.map fr.eval}:Deferred)) (Ran.pure _) ?_;exact FQ hf hb hn _
 have hst:stepG P main (G fr cs) w₁= .go (G (Frame.enter P f (first'++args.map fr.eval++cap') .normal) (fr::cs)) w₁ (seen P fr.fn ((execOp fr.eval o).events P w₁ #[])):=by
  rw[Dq hm ht ho hw (fun c e=>by rw[hop]at e;cases e),IQ ht (CV hqu) hrun.run]
 refine⟨_,_,w₁,_,hst,CY (P:=P) (Mv.refl O w₁) (by rw[B4];exact hrun.ev) fr.fn,?_⟩;rw[B4];refine h main K hK X O φ w₁ _ .normal (fr::cs) (.inl rfl) (hr.keep k1) ?_ fun v H' O' φ' w' fr' q g o r e=> ?_
 ·rw[Array.toList_append,Array.toList_append];exact app2 (app2 (Bj.1 h1) hargs) (Bj.1 h2)
 ·refine hK.step O' fr' (fr::cs) w' fun w₂ k2=> ?_
  obtain⟨v',es,g1,g2,g3⟩:=F7 (main:=main) e k2 fr cs;refine⟨_,cs,w₂,es,g1,(Mv.refl O' w₂).moves (by rw[B4];exact g2),?_⟩;rw[B4];exact hk v H' O' φ' w₂ v' q g o (r.keep k2) g3
theorem NA.call{d:Deferred}{ds:List Deferred}{g:FuncId}{cap:Array Value}{c:Code}(hd:A.d=d::ds)(ht:d.target= .fn (.func g) cap)(hf:P.funcs[g]? =some fn)(hb:fn.body=some c)(hn: (fn.name=="runtime.NumGoroutine")=false)
  (h:Ee P g (d.args.toList++cap.toList) (fun _ H'=>NA P f Q {A with d:=ds} H') H):NA P f Q A H:=by
 intro main K hK X O φ w fr cs hm hfn hqu hr ha hk;have hds:=ha.2;rw[hd]at hds;obtain⟨d',r',e1,h1,h2⟩:=hds;obtain⟨h3,h4⟩:=h1;rw[ht]at h4;obtain⟨f',c',e2,e3,h5⟩:=h4;simp only[Dt]at e3;subst e3;refine hK.step O fr cs w fun w₁ k1=> ?_
 have hrun:Ran P (invoke d'.target d'.args) w₁ (.enter g (d'.args++c')) w₁ (EvO O RD):=by
  rw[e2];exact FQ hf hb hn _
 have hst:stepG P main (G fr cs) w₁= .go (G (Frame.enter P g (d'.args++c') .deferred) ({fr with defers:=r'}::cs)) w₁ (seen P fr.fn ((invoke d'.target d'.args).events P w₁ #[])):=by
  obtain⟨fn0,tmps,todo,defers,mode,kind0,ro⟩:=fr;dsimp only at hm e1;subst hm e1;obtain⟨tg,as⟩:=d';dsimp only at e2;subst e2;have hr2:=hrun.run;simp[G,stepG,unwind,callDeferred,hr2,GStep.after]
 refine⟨_,_,w₁,_,hst,CY (P:=P) (Mv.refl O w₁) (by rw[B4];exact hrun.ev) fr.fn,?_⟩;rw[B4];refine h main K hK X O φ w₁ _ .deferred _ (.inr ⟨rfl,fun c0 r0 e ch=>by
  obtain⟨rfl,_⟩:=List.cons.inj e;rw[hm];simp⟩) (hr.keep k1) ?_ fun v H' O' φ' w' fr' q gg o r e=> ?_
 ·rw[Array.toList_append];have hl1:=Bj.1 h3;have hl2:=Bj.1 h5;rw[Bp]at hl1 hl2⊢;refine⟨by rw[AN,AN,hl1.1,hl2.1],fun j v hj=> ?_⟩;by_cases hlt:j<d.args.toList.length
  ·rw[Ac hlt]at hj;rw[Ac (by rw[hl1.1];exact hlt)];exact hl1.2 j v hj
  ·rw[Ad om]at hj;rw[Ad (by rw[hl1.1];omega),hl1.1];exact hl2.2 _ v hj
 ·refine hK.step O' fr' _ w' fun w₂ k2=> ?_
  obtain⟨es,g1,g2⟩:=IK (main:=main) e k2 {fr with defers:=r'} cs hm;refine⟨_,cs,w₂,es,g1,(Mv.refl O' w₂).moves (by rw[B4];exact g2),?_⟩;rw[B4];have ha2:GW φ' (dom H') {A with d:=ds} fr.tmps r':=DI gg ⟨ha.1,h2⟩;exact q main K hK X O' φ' w₂ {fr with defers:=r'} cs hm hfn hqu (r.keep k2) ha2 fun v2 H2 O2 φ2 w2 fr2 q2 g3 o2 r2 e2=>hk v2 H2 O2 φ2 w2 fr2 q2 (gg.trans g3) (fun b hb=>o2 b (o b hb)) r2 e2
end
section
variable{P:Program}{Γ:TypeId->Option TI}{main top:Bool}{f:FuncId}{Q:Value->Hp->Prop}{A:AF}{H:Hp}
theorem K6 {fr:Frame} {cs:List Frame} (h:Jp fr.kind cs):tryRecover fr cs=none:=by
 obtain⟨fn,tmps,todo,defers,mode,kind,ro⟩:=fr;rcases h with h|⟨h,h2⟩
 ·dsimp only at h;subst h;cases cs<;>rfl
 ·dsimp only at h;subst h;cases cs with
  |nil=>rfl
  |cons c r=>
   unfold tryRecover;split
   ·rename_i v older hm;exact absurd hm (h2 c r rfl _)
   ·rfl
variable{o:Oper}
theorem WOp.recover{ats:Array TypeId}{ev:Operand->Value}(hx:P.follows .rangeFuncRecover=true)(hop:o.op= .call {callee:= .builtin .recover,args:= #[],argTypes:=ats})(h:Q .nilIface H):WOp P o Q ev H:=by
 intro main K hK X O φ w fr cs ops i rest k hm ht ho hw hqu hr hv hk;refine hK.idle (fr':=fr.finish .nilIface) (cs':=cs) (fun w₁=> ?_) fun w₁ k1=>hk .nilIface H O φ w₁ .nilIface h (Gr.refl _ _) (fun _=>id) (hr.keep k1) (by simp only[vrel])
 have hs:execOp fr.eval o=pure .recover:=by
  unfold execOp;rw[hop];rfl
 rw[Dq hm ht ho hw (fun c e=>by rw[hop]at e;cases e),hs];have htr:=K6 hqu;have hk:=CV hqu;cases hro:fr.roundOf<;>simp[stepG.apply,hk,GStep.after,G,htr,hx,hro,seen_none]
variable{args:Array Operand}
theorem Dj.defer{ops:Array Oper}{i:Nat}{rest:List Nat}{Q:AF->Hp->Prop}{x:Operand}{ats:Array TypeId}{g:FuncId}{first cap:Array Value}(ho:ops[i]? =some o)(hx:∀x∈o.op.operands,okX x=true)(hw:Region.wanted o (yiel ops A.t)=true)(hop:o.op= .defer {callee:= .value x,args,argTypes:=ats})(hv:A.ev x= .func (.func g) first cap)
  (h:Dj P true ops rest Q ({A with d:={target:= .fn (.func g) cap,args:=first++args.map A.ev}::A.d}.put o.dst undef) H):Dj P true ops (i::rest) Q A H:=by
 intro main K hK X O φ w fr cs k hm ht hqu hr ha hk;have hvr:=DQ ha (hx x (by rw[hop];simp[Op.operands,Call.operands])) fr rfl;rw[hv]at hvr;simp only[vrel,Dt]at hvr;obtain⟨_,first',cap',e1,rfl,h1,h2⟩:=hvr;have hro:=hqu.2 rfl;have hst:∀w₁,stepG P main (G fr cs) w₁= .go (G ({fr with defers:={target:= .fn (.func g) cap',args:=first'++args.map fr.eval}::fr.defers}.finish undef) cs) w₁ #[]:=by
  intro w₁;have hs:execOp fr.eval o=pure (.defer {target:= .fn (.func g) cap',args:=first'++args.map fr.eval}):=by
   unfold execOp;rw[hop];dsimp only;unfold resolve;dsimp only;rw[e1];rfl
  have hw2:Region.wanted o (yielded ops fr.tmps)=true:=by rw[FP ha.1];exact hw
  have hk2:=CV hqu.1;obtain⟨fn,tmps,todo,defers,mode,kind,ro⟩:=fr;dsimp only at hm ht hro hw2 hk2;subst hm ht hro;simp only[G,stepG,stepG.exec,ho,AU,AQ,hw2,Ag,stepG.oper,Frame.oper?];rw[hs];simp[stepG.apply,hk2,GStep.after,seen_none]
 refine hK.idle hst fun w₁ k1=> ?_
 rw[Ep (fr:={fr with defers:={target:= .fn (.func g) cap',args:=first'++args.map fr.eval}::fr.defers}) ht ho];have g1:=Bj.1 h1;have g2:BZ φ (dom H) (args.map A.ev).toList (args.map fr.eval).toList:=by
  rw[BG,BG];exact Dg _ fun y hy=>DQ ha (hx y (by rw[hop];simp only[Op.operands,Call.operands];simp;exact .inr (by simpa using hy))) fr rfl
 have g3:B3 φ (dom H) (first++args.map A.ev) (first'++args.map fr.eval):=by
  rw[Bj,Array.toList_append,Array.toList_append];rw[Bp]at g1 g2⊢;refine⟨by rw[AN,AN,g1.1,g2.1],fun j v hj=> ?_⟩;by_cases hlt:j<first.toList.length
  ·rw[Ac hlt]at hj;rw[Ac (by rw[g1.1];exact hlt)];exact g1.2 j v hj
  ·rw[Ad om]at hj;rw[Ad (by rw[g1.1];omega),g1.1];exact g2.2 _ v hj
 have hnew:GW φ (dom H) {A with d:={target:= .fn (.func g) cap,args:=first++args.map A.ev}::A.d} fr.tmps ({target:= .fn (.func g) cap',args:=first'++args.map fr.eval}::fr.defers):=
  ⟨ha.1,⟨_,_,rfl,⟨g3,⟨_,_,rfl,rfl,h2⟩⟩,ha.2⟩⟩
 exact h main K hK X O φ w₁ _ cs k hm rfl hqu (hr.keep k1) (FD hnew ((Bi _ _ Cu).2 rfl) o.dst) hk
theorem WOp.extern{x:Operand}{ats:Array TypeId}{ev:Operand->Value}{fn:Func}{e:Array Value->Sem Value}{v:Value}(hop:o.op= .call {callee:= .value x,args,argTypes:=ats})(hx:ev x= .func (.func f) #[] #[])(hf:P.funcs[f]? =some fn)(hb:fn.body=none)(hn: (fn.name=="runtime.NumGoroutine")=false)(h1:Extern.findNext fn=none)(h2:Extern.find fn=some e)
  (hpl:plainVl (args.toList.map ev)=true)(hpv:plainV v=true)(he:∀w E,Ran P (e (args.toList.map ev).toArray) w v w E)(h:Q v H):WOp P o Q ev H:=by
 intro main K hK X O φ w fr cs ops i rest k hm ht ho hw hqu hr hv hk;have hxr:=hv x (by rw[hop];simp[Op.operands,Call.operands]);rw[hx]at hxr;simp only[vrel,Dt,B3,BZ]at hxr;obtain⟨_,first',cap',e1,rfl,g1,g2⟩:=hxr;have e2:first'= #[]:=by cases first';simp_all
 have e3:cap'= #[]:=by cases cap';simp_all
 subst e2 e3;have hargs:args.map fr.eval=(args.toList.map ev).toArray:=by
  have:BZ φ (dom H) (args.toList.map ev) (args.toList.map fr.eval):=Dg _ fun y hy=>hv y (by rw[hop];simp only[Op.operands,Call.operands];simp;exact .inr (by simpa using hy))
  have:=(E4 _ _ hpl).1 this;apply Array.ext';rw[BG,this]
 have hrun:∀w₁,Ran P (execOp fr.eval o) w₁ (.value v) w₁ (EvO O RD):=by
  intro w₁;unfold execOp;rw[hop];dsimp only;unfold resolve;dsimp only;rw[e1];refine Ran.bind (a:=({target:= .fn (.func f) #[],args:= #[]++args.map fr.eval}:Deferred)) (Ran.pure _) ?_;show Ran P (callFunc f (#[]++args.map fr.eval++ #[])) w₁ _ w₁ _
  unfold callFunc;refine Ran.bind Ran.program ?_;simp only[hf,hn,AP,Ab,hb,Option.isNone_none,Ag];refine Ran.bind (a:=()) (w1:=w₁) ⟨rfl,fun q hq=> ?_⟩ ?_
  ·rw[events_mark]at hq;simp at hq;rw[hq];rfl
  ·simp only[h1,h2];refine Ran.bind (a:=v) (w1:=w₁) ?_ (Ran.pure _);have e4: (#[]++args.map fr.eval++ #[])=(args.toList.map ev).toArray:=by rw[hargs];simp
   rw[e4];exact he w₁ _
 refine hK.step O fr cs w fun w₁ k1=>⟨fr.finish v,cs,w₁,_,?_,CY (P:=P) (Mv.refl O w₁) (by rw[B4];exact(hrun w₁).ev) fr.fn,?_⟩
 ·rw[Dq hm ht ho hw (fun c e=>by rw[hop]at e;cases e),Df (CV hqu) (.inl rfl) (hrun w₁).run]
 ·rw[B4];exact hk v H O φ w₁ v h (Gr.refl _ _) (fun _=>id) (hr.keep k1) ((Bi _ _ hpv).2 rfl)
end
def Qs(Q:QT)(A:AF)(H:Hp):Option Code->Prop
 |none=>Q .norm A H
 |some .ret=>Q .ret A H
 |some (.exit id)=>Q (.exit id) A H
 |_=>False
def DN:Ex->Option Code
 | .norm=>none
 | .ret=>some .ret
 | .exit id=>some (.exit id)
def Em(n:Nat):List (Tmp×Value)->(Nat->Value)->Nat->Value
 |[],t=>t
 |(d,v)::r,t=>Em n r (if d<n then upd t d v else t)
section
variable{P:Program}{Γ:TypeId->Option TI}{main top:Bool}{f:FuncId}{Q:QT}{A:AF}{H:Hp}
theorem GJ {O:Nat->Prop} {w:World} {b:Nat} {l:Loop} (h:w.heap[b]? =some (.loop l)) (hb:O b):Ran P (Instr.getLoop b) w l w (EvO O RD):=by
 unfold Instr.getLoop;exact Ran.bind (DZ h (fun _ _ _ e=>by cases e) rfl hb) (Ran.pure _)
theorem I6{fr:Frame}{cs:List Frame}{w w':World}{s:Sem Next}{args:Array Value}(ht:∀d r s k,fr.todo≠ .call d true r s::k)(hk: (fr.kind== .early)=false)(h:s.run P w= .ok (.enter f args) w'):stepG.apply P true fr cs none s w= .go (G (Frame.enter P f args .normal) (fr::cs)) w' (seen P fr.fn (s.events P w #[])):=by
 simp only[stepG.apply,Ag,Sem.runT_eq,h];simp only[GStep.after,G,hk,AP,Ab,Array.append_empty];first|done|(split;(rename_i d r s k e;exact absurd e (ht _ _ _ _));rfl)
theorem Jo{x:Operand}{params:Array Tmp}{assign body:Code}{g:FuncId}{first cap:Array Value}{fn:Func}{c:Code}(hox:okX x=true)(hx:A.ev x= .func (.func g) first cap)(hf:P.funcs[g]? =some fn)(hb:fn.body=some c)(hn: (fn.name=="runtime.NumGoroutine")=false){r l:Nat}(hr0:H r=none)(hl0:H l=none)(hne:l≠r)
  (h:Ee P g (first.toList++[.func (.yield l) #[] #[]]++cap.toList) (fun _ H'=>∃lp,H' l=some (.lp lp)/\lp.state≠ .busy/\Qs Q {A with d:={target:= .collected r,args:= #[]}::A.d} (upd H' l (some (.lp {lp with state:= .exhausted}))) lp.pending) (upd (upd H r (some (.df true))) l (some (.lp ⟨.ready,none,A.n,A.t,params,assign,body,r⟩)))):WC P true (.rangeFunc x params assign body) Q A H:=by
 intro main K hK X O φ w fr cs k hm ht hqu hr ha hk;have hro:=hqu.2 rfl;refine hK.step O fr cs w fun w₁ k1=> ?_
 have hr1:=hr.keep k1;have hvr:=DQ ha hox fr rfl;rw[hx]at hvr;simp only[vrel,Dt]at hvr;obtain⟨_,first',cap',e1,rfl,q1,q2⟩:=hvr;let o1:Obj:= .deferred (some [])
 let o2:Obj:= .loop {state:= .ready,pending:=none,fn:=fr.fn,tmps:=fr.tmps,params,assign,body,defers:=w₁.heap.size}
 let w2:World:={w₁ with heap:=w₁.heap.push o1}
 let w3:World:={w2 with heap:=w2.heap.push o2}
 have hs2:w2.heap.size=w₁.heap.size+1:=by simp[w2]
 have hs3:w3.heap.size=w₁.heap.size+2:=by simp[w3,w2]
 have n1:=Rel.new (O':=grow O w₁ w3) hr1 hr0 (x:= .df true) rfl (o:=o1) (s:=0) (z:=0) (w':=w2) rfl (.inr ⟨AH _,om⟩) (fun b hb=> .inl hb) rfl;have n2:=Rel.new (O':=grow O w₁ w3) n1.1 (a:=l) (by rw[upd_ne hne];exact hl0) (x:= .lp ⟨.ready,none,A.n,A.t,params,assign,body,r⟩) rfl (o:=o2) (s:=0) (z:=0) (w':=w3) rfl (.inr ⟨om,om⟩) (fun b hb=>hb) (by
  have hdr:dom (upd (upd H r (some (.df true))) l (some (.lp ⟨.ready,none,A.n,A.t,params,assign,body,r⟩))) r:=Bx C9;refine⟨_,rfl,rfl,rfl,Ei (fun b hb=> ?_) ha.1,rfl,rfl,rfl,hdr,?_⟩
  ·obtain⟨g1,g2,g3,g4⟩:=n1.2 b hb;have hbl:b≠l:=fun e=>by subst e;exact hb hl0
   exact⟨Bx g1,(upd_ne hbl).trans g2,(upd_ne hbl).trans g3,(upd_ne hbl).trans g4⟩
  ·show w₁.heap.size=upd (upd φ.f r w₁.heap.size) l _ r
   rw[upd_ne (fun e=>hne e.symm),BU])
 have hg:=n1.2.trans n2.2;have hlf: ((φ.put r w₁.heap.size 0 0).put l w2.heap.size 0 0).f l=w2.heap.size:=BU ..;have henter:Ran P (Instr.enterLoop fr.fn fr.tmps params assign body none) w₁ (w2.heap.size,[{target:= .collected w₁.heap.size,args:= #[]}]) w3 (EvO O RD):=by
  refine⟨rfl,fun e he=> ?_⟩;simp[Instr.enterLoop]at he
 have hinv:∀ev:Operand->Value,ev x= .func (.func g) first' cap'->Ran P (do let d <-resolve ev {callee:= .value x,args:= #[.const (.func (.yield w2.heap.size) #[] #[])],argTypes:= #[]} 0;invoke d.target d.args) w3 (.enter g (first'++ #[ev (.const (.func (.yield w2.heap.size) #[] #[]))]++cap')) w3 (EvO O RD):=by
  intro ev hev;unfold resolve;dsimp only;rw[hev];refine Ran.bind (w1:=w3) (a:=({target:= .fn (.func g) cap',args:=first'++ #[ev (.const (.func (.yield w2.heap.size) #[] #[]))]}:Deferred)) ?_ ?_
  ·have: (#[.const (.func (.yield w2.heap.size) #[] #[])]:Array Operand).map ev= #[ev (.const (.func (.yield w2.heap.size) #[] #[]))]:=by simp
   rw[this];exact Ran.pure _
  ·exact FQ hf hb hn _
 let fr1:Frame:={fr with todo:= .inRangeFunc w2.heap.size::k,defers:={target:= .collected w₁.heap.size,args:= #[]}::fr.defers}
 have hev1:fr1.eval x= .func (.func g) first' cap':=by rw[<-e1];cases x<;>rfl
 have hr2:=(hinv fr1.eval hev1);have hst:∃es,stepG P main (G fr cs) w₁= .go (G (Frame.enter P g (first'++ #[.func (.yield w2.heap.size) #[] #[]]++cap') .normal) (fr1::cs)) w3 es/\∀e∈es,EvO O RD e:=by
  have hk2:=CV hqu.1;refine⟨seen P fr.fn ((Instr.enterLoop fr.fn fr.tmps params assign body none).events P w₁ #[])++seen P fr.fn ((do let d <-resolve fr1.eval {callee:= .value x,args:= #[.const (.func (.yield w2.heap.size) #[] #[])],argTypes:= #[]} 0;invoke d.target d.args:Sem Next).events P w3 #[]),?_,fun e he=> ?_⟩
  ·have h1:=henter.run;have h2:=hr2.run;have e3:fr1.eval (.const (.func (.yield w2.heap.size) #[] #[]))= .func (.yield w2.heap.size) #[] #[]:=rfl;rw[e3]at h2;obtain⟨fn0,tmps,todo,defers,mode,kind,ro⟩:=fr;dsimp only at hm ht hro hk2;subst hm ht hro;simp only[G,stepG,stepG.exec,Sem.runT_eq,h1];have h3:=I6 (cs:=cs) (fr:=fr1) (f:=g) (fun _ _ _ _ e=>by cases e) hk2 h2;show GStep.after _ (stepG.apply P true fr1 cs none (do let d <-resolve fr1.eval {callee:= .value x,args:= #[.const (.func (.yield w2.heap.size) #[] #[])],argTypes:= #[]} 0;invoke d.target d.args) w3)=_
   rw[h3];rfl
  ·rcases BC.1 he with h|h
   ·exact henter.ev e (mem_seen h)
   ·exact hr2.ev e (mem_seen h)
 obtain⟨es,hst,hes⟩:=hst;have keep12:∀b:Nat,b<w₁.heap.size->w3.heap[b]? =w₁.heap[b]? :=fun b hb=>by
  show((w₁.heap.push o1).push o2)[b]? =_
  rw[Array.getElem?_push_lt (by simp;omega),Array.getElem_push_lt hb,AK hb]
 refine⟨_,_,w3,es,hst,⟨fun b hb _=>keep12 b hb,om,rfl,rfl,rfl,fun e he=>RP (hes e he)⟩,?_⟩;have hd:dom (upd (upd H r (some (.df true))) l (some (.lp ⟨.ready,none,A.n,A.t,params,assign,body,r⟩))) l:=C9;refine h main K hK X (grow O w₁ w3) _ w3 _ .normal (fr1::cs) (.inl rfl) n2.1 ?_ fun v H' O' φ' w' fr' q g o rr e=> ?_
 ·rw[Array.toList_append,Array.toList_append];have g1:BZ _ _ first.toList first'.toList:=Gs hg _ _ (Bj.1 q1);have g2:BZ _ _ cap.toList cap'.toList:=Gs hg _ _ (Bj.1 q2);have g3:vrel ((φ.put r w₁.heap.size 0 0).put l w2.heap.size 0 0) (dom (upd (upd H r (some (.df true))) l (some (.lp ⟨.ready,none,A.n,A.t,params,assign,body,r⟩)))) (.func (.yield l) #[] #[]) (.func (.yield w2.heap.size) #[] #[]):=by
   simp only[vrel,Dt,B3,BZ];exact⟨_,_,_,rfl,⟨hd,by rw[hlf]⟩,rfl,rfl⟩
  rw[Bp]at g1 g2⊢;have hl1:first'.toList.length=first.toList.length:=g1.1;refine⟨by simp only[AN,AY,As];rw[hl1,g2.1],fun j v hj=> ?_⟩;by_cases h1:j<first.toList.length
  ·rw[List.append_assoc,Ac h1]at hj;rw[List.append_assoc,Ac om];exact g1.2 j v hj
  ·rw[List.append_assoc,Ad om]at hj;rw[List.append_assoc,Ad om,hl1];cases hji:j - first.toList.length with
   |zero=>
    rw[hji]at hj;simp only[List.cons_append,List.nil_append,AX,AO]at hj;subst hj;exact⟨_,rfl,g3⟩
   |succ i=>
    rw[hji]at hj;simp only[List.cons_append,List.nil_append,Am]at hj⊢;exact g2.2 i v hj
 ·refine hK.step O' fr' _ w' fun w₂ k2=> ?_
  obtain⟨v',es2,c1,c2,c3⟩:=F7 (main:=main) e k2 fr1 cs;refine⟨_,cs,w₂,es2,c1,(Mv.refl O' w₂).moves (by rw[B4];exact c2),?_⟩;rw[B4];have rr2:=rr.keep k2;obtain⟨lp,hlp,hst2,hq⟩:=q;have hl2:φ'.f l=w2.heap.size:=(g l hd).2.1.trans hlf;have hfin:fr1.finish v'={fr1 with todo:= .endRangeFunc w2.heap.size::k}:=rfl;rw[hfin];refine hK.step O' _ cs w₂ fun w₄ k4=> ?_
  have rr4:=rr2.keep k4;obtain⟨po,pX,ob,pw,l',rfl,p1,p2,p3,p4,p5,p6,p7,p8⟩:=rr4.own l _ hlp rfl;obtain⟨w₅,s1,s2,s3,s4,s5⟩:=Ly (P:=P) rr4 hlp rfl (y:= .lp {lp with state:= .exhausted}) rfl (o2:= .loop {l' with state:= .exhausted}) pw (fun _ _ _ e=>by cases e) rfl
   ⟨_,rfl,rfl,p2,Ei (fun b hb=>⟨Bx hb,Bs φ' b⟩) p3,p4,p5,p6,Bx p7,p8⟩
  have hend:Ran P (Instr.endLoop (φ'.f l)) w₄ l'.pending w₅ (EvO O' RD):=by
   unfold Instr.endLoop;refine Ran.bind (GJ pw po) ?_;have: (l'.state== .busy)=false:=by rw[p1];cases hs:lp.state<;>first|rfl|exact absurd hs hst2
   rw[this];exact Ran.bind s1 (Ran.pure _)
  rw[hl2]at hend;have hst5:stepG P main (G {fr1 with todo:= .endRangeFunc w2.heap.size::k} cs) w₄= .go (G {fr1 with todo:=(l'.pending.map Item.code).toList++k} cs) w₅ (seen P fr.fn ((Instr.endLoop w2.heap.size).events P w₄ #[])):=by
   have h1:=hend.run;have hm1:fr1.mode= .run:=hm;obtain⟨fn0,tmps,todo,defers,mode,kind,ro⟩:=fr;dsimp only at hm ht hro;subst hm ht hro;simp only[G,stepG,stepG.exec,Sem.runT_eq,h1,fr1];simp[GStep.after]
  refine⟨_,cs,w₅,_,hst5,CY (P:=P) s2 (by rw[s3];exact hend.ev) fr.fn,?_⟩;rw[s3];have gall:Gr φ H φ' (upd H' l (some (.lp {lp with state:= .exhausted}))):=(hg.trans g).trans s5;have ohall:∀b,O b->O' b:=fun b hb=>o b (.inl hb)
  have hds:GW φ' (dom (upd H' l (some (.lp {lp with state:= .exhausted})))) {A with d:={target:= .collected r,args:= #[]}::A.d} fr.tmps fr1.defers:=by
   have hdr:dom (upd (upd H r (some (.df true))) l (some (.lp ⟨.ready,none,A.n,A.t,params,assign,body,r⟩))) r:=Bx C9;have hfr: ((φ.put r w₁.heap.size 0 0).put l w2.heap.size 0 0).f r=w₁.heap.size:=by
    show upd (upd φ.f r w₁.heap.size) l _ r=_
    rw[upd_ne (fun e=>hne e.symm),BU]
   obtain⟨t1,t2,_⟩:=g r hdr;refine⟨(DI gall ha).1,_,_,rfl,⟨by simp only[B3,BZ],Bx t1,?_⟩,(DI gall ha).2⟩;rw[t2,hfr]
  generalize upd H' l (some (.lp {lp with state:= .exhausted}))=H2 at hq s4 gall hds;cases hp:lp.pending with
  |none=>
   rw[hp]at hq;rw[p2,hp];exact hk .norm _ _ O' φ' w₅ fr.tmps fr1.defers hq gall ohall s4 hds
  |some jc=>
   rw[hp]at hq;rw[p2,hp];cases jc<;>first|exact hq.elim|skip
   ·rename_i id;exact hk (.exit id) _ _ O' φ' w₅ fr.tmps fr1.defers hq gall ohall s4 hds k rfl
   ·exact hk .ret _ _ O' φ' w₅ fr.tmps fr1.defers hq gall ohall s4 hds k
end
section
variable{P:Program}{Γ:TypeId->Option TI}{main top:Bool}{f:FuncId}{Q:Value->Hp->Prop}{A:AF}{H:Hp}
theorem MA {φ:Ph} {D:Nat->Prop} {n:Nat}:∀(ps:List Tmp) (vs vs':List Value) (t:Nat->Value) (T:Array Value),BZ φ D vs vs'->NM φ D n t T->NM φ D n (Em n (ps.zip vs) t) ((ps.zip vs').foldl (fun T p=>T.setIfInBounds p.1 p.2) T)
 |[],vs,vs',t,T,hv,ht=>by simpa[Em]using ht
 |p::ps,[],vs',t,T,hv,ht=>by
  simp only[BZ]at hv;subst hv;simpa[Em]using ht
 |p::ps,v::vs,vs',t,T,hv,ht=>by
  simp only[BZ]at hv;obtain⟨v',r',rfl,h1,h2⟩:=hv;simp only[List.zip_cons_cons,List.foldl_cons,Em];refine MA ps vs r' _ _ h2 ?_;have:=FD (A:=⟨n,t,[]⟩) (T:=T) (ds:=[]) ⟨ht,rfl⟩ h1 (some p);exact this.1
def Cg:Ex->Bool
 | .norm=>true
 |_=>false
theorem GV{K:KT}(hK:Closed P main K){X:Nat->Option Obj}{O:Nat->Prop}{φ:Ph}{w:World}{l b:Nat}{lp:ALoop}(hr:Rel X O φ H w)(hl:H l=some (.lp lp))(hb:φ.f l=b)(ex:Ex)(fr c:Frame)(cs:List Frame)(hm:fr.mode= .run)(hro:fr.roundOf=some b)(hk:fr.kind= .normal)
  (ht: (ex= .norm/\fr.todo=[])\/(ex= .ret/\∃k,fr.todo= .code .ret::k)\/(∃id,ex= .exit id/\∃k,fr.todo= .code (.exit id)::k/\exitTo id k=none))
  (hk2:∀w',Rel X O φ (upd H l (some (.lp {lp with state:=if Cg ex then .ready else .done,pending:=DN ex}))) w'->Gr φ H φ (upd H l (some (.lp {lp with state:=if Cg ex then .ready else .done,pending:=DN ex})))->K O (G (c.finish (.bool (Cg ex))) cs) w'):K O (G fr (c::cs)) w:=by
 refine hK.step O fr (c::cs) w fun w₁ k1=> ?_
 have hr1:=hr.keep k1;obtain⟨po,pX,ob,pw,l',rfl,p1,p2,p3,p4,p5,p6,p7,p8⟩:=hr1.own l _ hl rfl;obtain⟨w₂,s1,s2,s3,s4,s5⟩:=Ly (P:=P) hr1 hl rfl (y:= .lp {lp with state:=if Cg ex then .ready else .done,pending:=DN ex}) rfl (o2:= .loop {l' with state:=if Cg ex then .ready else .done,pending:=DN ex}) pw (fun _ _ _ e=>by cases e) rfl
  ⟨_,rfl,rfl,rfl,Ei (fun b hb=>⟨Bx hb,Bs φ b⟩) p3,p4,p5,p6,Bx p7,p8⟩
 rw[hb]at po pw s1;have hex: (DN ex).isNone=Cg ex:=by cases ex<;>rfl
 have hend:Ran P (Instr.endRound b (DN ex)) w₁ (.bool (Cg ex)) w₂ (EvO O RD):=by
  unfold Instr.endRound;refine Ran.bind (GJ pw po) ?_;rw[hex];exact Ran.bind s1 (Ran.pure _)
 have hst:stepG P main (G fr (c::cs)) w₁= .go (G (c.finish (.bool (Cg ex))) cs) w₂ (seen P fr.fn ((Instr.endRound b (DN ex)).events P w₁ #[])):=by
  have h1:=hend.run;obtain⟨fn0,tmps,todo,defers,mode,kind,ro⟩:=fr;dsimp only at hm hro hk ht;subst hm hro hk;rcases ht with⟨rfl,rfl⟩|⟨rfl,k,rfl⟩|⟨id,rfl,k,rfl,hx⟩
  ·simp only[DN]at h1⊢;simp only[G,stepG,stepG.exec,Sem.runT_eq,h1,doReturn,GStep.after];simp
  ·simp only[DN]at h1⊢;simp only[G,stepG,stepG.exec,Sem.runT_eq,h1,doReturn,GStep.after];simp
  ·simp only[DN]at h1⊢;simp only[G,stepG,stepG.exec,hx,Option.elim_none,Sem.runT_eq,h1,doReturn,GStep.after];simp
 refine⟨_,cs,w₂,_,hst,CY (P:=P) s2 (by rw[s3];exact hend.ev) fr.fn,?_⟩;rw[s3];exact hk2 w₂ s4 s5
theorem WOp.yield{o:Oper}{x:Operand}{args:Array Operand}{ats:Array TypeId}{ev:Operand->Value}{l:Nat}{lp:ALoop}(hop:o.op= .call {callee:= .value x,args,argTypes:=ats})(hx:ev x= .func (.yield l) #[] #[])(hl:H l=some (.lp lp))(hsz:args.size=lp.params.size)
  (h:WC P false lp.assign (fun ex A1 H1=>ex= .norm/\∃lp1,H1 l=some (.lp lp1)/\lp1.state= .ready/\WC P false lp.body (fun ex2 _ H3=>∃lp3,H3 l=some (.lp lp3)/\Q (.bool (Cg ex2)) (upd H3 l (some (.lp {lp3 with state:=if Cg ex2 then .ready else .done,pending:=DN ex2})))) A1 (upd H1 l (some (.lp {lp1 with state:= .busy})))) ⟨lp.n,Em lp.n (lp.params.toList.zip (args.toList.map ev)) lp.t,[]⟩ H):WOp P o Q ev H:=by
 intro main K hK X O φ w fr cs ops i rest k hm ht ho hw hqu hr hv hk;refine hK.step O fr cs w fun w₁ k1=> ?_
 have hr1:=hr.keep k1;have hxr:=hv x (by rw[hop];simp[Op.operands,Call.operands]);rw[hx]at hxr;simp only[vrel,Dt,B3,BZ]at hxr;obtain⟨_,first',cap',e1,⟨hdl,rfl⟩,g1,g2⟩:=hxr;have e2:first'= #[]:=by cases first';simp_all
 have e3:cap'= #[]:=by cases cap';simp_all
 subst e2 e3;have hargs:BZ φ (dom H) (args.toList.map ev) (args.map fr.eval).toList:=by
  rw[BG];exact Dg _ fun y hy=>hv y (by rw[hop];simp only[Op.operands,Call.operands];simp;exact .inr (by simpa using hy))
 obtain⟨po,pX,ob,pw,l',rfl,p1,p2,p3,p4,p5,p6,p7,p8⟩:=hr1.own l _ hl rfl;let T:Array Value:=(l'.params.zip (args.map fr.eval)).foldl (fun T p=>T.setIfInBounds p.1 p.2) l'.tmps
 have hrun:Ran P (execOp fr.eval o) w₁ (.round (φ.f l) l'.fn T l'.assign l'.body) w₁ (EvO O RD):=by
  unfold execOp;rw[hop];dsimp only;unfold resolve;dsimp only;rw[e1];refine Ran.bind (w1:=w₁) (a:=({target:= .fn (.yield (φ.f l)) #[],args:= #[]++args.map fr.eval}:Deferred)) (Ran.pure _) ?_;show Ran P (Instr.yield (φ.f l) (#[]++args.map fr.eval)) w₁ _ w₁ _
  unfold Instr.yield;refine Ran.bind (GJ pw po) ?_;rw[if_neg (by rw[p4];simp[hsz])];have: #[]++args.map fr.eval=args.map fr.eval:=by simp
  rw[this];exact Ran.pure _
 have hst:stepG P main (G fr cs) w₁= .go (G (Frame.round (φ.f l) l'.fn T l'.assign l'.body .normal) (fr::cs)) w₁ (seen P fr.fn ((execOp fr.eval o).events P w₁ #[])):=by
  rw[Dq hm ht ho hw (fun c e=>by rw[hop]at e;cases e)];have h1:=hrun.run;have hk2:=CV hqu;simp[stepG.apply,h1,hk2,GStep.after,G]
 refine⟨_,_,w₁,_,hst,CY (P:=P) (Mv.refl O w₁) (by rw[B4];exact hrun.ev) fr.fn,?_⟩;rw[B4];have hT:NM φ (dom H) lp.n (Em lp.n (lp.params.toList.zip (args.toList.map ev)) lp.t) T:=by
  have:=MA (n:=lp.n) lp.params.toList _ _ _ _ hargs p3;have e:T=((lp.params.toList.zip (args.map fr.eval).toList).foldl (fun T p=>T.setIfInBounds p.1 p.2) l'.tmps):=by
   show(l'.params.zip (args.map fr.eval)).foldl _ _=_
   rw[<-Array.foldl_toList,Array.toList_zip,p4]
  rw[e];exact this
 have hround:Frame.round (φ.f l) l'.fn T l'.assign l'.body .normal={fn:=l'.fn,tmps:=T,todo:=[.code lp.assign,.beginRound,.code lp.body],defers:=[],mode:= .run,kind:= .normal,roundOf:=some (φ.f l)}:=by
  unfold Frame.round;rw[p5,p6]
 rw[hround];refine h main K hK X O φ w₁ _ (fr::cs) [.beginRound,.code lp.body] rfl rfl ⟨.inl rfl,fun e=>by cases e⟩ hr1 ⟨hT,rfl⟩ fun ex A1 H1 O1 φ1 w2 T1 ds1 q gg1 o1 r1 a1=> ?_
 obtain⟨rfl,lp1,hl1,hst1,hbody⟩:=q;refine hK.step O1 _ (fr::cs) w2 fun w₃ k3=> ?_
 have r3:=r1.keep k3;obtain⟨qo,qX,ob2,qw,l2,rfl,q1,q2,q3,q4,q5,q6,q7,q8⟩:=r3.own l _ hl1 rfl;have hfl:φ1.f l=φ.f l:=(gg1 l hdl).2.1;obtain⟨w₄,s1,s2,s3,s4,s5⟩:=Ly (P:=P) r3 hl1 rfl (y:= .lp {lp1 with state:= .busy}) rfl (o2:= .loop {l2 with state:= .busy}) qw (fun _ _ _ e=>by cases e) rfl
  ⟨_,rfl,rfl,q2,Ei (fun b hb=>⟨Bx hb,Bs φ1 b⟩) q3,q4,q5,q6,Bx q7,q8⟩
 have hbeg:Ran P (do Instr.beginRound (φ1.f l);pure Next.skip) w₃ .skip w₄ (EvO O1 RD):=by
  refine SI ?_;unfold Instr.beginRound;refine Ran.bind (GJ qw qo) (Ran.bind s1 ?_);rw[q1,hst1];exact Ran.pure _
 rw[hfl]at hbeg;have hst3:stepG P main (G {fn:=l'.fn,tmps:=T1,todo:=[.beginRound,.code lp.body],defers:=ds1,mode:= .run,kind:= .normal,roundOf:=some (φ.f l)} (fr::cs)) w₃= .go (G {fn:=l'.fn,tmps:=T1,todo:=[.code lp.body],defers:=ds1,mode:= .run,kind:= .normal,roundOf:=some (φ.f l)} (fr::cs)) w₄ (seen P l'.fn ((do Instr.beginRound (φ.f l);pure Next.skip:Sem Next).events P w₃ #[])):=by
  have h1:=hbeg.run;simp only[G,stepG,stepG.exec,Option.elim_some];rw[Df (n:= .skip) rfl (.inr ⟨rfl,rfl⟩) h1];rfl
 refine⟨_,_,w₄,_,hst3,CY (P:=P) s2 (by rw[s3];exact hbeg.ev) l'.fn,?_⟩;rw[s3];refine hbody main K hK X O1 φ1 w₄ _ (fr::cs) [] rfl rfl ⟨.inl rfl,fun e=>by cases e⟩ s4 (DI s5 a1) fun ex A3 H3 O3 φ3 w5 T3 ds3 q gg3 o3 r5 a3=> ?_
 obtain⟨lp3,hl3,hq⟩:=q;have hdl3:dom (upd H1 l (some (.lp {lp1 with state:= .busy}))) l:=C9;have hfl3:φ3.f l=φ.f l:=((gg3 l hdl3).2.1).trans hfl;have fin:∀w',Rel X O3 φ3 (upd H3 l (some (.lp {lp3 with state:=if Cg ex then .ready else .done,pending:=DN ex}))) w'->Gr φ3 H3 φ3 (upd H3 l (some (.lp {lp3 with state:=if Cg ex then .ready else .done,pending:=DN ex})))->K O3 (G (fr.finish (.bool (Cg ex))) cs) w':=fun w' hr' hg'=>
  hk _ _ O3 φ3 w' _ hq (((gg1.trans s5).trans gg3).trans hg') (fun b hb=>o3 b (o1 b hb)) hr' (CQ.2 rfl)
 cases ex with
 |norm=>exact GV hK r5 hl3 hfl3 .norm _ fr cs rfl rfl rfl (.inl ⟨rfl,rfl⟩) fin
 |ret=>exact fun k0=>GV hK r5 hl3 hfl3 .ret _ fr cs rfl rfl rfl (.inr (.inl ⟨rfl,k0,rfl⟩)) fin
 |exit id=>exact fun k0 h0=>GV hK r5 hl3 hfl3 (.exit id) _ fr cs rfl rfl rfl (.inr (.inr ⟨id,rfl,k0,rfl,h0⟩)) fin
theorem NA.collected{d:Deferred}{ds:List Deferred}{r:Nat}(hd:A.d=d::ds)(ht:d.target= .collected r)(hr0:H r=some (.df true))(h:NA P f Q {A with d:=ds} (upd H r (some (.df false)))):NA P f Q A H:=by
 intro main K hK X O φ w fr cs hm hfn hqu hr ha hk;have hds:=ha.2;rw[hd]at hds;obtain⟨d',r',e1,h1,h2⟩:=hds;obtain⟨h3,h4⟩:=h1;rw[ht]at h4;obtain⟨h5,h6⟩:=h4;refine hK.step O fr cs w fun w₁ k1=> ?_
 have hr1:=hr.keep k1;obtain⟨po,pX,ob,pw,rfl⟩:=hr1.own r _ hr0 rfl;obtain⟨w₂,s1,s2,s3,s4,s5⟩:=Ly (P:=P) hr1 hr0 rfl (y:= .df false) rfl (o2:= .deferred none) pw (fun _ _ _ e=>by cases e) rfl rfl;have htake:Ran P (Instr.takeDeferred (φ.f r)) w₁ [] w₂ (EvO O RD):=by
  unfold Instr.takeDeferred;refine Ran.bind (DZ pw (fun _ _ _ e=>by cases e) rfl po) ?_;exact Ran.bind s1 (Ran.pure _)
 have hst:stepG P main (G fr cs) w₁= .go (G {fr with defers:=r'} cs) w₂ (seen P fr.fn ((Instr.takeDeferred (φ.f r)).events P w₁ #[])):=by
  have h1:=htake.run;obtain⟨fn0,tmps,todo,defers,mode,kind,ro⟩:=fr;dsimp only at hm e1;subst hm e1;obtain⟨tg,as⟩:=d';dsimp only at h6;subst h6;simp[G,stepG,unwind,h1,GStep.after]
 refine⟨_,cs,w₂,_,hst,CY (P:=P) s2 (by rw[s3];exact htake.ev) fr.fn,?_⟩;rw[s3];have ha2:GW φ (dom (upd H r (some (.df false)))) {A with d:=ds} fr.tmps r':=DI s5 ⟨ha.1,h2⟩;exact h main K hK X O φ w₂ {fr with defers:=r'} cs hm hfn hqu s4 ha2 fun v2 H2 O2 φ2 w2 fr2 q2 g3 o2 r2 e2=>hk v2 H2 O2 φ2 w2 fr2 q2 (s5.trans g3) o2 r2 e2
end
structure Spn where
 P:Program
 main:Bool
 K:KT
 X:Nat->Option Obj
 O0:Nat->Prop
 φ0:Ph
 H0:Hp
 f:FuncId
 kind:CallKind
 cs:List Frame
def KC(S:Spn)(k:List Item)(A:AF)(H:Hp):Prop:=
 ∀(O:Nat->Prop) (φ:Ph) (w:World) (T:Array Value) (ds:List Deferred),(∀b,S.O0 b->O b)->Gr S.φ0 S.H0 φ H->Rel S.X O φ H w->GW φ (dom H) A T ds->S.K O (G {fn:=S.f,tmps:=T,todo:=k,defers:=ds,mode:= .run,kind:=S.kind} S.cs) w
section
variable{S:Spn}(hK:Closed S.P S.main S.K){A:AF}{H:Hp}{k k':List Item}
include hK
theorem KC.idle{x:Item}(hs:∀(T:Array Value) (ds:List Deferred) (w:World),stepG.exec S.P S.main true {fn:=S.f,tmps:=T,todo:=x::k,defers:=ds,mode:= .run,kind:=S.kind} S.cs none w= .go (G {fn:=S.f,tmps:=T,todo:=k',defers:=ds,mode:= .run,kind:=S.kind} S.cs) w #[])(h:KC S k' A H):KC S (x::k) A H:=by
 intro O φ w T ds ho hg hr ha;exact hK.idle (fun w₁=>B8 (k:=k) (k':=k') rfl rfl (hs T ds w₁)) fun w₁ k1=>h O φ w₁ T ds ho hg (hr.keep k1) ha
theorem KC.seq{x y:Code}(h:KC S (.code x:: .code y::k) A H):KC S (.code (.seq x y)::k) A H:=KC.idle hK (fun T ds w=>by simp[stepG.exec,G]) h
theorem KC.skip(h:KC S k A H):KC S (.code .skip::k) A H:=KC.idle hK (fun T ds w=>by simp[stepG.exec,G]) h
theorem KC.scope{c:Code}(h:KC S (.code c:: .inScope c::k) A H):KC S (.code (.scope c)::k) A H:=KC.idle hK (fun T ds w=>by simp[stepG.exec,G]) h
theorem KC.block{i:Nat}{c:Code}(h:KC S (.code c:: .inBlock i::k) A H):KC S (.code (.block i c)::k) A H:=KC.idle hK (fun T ds w=>by simp[stepG.exec,G]) h
theorem KC.loop{c:Code}(h:KC S (.code c:: .inLoop c::k) A H):KC S (.code (.loop c)::k) A H:=KC.idle hK (fun T ds w=>by simp[stepG.exec,G]) h
theorem tq{c:Code}(h:KC S (.code c:: .inLoop c::k) A H):KC S (.inLoop c::k) A H:=KC.idle hK (fun T ds w=>by simp[stepG.exec,G]) h
theorem KC.exit{i:Nat}(he:exitTo i k=some k')(h:KC S k' A H):KC S (.code (.exit i)::k) A H:=KC.idle hK (fun T ds w=>by simp[stepG.exec,G,he]) h
theorem KC.region{id:Nat}{ops:Array Oper}(h:KC S (.inRegion ops (List.range ops.size)::k) A H):KC S (.code (.region id ops false)::k) A H:=KC.idle hK (fun T ds w=>by simp[stepG.exec,G]) h
theorem FF{ops:Array Oper}(h:KC S k A H):KC S (.inRegion ops []::k) A H:=KC.idle hK (fun T ds w=>by simp[stepG.exec,G]) h
theorem KC.cond{c:Operand}{x y:Code}{b:Bool}(hx:okX c=true)(hc:A.ev c= .bool b)(h:KC S (.code (if b then x else y)::k) A H):KC S (.code (.cond c x y)::k) A H:=by
 intro O φ w T ds ho hg hr ha;refine hK.idle (fun w₁=>B8 (k:=k) (k':= .code (if b then x else y)::k) rfl rfl ?_) fun w₁ k1=>h O φ w₁ T ds ho hg (hr.keep k1) ha
 have he: ({fn:=S.f,tmps:=T,todo:= .code (.cond c x y)::k,defers:=ds,mode:= .run,kind:=S.kind}:Frame).eval c= .bool b:=CQ.1 (hc▸DQ ha hx _ rfl);simp only[stepG.exec,he,G]
variable(hq:Jp S.kind S.cs)
include hq
theorem KC.code{c:Code}(h:WC S.P true c (fun ex A' H'=>ex= .norm/\KC S k A' H') A H):KC S (.code c::k) A H:=by
 intro O φ w T ds ho hg hr ha;refine h S.main S.K hK S.X O φ w _ S.cs k rfl rfl ⟨hq,fun _=>rfl⟩ hr ha fun ex A' H' O' φ' w' T' ds' q g o r a=> ?_
 obtain⟨rfl,q⟩:=q;exact q O' φ' w' T' ds' (fun b hb=>o b (ho b hb)) (hg.trans g) r a
theorem KC.ops{ops:Array Oper}{rest:List Nat}(h:Dj S.P true ops rest (fun A' H'=>KC S k A' H') A H):KC S (.inRegion ops rest::k) A H:=by
 intro O φ w T ds ho hg hr ha;exact h S.main S.K hK S.X O φ w _ S.cs k rfl rfl ⟨hq,fun _=>rfl⟩ hr ha fun A' H' O' φ' w' T' ds' q g o r a=>q O' φ' w' T' ds' (fun b hb=>o b (ho b hb)) (hg.trans g) r a
theorem KC.op{ops:Array Oper}{i:Nat}{rest:List Nat}{o:Oper}(ho:ops[i]? =some o)(hx:∀x∈o.op.operands,okX x=true)(hw:Region.wanted o (yiel ops A.t)=true)(h:WOp S.P o (fun v H'=>KC S (.inRegion ops rest::k) (A.put o.dst v) H') A.ev H):KC S (.inRegion ops (i::rest)::k) A H:=by
 intro O φ w T ds hO hg hr ha;refine h S.main S.K hK S.X O φ w _ S.cs ops i rest k rfl rfl ho (by rw[FP ha.1];exact hw) hq hr (fun x hxm=>DQ ha (hx x hxm) _ rfl) fun v H' O' φ' w' v' q g o' r hv=> ?_
 rw[Ep rfl ho];exact q O' φ' w' _ ds (fun b hb=>o' b (hO b hb)) (hg.trans g) r (FD (DI g ha) hv o.dst)
theorem KC.ret{Γ:TypeId->Option TI}(hΓ:TOk S.P Γ){fn:Func}(hf:S.P.funcs[S.f]? =some fn)(hd:A.d=[]){v:Value}(hv:Dn Γ H A fn.results.toList=some v)(h:∀(O:Nat->Prop) (φ:Ph) (w:World) (fr:Frame),(∀b,S.O0 b->O b)->Gr S.φ0 S.H0 φ H->Rel S.X O φ H w->Rets S.P S.f S.kind O φ H w v fr->S.K O (G fr S.cs) w):KC S (.code .ret::k) A H:=by
 intro O φ w T ds ho hg hr ha;refine hK.idle (fun w₁=>HK (k:=k) rfl rfl rfl) fun w₁ k1=> ?_
 have hds:ds=[]:=by have:=ha.2;rw[hd]at this;exact this
 exact h O φ w₁ _ ho hg (hr.keep k1) ⟨rfl,hds,rfl,rfl,fn,hf,fun w₂ k2=>L7 hΓ ((hr.keep k1).keep k2) ha.1 hv⟩
end
end
section
open Go.Conc
def KM(P:Program)(Post:Value->World->Prop)(W:World):KT:=fun O g w=>
 ∀(Shun:Loc->Prop) (Sh:Nat->Prop) (gs:Array Goroutine) (sl:Option (Nat×Nat)) (t:Trace) (q:Nat->Nat),(∀l,Shun l->∃a:Addr,l= .cell a/\Sh a.block)->Calm P Shun Sh 0 GM W O gs g w t q->Fin P Post (crowd gs w sl) t
@[reducible] def KL (Post:Value->World->Prop) (W:World):Md:={Rd:=GM,ok:=fun P main K=>main=true/\K=KM P Post W}
theorem YA(P:Program)(Post:Value->World->Prop)(W:World): @Closed (KL Post W) P true (KM P Post W):=by
 letI:=KL Post W
 refine⟨fun O fr cs w h Shun Sh gs sl t q hS hc=> ?_,rfl,rfl⟩;refine Kh hS (g:=G fr cs) rfl (fun w₁ hk=> ?_) (fun w₁ g' w' es hk hs gs' sl' t' q' hc'=> ?_) gs sl t q hc
 ·obtain⟨fr',cs',w',es,h1,h2,_⟩:=h w₁ hk;exact⟨_,w',es,h1,h2⟩
 ·obtain⟨fr',cs',w2,es2,h1,_,h3⟩:=h w₁ hk;rw[h1]at hs;injection hs with e1 e2 e3;subst e1 e2;exact h3 Shun Sh gs' sl' t' q' hS hc'
@[reducible] def Ss (Rd:Nat->Prop):Md:={Rd:=Rd,ok:=fun _ _ _=>True}
theorem NF(P:Program)(main:Bool)(Rd:Nat->Prop)(Stop:StopT): @Closed (Ss Rd) P main fun O g w=>Own P main Rd Stop O g w:=by
 letI:=Ss Rd
 refine⟨fun O fr cs w h=> ?_,trivial⟩;refine Own.one (g:=G fr cs) rfl fun w₁ hk=> ?_
 obtain⟨fr',cs',w',es,h1,h2,h3⟩:=h w₁ hk;exact⟨_,w',es,h1,h2,h3⟩
end
section
open Go.Conc
variable[Md]
noncomputable section
inductive D8 where
 |a|b|c|d|e|f|g|h
 deriving DecidableEq
inductive Mp(α:Type) where
 |lf
 |nd (v:Option α) (a b c d e f g h:Mp α)
def wp(k:Nat):D8:=bif Nat.beq k 0 then .a else bif Nat.beq k 1 then .b else bif Nat.beq k 2 then .c else bif Nat.beq k 3 then .d else bif Nat.beq k 4 then .e else bif Nat.beq k 5 then .f else bif Nat.beq k 6 then .g else .h
def sa:D8->Nat
 | .a=>0| .b=>1| .c=>2| .d=>3| .e=>4| .f=>5| .g=>6| .h=>7
theorem bA{k:Nat}(h:k<8):sa (wp k)=k:=by
 match k,h with
 |0,_=>rfl
 |1,_=>rfl
 |2,_=>rfl
 |3,_=>rfl
 |4,_=>rfl
 |5,_=>rfl
 |6,_=>rfl
 |7,_=>rfl
 |n+8,h=>omega
def Ri:Nat->Nat->List D8
 |0,_=>[]
 |f+1,k=>bif Nat.beq k 0 then []else wp (k%8)::Ri f (k/8)
def bits(k:Nat):List D8:=Ri k k
variable{b:Nat}
theorem Xw{a:Nat}(h:a≠b):Nat.beq a b=false:=by
 cases hb:Nat.beq a b with
 |false=>rfl
 |true=>exact absurd (AE hb) h
theorem wI{a:Nat}(h:a=b):Nat.beq a b=true:=by subst h;exact Nat.beq_refl a
def YM:List D8->Nat
 |[]=>0
 |x::p=>sa x+8*YM p
theorem Id:∀(f k:Nat),k<=f->YM (Ri f k)=k
 |0,k,h=>by simp only[Ri,YM];omega
 |f+1,k,h=>by
  unfold Ri;by_cases h0:k=0
  ·subst h0;rfl
  ·rw[Xw h0];simp only[cond_false,YM];rw[Id f (k/8) om,bA (Nat.mod_lt _ om)];omega
theorem bX{a:Nat}(h:bits a=bits b):a=b:=by
 rw[<-Id a a (AH _),<-Id b b (AH _)];exact congrArg YM h
namespace Mp
variable{α:Type}
def Xf (p:List D8):Mp α->Option α:= @List.rec D8 (fun _=>Mp α->Option α) (fun m=> @Mp.rec α (fun _=>Option α) none (fun v _ _ _ _ _ _ _ _ _ _ _ _ _ _ _ _=>v) m)
 (fun x _ ih m=> @Mp.rec α (fun _=>Option α) none (fun _ a b c d e f g h _ _ _ _ _ _ _ _=>ih (@D8.rec (fun _=>Mp α) a b c d e f g h x)) m) p
def XN(y:α)(p:List D8):Mp α->Mp α:= @List.rec D8 (fun _=>Mp α->Mp α) (fun m=> @Mp.rec α (fun _=>Mp α) (.nd (some y) .lf .lf .lf .lf .lf .lf .lf .lf) (fun _ a b c d e f g h _ _ _ _ _ _ _ _=> .nd (some y) a b c d e f g h) m)
 (fun x _ ih m=> @Mp.rec α (fun _=>Mp α) (@D8.rec (fun _=>Mp α) (.nd none (ih .lf) .lf .lf .lf .lf .lf .lf .lf) (.nd none .lf (ih .lf) .lf .lf .lf .lf .lf .lf) (.nd none .lf .lf (ih .lf) .lf .lf .lf .lf .lf) (.nd none .lf .lf .lf (ih .lf) .lf .lf .lf .lf) (.nd none .lf .lf .lf .lf (ih .lf) .lf .lf .lf) (.nd none .lf .lf .lf .lf .lf (ih .lf) .lf .lf) (.nd none .lf .lf .lf .lf .lf .lf (ih .lf) .lf) (.nd none .lf .lf .lf .lf .lf .lf .lf (ih .lf)) x)
  (fun v a b c d e f g h _ _ _ _ _ _ _ _=> @D8.rec (fun _=>Mp α) (.nd v (ih a) b c d e f g h) (.nd v a (ih b) c d e f g h) (.nd v a b (ih c) d e f g h) (.nd v a b c (ih d) e f g h) (.nd v a b c d (ih e) f g h) (.nd v a b c d e (ih f) g h) (.nd v a b c d e f (ih g) h) (.nd v a b c d e f g (ih h)) x) m) p
def lV(x:D8):Mp α->Mp α
 | .lf=> .lf
 | .nd _ a b c d e f g h=> @D8.rec (fun _=>Mp α) a b c d e f g h x
theorem V7(p:List D8):Xf p (.lf:Mp α)=none:=by cases p<;>rfl
theorem IC(x:D8)(p:List D8)(m:Mp α):Xf (x::p) m=Xf p (lV x m):=by
 cases m with
 |lf=>exact(V7 p).symm
 |nd=>rfl
theorem eC(y:α)(x:D8)(p:List D8)(m:Mp α):lV x (XN y (x::p) m)=XN y p (lV x m):=by
 cases x<;>cases m<;>rfl
theorem lU(y:α){x x':D8}(h:x'≠x)(p:List D8)(m:Mp α):lV x' (XN y (x::p) m)=lV x' m:=by
 cases x<;>cases x'<;>first|exact absurd rfl h|(cases m<;>rfl)
theorem eF(y:α)(x:D8)(m:Mp α):lV x (XN y [] m)=lV x m:=by
 cases m<;>cases x<;>rfl
theorem OF(y:α):∀(p q:List D8) (m:Mp α),Xf q (XN y p m)=if q=p then some y else Xf q m
 |[],[],m=>by cases m<;>rfl
 |[],x::q,m=>by rw[if_neg (by simp),IC,eF,IC]
 |x::p,[],m=>by
  rw[if_neg (by simp)];cases m<;>cases x<;>rfl
 |x::p,x'::q,m=>by
  rw[IC,IC];by_cases e:x'=x
  ·subst e;rw[eC,OF y p q];by_cases e2:q=p
   ·rw[if_pos e2,if_pos (by rw[e2])]
   ·rw[if_neg e2,if_neg (by simpa using e2)]
  ·rw[lU y e,if_neg (by simp[e])]
def get(m:Mp α)(k:Nat):Option α:=CheckFast.force k fun k=>Xf (bits k) m
def set(m:Mp α)(k:Nat)(x:α):Mp α:=CheckFast.force k fun k=>XN x (bits k) m
theorem get_set(m:Mp α)(k j:Nat)(x:α): (m.set k x).get j=if j=k then some x else m.get j:=by
 unfold get set;rw[CheckFast.force_eq,CheckFast.force_eq,CheckFast.force_eq,OF];by_cases h:j=k
 ·rw[if_pos h,if_pos (by rw[h])]
 ·rw[if_neg h,if_neg fun e=>h (bX e)]
theorem get_lf(k:Nat): (Mp.lf:Mp α).get k=none:=by unfold get;rw[CheckFast.force_eq];exact V7 _
end Mp
abbrev force{α:Type}(n:Nat)(k:Nat->α):α:=CheckFast.force n k
theorem force_eq{α:Type}(n:Nat)(k:Nat->α):force n k=k n:=CheckFast.force_eq n k
def Ir{α:Type}(v:Value)(k:Value->α):α:=match v with
 | .int kd (.ofNat n)=>force n fun n=>k (.int kd (.ofNat n))
 | .int kd (.negSucc n)=>force n fun n=>k (.int kd (.negSucc n))
 | .pointer (some ⟨b,o,none⟩)=>force b fun b=>force o fun o=>k (.pointer (some ⟨b,o,none⟩))
 | .slice (some ⟨b,o,none⟩) l c=>force b fun b=>force o fun o=>force l fun l=>force c fun c=>k (.slice (some ⟨b,o,none⟩) l c)
 | .bool true=>k (.bool true)
 | .bool false=>k (.bool false)
 |v=>k v
theorem Eo{α:Type}(v:Value)(k:Value->α):Ir v k=k v:=by
 unfold Ir;split<;>first|rfl|(simp only[force_eq];done)|exact force_eq _ _
structure EH where
 m:Mp AB
 n:Nat
 log:List Nat
structure EF where
 n:Nat
 b:Nat->Value
 t:Mp Value
 d:List Deferred
def EF.A(f:EF):AF:=⟨f.n,fun i=>(f.t.get i).getD (f.b i),f.d⟩
def EF.ev(f:EF):Operand->Value
 | .tmp i=>(f.t.get i).getD (f.b i)
 | .const v=>v
 | .func g=> .func (.func g) #[] #[]
 | .global _=>undef
def EF.put(f:EF)(d:Option Tmp)(v:Value):EF:=match f with
 |⟨n,b,t,e⟩=>match d with
  |some d=>bif Nat.blt d n then⟨n,b,t.set d v,e⟩else⟨n,b,t,e⟩
  |none=>⟨n,b,t,e⟩
theorem YC(f:EF)(d:Option Tmp)(v:Value):f.put d v=match d with
 |some d=>bif Nat.blt d f.n then⟨f.n,f.b,f.t.set d v,f.d⟩else f
 |none=>f:=by
 obtain⟨n,b,t,e⟩:=f
 cases d<;>rfl
def EH.put(h:EH)(a:Nat)(x:AB):EH:=match h with
 |⟨m,n,log⟩=>bif Nat.blt a n then⟨m.set a x,n,a::log⟩else force (a+1) fun n=>⟨m.set a x,n,log⟩
theorem Gn(h:EH)(a:Nat)(x:AB):h.put a x=bif Nat.blt a h.n then⟨h.m.set a x,h.n,a::h.log⟩else⟨h.m.set a x,a+1,h.log⟩:=by
 obtain⟨m,n,log⟩:=h;show(bif Nat.blt a n then _ else _)=(bif Nat.blt a n then _ else _)
 cases Nat.blt a n with
 |true=>rfl
 |false=>simp only[cond_false,force_eq]
def EH.app(h:EH)(δ:List (Nat×AB)):EH:=δ.foldl (fun h p=>h.put p.1 p.2) h
def EF.defer(f:EF)(x:Deferred):EF:=match f with
 |⟨n,b,t,e⟩=>⟨n,b,t,x::e⟩
theorem GO(f:EF)(x:Deferred):f.defer x=⟨f.n,f.b,f.t,x::f.d⟩:=by cases f;rfl
def PL:List Value->Nat->Mp Value->Mp Value
 |[],_,m=>m
 |v::l,i,m=>PL l (i+1) (m.set i v)
def EF.enter(n:Nat)(args:List Value):EF:=⟨n,fun _=>undef,PL args 0 .lf,[]⟩
def Lj(ops:Array Oper)(f:EF)(j:Nat):Option Bool:=match((ops[j]?).bind (·.dst))with
 |some d=>match(f.t.get d).getD (f.b d)with
  | .bool b=>some b
  |_=>none
 |none=>none
def uk(Γ:TypeId->Option TI)(h:EH)(f:EF)(rs:List ResultVar):Option Value:=Dn Γ h.m.get f.A rs
def JH(n:Nat):List (Tmp×Value)->Mp Value->Mp Value
 |[],t=>t
 |(d,v)::r,t=>JH n r (bif Nat.blt d n then t.set d v else t)
inductive OB where
 |q (g: (Operand->Value)->Option Value)
 |h (g:Hp->Nat->(Operand->Value)->Option (Value×List (Nat×AB)))
 |c (x:Operand) (args:List Operand)
 |rc
 |d (x:Operand) (args:Array Operand)
 |no
def En(Γ:TypeId->Option TI):Op->OB
 | .move x=> .q fun ev=>some (ev x)
 | .assign x=> .q fun ev=>some (ev x)
 | .pick c a b=> .q fun ev=>match ev c with
  | .bool t=>some (if t then ev a else ev b)
  |_=>none
 | .build t ps=> .q fun ev=>B9 Γ t (ps.toList.map fun p=>(p.1,ev p.2))
 | .nilCheck x=> .q fun ev=>match ev x with
  | .pointer (some _)| .func (.func _) _ _| .iface _ _=>some (ev x)
  |_=>none
 | .binOp op t x y _=> .q fun ev=>Cr Γ op t (ev x) (ev y)
 | .unOp op _ x=> .q fun ev=>fD op (ev x)
 | .convert s d x=> .q fun ev=>match Iv Γ s,Iv Γ d,ev x with
  | .int _,.int k,.int _ n=>some (.int k (k.wrap n))
  |_,_,_=>none
 | .makeInterface t x=> .q fun ev=>match Iv Γ t with
  | .interface _| .invalid=>none
  |_=>some (.iface t (ev x))
 | .makeFunc (.func f) x c=> .q fun ev=>some (.func (.func f) (x.map ev) (c.map ev))
 | .slice t x lo hi mx=> .q fun ev=>Gx Γ t (ev x) (lo.map ev) (hi.map ev) (mx.map ev)
 | .fieldAddr t x f=> .q fun ev=>DW Γ t f (ev x)
 | .field t x f=> .q fun ev=>KA Γ t f (ev x)
 | .indexAddr t x i=> .q fun ev=>Bg Γ t (ev x) (ev i)
 | .index t x i=> .q fun ev=>Ha Γ t (ev x) (ev i)
 | .extract x i=> .q fun ev=>match ev x with
  | .tuple vs=>vs[i]?
  |_=>none
 | .alloc e=> .h fun _ a _=>(Γ e).map fun i=>(fI a,[(a,.own i.zero.cells.toList)])
 | .box _ x=> .h fun _ a ev=>some (fI a,[(a,.own (ev x).cells.toList)])
 | .buildSlice t n ps=> .h fun _ a ev=>D0 Γ a t n (ps.toList.map fun p=>(p.1,ev p.2))
 | .load t x=> .h fun H _ ev=>(EC Γ H t (ev x)).map fun v=>(v,[])
 | .store t x y=> .h fun H _ ev=>(Jw Γ H t (ev x) (ev y)).map fun δ=>(undef,δ)
 | .makeMap _ none=> .h fun _ a _=>some (.map (some a),[(a,.mp [] 0)])
 | .makeSlice t l c=> .h fun _ a ev=>Fz Γ a t (ev l) (ev c)
 | .lookup t m k ok=> .h fun H _ ev=>(F0 Γ H t (ev m) (ev k) ok).map fun v=>(v,[])
 | .mapUpdate t m k v=> .h fun H _ ev=>(HS Γ H t (ev m) (ev k) (ev v)).map fun δ=>(undef,δ)
 | .insert t m k v=> .h fun H _ ev=>(HS Γ H t (ev m) (ev k) (ev v)).map fun δ=>(undef,δ)
 | .call {callee:= .builtin .append,args:=⟨[s,x]⟩,argTypes:=⟨[t,u]⟩}=> .h fun H a ev=>B5 Γ H a t u (ev s) (ev x)
 | .call {callee:= .builtin .copy,args:=⟨[d,s]⟩,argTypes:=⟨[t,_]⟩}=> .h fun H _ ev=>Gq Γ H t (ev d) (ev s)
 | .call {callee:= .builtin .recover,args:=⟨[]⟩,.. }=> .rc
 | .call {callee:= .builtin .append,.. }=> .no
 | .call {callee:= .builtin .copy,.. }=> .no
 | .call {callee:= .builtin b,args,argTypes}=> .q fun ev=>Fh Γ b argTypes (args.toList.map ev)
 | .call {callee:= .value x,args,.. }=> .c x args.toList
 | .defer {callee:= .value x,args,.. }=> .d x args
 |_=> .no
abbrev RC:=Bool->Code->EF->EH->Option (Ex×EF×EH)
abbrev RF:=FuncId->List Value->EH->Option (Value×EH)
structure Env where
 ty:TypeId->Option TI
 code:FuncId->Option (Nat×List ResultVar×Code)
 ext:FuncId->List Value->Option Value
 ord:FuncId->Option (List Value->EH->Option (Value×EH))
def SU(C:RC)(l:Nat)(vs:List Value)(h:EH):Option (Value×EH):=match h.m.get l with
 |some (.lp lp)=>bif Nat.beq vs.length lp.params.size then
   match C false lp.assign ⟨lp.n,lp.t,JH lp.n (lp.params.toList.zip vs) .lf,[]⟩ h with
   |some (.norm,f1,h1)=>match h1.m.get l with
    |some (.lp lp1)=>match lp1.state with
     | .ready=>match C false lp.body f1 (h1.put l (.lp {lp1 with state:= .busy}))with
      |some (ex,_,h3)=>match h3.m.get l with
       |some (.lp lp3)=>some (.bool (Cg ex),h3.put l (.lp {lp3 with state:=if Cg ex then .ready else .done,pending:=DN ex}))
       |_=>none
      |none=>none
     |_=>none
    |_=>none
   |_=>none
  else none
 |_=>none
def sM(E:Env)(g:FuncId)(vs:List Value)(h:EH):Bool->Option (Value×EH)
 |true=>(E.ext g vs).map fun v=>(v,h)
 |false=>none
def kI(E:Env)(F:RF)(g:FuncId)(first cap:Array Value)(vs:List Value)(h:EH):Option (Nat×List ResultVar×Code)->Option (Value×EH)
 |some _=>F g (first.toList++vs++cap.toList) h
 |none=>sM E g vs h (first.toList.isEmpty&&cap.toList.isEmpty)
def kD(C:RC)(l:Nat)(vs:List Value)(h:EH):Bool->Option (Value×EH)
 |true=>SU C l vs h
 |false=>none
def kG(E:Env)(C:RC)(F:RF)(vs:List Value)(h:EH):Value->Option (Value×EH)
 | .func (.func g) first cap=>kI E F g first cap vs h (E.code g)
 | .func (.yield l) first cap=>kD C l vs h (first.toList.isEmpty&&cap.toList.isEmpty)
 |_=>none
def bQ(E:Env)(C:RC)(F:RF)(x:Operand)(args:List Operand)(ev:Operand->Value)(h:EH):Option (Value×EH):=kG E C F (args.map ev) h (ev x)
def vR:AB->Bool
 | .lp _=>true
 |_=>false
def sV(v:Value)(δ:List (Nat×AB))(h:EH):Bool->Option (Value×EH)
 |true=>some (v,h.app δ)
 |false=>none
def sW(h:EH):Option (Value×List (Nat×AB))->Option (Value×EH)
 |some (v,δ)=>sV v δ h (δ.all fun x=> !vR x.2)
 |none=>none
def sU(h:EH):Option Value->Option (Value×EH)
 |some v=>some (v,h)
 |none=>none
def uN(E:Env)(C:RC)(F:RF)(k:OB)(ev:Operand->Value)(h:EH):Option (Value×EH):=match k with
 | .q g=>sU h (g ev)
 | .h g=>force h.n fun a=>sW h (g h.m.get a ev)
 | .c x args=>bQ E C F x args ev h
 | .rc=>some (.nilIface,h)
 |_=>none
abbrev KR:=EF->EH->Option (EF×EH)
def sQ(o:Oper)(k:KR)(f:EF)(h:EH):Option Value->Option (EF×EH)
 |some v=>Ir v fun v=>k (f.put o.dst v) h
 |none=>none
def sR(o:Oper)(k:KR)(f:EF):Option (Value×EH)->Option (EF×EH)
 |some (v,h)=>Ir v fun v=>k (f.put o.dst v) h
 |none=>none
def sT(o:Oper)(args:Array Operand)(k:KR)(f:EF)(h:EH):Bool->Value->Option (EF×EH)
 |true,.func (.func g) first cap=>k ((f.defer {target:= .fn (.func g) cap,args:=first++args.map f.ev}).put o.dst undef) h
 |_,_=>none
def sS(E:Env)(C:RC)(F:RF)(top:Bool)(o:Oper)(k:KR)(f:EF)(h:EH):OB->Option (EF×EH)
 | .q g=>sQ o k f h (g f.ev)
 | .d x args=>sT o args k f h top (f.ev x)
 |kd=>sR o k f (uN E C F kd f.ev h)
def sP(E:Env)(C:RC)(F:RF)(top:Bool)(o:Oper)(k:KR)(f:EF)(h:EH):Bool->Option (EF×EH)
 |false=>k (f.put o.dst undef) h
 |true=>sS E C F top o k f h (En E.ty o.op)
def uM(E:Env)(C:RC)(F:RF)(top:Bool)(ops:Array Oper):List Nat->EF->EH->Option (EF×EH)
 |[],f,h=>some (f,h)
 |i::rest,f,h=>match ops[i]? with
  |none=>none
  |some o=>sP E C F top o (uM E C F top ops rest) f h (Region.wanted o (Lj ops f))
structure Did where
 q:Bool
 v:Value
 see:EH
 δ:List (Nat×AB)
def OC(δ:List (Nat×AB)):List Nat:=δ.map (·.1)
def anc(b:List Nat)(i j:Nat):Bool:=(b.getD i 0).testBit j
def L0(m:Mp AB)(δ:List (Nat×AB)):Mp AB:=δ.foldl (fun m p=>m.set p.1 p.2) m
def LW(b:List Nat)(i:Nat):Mp AB->Nat->List Did->Mp AB
 |m,_,[]=>m
 |m,j,d::ds=>LW b i (match anc b i j with
  |true=>L0 m d.δ
  |false=>m) (j+1) ds
def gU(m:Mp AB):List Nat->Mp AB
 |[]=>m
 |a::l=>gU (match m.get a with
  |some _=>m.set a .dead
  |none=>m) l
def W5(h:EH)(b:List Nat)(i:Nat)(dids:List Did)(mask:List Nat)(n:Nat):EH:=⟨gU (LW b i h.m 0 dids) mask,n,[]⟩
def KZ(n:Nat)(h2:EH):List (Nat×AB):=(h2.log++(List.range (h2.n - n)).map (·+n)).filterMap fun a=>(h2.m.get a).map fun x=>(a,x)
abbrev KD:=EF->List Did->Nat->Option (List Did×EF)
def nh(o:Oper)(k:KD)(f:EF)(h:EH)(dids:List Did)(n:Nat):Option Value->Option (List Did×EF)
 |some v=>Ir v fun v=>k (f.put o.dst v) (dids++[⟨true,v,h,[]⟩]) n
 |none=>none
def nj(o:Oper)(k:KD)(f:EF)(dids:List Did)(see:EH)(n:Nat)(v:Value)(h2:EH):Bool->Option (List Did×EF)
 |true=>Ir v fun v=>force h2.n fun n2=>k (f.put o.dst v) (dids++[⟨false,v,see,KZ n h2⟩]) n2
 |false=>none
def ni(o:Oper)(k:KD)(f:EF)(dids:List Did)(see:EH)(n:Nat):Option (Value×EH)->Option (List Did×EF)
 |some (v,h2)=>nj o k f dids see n v h2 (h2.log.all fun a=>(h2.m.get a).isSome)
 |none=>none
def ng(E:Env)(C:RC)(F:RF)(o:Oper)(k:KD)(f:EF)(dids:List Did)(n:Nat)(kd:OB)(see:EH):Option (List Did×EF):=ni o k f dids see n (uN E C F kd f.ev see)
def nk(E:Env)(C:RC)(F:RF)(b:List Nat)(mask:Nat->List Nat)(h:EH)(i:Nat)(o:Oper)(k:KD)(f:EF)(dids:List Did)(n:Nat):OB->Option (List Did×EF)
 | .q g=>nh o k f h dids n (g f.ev)
 |kd=>ng E C F o k f dids n kd (W5 h b i dids (mask i) n)
def nc(E:Env)(C:RC)(F:RF)(b:List Nat)(mask:Nat->List Nat)(h:EH)(i:Nat)(o:Oper)(k:KD)(f:EF)(dids:List Did)(n:Nat):Bool->Option (List Did×EF)
 |false=>k (f.put o.dst undef) (dids++[⟨true,undef,h,[]⟩]) n
 |true=>nk E C F b mask h i o k f dids n (En E.ty o.op)
def Xi(E:Env)(C:RC)(F:RF)(ops:Array Oper)(b:List Nat)(mask:Nat->List Nat)(h:EH):List Nat->EF->List Did->Nat->Option (List Did×EF)
 |[],f,dids,n=>some (dids,f)
 |i::rest,f,dids,n=>match ops[i]? with
  |none=>none
  |some o=>nc E C F b mask h i o (Xi E C F ops b mask h rest) f dids n (Region.wanted o (Lj ops f))
def ML(h:EH)(a:Nat):Bool:=match h.m.get a with
 |none|some .dead=>false
 |_=>true
def MT(h:EH)(a:Nat):Bool:=match h.m.get a with
 |some .dead=>true
 |_=>false
def nF:AB->Bool
 | .ro _=>true
 |_=>false
def Ni(b:List Nat)(i j:Nat):Bool:= !Nat.beq i j&& !anc b i j&& !anc b j i
def fW(b:List Nat)(sz:Nat)(L:List Did):Bool:=(List.range sz).all fun j=>match L[j]? with
 |none=>false
 |some p=>p.δ.all (fun x=> !nF x.2&& !MT p.see x.1)&&(p.δ.isEmpty||(List.range sz).all fun i=> !Ni b i j||match L[i]? with
  |none=>false
  |some r=>p.δ.all fun x=>(r.q|| !ML r.see x.1)&& !(OC r.δ).contains x.1)
def In(b:List Nat)(sz:Nat)(L:List Did)(i:Nat):List Nat:=(List.range sz).flatMap fun j=>match Ni b i j with
 |true=>match L[j]? with
  |some p=>OC p.δ
  |none=>[]
 |false=>[]
def IT(ops:Array Oper):Bool:=ops.toList.all fun o=>o.op.operands.toList.all okX
def IZ:List Oper->Nat->Bool
 |[],_=>true
 |o::l,m=>match o.dst with
  |none=>IZ l m
  |some d=>match m.testBit d with
   |true=>false
   |false=>force (m|||2^d) (IZ l)
def Dx:List Oper->Nat->Nat
 |[],m=>m
 |o::l,m=>match o.dst with
  |none=>Dx l m
  |some d=>bif Nat.ble m d then Dx l (d+1)else Dx l m
inductive RB where
 |mk (b:List Nat) (ok:Bool) (top:Nat)
def qP(ops:Array Oper):RB:=force (Dx ops.toList 0) fun t=> .mk (CheckFast.beforeF ops).toList (IT ops&&IZ ops.toList 0) t
abbrev RE:=Option (Ex×EF×EH)
def Qd(k:EF->EH->RE):RE->RE
 |some (.norm,f,h)=>k f h
 |r=>r
def MK(C:RC)(top:Bool)(c:Code):Nat->EF->EH->RE
 |0,_,_=>none
 |n+1,f,h=>Qd (MK C top c n) (C top c f h)
def Yl(C:RC)(top:Bool)(x y:Code)(f:EF)(h:EH):Value->Bool->RE
 | .bool true,true=>C top x f h
 | .bool false,true=>C top y f h
 |_,_=>none
def Uf(id:Nat):RE->RE
 |some (.exit i,f,h)=>bif Nat.beq i id then some (.norm,f,h)else some (.exit i,f,h)
 |r=>r
def Yi:Option (EF×EH)->RE
 |some (f,h)=>some (.norm,f,h)
 |none=>none
def iv(E:Env)(C:RC)(F:RF)(top:Bool)(ops:Array Oper)(f:EF)(h:EH):Bool->RE
 |true=>Yi (uM E C F top ops (List.range ops.size) f h)
 |false=>none
def qA(f1:EF)(h:EH)(L:List Did):Bool->RE
 |true=>some (.norm,f1,L.foldl (fun h d=>h.app d.δ) h)
 |false=>none
def qB(b:List Nat)(sz:Nat)(h:EH):Option (List Did×EF)->RE
 |some (L,f1)=>qA f1 h L (fW b sz L)
 |none=>none
def iz(E:Env)(C:RC)(F:RF)(ops:Array Oper)(b:List Nat)(f f1:EF)(h:EH)(L:List Did):Bool->RE
 |true=>some (.norm,f1,L.foldl (fun h d=>h.app d.δ) h)
 |false=>qB b ops.size h (Xi E C F ops b (In b ops.size L) h (List.range ops.size) f [] h.n)
def qC(E:Env)(C:RC)(F:RF)(ops:Array Oper)(b:List Nat)(f:EF)(h:EH):Option (List Did×EF)->RE
 |some (L,f1)=>iz E C F ops b f f1 h L (fW b ops.size L)
 |none=>none
def qD(E:Env)(C:RC)(F:RF)(ops:Array Oper)(b:List Nat)(f:EF)(h:EH):Bool->RE
 |true=>qC E C F ops b f h (Xi E C F ops b (fun _=>[]) h (List.range ops.size) f [] h.n)
 |false=>none
def Yk(E:Env)(C:RC)(F:RF)(ops:Array Oper)(f:EF)(h:EH):RB->RE
 | .mk b true t=>qD E C F ops b f h (Nat.ble t f.n)
 |_=>none
def iq(f:EF)(h:EH)(r:Nat)(lp:ALoop):LoopState->Option Code->RE
 | .busy,_=>none
 |_,none=>some (.norm,f.defer {target:= .collected r,args:= #[]},h.put (r+1) (.lp {lp with state:= .exhausted}))
 |_,some .ret=>some (.ret,f.defer {target:= .collected r,args:= #[]},h.put (r+1) (.lp {lp with state:= .exhausted}))
 |_,some (.exit id)=>some (.exit id,f.defer {target:= .collected r,args:= #[]},h.put (r+1) (.lp {lp with state:= .exhausted}))
 |_,_=>none
def ir(f:EF)(r:Nat):Option (Value×EH)->RE
 |some (_,h)=>match h.m.get (r+1)with
  |some (.lp lp)=>iq f h r lp lp.state lp.pending
  |_=>none
 |none=>none
def iu(F:RF)(params:Array Tmp)(assign body:Code)(f:EF)(h:EH)(g:FuncId)(first cap:Array Value):Option (Nat×List ResultVar×Code)->RE
 |none=>none
 |some _=>force h.n fun r=>ir f r (F g (first.toList++[.func (.yield (r+1)) #[] #[]]++cap.toList) ((h.put r (.df true)).put (r+1) (.lp ⟨.ready,none,f.n,fun i=>(f.t.get i).getD (f.b i),params,assign,body,r⟩)))
def Ue(E:Env)(F:RF)(params:Array Tmp)(assign body:Code)(f:EF)(h:EH):Bool->Bool->Value->RE
 |true,true,.func (.func g) first cap=>iu F params assign body f h g first cap (E.code g)
 |_,_,_=>none
def Yd(E:Env)(C:RC)(F:RF)(top:Bool)(c:Code)(f:EF)(h:EH):RE:=match c with
 | .skip| .label _=>some (.norm,f,h)
 | .exit id=>some (.exit id,f,h)
 | .ret=>some (.ret,f,h)
 | .seq a b=>Qd (C top b) (C top a f h)
 | .cond c x y=>Yl C top x y f h (f.ev c) (okX c)
 | .block id c=>Uf id (C top c f h)
 | .scope c=>C top c f h
 | .loop c=>MK C top c 1000000 f h
 | .region _ ops false=>iv E C F top ops f h (IT ops)
 | .region _ ops true=>Yk E C F ops f h (qP ops)
 | .rangeFunc x params assign body=>Ue E F params assign body f h top (okX x) (f.ev x)
 |_=>none
def sO(E:Env)(F:RF):List Deferred->EH->Option EH
 |[],h=>some h
 |d::ds,h=>match d.target with
  | .fn (.func g) cap=>match E.code g with
   |none=>none
   |some _=>match F g (d.args.toList++cap.toList) h with
    |some (_,h)=>sO E F ds h
    |none=>none
  | .collected r=>match h.m.get r with
   |some (.df true)=>sO E F ds (h.put r (.df false))
   |_=>none
  |_=>none
def EH.fresh(h:EH):EH:=match h with
 |⟨m,n,_⟩=>force n fun n=>⟨m,n,[]⟩
theorem R3(h:EH):h.fresh=⟨h.m,h.n,[]⟩:=by obtain⟨m,n,l⟩:=h;unfold EH.fresh;simp only[force_eq]
def EH.logged(h:EH)(l:List Nat):EH:=match h with
 |⟨m,n,_⟩=>force n fun n=>⟨m,n,l⟩
theorem Js(h:EH)(l:List Nat):h.logged l=⟨h.m,h.n,l⟩:=by obtain⟨m,n,_⟩:=h;unfold EH.logged;simp only[force_eq]
def pq(h h2:EH)(v:Value):List Nat->Bool->Option (Value×EH)
 |[],true=>some (v,h)
 |[],false=>some (v,h2.logged h.log)
 |ch,_=>some (v,h2.logged (ch++h.log))
def pr(h h2:EH):Option Value->Option (Value×EH)
 |none=>none
 |some v=>Ir v fun v=>pq h h2 v (h2.log.filter (Nat.blt · h.n)) (plainV v)
def pu(E:Env)(h:EH)(f:EF)(rs:List ResultVar):Option EH->Option (Value×EH)
 |none=>none
 |some h2=>pr h h2 (uk E.ty h2 ⟨f.n,f.b,f.t,[]⟩ rs)
def px(E:Env)(F:RF)(h:EH)(rs:List ResultVar):RE->Option (Value×EH)
 |some (.exit _,_,_)|none=>none
 |some (_,f,h1)=>pu E h f rs (sO E F f.d h1)
def py(E:Env)(C:RC)(F:RF)(args:List Value)(h:EH):Option (Nat×List ResultVar×Code)->Option (Value×EH)
 |none=>none
 |some (n,rs,c)=>force (max args.length n) fun m=>px E F h rs (C true c (EF.enter m args) h.fresh)
def pz(E:Env)(C:RC)(F:RF)(g:FuncId)(args:List Value)(h:EH):Option (List Value->EH->Option (Value×EH))->Option (Value×EH)
 |some o=>o args h
 |none=>py E C F args h (E.code g)
def Yc(E:Env)(C:RC)(F:RF)(g:FuncId)(args:List Value)(h:EH):Option (Value×EH):=pz E C F g args h (E.ord g)
structure Rs where
 C:RC
 F:RF
def ev(E:Env):Nat->Rs
 |0=>⟨fun _ _ _ _=>none,fun _ _ _=>none⟩
 |k+1=>⟨Yd E (ev E k).C (ev E k).F,Yc E (ev E k).C (ev E k).F⟩
end
def gk(P:Program)(t:TypeId)(d:TypeDesc)(n:Nat):Bool:=match d with
 | .struct fs=>fs.toList.length==n&&((List.range fs.toList.length).all fun j=>match fs.toList[j]? with
   |some f=>f.offset==j&&(match P.underlying f.type with
    |some (.int _)=>true
    |_=>false)&&f.name !="_"
   |none=>false)&& !P.stoodInHeld t&& !P.eqGuardType P.depth t
 |_=>false
def nN(P:Program)(d:TypeDesc):Bool:=match d with
 | .struct fs=>fs.toList.all fun f=>(P.info? f.type).isSome
 |_=>true
def QU(P:Program)(t:TypeId):Option TI:=
 match P.underlying t with
 |none=>none
 |some d=>match P.info? t with
  |none=>none
  |some x=>match x.zero with
   |none=>none
   |some z=>if plainV z&&z.cells.size==x.size&&(aggD d||x.size==1)&&nN P d then some ⟨d,x.size,z,x.bytes,gk P t d x.size⟩else none
theorem GX{P:Program}{t:TypeId}{i:TI}(h:QU P t=some i):∃x z,P.underlying t=some i.d/\P.info? t=some x/\x.zero=some z/\plainV z=true/\z.cells.size=x.size/\(aggD i.d=true\/x.size=1)/\nN P i.d=true/\i=⟨i.d,x.size,z,x.bytes,gk P t i.d x.size⟩:=by
 unfold QU at h;split at h
 ·cases h
 ·rename_i d hd;split at h
  ·cases h
  ·rename_i x hx;split at h
   ·cases h
   ·rename_i z hz;split at h
    ·rename_i hc;simp only[AA,A6,beq_iff_eq]at hc;cases h
     exact⟨x,z,hd,hx,hz,hc.1.1.1,hc.1.1.2,hc.1.2,hc.2,rfl⟩
    ·cases h
theorem UZ(P:Program):TOk P (QU P) where
 und t i h:=by obtain⟨x,z,h1,_⟩:=GX h;exact h1
 inf t i h:=by
  obtain⟨x,z,h1,h2,h3,h4,h5,h6,h7,h8⟩:=GX h;rw[h8];exact⟨x,h2,rfl,rfl,h3⟩
 zero t i h:=by
  obtain⟨x,z,h1,h2,h3,h4,h5,h6,h7,h8⟩:=GX h;rw[h8];exact⟨h4,h5⟩
 one t i h ha:=by
  obtain⟨x,z,h1,h2,h3,h4,h5,h6,h7,h8⟩:=GX h;rw[h8];rcases h6 with h6|h6
  ·rw[h6]at ha;cases ha
  ·exact h6
 eq t i h he:=by
  obtain⟨x,z,h1,h2,h3,h4,h5,h6,h7,h8⟩:=GX h;have he':gk P t i.d x.size=true:=by rw[h8]at he;exact he
  have hsz:i.size=x.size:=by rw[h8]
  rw[hsz];unfold gk at he';split at he'
  ·rename_i fs hd;simp only[AA,A7,beq_iff_eq,AS,An]at he';obtain⟨⟨⟨e1,e2⟩,e3⟩,e4⟩:=he';have hfs:P.fieldsOf t=fs:=by unfold Program.fieldsOf;rw[h1,hd]
   rw[hfs];refine⟨by rw[h1,hd],e3,e4,e1,fun j f hj=> ?_⟩;have hl:=(Ah.1 hj).1;have:=e2 j hl;rw[hj]at this;simp only[AA,beq_iff_eq,bne_iff_ne,ne_eq]at this;obtain⟨⟨a,b⟩,c⟩:=this;refine⟨c,a,?_⟩;split at b
   ·rename_i k hk;exact⟨k,hk⟩
   ·cases b
  ·cases he'
theorem QS(P:Program):FOk P (QU P):=fun t i fs h hd f hf=>by
 obtain⟨x,z,h1,h2,h3,h4,h5,h6,h7,h8⟩:=GX h;rw[hd]at h7;unfold nN at h7;have:=(AS.1 h7) f hf;exact Option.isSome_iff_exists.1 this
def TC(P:Program)(g:FuncId):Option (Nat×List ResultVar×Code):=match P.funcs.toList[g]? with
 |some fn=>match fn.body with
  |some c=>some (fn.ntmps,fn.results.toList,c)
  |none=>none
 |none=>none
section
def GoodC(P:Program):Code->Prop
 | .region _ ops d=>d=true->Region.ok P.types ops true=true
 | .seq a b=>GoodC P a/\GoodC P b
 | .cond _ a b=>GoodC P a/\GoodC P b
 | .block _ b=>GoodC P b
 | .loop b=>GoodC P b
 | .scope b=>GoodC P b
 | .rangeFunc _ _ a b=>GoodC P a/\GoodC P b
 |_=>True
structure EHok(P:Program)(h:EH):Prop where
 fin:∀a,h.n<=a->h.m.get a=none
 lp:∀a l,h.m.get a=some (.lp l)->GoodC P l.assign/\GoodC P l.body
structure Lg(h h':EH):Prop where
 n:h.n<=h'.n
 log:∀a,a∈h.log->a∈h'.log
 same:∀a,a<h.n->a ∉ h'.log->h'.m.get a=h.m.get a
theorem Lg.refl(h:EH):Lg h h:=⟨AH _,fun _ k=>k,fun _ _ _=>rfl⟩
theorem Lg.trans{h h' h'':EH}(k:Lg h h')(k':Lg h' h''):Lg h h'':=
 ⟨BN k.n k'.n,fun a m=>k'.log a (k.log a m),fun a ha m=>(k'.same a (Ak ha k.n) m).trans (k.same a ha fun q=>m (k'.log a q))⟩
theorem EH.put_get(h:EH)(a:Nat)(x:AB): (h.put a x).m.get=upd h.m.get a (some x):=by
 funext b;rw[Gn];unfold upd;cases Nat.blt a h.n<;>exact Mp.get_set _ _ _ _
theorem Dd{a b:Nat}(h:Nat.blt a b=true):a<b:=Nat.le_of_ble_eq_true h
theorem Gl{a b:Nat}(h:Nat.blt a b=false):b<=a:=by
 rcases Nat.lt_or_ge a b with k|k
 ·have:Nat.blt a b=true:=Nat.ble_eq_true_of_le k;rw[this]at h;cases h
 ·exact k
theorem Eu{P:Program}{h:EH}(k:EHok P h)(a:Nat)(x:AB)(hx:∀l,x= .lp l->GoodC P l.assign/\GoodC P l.body):EHok P (h.put a x)/\Lg h (h.put a x):=by
 have hg:=h.put_get a x;refine⟨⟨fun b hb=> ?_,fun b l hl=> ?_⟩,?_⟩
 ·rw[hg];rw[Gn]at hb;cases hc:Nat.blt a h.n with
  |true=>
   rw[hc]at hb;rw[upd_ne (fun e=>by have:=Dd hc;simp only[cond_true]at hb;omega)];exact k.fin b hb
  |false=>
   rw[hc]at hb;have:=Gl hc;simp only[cond_false]at hb;rw[upd_ne om];exact k.fin b om
 ·rw[hg]at hl;unfold upd at hl;split at hl
  ·exact hx l (AC hl)
  ·exact k.lp b l hl
 ·refine⟨?_,?_,fun b hb hm=> ?_⟩
  ·rw[Gn];cases hc:Nat.blt a h.n with
   |true=>exact AH _
   |false=>have:=Gl hc;simp only[cond_false];omega
  ·intro b hb;rw[Gn];cases hc:Nat.blt a h.n with
   |true=>exact List.mem_cons_of_mem _ hb
   |false=>exact hb
  ·rw[hg];refine upd_ne fun e=>hm ?_
   rw[Gn];subst e;have:Nat.blt b h.n=true:=Nat.ble_eq_true_of_le hb;rw[this];exact List.mem_cons_self ..
theorem Ev:∀(δ:List (Nat×AB)) (h:EH),(h.app δ).m.get=Kz h.m.get δ
 |[],h=>rfl
 |p::δ,h=>by
  show((h.put p.1 p.2).app δ).m.get=Kz (upd h.m.get p.1 (some p.2)) δ
  rw[Ev δ,EH.put_get]
theorem Gp{P:Program}:∀(δ:List (Nat×AB)) {h:EH},EHok P h->(∀x∈δ,∀l,x.2= .lp l->GoodC P l.assign/\GoodC P l.body)->EHok P (h.app δ)/\Lg h (h.app δ)
 |[],h,k,_=>⟨k,Lg.refl h⟩
 |p::δ,h,k,hx=>by
  obtain⟨k1,l1⟩:=Eu k p.1 p.2 (hx p (List.mem_cons_self ..));obtain⟨k2,l2⟩:=Gp δ k1 fun x hm=>hx x (List.mem_cons_of_mem _ hm)
  exact⟨k2,l1.trans l2⟩
theorem Hq(f:EF)(d:Option Tmp)(v:Value): (f.put d v).A=f.A.put d v:=by
 rw[YC];unfold AF.put;cases d with
 |none=>rfl
 |some d=>
  dsimp only;cases hc:Nat.blt d f.n with
  |true=>
   have:d<f.A.n:=Dd hc;rw[if_pos this];simp only[cond_true];unfold EF.A;congr 1;funext i;dsimp only;rw[Mp.get_set];unfold upd;split<;>rfl
  |false=>
   have:¬d<f.A.n:=Nat.not_lt.2 (Gl hc);rw[if_neg this];rfl
theorem GN(f:EF):f.ev=f.A.ev:=by
 funext x;cases x<;>rfl
theorem Li(ops:Array Oper)(f:EF):Lj ops f=yiel ops f.A.t:=by
 funext j;unfold Lj yiel;cases(ops[j]?).bind (·.dst)with
 |none=>rfl
 |some d=>
  show(match(f.t.get d).getD (f.b d)with| .bool b=>some b|_=>none)=(match some ((f.t.get d).getD (f.b d))with|some (.bool b)=>some b|_=>none)
  cases(f.t.get d).getD (f.b d)<;>rfl
theorem MG:∀(l:List Value) (i:Nat) (m:Mp Value) (j:Nat),(PL l i m).get j=if i<=j/\j<i+l.length then l[j - i]? else m.get j
 |[],i,m,j=>by
  rw[if_neg (by simp)];rfl
 |v::l,i,m,j=>by
  show(PL l (i+1) (m.set i v)).get j=_
  rw[MG l,Mp.get_set];by_cases e:j=i
  ·subst e;rw[if_neg om,if_pos rfl,if_pos (by simp)];simp
  ·rw[if_neg e];by_cases h:i+1<=j/\j<i+1+l.length
   ·rw[if_pos h,if_pos (by simp only[AY];omega)];have:j - i=(j - (i+1))+1:=om;rw[this,Am]
   ·rw[if_neg h,if_neg (by simp only[AY];omega)]
theorem I1(n:Nat)(args:List Value): (EF.enter n args).A=AF.enter n args:=by
 unfold EF.enter EF.A AF.enter;congr 1;funext i;dsimp only;rw[MG,Mp.get_lf,List.getD_eq_getElem?_getD];by_cases h:i<args.length
 ·rw[if_pos om];rfl
 ·rw[if_neg om,Ap om]
theorem Kn(n:Nat)(b:Nat->Value):∀(l:List (Tmp×Value)) (m:Mp Value),(fun i=>((JH n l m).get i).getD (b i))=Em n l fun i=>(m.get i).getD (b i)
 |[],m=>rfl
 |(d,v)::r,m=>by
  unfold JH Em;rw[Kn n b r];congr 1;funext i;cases hc:Nat.blt d n with
  |true=>
   rw[if_pos (Dd hc)];simp only[cond_true,Mp.get_set,upd];split<;>rfl
  |false=>
   have hn:¬d<n:=Nat.not_lt.2 (Gl hc);rw[if_neg hn];rfl
variable{Γ:TypeId->Option TI}
theorem Sw{op:Op}{g: (Operand->Value)->Option Value}(h:En Γ op= .q g)(H:Hp)(a:Nat)(ev:Operand->Value):hop Γ H a ev op=(g ev).map fun v=>(v,[]):=by
 unfold En at h;split at h<;>first|(cases h;rfl)|(cases h;done)|skip
 rename_i b args ats h1 h2 h3 h4 h5;cases h
 cases b<;>first|rfl|(exfalso;simp_all;done)
theorem nC{op:Op}{g:Hp->Nat->(Operand->Value)->Option (Value×List (Nat×AB))}(h:En Γ op= .h g)(H:Hp)(a:Nat)(ev:Operand->Value):hop Γ H a ev op=g H a ev:=by
 unfold En at h;split at h<;>first|(cases h;rfl)|cases h
theorem nE{op:Op}{x:Operand}{args:List Operand}(h:En Γ op= .c x args):∃ats,op= .call {callee:= .value x,args:=⟨args⟩,argTypes:=ats}:=by
 unfold En at h;split at h<;>first|(cases h;exact⟨_,rfl⟩)|cases h
theorem gG{op:Op}(h:En Γ op= .rc):∃ats,op= .call {callee:= .builtin .recover,args:= #[],argTypes:=ats}:=by
 unfold En at h;split at h<;>first|(cases h;exact⟨_,rfl⟩)|cases h
theorem nD{op:Op}{x:Operand}{args:Array Operand}(h:En Γ op= .d x args):∃ats,op= .defer {callee:= .value x,args,argTypes:=ats}:=by
 unfold En at h;split at h<;>first|(cases h;exact⟨_,rfl⟩)|cases h
end
end
end Go.Proofs.YtjlallgaadmeaaaGreatDoor
