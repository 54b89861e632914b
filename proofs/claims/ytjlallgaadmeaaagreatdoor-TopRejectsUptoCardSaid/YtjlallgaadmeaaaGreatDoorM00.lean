/- Parts of the proof, joined: EA EW EX EY EB EC ED. Conditions: none. -/
import Derived.Conc.Beside
import Derived.Conc.FxEnd
import Derived.Conc.Comm2
import Derived.Conc.CrowdSel
import Derived.Conc.FxBegin
import Derived.Conc.Own5
import Derived.Conc.Listed
import Derived.Laws.StructEq
import Derived.Laws.Cells
import Derived.Laws.Entries
import Derived.KernelRfl
set_option linter.unusedVariables false
set_option linter.unusedSimpArgs false
set_option linter.unusedSectionVars false
set_option maxRecDepth 100000
namespace Go.Proofs.YtjlallgaadmeaaaGreatDoor
section
section
theorem AA:type_of% @Bool.and_eq_true:=@Bool.and_eq_true
theorem AC:type_of% @Option.some.inj:=@Option.some.inj
theorem AD:type_of% @List.getElem?_eq_getElem:=@List.getElem?_eq_getElem
theorem AE:type_of% @Nat.eq_of_beq_eq_true:=@Nat.eq_of_beq_eq_true
theorem AG:type_of% @Array.getElem?_setIfInBounds_ne:=@Array.getElem?_setIfInBounds_ne
theorem AH:type_of% @Nat.le_refl:=@Nat.le_refl
theorem AI:type_of% @Int.eq_ofNat_of_zero_le:=@Int.eq_ofNat_of_zero_le
theorem AK:type_of% @Array.getElem?_eq_getElem:=@Array.getElem?_eq_getElem
theorem AL:type_of% @Array.getD_eq_getD_getElem?:=@Array.getD_eq_getD_getElem?
theorem AM:type_of% @List.getElem_mem:=@List.getElem_mem
theorem AN:type_of% @List.length_append:=@List.length_append
theorem AO:type_of% @Option.some.injEq:=@Option.some.injEq
theorem AP:type_of% @Bool.false_eq_true:=@Bool.false_eq_true
theorem AQ:type_of% @Option.getD_some:=@Option.getD_some
theorem AR:type_of% @Array.getElem?_eq_some_iff:=@Array.getElem?_eq_some_iff
theorem AS:type_of% @List.all_eq_true:=@List.all_eq_true
theorem AT:type_of% @Nat.lt_succ_iff_lt_or_eq:=@Nat.lt_succ_iff_lt_or_eq
theorem AU:type_of% @Option.map_some:=@Option.map_some
theorem AV:type_of% @List.mem_cons:=@List.mem_cons
theorem AW:type_of% @Nat.zero_add:=@Nat.zero_add
theorem AX:type_of% @List.getElem?_cons_zero:=@List.getElem?_cons_zero
theorem AY:type_of% @List.length_cons:=@List.length_cons
theorem AZ:type_of% @Option.map_eq_some_iff:=@Option.map_eq_some_iff
theorem Aa:type_of% @Int.toNat_natCast:=@Int.toNat_natCast
theorem Ab:type_of% @if_false:=@if_false
theorem Ac:type_of% @List.getElem?_append_left:=@List.getElem?_append_left
theorem Ad:type_of% @List.getElem?_append_right:=@List.getElem?_append_right
theorem Ae:type_of% @Array.getElem?_toList:=@Array.getElem?_toList
theorem Ag:type_of% @if_true:=@if_true
theorem Ah:type_of% @List.getElem?_eq_some_iff:=@List.getElem?_eq_some_iff
theorem Ai:type_of% @List.not_mem_nil:=@List.not_mem_nil
theorem Aj:type_of% @Nat.not_lt_zero:=@Nat.not_lt_zero
theorem Ak:type_of% @Nat.lt_of_lt_of_le:=@Nat.lt_of_lt_of_le
theorem Al:type_of% @Array.getElem?_map:=@Array.getElem?_map
theorem Am:type_of% @List.getElem?_cons_succ:=@List.getElem?_cons_succ
theorem An:type_of% @List.mem_range:=@List.mem_range
theorem Ao:type_of% @List.mem_of_getElem?:=@List.mem_of_getElem?
theorem Ap:type_of% @List.getElem?_eq_none:=@List.getElem?_eq_none
theorem Aq:type_of% @Bool.false_ne_true:=@Bool.false_ne_true
theorem As:type_of% @List.length_nil:=@List.length_nil
theorem Au:type_of% @Array.getElem?_setIfInBounds_self_of_lt:=@Array.getElem?_setIfInBounds_self_of_lt
theorem Ax:type_of% @List.mem_append:=@List.mem_append
theorem Ay:type_of% @List.size_toArray:=@List.size_toArray
theorem Az:type_of% @List.drop_eq_nil_of_le:=@List.drop_eq_nil_of_le
theorem A4:type_of% @List.drop_eq_getElem_cons:=@List.drop_eq_getElem_cons
theorem A6:type_of% @Bool.or_eq_true:=@Bool.or_eq_true
theorem A7:type_of% @Bool.not_eq_true':=@Bool.not_eq_true'
theorem BA:type_of% @of_decide_eq_true:=@of_decide_eq_true
theorem BC:type_of% @Array.mem_append:=@Array.mem_append
theorem BD:type_of% @Array.getElem?_append_right:=@Array.getElem?_append_right
theorem BE:type_of% @decide_eq_true_eq:=@decide_eq_true_eq
theorem BF:type_of% @List.flatMap_append:=@List.flatMap_append
theorem BG:type_of% @Array.toList_map:=@Array.toList_map
theorem BH:type_of% @decide_eq_true:=@decide_eq_true
theorem BI:type_of% @decide_eq_false:=@decide_eq_false
theorem BK:type_of% @Array.getElem?_append_left:=@Array.getElem?_append_left
theorem BL:type_of% @of_decide_eq_false:=@of_decide_eq_false
theorem BM:type_of% @List.length_map:=@List.length_map
theorem BN:type_of% @Nat.le_trans:=@Nat.le_trans
theorem om{p:Prop}(h:p:=by omega):p:=h
theorem dZ{p:Prop}(h:p:=by decide):p:=h
theorem kr{p:Prop}(h:p:=by kernel_rfl):p:=h
open Go.Conc
def Rc:Mark->Bool
 | .extern _| .noRoom=>true
 |_=>false
def InB(O:Nat->Prop):Loc->Prop
 | .cell a=>O a.block
 | .obj r=>O r
 |_=>False
def EvO(O Rd:Nat->Prop)(e:Event):Prop:=
 match e.loc with
 | .cell a=>(O a.block\/(Rd a.block/\e.write=false))/\e.sync=false
 | .obj b=>O b/\e.sync=false
 | .mark m=>Rc m=true
 | .output=>True
 |_=>False
variable{e:Event}
theorem EvO.keep{O Rd:Nat->Prop}(h:EvO O Rd e):e.loc≠ .mark .disable/\e.loc≠ .mark .enable:=by
 obtain⟨loc,wr,sy⟩:=e;cases loc<;>simp_all [EvO]
 rename_i m;cases m<;>simp_all [Rc]
theorem EvO.low{O Rd:Nat->Prop}{B:Nat}(hO:∀b,O b->b<B)(hR:∀b,Rd b->b<B)(h:EvO O Rd e): (MemAct.ofEvent e).low B:=by
 obtain⟨loc,wr,sy⟩:=e;cases loc with
 |cell a=>
  have h2: (O a.block\/(Rd a.block/\wr=false))/\sy=false:=h;show a.block<B
  rcases h2.1 with x|x
  ·exact hO _ x
  ·exact hR _ x.1
 |obj b=>
  have h2:O b/\sy=false:=h;obtain⟨h3,rfl⟩:=h2;cases wr<;>exact hO _ h3
 |mark m=>
  have h2:Rc m=true:=h;cases m<;>first|trivial|cases h2
 |_=>trivial
theorem EvO.touch{O Rd:Nat->Prop}(h:EvO O Rd e){b:Touch}(hb: (MemAct.ofEvent e).touch?=some b)(hm:b.loc.isMemory=true):b.kind≠ .atomic/\(InB O b.loc\/(InB Rd b.loc/\b.write=false)):=by
 obtain⟨loc,wr,sy⟩:=e;cases loc with
 |cell a=>
  have h2: (O a.block\/(Rd a.block/\wr=false))/\sy=false:=h;obtain⟨h3,rfl⟩:=h2;simp only[MemAct.ofEvent,MemAct.touch?,AO]at hb;subst hb;exact⟨by simp,h3⟩
 |obj c=>
  have h2:O c/\sy=false:=h;obtain⟨h3,rfl⟩:=h2;cases wr<;>
  ·simp only[MemAct.ofEvent,MemAct.touch?,AO]at hb;subst hb;exact⟨by simp,.inl h3⟩
 |mark m=>
  have h2:Rc m=true:=h;cases m<;>simp_all [MemAct.ofEvent,MemAct.touch?,Rc]
 |output=>
  simp only[MemAct.ofEvent,MemAct.touch?,AO]at hb;subst hb;cases hm
 |_=>exact absurd h (by simp[EvO])
def GM:Nat->Prop:=fun _=>False
class RdC where
 Rd:Nat->Prop
abbrev RD[RdC]:Nat->Prop:=RdC.Rd
def Uni(O Rd:Nat->Prop):Nat->Prop:=fun b=>O b\/Rd b
structure Keeps(O:Nat->Prop)(w w₁:World):Prop where
 same:∀b:Nat,O b->w₁.heap[b]? =w.heap[b]?
 size:w.heap.size<=w₁.heap.size
 tape:w₁.tape=w.tape
 os:w₁.os=w.os
 output:w₁.output=w.output
theorem Keeps.refl(O:Nat->Prop)(w:World):Keeps O w w:=⟨fun _ _=>rfl,AH _,rfl,rfl,rfl⟩
theorem Keeps.trans{O:Nat->Prop}{a b c:World}(h:Keeps O a b)(k:Keeps O b c):Keeps O a c:=⟨fun x hx=>(k.same x hx).trans (h.same x hx),BN h.size k.size,k.tape.trans h.tape,k.os.trans h.os,k.output.trans h.output⟩
theorem Keeps.at(O:Nat->Prop)(w:World)(d:Nat):Keeps O w (w.at d):=⟨fun _ _=>rfl,AH _,rfl,rfl,rfl⟩
theorem Keeps.mono{O O':Nat->Prop}{a b:World}(h:Keeps O' a b)(ho:∀x,O x->O' x):Keeps O a b:=⟨fun x hx=>h.same x (ho x hx),h.size,h.tape,h.os,h.output⟩
def grow(O:Nat->Prop)(w w':World):Nat->Prop:=fun b=>O b\/(w.heap.size<=b/\b<w'.heap.size)
structure Moves(O Rd:Nat->Prop)(w w':World)(es:Array Event):Prop where
 keep:∀b:Nat,b<w.heap.size->¬O b->w'.heap[b]? =w.heap[b]?
 size:w.heap.size<=w'.heap.size
 tape:w'.tape=w.tape
 os:w'.os=w.os
 output:w'.output=w.output
 evs:∀e∈es,EvO (grow O w w') Rd e
theorem Moves.keeps{O Rd:Nat->Prop}{w w':World}{es:Array Event}(h:Moves O Rd w w' es){O2:Nat->Prop}(hO:∀b,O2 b->b<w.heap.size/\¬O b):Keeps O2 w w':=⟨fun b hb=>h.keep b (hO b hb).1 (hO b hb).2,h.size,h.tape,h.os,h.output⟩
abbrev StopT:=(Nat->Prop)->Goroutine->World->Prop
inductive Own(P:Program)(main:Bool)(Rd:Nat->Prop)(Stop:StopT): (Nat->Prop)->Goroutine->World->Prop
 |stop {O:Nat->Prop} {g:Goroutine} {w:World} (h:∀w₁,Keeps (Uni O Rd) w w₁->Stop O g w₁):Own P main Rd Stop O g w
 |step {O:Nat->Prop} {g:Goroutine} {w:World} (hr:g.status= .running) (h1:∀w₁,Keeps (Uni O Rd) w w₁->∃g' w' es,stepG P main g w₁= .go g' w' es/\Moves O Rd w₁ w' es)
   (h2:∀w₁ g' w' es,Keeps (Uni O Rd) w w₁->stepG P main g w₁= .go g' w' es->Own P main Rd Stop (grow O w₁ w') g' w'):Own P main Rd Stop O g w
section
variable{P:Program}{main:Bool}{Rd:Nat->Prop}{Stop Stop2:StopT}{O:Nat->Prop}{g:Goroutine}{w:World}
theorem Own.rely (h:Own P main Rd Stop O g w) {w₁:World} (k:Keeps (Uni O Rd) w w₁):Own P main Rd Stop O g w₁:=by
 cases h with
 |stop h=>exact .stop fun w₂ k2=>h w₂ (k.trans k2)
 |step hr h1 h2=>exact .step hr (fun w₂ k2=>h1 w₂ (k.trans k2)) (fun w₂ g' w' es k2 e=>h2 w₂ g' w' es (k.trans k2) e)
theorem Own.bind(h:Own P main Rd Stop O g w)(hs:∀O g w,(∀w₁,Keeps (Uni O Rd) w w₁->Stop O g w₁)->Own P main Rd Stop2 O g w):Own P main Rd Stop2 O g w:=by
 induction h with
 |stop h=>exact hs _ _ _ h
 |step hr h1 h2 ih=>exact .step hr h1 fun w₁ g' w' es k e=>ih w₁ g' w' es k e
end
theorem Own.one{P:Program}{main:Bool}{Rd:Nat->Prop}{Stop:StopT}{O:Nat->Prop}{g:Goroutine}{w:World}(hr:g.status= .running)
  (h:∀w₁,Keeps (Uni O Rd) w w₁->∃g' w' es,stepG P main g w₁= .go g' w' es/\Moves O Rd w₁ w' es/\Own P main Rd Stop (grow O w₁ w') g' w'):Own P main Rd Stop O g w:=by
 refine .step hr (fun w₁ k=> ?_) fun w₁ g' w' es k e=> ?_
 ·obtain⟨g',w',es,h1,h2,_⟩:=h w₁ k;exact⟨g',w',es,h1,h2⟩
 ·obtain⟨g2,w2,es2,h1,_,h3⟩:=h w₁ k;rw[h1]at e;injection e with e1 e2 e3;subst e1 e2;exact h3
end
end
section
open Go.Conc
theorem GL{A A' U:Trace}{g:Nat}(hd:Deaf A g=Deaf A' g):∀i,i<=U.size->(A++U).deaf g (A.size+i)=(A'++U).deaf g (A'.size+i)
 |0,_=>by
  rw[Nat.add_zero,Nat.add_zero,deaf_old (AH _),deaf_old (AH _)];exact hd
 |i+1,h=>by
  have hy:U[i]? =some U[i]:=AK om;have h1: (A++U)[A.size+i]? =some U[i]:=by rw[BD om,show A.size+i - A.size=i from om,hy]
  have h2: (A'++U)[A'.size+i]? =some U[i]:=by rw[BD om,show A'.size+i - A'.size=i from om,hy]
  rw[<-Nat.add_assoc,<-Nat.add_assoc,deaf_succ h1,deaf_succ h2,GL hd i om]
theorem IG(A A' U:Trace)(i:Nat): (A++U)[A.size+i]? =(A'++U)[A'.size+i]? :=by
 rw[BD om,BD om];congr 1;omega
theorem EA(A A' U:Trace)(i:Nat): (A++U).act? (A.size+i)=(A'++U).act? (A'.size+i):=by unfold Trace.act?;rw[IG A A']
theorem Hf(A A' U:Trace)(i:Nat): (A++U).g? (A.size+i)=(A'++U).g? (A'.size+i):=by unfold Trace.g?;rw[IG A A']
theorem Om(A A' U:Trace)(i:Nat):touchAt (A++U) (A.size+i)=touchAt (A'++U) (A'.size+i):=by unfold touchAt;rw[EA A A']
theorem EW{A A' U:Trace}(hd:∀g,Deaf A g=Deaf A' g){i:Nat}(h: (A++U).heard (A.size+i)): (A'++U).heard (A'.size+i):=by
 obtain⟨g,hg,h0⟩:=h;have hlt:=lt_of_g? hg;simp only[Array.size_append]at hlt;exact⟨g,by rw[<-Hf A A'];exact hg,by rw[<-GL (hd g) i om];exact h0⟩
def Pv(op:MemOp):Prop:=∃e,op.act= .ofEvent e
theorem NX{g:Nat}{fn:FuncId}{pos:String}{es:Array Event}:∀op∈MemOp.ofEvents g fn pos es,Pv op:=by
 intro op h;rw[ofEvents_eq]at h;obtain⟨e,_,rfl⟩:=Array.mem_map.1 h;exact⟨e,rfl⟩
theorem Ew(e:Event): (∀k,MemAct.ofEvent e≠ .go k)/\MemAct.ofEvent e≠ .start/\(∀c k,MemAct.ofEvent e≠ .send c k)/\(∀c k,MemAct.ofEvent e≠ .sendDone c k)/\(∀c k n,MemAct.ofEvent e≠ .recv c k n)/\(∀c k,MemAct.ofEvent e≠ .recvDone c k)/\(∀c,MemAct.ofEvent e≠ .recvClosed c):=by
 obtain⟨loc,wr,sy⟩:=e;cases loc<;>cases wr<;>cases sy<;>simp[MemAct.ofEvent]
theorem xQ{A U:Trace}{k:Nat}{x:MemAct}(hk:A.size<=k)(h: (A++U).act? k=some x):∃op∈U,op.act=x:=by
 obtain⟨op,ho,rfl⟩:=AZ.1 h;rcases getElem?_append_cases ho with⟨hlt,_⟩|⟨_,hu⟩
 ·omega
 ·exact⟨op,hu,rfl⟩
theorem Kv{A A' U:Trace}(hd:∀g,Deaf A g=Deaf A' g)(hU:∀op∈U,Pv op)(hA:∀c,∀op∈A,op.act≠ .recvClosed c){i k:Nat}
  (h:ProgramOrder (A++U) (A.size+i) k\/(Notices (A++U) (A.size+i) k/\(A++U).heard (A.size+i)/\(A++U).heard k)):
  ∃j,k=A.size+j/\(ProgramOrder (A'++U) (A'.size+i) (A'.size+j)\/(Notices (A'++U) (A'.size+i) (A'.size+j)/\(A'++U).heard (A'.size+i)/\(A'++U).heard (A'.size+j))):=by
 have sorts:∀{x:MemAct},(A++U).act? (A.size+i)=some x->∃e,x= .ofEvent e:=by
  intro x hx;obtain⟨op,hop,rfl⟩:=xQ om hx;exact hU op hop
 rcases h with⟨hlt,g,h1,h2⟩|⟨n,h1,h2⟩
 ·refine⟨k - A.size,om,.inl ⟨om,g,by rw[<-Hf A A'];exact h1,?_⟩⟩;rw[<-Hf A A',show A.size+(k - A.size)=k from om];exact h2
 ·cases n with
  |atomic hlt hi hj hb=>
   obtain⟨j,rfl⟩:∃j,k=A.size+j:=⟨k - A.size,om⟩;refine⟨j,rfl,.inr ⟨.atomic om (by rw[<-EA A A'];exact hi) (by rw[<-EA A A'];exact hj) (fun m sy m1 m2 e=> ?_),EW hd h1,EW hd h2⟩⟩;have:=hb (A.size+(m - A'.size)) sy om om;rw[EA A A',show A'.size+(m - A'.size)=m from om]at this;exact this e
  |marked hlt hi hj hb=>
   obtain⟨j,rfl⟩:∃j,k=A.size+j:=⟨k - A.size,om⟩;refine⟨j,rfl,.inr ⟨.marked om (by rw[<-EA A A'];exact hi) (by rw[<-EA A A'];exact hj) (fun m m1 m2 e=> ?_),EW hd h1,EW hd h2⟩⟩;have:=hb (A.size+(m - A'.size)) om om;rw[EA A A',show A'.size+(m - A'.size)=m from om]at this;exact this e
  |spawn hi hj hg=>
   obtain⟨e,he⟩:=sorts hi;exact absurd he.symm ((Ew e).1 _)
  |handOver hi hj=>
   obtain⟨e,he⟩:=sorts hi;exact absurd he.symm ((Ew e).2.2.1 _ _)
  |room hi hj=>
   obtain⟨e,he⟩:=sorts hi;exact absurd he.symm ((Ew e).2.2.2.2.1 _ _ _)
  |closed hi hj=>
   rename_i c;obtain⟨op,ho,hoa⟩:=AZ.1 hj;rcases getElem?_append_cases ho with⟨_,h'⟩|⟨_,hu⟩
   ·exact absurd hoa (hA c op (mem_of_getElem? h'))
   ·obtain⟨e,he⟩:=hU op hu;rw[he]at hoa;exact absurd hoa ((Ew e).2.2.2.2.2.2 _)
theorem KP{A A' U:Trace}(hd:∀g,Deaf A g=Deaf A' g)(hU:∀op∈U,Pv op)(hA:∀c,∀op∈A,op.act≠ .recvClosed c){i k:Nat}
  (h:HappensBefore (A++U) (A.size+i) k):∃j,k=A.size+j/\HappensBefore (A'++U) (A'.size+i) (A'.size+j):=by
 induction h with
 |single e=>
  obtain⟨j,rfl,e'⟩:=Kv (A':=A') hd hU hA e;exact⟨j,rfl,.single e'⟩
 |tail _ e ih=>
  obtain⟨j,rfl,h'⟩:=ih;obtain⟨j2,rfl,e'⟩:=Kv (A':=A') hd hU hA e;exact⟨j2,rfl,.tail h' e'⟩
structure Both(c:Nat)(Shun:Loc->Prop)(B:Nat)(t:Trace):Prop where
 clean:∀said,¬Race said t
 both:∀i a,touchAt t i=some a->a.loc.isMemory=true->(Knows t 0 i/\Knows t c i)\/(Shun a.loc/\a.kind= .atomic)
 over:t.HandedOver
 seen:∀op∈t,op.act.low B
 d0:Deaf t 0=0
 dc:Deaf t c=0
theorem Qu{T A U:Trace}{Shun Shun':Loc->Prop}{c B B':Nat}(h:Both c Shun B T)(hB:B<=B')(hSS:∀l,Shun l->Shun' l)(hA:∀op∈A,op.act.touch?=none/\∀c,op.act≠ .recvClosed c)(hd:∀g,Deaf A g=Deaf T g)
  (hU:∀op∈U,Pv op)(h2:∀op∈U,op.g=0\/op.g=c\/op.act.touch?=none)(shy:∀op∈U,∀a,op.act.touch?=some a->Shun a.loc->a.kind≠ .plain)(hP:Past Shun' B' (A++U)):Past Shun' B' (T++U):=by
 have hA2:∀c,∀op∈A,op.act≠ .recvClosed c:=fun c op hop=>(hA op hop).2 c
 have win:∀{i j},HappensBefore (A++U) (A.size+i) (A.size+j)->HappensBefore (T++U) (T.size+i) (T.size+j):=by
  intro i j hb;obtain⟨j2,e,hb2⟩:=KP (A':=T) hd hU hA2 hb;obtain rfl:j=j2:=om;exact hb2
 have place:∀k a,touchAt (T++U) k=some a->(k<T.size/\touchAt T k=some a)\/∃i,k=T.size+i/\touchAt (A++U) (A.size+i)=some a:=by
  intro k a ha;rcases Nat.lt_or_ge k T.size with hk|hk
  ·exact .inl ⟨hk,by rw[<-touchAt_old (u:=U) hk];exact ha⟩
  ·refine .inr ⟨k - T.size,om,?_⟩;rw[Om A T,show T.size+(k - T.size)=k from om];exact ha
 have cross:∀x a y b,touchAt T x=some a->Knows T 0 x/\Knows T c x->touchAt (T++U) y=some b->T.size<=y->HappensBefore (T++U) x y:=by
  intro x a y b ha hk hb hy;obtain⟨op,hop,hob⟩:=touch_of hb;rcases getElem?_append_cases hop with⟨hlt,_⟩|⟨_,hu⟩
  ·omega
  ·rcases h2 op hu with e|e|e
   ·exact hk.1.hb_new hy hop e
   ·exact hk.2.hb_new hy hop e
   ·rw[e]at hob;cases hob
 refine⟨fun said=> ?_,fun k a ha hm=> ?_,fun k g hg hne hcn=> ?_,?_,fun op hop=> ?_⟩
 ·rintro⟨x,y,hxy,⟨a,b,ha,hb,hcf⟩,n1,n2⟩;rcases place y b hb with⟨hy,hby⟩|⟨j,rfl,hbj⟩
  ·rcases place x a ha with⟨hx,hax⟩|⟨i,rfl,hai⟩
   ·exact h.clean said ⟨x,y,hxy,⟨a,b,hax,hby,hcf⟩,fun e=>n1 (hb_app U e),fun e=>n2 (hb_app U e)⟩
   ·omega
  ·rcases place x a ha with⟨hx,hax⟩|⟨i,rfl,hai⟩
   ·rcases h.both x a hax hcf.2.1 with hk|⟨hs,hka⟩
    ·exact n1 (cross x a _ b hax hk hb om)
    ·obtain⟨op,hop,hob⟩:=touch_of hb;rcases getElem?_append_cases hop with⟨hlt,_⟩|⟨_,hu⟩
     ·omega
     ·have hkb:=shy op hu b hob (hcf.1▸hs);obtain⟨_,_,_,hkind⟩:=hcf;rw[hka]at hkind;rcases hkind with z|z|⟨_,z,_⟩
      ·cases z
      ·exact absurd z hkb
      ·cases z
   ·exact hP.clean said ⟨A.size+i,A.size+j,om,⟨a,b,hai,hbj,hcf⟩,fun e=>n1 (win e),fun e=>n2 (win e)⟩
 ·rcases place k a ha with⟨_,hak⟩|⟨i,rfl,hai⟩
  ·exact(h.both k a hak hm).imp (fun x=>x.1.app U) (fun x=>⟨hSS _ x.1,x.2⟩)
  ·rcases hP.known _ a hai hm with hk|hk
   ·obtain⟨q,z,hz,hg,hb⟩:=hk;rcases hb with rfl|hb
    ·exact .inl ⟨T.size+i,z,by rw[<-IG A T];exact hz,hg,.inl rfl⟩
    ·obtain⟨j,rfl,hb2⟩:=KP (A':=T) hd hU hA2 hb;exact .inl ⟨T.size+j,z,by rw[<-IG A T];exact hz,hg,.inr hb2⟩
   ·exact .inr hk
 ·obtain⟨a,ha,hmem,hkind⟩:=id hcn;rcases place k a ha with⟨hk,hak⟩|⟨i,rfl,hai⟩
  ·obtain⟨j,hj,hb⟩:=h.over k g (by rw[<-g?_old (u:=U) hk];exact hg) hne ((counts_old hk).1 hcn);exact⟨j,by rw[g?_old (lt_of_g? hj)];exact hj,hb_app U hb⟩
  ·obtain⟨j,hj,hb⟩:=hP.over (A.size+i) g (by rw[Hf A T];exact hg) hne ⟨a,hai,hmem,hkind.imp id (fun hh=>EW (A:=T) (A':=A) (fun g=>(hd g).symm) hh)⟩;obtain⟨j2,rfl,hb2⟩:=KP (A':=T) hd hU hA2 hb;exact⟨T.size+j2,by rw[<-Hf A T];exact hj,hb2⟩
 ·have h1:=GL (A:=A) (A':=T) (U:=U) (hd 0) U.size (AH _);have h3:=hP.hears;unfold Deaf at h3⊢;rw[Array.size_append]at h3⊢;rw[<-h1];exact h3
 ·rcases BC.1 hop with h1|h1
  ·exact MemAct.low_mono hB (h.seen op h1)
  ·exact hP.seen op (BC.2 (.inr h1))
structure Ph1(c:Nat)(Shun:Loc->Prop)(O1 Rd:Nat->Prop)(B:Nat)(t:Trace):Prop where
 hc:c≠0
 clean:∀said,¬Race said t
 k1:∀i a,touchAt t i=some a->InB O1 a.loc->Knows t c i
 k0:∀i a,touchAt t i=some a->a.loc.isMemory=true->¬InB O1 a.loc->¬InB Rd a.loc->Knows t 0 i\/(Shun a.loc/\a.kind= .atomic)
 rd:∀i a,touchAt t i=some a->InB Rd a.loc->a.write=true->Knows t 0 i/\Knows t c i
 all:∀i a,touchAt t i=some a->a.loc.isMemory=true->(Knows t 0 i/\Knows t c i)\/(∃g,t.g? i=some g/\(g=0\/g=c))\/(Shun a.loc/\a.kind= .atomic)
 over:∀i g,t.g? i=some g->g≠0->g≠c->t.counts i->∃j,t.g? j=some 0/\HappensBefore t i j
 seen:∀op∈t,op.act.low B
 d0:Deaf t 0=0
 dc:Deaf t c=0
theorem Ww{t:Trace}{B i:Nat}{a:Touch}(hs:∀op∈t,op.act.low B)(h:touchAt t i=some a){O:Nat->Prop}(hO:InB O a.loc):∃b,b<B/\O b/\(∀O2,InB O2 a.loc↔O2 b):=by
 obtain⟨op,ho,hoa⟩:=touch_of h;have hl:=hs op (mem_of_getElem? ho);generalize op.act=x at hl hoa;cases x with
 |access e=>
  simp only[MemAct.touch?,AO]at hoa;subst hoa;have hl2:e.loc.low B:=hl;obtain⟨loc,wr,sy⟩:=e;cases loc with
  |cell ad=>exact⟨ad.block,hl2,hO,fun _=>Iff.rfl⟩
  |obj r=>exact⟨r,hl2,hO,fun _=>Iff.rfl⟩
  |_=>exact absurd hO (by simp[InB])
 |mark m=>
  cases m<;>simp only[MemAct.touch?,AO,reduceCtorEq]at hoa
  all_goals
   subst hoa
   exact⟨_,hl,hO,fun _=>Iff.rfl⟩
 |_=>cases hoa
theorem CK{g:Nat}{fn:FuncId}{pos:String}{es:Array Event}{op:MemOp}(h:op∈MemOp.ofEvents g fn pos es):∃e∈es,op={g,fn,pos,act:= .ofEvent e}:=by
 rw[ofEvents_eq]at h;obtain⟨e,he,rfl⟩:=Array.mem_map.1 h;exact⟨e,he,rfl⟩
theorem JU{O:Nat->Prop}{l:Loc}(h:InB O l):l.isMemory=true:=by
 cases l<;>first|rfl|exact h.elim
theorem gT{O O2:Nat->Prop}(h:∀b,O b->O2 b){l:Loc}(hl:InB O l):InB O2 l:=by
 cases l with
 |cell a=>exact h _ hl
 |obj a=>exact h _ hl
 |_=>exact hl
theorem LT{O O2:Nat->Prop}(h:∀b,O b->¬O2 b){l:Loc}(hl:InB O l):¬InB O2 l:=by
 cases l with
 |cell a=>exact h _ hl
 |obj a=>exact h _ hl
 |_=>exact hl.elim
theorem Cw{t u:Trace}{g:Nat}(own:∀op∈u,op.g=g){i:Nat}{a:Touch}(ha:touchAt (t++u) i=some a):
  touchAt t i=some a\/(∃op∈u,op.act.touch?=some a/\Knows (t++u) g i/\(t++u).g? i=some g):=by
 obtain⟨op,ho,hoa⟩:=touch_of ha;rcases getElem?_append_cases ho with⟨_,h'⟩|⟨_,hu⟩
 ·exact .inl (by rw[touchAt_of h'];exact hoa)
 ·refine .inr ⟨op,hu,hoa,?_,?_⟩
  ·have:=knows_own ho;rwa [own op hu]at this
  ·unfold Trace.g?;rw[ho,<-own op hu];rfl
theorem V8{t u:Trace}{g i n:Nat}(own:∀op∈u,op.g=g)(h: (t++u).g? i=some n): (i<t.size/\t.g? i=some n)\/n=g:=by
 obtain⟨op,ho,e⟩:=AZ.1 h;rcases getElem?_append_cases ho with⟨hlt,h'⟩|⟨_,hu⟩
 ·exact .inl ⟨hlt,by unfold Trace.g?;rw[h',<-e];rfl⟩
 ·exact .inr (by rw[<-e];exact own op hu)
section
variable{c:Nat}{Shun:Loc->Prop}{O0 O1 O1' Rd:Nat->Prop}{B B':Nat}{t:Trace}{fn:FuncId}{pos:String}{es:Array Event}
theorem Jj {O:Nat->Prop} (g g':Nat) (he:∀e∈es,EvO O Rd e):Deaf (t++MemOp.ofEvents g' fn pos es) g=Deaf t g:=by
 refine ConcX.Deaf_keep t g _ fun op hop=> ?_
 obtain⟨e,h,rfl⟩:=CK hop;have:=(he e h).keep;obtain⟨loc,wr,sy⟩:=e;cases loc with
 |mark m=>cases m<;>simp_all [MemAct.ofEvent]
 |_=>cases wr<;>cases sy<;>simp[MemAct.ofEvent]
theorem Ph1.all_app(h:Ph1 c Shun O1 Rd B t){u:Trace}{g:Nat}(own:∀op∈u,op.g=g)(hg:g=0\/g=c):∀i a,touchAt (t++u) i=some a->a.loc.isMemory=true->(Knows (t++u) 0 i/\Knows (t++u) c i)\/(∃g,(t++u).g? i=some g/\(g=0\/g=c))\/(Shun a.loc/\a.kind= .atomic):=by
 intro i a ha hm;rcases Cw own ha with h1|⟨_,_,_,_,hgi⟩
 ·rcases h.all i a h1 hm with x|⟨n,x,y⟩|x
  ·exact .inl ⟨x.1.app u,x.2.app u⟩
  ·exact .inr (.inl ⟨n,by rw[g?_old (lt_of_g? x)];exact x,y⟩)
  ·exact .inr (.inr x)
 ·exact .inr (.inl ⟨g,hgi,hg⟩)
theorem Ph1.over_app(h:Ph1 c Shun O1 Rd B t){u:Trace}{g:Nat}(own:∀op∈u,op.g=g)(hg:g=0\/g=c):∀i n,(t++u).g? i=some n->n≠0->n≠c->(t++u).counts i->∃j,(t++u).g? j=some 0/\HappensBefore (t++u) i j:=by
 intro i n hi h0 hc hcn;rcases V8 own hi with⟨hlt,h1⟩|rfl
 ·obtain⟨j,hj,hb⟩:=h.over i n h1 h0 hc ((counts_old hlt).1 hcn);exact⟨j,by rw[g?_old (lt_of_g? hj)];exact hj,hb_app u hb⟩
 ·exact(hg.elim h0 hc).elim
theorem Ph1.step0(h:Ph1 c Shun O1 Rd B t)(hB:B<=B')(h0:∀b,O0 b->b<B'/\¬O1 b/\¬Rd b)(hR:∀b,Rd b->b<B'/\¬O1 b)(hS:∀l,InB O0 l->¬Shun l)(he:∀e∈es,EvO O0 Rd e):Ph1 c Shun O1 Rd B' (t++MemOp.ofEvents 0 fn pos es):=by
 have own:∀op∈MemOp.ofEvents 0 fn pos es,op.g=0:=fun op hop=>by obtain⟨e,_,rfl⟩:=CK hop;rfl
 have tch:∀op∈MemOp.ofEvents 0 fn pos es,∀b,op.act.touch?=some b->b.loc.isMemory=true->b.kind≠ .atomic/\(InB O0 b.loc\/(InB Rd b.loc/\b.write=false)):=by
  intro op hop b hb hm;obtain⟨e,h1,rfl⟩:=CK hop;exact(he e h1).touch hb hm
 have not1:∀l,InB O0 l->¬InB O1 l:=fun l hl=>LT (fun b hb=>(h0 b hb).2.1) hl
 have not1R:∀l,InB Rd l->¬InB O1 l:=fun l hl=>LT (fun b hb=>(hR b hb).2) hl
 have notR:∀l,InB O0 l->¬InB Rd l:=fun l hl=>LT (fun b hb=>(h0 b hb).2.2) hl
 refine⟨h.hc,fun said=>noRace_append (h.clean said) own fun i a ha op hop b hb hcf=> ?_,fun i a ha hO=> ?_,fun i a ha hm n1 n2=> ?_,fun i a ha hO hw=> ?_,h.all_app own (.inl rfl),h.over_app own (.inl rfl),fun op hop=> ?_,(Jj 0 0 he).trans h.d0,(Jj c 0 he).trans h.dc⟩
 ·obtain⟨el,hm,hw,_⟩:=hcf;obtain⟨_,h3⟩:=tch op hop b hb (el▸hm);rcases h3 with h3|⟨h3,h4⟩
  ·exact(h.k0 i a ha hm (el▸not1 _ h3) (el▸notR _ h3)).resolve_right fun x=>hS _ h3 (el▸x.1)
  ·exact(h.rd i a ha (el▸h3) (by rw[h4]at hw;simpa using hw)).1
 ·rcases Cw own ha with ha|⟨op,hop,hoa,_⟩
  ·exact(h.k1 i a ha hO).app _
  ·rcases(tch op hop a hoa (JU hO)).2 with h3|h3
   ·exact absurd hO (not1 _ h3)
   ·exact absurd hO (not1R _ h3.1)
 ·rcases Cw own ha with ha|⟨_,_,_,hk,_⟩
  ·exact(h.k0 i a ha hm n1 n2).imp (fun x=>x.app _) id
  ·exact .inl hk
 ·rcases Cw own ha with ha|⟨op,hop,hoa,_⟩
  ·exact⟨(h.rd i a ha hO hw).1.app _,(h.rd i a ha hO hw).2.app _⟩
  ·rcases(tch op hop a hoa (JU hO)).2 with h3|h3
   ·exact absurd hO (notR _ h3)
   ·rw[hw]at h3;cases h3.2
 ·rcases BC.1 hop with x|x
  ·exact MemAct.low_mono hB (h.seen op x)
  ·obtain⟨e,h1,rfl⟩:=CK x;exact(he e h1).low (fun b hb=>(h0 b hb).1) (fun b hb=>(hR b hb).1)
theorem Ph1.step1(h:Ph1 c Shun O1 Rd B t)(hB:B<=B')(hgrow:∀b,O1 b->O1' b)(hnew:∀b,O1' b->¬O1 b->B<=b)(h1:∀b,O1' b->b<B'/\¬Rd b)(hR:∀b,Rd b->b<B')(he:∀e∈es,EvO O1' Rd e):Ph1 c Shun O1' Rd B' (t++MemOp.ofEvents c fn pos es):=by
 have own:∀op∈MemOp.ofEvents c fn pos es,op.g=c:=fun op hop=>by obtain⟨e,_,rfl⟩:=CK hop;rfl
 have tch:∀op∈MemOp.ofEvents c fn pos es,∀b,op.act.touch?=some b->b.loc.isMemory=true->b.kind≠ .atomic/\(InB O1' b.loc\/(InB Rd b.loc/\b.write=false)):=by
  intro op hop b hb hm;obtain⟨e,h1,rfl⟩:=CK hop;exact(he e h1).touch hb hm
 have notR:∀l,InB O1' l->¬InB Rd l:=fun l hl=>LT (fun b hb=>(h1 b hb).2) hl
 have back:∀i a,touchAt t i=some a->InB O1' a.loc->InB O1 a.loc:=by
  intro i a ha hO;obtain⟨b,hb,hOb,hiff⟩:=Ww h.seen ha hO;refine(hiff O1).2 (Classical.byContradiction fun hn=> ?_);have:=hnew b hOb hn;omega
 have up:∀l,InB O1 l->InB O1' l:=fun l hl=>gT hgrow hl
 have alls:=h.all_app (u:=MemOp.ofEvents c fn pos es) own (.inr rfl);refine⟨h.hc,fun said=>noRace_append (h.clean said) own fun i a ha op hop b hb hcf=> ?_,fun i a ha hO=> ?_,fun i a ha hm n1 n2=> ?_,fun i a ha hO hw=> ?_,alls,h.over_app own (.inr rfl),fun op hop=> ?_,(Jj 0 c he).trans h.d0,(Jj c c he).trans h.dc⟩
 ·obtain⟨el,hm,hw,_⟩:=hcf;obtain⟨_,h3⟩:=tch op hop b hb (el▸hm);rcases h3 with h3|⟨h3,h4⟩
  ·exact h.k1 i a ha (back i a ha (el▸h3))
  ·exact(h.rd i a ha (el▸h3) (by rw[h4]at hw;simpa using hw)).2
 ·rcases Cw own ha with ha|⟨_,_,_,hk,_⟩
  ·exact(h.k1 i a ha (back i a ha hO)).app _
  ·exact hk
 ·rcases Cw own ha with ha|⟨op,hop,hoa,_⟩
  ·exact(h.k0 i a ha hm (fun x=>n1 (up _ x)) n2).imp (fun x=>x.app _) id
  ·rcases(tch op hop a hoa hm).2 with h3|h3
   ·exact absurd h3 n1
   ·exact absurd h3.1 n2
 ·rcases Cw own ha with ha|⟨op,hop,hoa,_⟩
  ·exact⟨(h.rd i a ha hO hw).1.app _,(h.rd i a ha hO hw).2.app _⟩
  ·rcases(tch op hop a hoa (JU hO)).2 with h3|h3
   ·exact absurd hO (notR _ h3)
   ·rw[hw]at h3;cases h3.2
 ·rcases BC.1 hop with x|x
  ·exact MemAct.low_mono hB (h.seen op x)
  ·obtain⟨e,h2,rfl⟩:=CK x;exact(he e h2).low (fun b hb=>(h1 b hb).1) hR
def FO(c:Nat)(t t':Trace):Prop:=∃u,t'=t++u/\∀op∈u,op.g≠0/\op.g≠c/\(op.act= .mark .disable\/op.act= .mark .enable)
theorem FO.refl(c:Nat)(t:Trace):FO c t t:=⟨#[],by simp,fun op h=>by simp at h⟩
theorem FO.trans{t1 t2 t3:Trace}(h:FO c t1 t2)(k:FO c t2 t3):FO c t1 t3:=by
 obtain⟨u,rfl,hu⟩:=h;obtain⟨v,rfl,hv⟩:=k;exact⟨u++v,by rw[Array.append_assoc],fun op h=>(BC.1 h).elim (hu op) (hv op)⟩
theorem FO.evs{g:Nat}(h0:g≠0)(hgc:g≠c)(hm:∀e∈es,e.mute=true):FO c t (t++MemOp.ofEvents g fn pos es):=by
 refine⟨_,rfl,fun op hop=> ?_⟩;obtain⟨e,he,rfl⟩:=CK hop;exact⟨h0,hgc,act_mute (hm e he)⟩
theorem G0{op:MemOp}(h:op.act= .mark .disable\/op.act= .mark .enable):op.act.touch?=none:=by rcases h with e|e<;>rw[e]<;>rfl
theorem Er{u:Trace}{n:Nat}(h:∀op∈u,op.g≠n):Deaf (t++u) n=Deaf t n:=by
 obtain⟨l⟩:=u;have h':∀op∈l,op.g≠n:=fun op hop=>h op (by simpa using hop)
 have e:t++(⟨l⟩:Trace)=t++l.toArray:=rfl;rw[e,Deaf_append];clear h e;generalize Deaf t n=d;induction l generalizing d with
 |nil=>rfl
 |cons y l ih=>
  have e1:deafStep n d y=d:=by
   have hy:y.g≠n:=h' y (by simp);unfold deafStep;split<;>simp[hy]
  rw[List.foldl_cons,e1];exact ih (fun op hop=>h' op (by simp[hop])) d
theorem B7{t u:Trace}(h:∀op∈u,op.act.touch?=none){i:Nat}{a:Touch}(ha:touchAt (t++u) i=some a):i<t.size/\touchAt t i=some a:=by
 obtain⟨op,ho,hoa⟩:=touch_of ha;rcases getElem?_append_cases ho with⟨hlt,h'⟩|⟨_,hu⟩
 ·exact⟨hlt,by rw[touchAt_of h'];exact hoa⟩
 ·rw[h op hu]at hoa;cases hoa
theorem Fg{t u:Trace}{said:Bool}(h:∀op∈u,op.act.touch?=none)(hr:¬Race said t):¬Race said (t++u):=by
 rintro⟨x,y,hxy,⟨a,b,ha,hb,hcf⟩,n1,n2⟩;exact hr ⟨x,y,hxy,⟨a,b,(B7 h ha).2,(B7 h hb).2,hcf⟩,fun e=>n1 (hb_app _ e),fun e=>n2 (hb_app _ e)⟩
theorem EZ{t:Trace}{i:Nat}(h:t.counts i):∃a,touchAt t i=some a:=let⟨a,ha,_⟩:=h;⟨a,ha⟩
theorem N8{op:MemOp}(h:op.act= .mark .disable\/op.act= .mark .enable):op.act.low B:=by rcases h with e|e<;>rw[e]<;>trivial
theorem Ph1.mutes{t':Trace}(h:Ph1 c Shun O1 Rd B t)(hm:FO c t t'):Ph1 c Shun O1 Rd B t':=by
 obtain⟨u,rfl,hu⟩:=hm;have st:∀op∈u,op.act.touch?=none:=fun op hop=>G0 (hu op hop).2.2
 refine⟨h.hc,fun said=>Fg st (h.clean said),fun i a ha hO=>(h.k1 i a (B7 st ha).2 hO).app u,fun i a ha hmm n1 n2=>(h.k0 i a (B7 st ha).2 hmm n1 n2).imp (fun x=>x.app u) id,
  fun i a ha hO hw=>⟨(h.rd i a (B7 st ha).2 hO hw).1.app u,(h.rd i a (B7 st ha).2 hO hw).2.app u⟩,fun i a ha hmm=> ?_,fun i g hg h0 hc hcn=> ?_,fun op hop=>(BC.1 hop).elim (h.seen op) (fun x=>N8 (hu op x).2.2),
  (Er fun op hop=>(hu op hop).1).trans h.d0,(Er fun op hop=>(hu op hop).2.1).trans h.dc⟩
 ·rcases h.all i a (B7 st ha).2 hmm with x|⟨n,x,y⟩|x
  ·exact .inl ⟨x.1.app u,x.2.app u⟩
  ·exact .inr (.inl ⟨n,by rw[g?_old (lt_of_g? x)];exact x,y⟩)
  ·exact .inr (.inr x)
 ·obtain⟨a,ha⟩:=EZ hcn;have hlt:=(B7 st ha).1;obtain⟨j,hj,hb⟩:=h.over i g (by rw[<-g?_old (u:=u) hlt];exact hg) h0 hc ((counts_old hlt).1 hcn);exact⟨j,by rw[g?_old (lt_of_g? hj)];exact hj,hb_app u hb⟩
end
def Cl(n c s:Nat)(f0 f1:FuncId)(p0 p1:String):Trace:=
 #[{g:=n,fn:=f1,pos:=p1,act:= .send c s},{g:=0,fn:=f0,pos:=p0,act:= .recv c s 0},{g:=n,fn:=f1,pos:=p1,act:= .sendDone c s},{g:=0,fn:=f0,pos:=p0,act:= .recvDone c s}]
theorem Ph1.meet{n:Nat}{Shun:Loc->Prop}{O1 Rd:Nat->Prop}{B:Nat}{t:Trace}(h:Ph1 n Shun O1 Rd B t){c s:Nat}(hc:c<B)(f0 f1:FuncId)(p0 p1:String):Both n Shun B (t++Cl n c s f0 f1 p0 p1):=by
 have at_:∀k,(t++Cl n c s f0 f1 p0 p1)[t.size+k]? =(Cl n c s f0 f1 p0 p1)[k]? :=by
  intro k;rw[BD om,show t.size+k - t.size=k from om]
 have e0:=at_ 0;have e1:=at_ 1;have e2:=at_ 2;have e3:=at_ 3;rw[show(Cl n c s f0 f1 p0 p1)[0]? =some {g:=n,fn:=f1,pos:=p1,act:= .send c s}from rfl]at e0;rw[show(Cl n c s f0 f1 p0 p1)[1]? =some {g:=0,fn:=f0,pos:=p0,act:= .recv c s 0}from rfl]at e1;rw[show(Cl n c s f0 f1 p0 p1)[2]? =some {g:=n,fn:=f1,pos:=p1,act:= .sendDone c s}from rfl]at e2;rw[show(Cl n c s f0 f1 p0 p1)[3]? =some {g:=0,fn:=f0,pos:=p0,act:= .recvDone c s}from rfl]at e3;have calm:∀op∈Cl n c s f0 f1 p0 p1,op.act.touch?=none/\op.act≠ .mark .disable/\op.act≠ .mark .enable/\op.act.low B:=by
  intro op hop;unfold Cl at hop;simp only[List.mem_toArray,AV,Ai,or_false]at hop;rcases hop with rfl|rfl|rfl|rfl
  ·exact⟨rfl,by simp,by simp,hc⟩
  ·exact⟨rfl,by simp,by simp,hc⟩
  ·exact⟨rfl,by simp,by simp,hc⟩
  ·exact⟨rfl,by simp,by simp,hc⟩
 have still:∀op∈Cl n c s f0 f1 p0 p1,op.act.touch?=none:=fun op hop=>(calm op hop).1
 have dk:∀g,Deaf (t++Cl n c s f0 f1 p0 p1) g=Deaf t g:=fun g=>ConcX.Deaf_keep t g _ fun op hop=>⟨(calm op hop).2.1,(calm op hop).2.2.1⟩
 have hearing:∀g,(g=0\/g=n)->∀k,k<=3->(t++Cl n c s f0 f1 p0 p1).deaf g (t.size+k)=0:=by
  intro g hg k hk;have base: (t++Cl n c s f0 f1 p0 p1).deaf g (t.size+0)=0:=by
   rw[Nat.add_zero,deaf_old (AH _)];rcases hg with rfl|rfl
   ·exact h.d0
   ·exact h.dc
  have s1: (t++Cl n c s f0 f1 p0 p1).deaf g (t.size+1)=0:=by rw[deaf_succ e0,base];rfl
  have s2: (t++Cl n c s f0 f1 p0 p1).deaf g (t.size+2)=0:=by rw[deaf_succ e1,s1];rfl
  have s3: (t++Cl n c s f0 f1 p0 p1).deaf g (t.size+3)=0:=by rw[deaf_succ e2,s2];rfl
  rcases(show k=0\/k=1\/k=2\/k=3 from om)with rfl|rfl|rfl|rfl
  ·exact base
  ·exact s1
  ·exact s2
  ·exact s3
 have hd:∀k op,k<=3->(t++Cl n c s f0 f1 p0 p1)[t.size+k]? =some op->(op.g=0\/op.g=n)->(t++Cl n c s f0 f1 p0 p1).heard (t.size+k):=fun k op hk ho hg=>⟨op.g,by unfold Trace.g?;rw[ho];rfl,hearing _ hg k hk⟩
 have room:HappensBefore (t++Cl n c s f0 f1 p0 p1) (t.size+1) (t.size+2):= .single (.inr ⟨.room (c:=c) (k:=s) (cap:=0) (by rw[act?_of e1]) (by rw[act?_of e2,Nat.add_zero]),hd 1 _ om e1 (.inl rfl),hd 2 _ om e2 (.inr rfl)⟩);have hand:HappensBefore (t++Cl n c s f0 f1 p0 p1) (t.size+0) (t.size+3):= .single (.inr ⟨.handOver (c:=c) (k:=s) (by rw[act?_of e0]) (by rw[act?_of e3]),hd 0 _ om e0 (.inr rfl),hd 3 _ om e3 (.inl rfl)⟩);have by0:∀i,t.g? i=some 0->HappensBefore (t++Cl n c s f0 f1 p0 p1) i (t.size+2):=fun i hi=>Relation.TransGen.trans (.single (.inl ⟨by have:=lt_of_g? hi;omega,0,by rw[g?_old (lt_of_g? hi)];exact hi,by unfold Trace.g?;rw[e1];rfl⟩)) room
 have byn:∀i,t.g? i=some n->HappensBefore (t++Cl n c s f0 f1 p0 p1) i (t.size+3):=fun i hi=>Relation.TransGen.trans (.single (.inl ⟨by have:=lt_of_g? hi;omega,n,by rw[g?_old (lt_of_g? hi)];exact hi,by unfold Trace.g?;rw[e0];rfl⟩)) hand
 refine⟨fun said=>Fg still (h.clean said),fun i a ha hm=> ?_,fun i g hg hne hcn=> ?_,fun op hop=>(BC.1 hop).elim (h.seen op) (fun x=>(calm op x).2.2.2),(dk 0).trans h.d0,(dk n).trans h.dc⟩
 ·obtain⟨hlt,hat⟩:=B7 still ha;rcases h.all i a hat hm with x|⟨g,hg,rfl|rfl⟩|x
  ·exact .inl ⟨x.1.app _,x.2.app _⟩
  ·refine .inl ⟨?_,t.size+2,_,e2,rfl,.inr (by0 i hg)⟩;obtain⟨op,ho,e⟩:=AZ.1 hg;have:=(knows_own ho).app (Cl n c s f0 f1 p0 p1);rwa [e]at this
  ·refine .inl ⟨⟨t.size+3,_,e3,rfl,.inr (byn i hg)⟩,?_⟩;obtain⟨op,ho,e⟩:=AZ.1 hg;have:=(knows_own ho).app (Cl g c s f0 f1 p0 p1);rwa [e]at this
  ·exact .inr x
 ·obtain⟨a,ha⟩:=EZ hcn;have hlt:=(B7 still ha).1;have hgi:t.g? i=some g:=by rw[<-g?_old (u:=Cl n c s f0 f1 p0 p1) hlt];exact hg
  by_cases hgn:g=n
  ·subst hgn;exact⟨t.size+3,by unfold Trace.g?;rw[e3];rfl,byn i hgi⟩
  ·obtain⟨j,hj,hb⟩:=h.over i g hgi hne hgn ((counts_old hlt).1 hcn);exact⟨j,by rw[g?_old (lt_of_g? hj)];exact hj,hb_app _ hb⟩
end
section
open Go.Conc
open Go.ConcN (sumTo upd sumTo_upd upd_ne upd_same)
def Fin(P:Program)(Post:Value->World->Prop)(m:Machine)(t:Trace):Prop:=
 ∃N last o w' t',runNT P (N+1) m t=(.ended o w',t')/\runN P N m= .next last/\step P last= .ended o w'/\Good P Post last o w' t'
section
variable{P:Program}{Post:Value->World->Prop}{m m':Machine}{t t':Trace}{ops:Array MemOp}
theorem Fin.step (hs:stepT P m=(.next m',ops)) (h:Fin P Post m' (t++ops)):Fin P Post m t:=by
 obtain⟨N,last,o,w',t',h1,h2,h3,h4⟩:=h;refine⟨N+1,last,o,w',t',?_,?_,h3,h4⟩
 ·rw[runNT,hs];exact h1
 ·have e:Go.step P m= .next m':=by rw[Go.step,hs]
  rw[runN,e];exact h2
theorem Fin.run{N:Nat}(hs:runNT P N m t=(.next m',t'))(h:Fin P Post m' t'):Fin P Post m t:=by
 obtain⟨M,last,o,w',t'',h1,h2,h3,h4⟩:=h;refine⟨N+M,last,o,w',t'',?_,?_,h3,h4⟩
 ·rw[Nat.add_assoc,runNT_add,hs];exact h1
 ·rw[runN_add,<-runNT_fst P N m t,hs];exact h2
end
structure Far(N:Nat)(X:Nat->Prop)(W w:World):Prop where
 same:∀b:Nat,b<N->¬X b->w.heap[b]? =W.heap[b]?
 size:N<=w.heap.size
 tape:w.tape=W.tape
 os:w.os=W.os
 output:w.output=W.output
theorem Far.at{N:Nat}{X:Nat->Prop}{W w:World}(h:Far N X W w)(d:Nat):Far N X W (w.at d):=⟨h.same,h.size,h.tape,h.os,h.output⟩
theorem Far.moves{N:Nat}{X:Nat->Prop}{W w w':World}(h:Far N X W w){O Rd:Nat->Prop}{es:Array Event}(hm:Moves O Rd w w' es)(hX:∀b,O b->b<N->X b):Far N X W w':=
 ⟨fun b hb hx=>(hm.keep b (by have:=h.size;omega) fun ho=>hx (hX b ho hb)).trans (h.same b hb hx),BN h.size hm.size,hm.tape.trans h.tape,hm.os.trans h.os,hm.output.trans h.output⟩
section
variable{P:Program}{Post:Value->World->Prop}{Shun:Loc->Prop}{Sh:Nat->Prop}{Stop:StopT}{N:Nat}{X:Nat->Prop}{W:World}
theorem EvO.evL {O:Nat->Prop} {B:Nat} (hO:∀b,O b->b<B) (hS:∀l,Shun l->∃a,l= .cell a/\¬O a.block) {e:Event} (h:EvO O GM e):EvL Shun B e:=by
 refine⟨fun x hx hs=> ?_,h.keep.1,h.keep.2,h.low hO (fun b hb=>hb.elim)⟩;obtain⟨a,ha,hn⟩:=hS _ hs;have hm:x.loc.isMemory=true:=by rw[ha];rfl
 rcases(h.touch hx hm).2 with h3|h3
 ·rw[ha]at h3;exact absurd h3 hn
 ·rw[ha]at h3;exact h3.1.elim
structure Calm(P:Program)(Shun:Loc->Prop)(Sh:Nat->Prop)(N:Nat)(X:Nat->Prop)(W:World)(O:Nat->Prop)(gs:Array Goroutine)(a:Goroutine)(w:World)(t:Trace)(q:Nat->Nat):Prop where
 h0:gs[0]? =some a
 leavers:Leavers P t gs q
 past:Past Shun w.heap.size t
 own:∀b,O b->b<w.heap.size/\¬Sh b
 dom:∀b,O b->b<N->X b
 shun:∀b,Sh b->b<w.heap.size
 far:Far N X W w
theorem Kh(hS:∀l,Shun l->∃a:Addr,l= .cell a/\Sh a.block){O:Nat->Prop}{g:Goroutine}{w:World}(hr:g.status= .running)(h1:∀w₁,Keeps (Uni O GM) w w₁->∃g' w' es,stepG P true g w₁= .go g' w' es/\Moves O GM w₁ w' es)
  (K:∀w₁ g' w' es,Keeps (Uni O GM) w w₁->stepG P true g w₁= .go g' w' es->∀(gs':Array Goroutine) (sl':Option (Nat×Nat)) (t':Trace) (q':Nat->Nat),Calm P Shun Sh N X W (grow O w₁ w') gs' g' w' t' q'->Fin P Post (crowd gs' w' sl') t'):
  ∀(gs:Array Goroutine) (sl:Option (Nat×Nat)) (t:Trace) (q:Nat->Nat),Calm P Shun Sh N X W O gs g w t q->Fin P Post (crowd gs w sl) t:=by
 have key:∀(M:Nat) (gs:Array Goroutine) (w2:World) (sl:Option (Nat×Nat)) (t:Trace) (q:Nat->Nat),sumTo gs.size q=M->Keeps (Uni O GM) w w2->Calm P Shun Sh N X W O gs g w2 t q->Fin P Post (crowd gs w2 sl) t:=by
  intro M;induction M using Nat.strongRecOn with
  |_ M ihM=>
   intro gs w2 sl t q hM hk hc;have hpos:0<gs.size:=(AR.1 hc.h0).1;have haw:∀x∈gs,awake x:=by
    intro x hx;obtain⟨i,hi,rfl⟩:=Array.mem_iff_getElem.1 hx;rcases Nat.eq_zero_or_pos i with rfl|hp
    ·have:gs[0]=g:=by simpa[AK hi]using hc.h0
     rw[this];exact awake_of (.inl hr)
    ·exact awake_of ((hc.leavers.old i _ hp (AK hi)).status.elim .inl fun x=> .inr (.inr x))
   obtain⟨i,x,d,sl',hi,hx,hst⟩:=crowd_pick (P:=P) (w:=w2) (sl:=sl) haw ⟨0,g,hc.h0,hr⟩;rcases Nat.eq_zero_or_pos i with rfl|hp
   ·obtain rfl:x=g:=by rw[hc.h0]at hi;exact(AC hi).symm
    have hk2:Keeps (Uni O GM) w (w2.at d):=hk.trans (Keeps.at _ _ _);obtain⟨g',w',es,hgo,hm⟩:=h1 (w2.at d) hk2;have hrunT:=runT_crowd_go (P:=P) (sl:=sl') (i:=0) hi (show stepG P (0==0) x (w2.at d)=_ from hgo);have hsz: ((gs.map (woken P x g' w')).setIfInBounds 0 g').size=gs.size:=by simp
    refine Fin.step (hst.trans hrunT) (K (w2.at d) g' w' es hk2 hgo _ sl' _ q ⟨by simp[hpos],hc.leavers.own hpos _ _ es,?_,?_,?_,?_,?_⟩)
    ·refine(hc.past.mono (B':=w'.heap.size) hm.size).own fun e he=>(hm.evs e he).evL ?_ ?_
     ·rintro b (hb|hb)
      ·have:=(hc.own b hb).1;have:=hm.size;exact Ak (hc.own b hb).1 hm.size
      ·exact hb.2
     ·intro l hl;obtain⟨ad,rfl,had⟩:=hS l hl;refine⟨ad,rfl,fun hb=> ?_⟩;rcases hb with hb|hb
      ·exact(hc.own _ hb).2 had
      ·have h5:=hc.shun _ had;have h6:w2.heap.size<=ad.block:=hb.1;omega
    ·rintro b (hb|hb)
     ·exact⟨Ak (hc.own b hb).1 hm.size,(hc.own b hb).2⟩
     ·refine⟨hb.2,fun hs=> ?_⟩;have h5:=hc.shun _ hs;have h6:w2.heap.size<=b:=hb.1;omega
    ·rintro b (hb|hb) hlt
     ·exact hc.dom b hb hlt
     ·have h5:=hc.far.size;have h6:w2.heap.size<=b:=hb.1;omega
    ·exact fun b hb=>Ak (hc.shun b hb) hm.size
    ·exact(hc.far.at d).moves hm hc.dom
   ·have hq:=hc.leavers.old i x hp hi;have hi0: (i==0)=false:=by simp;omega
    have hlt:i<gs.size:=(AR.1 hi).1;cases hqi:q i with
    |zero=>rw[hqi]at hq;rw[hq.1]at hx;cases hx
    |succ k=>
     rw[hqi]at hq;rcases hq with⟨hf,_⟩|⟨_,g',es,hm,hstp,hq'⟩
     ·rw[hf]at hx;cases hx
     have hrunT:=runT_crowd_go (P:=P) (sl:=sl') (i:=i) hi (by rw[hi0];exact hstp (w2.at d));have hsz: ((gs.map (woken P x g' (w2.at d))).setIfInBounds i g').size=gs.size:=by simp
     have hsum:sumTo gs.size (upd q i k)+(k+1)=sumTo gs.size q+k:=by
      have:=sumTo_upd q k id hlt;simpa[hqi]using this
     refine Fin.step (hst.trans hrunT) (ihM (sumTo gs.size (upd q i k)) om _ (w2.at d) sl' _ (upd q i k) (by rw[hsz]) (hk.trans (Keeps.at _ _ _)) ⟨?_,⟨fun j y hj hy=> ?_,fun j hj=> ?_⟩,hc.past.mute om hm,hc.own,hc.dom,hc.shun,hc.far.at d⟩)
     ·rw[AG om,Al,hc.h0];simp[woken_run hr]
     ·by_cases hji:i=j
      ·subst hji;rw[Au (by simpa using hlt)]at hy;obtain rfl:=AC hy;rw[upd_same,Deaf_own];exact hq'
      ·rw[AG hji,Al]at hy;obtain⟨z,hz,rfl⟩:=AZ.1 hy;have hqj:=hc.leavers.old j z hj hz;rw[woken_quitsD hqj,upd_ne q k (Ne.symm hji),Deaf_other t hji _ (fun op hop=>by obtain⟨e,_,rfl⟩:=CK hop;rfl)];exact hqj
     ·rw[Deaf_other t (g':=i) (by simp at hj;omega) _ (fun op hop=>by obtain⟨e,_,rfl⟩:=CK hop;rfl)];exact hc.leavers.above j (by simpa using hj)
 exact fun gs sl t q hc=>key _ gs w sl t q rfl (Keeps.refl _ _) hc
theorem Sj(hS:∀l,Shun l->∃a:Addr,l= .cell a/\Sh a.block){O:Nat->Prop}{a:Goroutine}{w:World}(hO:Own P true GM Stop O a w):
  ∀(gs:Array Goroutine) (sl:Option (Nat×Nat)) (t:Trace) (q:Nat->Nat),Calm P Shun Sh N X W O gs a w t q->
   (∀(O':Nat->Prop) (gs':Array Goroutine) (a':Goroutine) (w':World) (sl':Option (Nat×Nat)) (t':Trace) (q':Nat->Nat),(∀w₁,Keeps (Uni O' GM) w' w₁->Stop O' a' w₁)->Calm P Shun Sh N X W O' gs' a' w' t' q'->Fin P Post (crowd gs' w' sl') t')->
   Fin P Post (crowd gs w sl) t:=by
 induction hO with
 |stop h=>exact fun gs sl t q hc K=>K _ gs _ _ sl t q h hc
 | @step O g w hr h1 h2 ih=>exact fun gs sl t q hc K=>Kh hS hr h1 (fun w₁ g' w' es hk hs gs' sl' t' q' hc'=>ih w₁ g' w' es hk hs gs' sl' t' q' hc' K) gs sl t q hc
end
end
section
open Go.Conc
open Go.ConcN (sumTo upd sumTo_upd upd_ne upd_same)
open Go.ConcX (Big)
section
variable{P:Program}{Post:Value->World->Prop}{n:Nat}{gs gs':Array Goroutine}{a b a' b':Goroutine}{w w':World}{t:Trace}{q:Nat->Nat}{sl:Option (Nat×Nat)}
theorem Big.upd (hB:Big P n gs a b t q) (hs:gs'.size=n+1) (h0:gs'[0]? =some a') (hc:gs'[n]? =some b') (ho:∀i g,0<i->i<n->gs'[i]? =some g->gs[i]? =some g) {u:Trace} (hu:∀op∈u,op.g=0\/op.g=n):Big P n gs' a' b' (t++u) q:=
 ⟨hs,hB.pos,h0,hc,fun i g h1 h2 hg=>by
  rw[Er (t:=t) (fun op hop=>by rcases hu op hop with e|e<;>rw[e]<;>omega)];exact hB.old i g h1 h2 (ho i g h1 h2 hg),fun j hj=>by
  rw[Er (t:=t) (fun op hop=>by rcases hu op hop with e|e<;>rw[e]<;>omega)];exact hB.above j hj⟩
theorem Lh(hB:Big P n gs a b t q):0<gs.size:=by have:=hB.size;omega
theorem Lf(hB:Big P n gs a b t q):n<gs.size:=by have:=hB.size;omega
theorem Ju(hB:Big P n gs a b t q){x x':Goroutine}{w':World}{i:Nat}{g:Goroutine}(h1:0<i)(h2:i<n)(h: (gs[i]?).map (woken P x x' w')=some g):gs[i]? =some g:=by
 obtain⟨y,hy,rfl⟩:=AZ.1 h;rw[woken_quitsD (hB.old i y h1 h2 hy)];exact hy
theorem Pz(hB:Big P n gs a b t q){es:Array Event}(h:stepG P true a w= .go a' w' es)(hw:woken P a a' w' b=b):
  ∃gs',runT P (crowd gs w sl) 0=(.next (crowd gs' w' sl),MemOp.ofEvents 0 a.frame.fn a.frame.place es)/\Big P n gs' a' b (t++MemOp.ofEvents 0 a.frame.fn a.frame.place es) q:=by
 refine⟨_,runT_crowd_go (P:=P) (gs:=gs) (sl:=sl) (i:=0) hB.h0 h,Big.upd hB (by simp[hB.size]) (by simp[(Lh hB)]) ?_ (fun i g h1 h2 hg=> ?_) (fun op hop=> .inl (by obtain⟨e,_,rfl⟩:=CK hop;rfl))⟩
 ·rw[AG (by have:=hB.pos;omega),Al,hB.hc,AU,hw]
 ·rw[AG om,Al]at hg;exact Ju hB h1 h2 hg
theorem Py(hB:Big P n gs a b t q){es:Array Event}(h:stepG P false b w= .go b' w' es)(hw:woken P b b' w' a=a):
  ∃gs',runT P (crowd gs w sl) n=(.next (crowd gs' w' sl),MemOp.ofEvents n b.frame.fn b.frame.place es)/\Big P n gs' a b' (t++MemOp.ofEvents n b.frame.fn b.frame.place es) q:=by
 have hn: (n==0)=false:=by have:=hB.pos;simp;omega
 refine⟨_,runT_crowd_go (P:=P) (gs:=gs) (sl:=sl) (i:=n) hB.hc (by rw[hn];exact h),Big.upd hB (by simp[hB.size]) ?_ (by simp[(Lf hB)]) (fun i g h1 h2 hg=> ?_) (fun op hop=> .inr (by obtain⟨e,_,rfl⟩:=CK hop;rfl))⟩
 ·rw[AG (by have:=hB.pos;omega),Al,hB.h0,AU,hw]
 ·rw[AG om,Al]at hg;exact Ju hB h1 h2 hg
def ot(P:Program)(Post:Value->World->Prop)(x:Stepped×Array MemOp)(t:Trace):Prop:=∃m' ops,x=(.next m',ops)/\Fin P Post m' (t++ops)
theorem Kr(hB:Big P n gs a b t q)(awa:awake a)(awb:awake b)(hr:a.status= .running\/b.status= .running)
  (wa:∀g g' d,woken P g g' (w.at d) a=a)(wb:∀g g' d,woken P g g' (w.at d) b=b)
  (K0:a.status= .running->∀(gs':Array Goroutine) (d:Nat) (sl':Option (Nat×Nat)) (t':Trace) (q':Nat->Nat),Big P n gs' a b t' q'->FO n t t'->ot P Post (runT P (crowd gs' (w.at d) sl') 0) t')
  (K1:b.status= .running->∀(gs':Array Goroutine) (d:Nat) (sl':Option (Nat×Nat)) (t':Trace) (q':Nat->Nat),Big P n gs' a b t' q'->FO n t t'->ot P Post (runT P (crowd gs' (w.at d) sl') n) t'):
  Fin P Post (crowd gs w sl) t:=by
 have key:∀(M:Nat) (gs:Array Goroutine) (d0:Nat) (sl:Option (Nat×Nat)) (t':Trace) (q:Nat->Nat),sumTo n q=M->Big P n gs a b t' q->FO n t t'->Fin P Post (crowd gs (w.at d0) sl) t':=by
  intro M;induction M using Nat.strongRecOn with
  |_ M ih=>
   intro gs d0 sl t' q hM hB hmu;have haw:∀g∈gs,awake g:=by
    intro g hg;obtain⟨i,hi,rfl⟩:=Array.mem_iff_getElem.1 hg;have hgi:gs[i]? =some gs[i]:=AK hi;by_cases h0:i=0
    ·subst h0;rw[hB.h0]at hgi;rw[<-AC hgi];exact awa
    ·by_cases h1:i=n
     ·subst h1;rw[hB.hc]at hgi;rw[<-AC hgi];exact awb
     ·exact awake_of ((hB.old i _ om (by have:=hB.size;omega) hgi).status.elim .inl fun x=> .inr (.inr x))
   obtain⟨i,g,d,sl',hi,hg,hst⟩:=crowd_pick (P:=P) (w:=w.at d0) (sl:=sl) haw (hr.elim (fun x=>⟨0,a,hB.h0,x⟩) (fun x=>⟨n,b,hB.hc,x⟩));have hilt:i<gs.size:=(AR.1 hi).1;by_cases h0:i=0
   ·subst h0;obtain rfl:g=a:=by rw[hB.h0]at hi;exact(AC hi).symm
    obtain⟨m',ops,e,hf⟩:=K0 hg gs d sl' t' q hB hmu;exact Fin.step (hst.trans e) hf
   by_cases h1:i=n
   ·subst h1;obtain rfl:g=b:=by rw[hB.hc]at hi;exact(AC hi).symm
    obtain⟨m',ops,e,hf⟩:=K1 hg gs d sl' t' q hB hmu;exact Fin.step (hst.trans e) hf
   have hic:i<n:=by have:=hB.size;omega
   have hq:=hB.old i g om hic hi;have hi0: (i==0)=false:=by simp[h0]
   cases hqi:q i with
   |zero=>rw[hqi]at hq;rw[hq.1]at hg;cases hg
   |succ k=>
    rw[hqi]at hq;rcases hq with⟨hf,_⟩|⟨_,g',es,hm,hstp,hq'⟩
    ·rw[hf]at hg;cases hg
    have hrunT:=runT_crowd_go (P:=P) (sl:=sl') (i:=i) hi (by rw[hi0];exact hstp (w.at d));have hsum:sumTo n (upd q i k)+(k+1)=sumTo n q+k:=by
     have:=sumTo_upd q k id hic;simpa[hqi]using this
    refine Fin.step (hst.trans hrunT) (ih (sumTo n (upd q i k)) om _ d sl' _ (upd q i k) rfl ⟨by simp[hB.size],hB.pos,?_,?_,fun j x hj hjc hx=> ?_,fun j hj=> ?_⟩ (hmu.trans (FO.evs h0 h1 hm)))
    ·rw[AG h0,Al,hB.h0,AU,wa]
    ·rw[AG h1,Al,hB.hc,AU,wb]
    ·by_cases hji:i=j
     ·subst hji;rw[Au (by simpa using hilt)]at hx;obtain rfl:=AC hx;rw[upd_same,Deaf_own];exact hq'
     ·rw[AG hji,Al]at hx;obtain⟨y,hy,rfl⟩:=AZ.1 hx;have hqj:=hB.old j y hj hjc hy;rw[woken_quitsD hqj,upd_ne q k (Ne.symm hji),Deaf_other t' hji _ (fun op hop=>by obtain⟨e,_,rfl⟩:=CK hop;rfl)];exact hqj
    ·rw[Deaf_other t' (g':=i) om _ (fun op hop=>by obtain⟨e,_,rfl⟩:=CK hop;rfl)];exact hB.above j hj
 exact key _ gs w.drawn sl t q rfl hB (FO.refl _ _)
end
structure Meet(P:Program)(Rd:Nat->Prop)(c c2:Nat)(z z2:Value)(StA:StopT)(StB:Value->Value->StopT):Prop where
 a:∀O a w,StA O a w->a.status= .running/\∃es,stepG P true a w= .comm a #[rcase c z,rcase c2 z2] true .select w es/\∀e∈es,EvO O Rd e
 aS:∀O a w w₁,StA O a w->Keeps (Uni O Rd) w w₁->StA O a w₁
 b:∀v zz O b w,StB v zz O b w->b.status= .running/\∃es,stepG P false b w= .comm b #[scase c v zz] true .send w es/\∀e∈es,EvO O Rd e
 bS:∀v zz O b w w₁,StB v zz O b w->Keeps (Uni O Rd) w w₁->StB v zz O b w₁
 ne:c2≠c
 rc:Rd c
 rc2:Rd c2
structure JW(Sh:Nat->Prop)(Rd:Nat->Prop)(c c2 N:Nat)(X:Nat->Prop)(W:World)(O0 O1:Nat->Prop)(w:World):Prop where
 o0:∀b,O0 b->b<w.heap.size/\¬O1 b/\¬Rd b
 o1:∀b,O1 b->b<w.heap.size/\¬Rd b
 r:∀b,Rd b->b<w.heap.size
 s0:∀b,O0 b->¬Sh b
 s1:∀b,O1 b->¬Sh b
 sh:∀b,Sh b->b<w.heap.size
 ch:w.heap[c]? =some (.chan 0 #[] false 0 0 false)
 ch2:w.heap[c2]? =some (.chan 0 #[] false 0 0 false)
 d0:∀b,O0 b->b<N->X b
 d1:∀b,O1 b->b<N->X b
 far:Far N X W w
section
variable{P:Program}{Post:Value->World->Prop}{Shun:Loc->Prop}{Sh Rd:Nat->Prop}{c c2 n:Nat}{z z2:Value}{StA:StopT}{StB:Value->Value->StopT}{N:Nat}{X:Nat->Prop}{W:World}{O0 O1:Nat->Prop}{gs:Array Goroutine}{a b:Goroutine}{w w':World}{t:Trace}{q:Nat->Nat}{sl:Option (Nat×Nat)}
theorem JW.at (h:JW Sh Rd c c2 N X W O0 O1 w) (d:Nat):JW Sh Rd c c2 N X W O0 O1 (w.at d):=⟨h.o0,h.o1,h.r,h.s0,h.s1,h.sh,h.ch,h.ch2,h.d0,h.d1,h.far.at d⟩
theorem JW.move0(h:JW Sh Rd c c2 N X W O0 O1 w)(hrc:Rd c)(hrc2:Rd c2){es:Array Event}(hm:Moves O0 Rd w w' es):JW Sh Rd c c2 N X W (grow O0 w w') O1 w':=by
 have nR:∀b,Rd b->¬O0 b:=fun b hb h0=>(h.o0 b h0).2.2 hb
 refine⟨?_,?_,?_,?_,h.s1,fun b hb=>Ak (h.sh b hb) hm.size,?_,?_,?_,h.d1,h.far.moves hm h.d0⟩
 ·rintro b (hb|hb)
  ·exact⟨Ak (h.o0 b hb).1 hm.size,(h.o0 b hb).2⟩
  ·exact⟨hb.2,fun h1=>by have:=(h.o1 b h1).1;omega,fun h1=>by have:=h.r b h1;omega⟩
 ·exact fun b hb=>⟨Ak (h.o1 b hb).1 hm.size,(h.o1 b hb).2⟩
 ·exact fun b hb=>Ak (h.r b hb) hm.size
 ·rintro b (hb|hb)
  ·exact h.s0 b hb
  ·exact fun hs=>by have:=h.sh b hs;omega
 ·rw[hm.keep c (h.r c hrc) (nR c hrc)];exact h.ch
 ·rw[hm.keep c2 (h.r c2 hrc2) (nR c2 hrc2)];exact h.ch2
 ·rintro b (hb|hb) hlt
  ·exact h.d0 b hb hlt
  ·have:=h.far.size;omega
theorem JW.move1(h:JW Sh Rd c c2 N X W O0 O1 w)(hrc:Rd c)(hrc2:Rd c2){es:Array Event}(hm:Moves O1 Rd w w' es):JW Sh Rd c c2 N X W O0 (grow O1 w w') w':=by
 have nR:∀b,Rd b->¬O1 b:=fun b hb h0=>(h.o1 b h0).2 hb
 refine⟨?_,?_,?_,h.s0,?_,fun b hb=>Ak (h.sh b hb) hm.size,?_,?_,h.d0,?_,h.far.moves hm h.d1⟩
 ·refine fun b hb=>⟨Ak (h.o0 b hb).1 hm.size,?_,(h.o0 b hb).2.2⟩
  rintro(h1|h1)
  ·exact(h.o0 b hb).2.1 h1
  ·have:=(h.o0 b hb).1;omega
 ·rintro b (hb|hb)
  ·exact⟨Ak (h.o1 b hb).1 hm.size,(h.o1 b hb).2⟩
  ·exact⟨hb.2,fun h1=>by have:=h.r b h1;omega⟩
 ·exact fun b hb=>Ak (h.r b hb) hm.size
 ·rintro b (hb|hb)
  ·exact h.s1 b hb
  ·exact fun hs=>by have:=h.sh b hs;omega
 ·rw[hm.keep c (h.r c hrc) (nR c hrc)];exact h.ch
 ·rw[hm.keep c2 (h.r c2 hrc2) (nR c2 hrc2)];exact h.ch2
 ·rintro b (hb|hb) hlt
  ·exact h.d1 b hb hlt
  ·have:=h.far.size;omega
variable{fn:FuncId}{pos:String}
theorem JW.ph0(hS:∀l,Shun l->∃a:Addr,l= .cell a/\Sh a.block)(h:JW Sh Rd c c2 N X W O0 O1 w)(hp:Ph1 n Shun O1 Rd w.heap.size t){es:Array Event}(hm:Moves O0 Rd w w' es):Ph1 n Shun O1 Rd w'.heap.size (t++MemOp.ofEvents 0 fn pos es):=by
 refine hp.step0 (O0:=grow O0 w w') hm.size ?_ (fun b hb=>⟨Ak (h.r b hb) hm.size,fun h1=>(h.o1 b h1).2 hb⟩) (fun l hl hs=> ?_) hm.evs
 ·rintro b (hb|hb)
  ·exact⟨Ak (h.o0 b hb).1 hm.size,(h.o0 b hb).2⟩
  ·exact⟨hb.2,fun h1=>by have:=(h.o1 b h1).1;omega,fun h1=>by have:=h.r b h1;omega⟩
 ·obtain⟨ad,rfl,had⟩:=hS l hs;rcases hl with hl|hl
  ·exact h.s0 _ hl had
  ·have h5:=h.sh _ had;have h6:w.heap.size<=ad.block:=hl.1;omega
theorem JW.ph1(h:JW Sh Rd c c2 N X W O0 O1 w)(hp:Ph1 n Shun O1 Rd w.heap.size t){es:Array Event}(hm:Moves O1 Rd w w' es):Ph1 n Shun (grow O1 w w') Rd w'.heap.size (t++MemOp.ofEvents n fn pos es):=by
 refine hp.step1 (O1':=grow O1 w w') hm.size (fun b hb=> .inl hb) (fun b hb hn=>(hb.resolve_left hn).1) ?_ (fun b hb=>Ak (h.r b hb) hm.size) hm.evs;rintro b (hb|hb)
 ·exact⟨Ak (h.o1 b hb).1 hm.size,(h.o1 b hb).2⟩
 ·exact⟨hb.2,fun h1=>by have:=h.r b h1;omega⟩
theorem JW.keep1(h:JW Sh Rd c c2 N X W O0 O1 w){es:Array Event}(hm:Moves O0 Rd w w' es):Keeps (Uni O1 Rd) w w':=hm.keeps (by
 rintro x (hx|hx)
 ·exact⟨(h.o1 x hx).1,fun h0=>(h.o0 x h0).2.1 hx⟩
 ·exact⟨h.r x hx,fun h0=>(h.o0 x h0).2.2 hx⟩)
theorem JW.keep0(h:JW Sh Rd c c2 N X W O0 O1 w){es:Array Event}(hm:Moves O1 Rd w w' es):Keeps (Uni O0 Rd) w w':=hm.keeps (by
 rintro x (hx|hx)
 ·exact⟨(h.o0 x hx).1,(h.o0 x hx).2.1⟩
 ·exact⟨h.r x hx,fun h0=>(h.o1 x h0).2 hx⟩)
theorem ED(O Rd:Nat->Prop)(w:World){es:Array Event}(he:∀e∈es,EvO O Rd e):Moves O Rd w w es:=⟨fun _ _ _=>rfl,AH _,rfl,rfl,rfl,fun e h=>by
 have:=he e h;obtain⟨loc,wr,sy⟩:=e;cases loc with
 |cell a=>exact⟨this.1.imp .inl id,this.2⟩
 |obj b=>exact⟨.inl this.1,this.2⟩
 |_=>exact this⟩
theorem IB(O:Nat->Prop)(w:World):grow O w w=O:=by
 funext b;exact propext ⟨fun h=>h.resolve_right fun x=>om,.inl⟩
def ti(P:Program)(Post:Value->World->Prop)(Shun:Loc->Prop)(n:Nat)(Sh Rd:Nat->Prop)(c c2:Nat)(z z2:Value)(StA:StopT)(StB:Value->Value->StopT)(N:Nat)(X:Nat->Prop)(W:World):Prop:=
 ∀(O0 O1:Nat->Prop) (gs:Array Goroutine) (a b:Goroutine) (v zz:Value) (w:World) (sl:Option (Nat×Nat)) (t:Trace) (q:Nat->Nat),StA O0 a w->StB v zz O1 b w->JW Sh Rd c c2 N X W O0 O1 w->Both n Shun w.heap.size t->
  Big P n gs (a.finishComm P #[rcase c z,rcase c2 z2] .select 0 v true) (b.finishComm P #[scase c v zz] .send 0 undef false) t q->Fin P Post (crowd gs (w.setChan c 0 #[] false 1 1 false) sl) t
theorem FW(g:Goroutine)(cs:Array CommCase)(sh:CommShape):awake (parked g cs sh):=awake_of (.inr (.inl rfl))
theorem Jz{g g':Goroutine}(hc:w'.heap[c]? =some (.chan 0 #[] false 0 0 false))(hc2:w'.heap[c2]? =some (.chan 0 #[] false 0 0 false)):
  woken P g g' w' (parked a #[rcase c z,rcase c2 z2] .select)=parked a #[rcase c z,rcase c2 z2] .select:=by
 unfold woken;split
 ·refine again_all_open fun cc hcc=> ?_
  simp only[List.mem_toArray,AV,Ai,or_false]at hcc;rcases hcc with rfl|rfl
  ·exact⟨_,_,_,_,_,_,_,rfl,hc⟩
  ·exact⟨_,_,_,_,_,_,_,rfl,hc2⟩
 ·rfl
theorem F8{i k:Nat}{x:Goroutine}(h: (gs.setIfInBounds i ph)[k]? =some x):x=ph\/(k≠i/\gs[k]? =some x):=by
 rcases getElem?_stand gs i k x h with⟨_,e⟩|⟨h1,h2⟩
 ·exact .inl e
 ·exact .inr ⟨h1,h2⟩
theorem HG(hB:Big P n gs a b t q){k:Nat}{x:Goroutine}(h1:k≠0)(h2:k≠n)(hx:gs[k]? =some x)(r:Nat)(s:Bool):offersAt x r s=[]:=by
 have hlt:k<gs.size:=(AR.1 hx).1;have:=hB.size;exact offersAt_of_not_blocked (by rcases(hB.old k x om om hx).status with e|e<;>rw[e]<;>simp) _ _
theorem cg(hB:Big P n gs a b t q){x y:Goroutine}{u:Trace}(hu:∀op∈u,op.g=0\/op.g=n):Big P n ((gs.setIfInBounds n y).setIfInBounds 0 x) x y (t++u) q:=
 Big.upd hB (by simp[hB.size]) (by simp[(Lh hB)]) (by rw[AG (by have:=hB.pos;omega),Au (Lf hB)]) (fun i g h1 h2 hg=>by
  rw[AG om,AG om]at hg;exact hg) hu
theorem YF(hB:Big P n gs a b t q){x y:Goroutine}{u:Trace}(hu:∀op∈u,op.g=0\/op.g=n):Big P n ((gs.setIfInBounds 0 x).setIfInBounds n y) x y (t++u) q:=
 Big.upd hB (by simp[hB.size]) (by rw[AG (by have:=hB.pos;omega),Au (Lh hB)]) (by simp[(Lf hB)]) (fun i g h1 h2 hg=>by
  rw[AG om,AG om]at hg;exact hg) hu
theorem ci(hB:Big P n gs a b t q){x:Goroutine}{u:Trace}(hu:∀op∈u,op.g=0\/op.g=n):Big P n (gs.setIfInBounds 0 x) x b (t++u) q:=
 Big.upd hB (by simp[hB.size]) (by simp[(Lh hB)]) (by rw[AG (by have:=hB.pos;omega)];exact hB.hc) (fun i g h1 h2 hg=>by
  rw[AG om]at hg;exact hg) hu
theorem cZ(hB:Big P n gs a b t q){y:Goroutine}{u:Trace}(hu:∀op∈u,op.g=0\/op.g=n):Big P n (gs.setIfInBounds n y) a y (t++u) q:=
 Big.upd hB (by simp[hB.size]) (by rw[AG (by have:=hB.pos;omega)];exact hB.h0) (by simp[(Lf hB)]) (fun i g h1 h2 hg=>by
  rw[AG om]at hg;exact hg) hu
theorem U7(n c s:Nat)(f0 f1:FuncId)(p0 p1:String):∀op∈Cl n c s f0 f1 p0 p1,op.g=0\/op.g=n:=by
 intro op hop;unfold Cl at hop;simp only[List.mem_toArray,AV,Ai,or_false]at hop;rcases hop with rfl|rfl|rfl|rfl
 ·exact .inr rfl
 ·exact .inl rfl
 ·exact .inr rfl
 ·exact .inl rfl
theorem OP{g:Nat}(hg:g=0\/g=n){es:Array Event}:∀op∈MemOp.ofEvents g fn pos es,op.g=0\/op.g=n:=by
 intro op hop;obtain⟨e,_,rfl⟩:=CK hop;exact hg
variable(hS:∀l,Shun l->∃a:Addr,l= .cell a/\Sh a.block)(hM:Meet P Rd c c2 z z2 StA StB)(K:ti P Post Shun n Sh Rd c c2 z z2 StA StB N X W)
include hS hM K
theorem jS{v zz:Value}(hB:Big P n gs a (parked b #[scase c v zz] .send) t q)(hA:StA O0 a w)(hb:StB v zz O1 b w)(hj:JW Sh Rd c c2 N X W O0 O1 w)(hp:Ph1 n Shun O1 Rd w.heap.size t):Fin P Post (crowd gs w sl) t:=by
 obtain⟨ra,_⟩:=hM.a _ _ _ hA;refine Kr hB (awake_of (.inl ra)) (FW _ _ _) (.inl ra) (fun _ _ _=>woken_run ra) (fun _ _ d=>woken_send_open _ _ (hj.at d).ch) ?_ (fun h=>by cases h);intro _ gs' d sl' t' q' hB' hmu;have hA2:=hM.aS _ _ _ (w.at d) hA (Keeps.at _ _ _);have hB2:=hM.bS _ _ _ _ _ (w.at d) hb (Keeps.at _ _ _);obtain⟨_,es,hs,he⟩:=hM.a _ _ _ hA2;have hn:=hB'.pos;have hpar:∀r,partners (gs'.setIfInBounds 0 ph) r true=if c=r then [(n,0)]else []:=by
  intro r;rw[partners_one (j:=n) (g:=parked b #[scase c v zz] .send) (by rw[AG om];exact hB'.hc),offersAt_parked_send]
  ·split<;>rfl
  ·intro k x hk hx;rcases F8 hx with rfl|⟨h1,h2⟩
   ·rfl
   ·exact HG hB' h1 hk h2 _ _
 have hrun:=crowd_sel_recv_meets (P:=P) (gs:=gs') (sl:=sl') (i:=0) (j:=n) (k:=0) hB'.h0 hs rfl (fun m c' hm hc'=>by
  match m,hc' with
  |0,_=>exact absurd rfl hm
  |1,hc'=>
   have:c'=rcase c2 z2:=by simpa using hc'.symm
   subst this;exact ways_recv_none hj.ch2 (by rw[hpar,if_neg (Ne.symm hM.ne)])
  |n+2,hc'=>simp at hc') hj.ch om hB'.hc (by rw[hpar,if_pos rfl])
 refine⟨_,_,hrun,?_⟩;have hm:=ED O0 Rd (w.at d) he;have hp2:=(hj.at d).ph0 hS (hp.mutes hmu) hm (fn:=a.frame.fn) (pos:=a.frame.place);have hbo:=hp2.meet (c:=c) (s:=0) (hj.r c hM.rc) a.frame.fn b.frame.fn a.frame.place b.frame.place;have hBB:=cg (x:=a.finishComm P #[rcase c z,rcase c2 z2] .select 0 v true) (y:=b.finishComm P #[scase c v zz] .send 0 undef false) hB' (u:=MemOp.ofEvents 0 a.frame.fn a.frame.place es++Cl n c 0 a.frame.fn b.frame.fn a.frame.place b.frame.place) (fun op hop=>(BC.1 hop).elim (OP (.inl rfl) op) (U7 _ _ _ _ _ _ _ op));rw[<-Array.append_assoc]at hBB⊢;exact K _ _ _ _ _ _ _ _ _ _ _ hA2 hB2 (hj.at d) hbo hBB
theorem jR{v zz:Value}(hB:Big P n gs (parked a #[rcase c z,rcase c2 z2] .select) b t q)(hA:StA O0 a w)(hb:StB v zz O1 b w)(hj:JW Sh Rd c c2 N X W O0 O1 w)(hp:Ph1 n Shun O1 Rd w.heap.size t):Fin P Post (crowd gs w sl) t:=by
 obtain⟨rb,_⟩:=hM.b _ _ _ _ _ hb;refine Kr hB (FW _ _ _) (awake_of (.inl rb)) (.inr rb) (fun _ _ d=>Jz (hj.at d).ch (hj.at d).ch2) (fun _ _ _=>woken_run rb) (fun h=>by cases h) ?_;intro _ gs' d sl' t' q' hB' hmu;have hA2:=hM.aS _ _ _ (w.at d) hA (Keeps.at _ _ _);have hB2:=hM.bS _ _ _ _ _ (w.at d) hb (Keeps.at _ _ _);obtain⟨_,es,hs,he⟩:=hM.b _ _ _ _ _ hB2;have hn:=hB'.pos;have hpar:partners (gs'.setIfInBounds n ph) c false=[(0,0)]:=by
  rw[partners_one (j:=0) (g:=parked a #[rcase c z,rcase c2 z2] .select) (by rw[AG om];exact hB'.h0),offersAt_parked_at (k:=0) (z:=z) rfl]
  ·rfl
  ·intro m cc hm hcc;match m,hcc with
   |0,_=>exact absurd rfl hm
   |1,hcc=>
    have:cc=rcase c2 z2:=by simpa using hcc.symm
    subst this;intro e;exact hM.ne (by simpa[rcase]using e)
   |n+2,hcc=>simp at hcc
  ·intro k x hk hx;rcases F8 hx with rfl|⟨h1,h2⟩
   ·rfl
   ·exact HG hB' hk h1 h2 _ _
 have hn0: (n==0)=false:=by simp;omega
 have hrun:=crowd_send_meets_sel (P:=P) (gs:=gs') (w:=w.at d) (w₁:=w.at d) (sl:=sl') (i:=n) (j:=0) (k:=0) (zj:=z) hB'.hc (by rw[hn0];exact hs) (hj.at d).ch om hB'.h0 rfl hpar;refine⟨_,_,hrun,?_⟩;have hm:=ED O1 Rd (w.at d) he;have hp2:=(hj.at d).ph1 (hp.mutes hmu) hm (fn:=b.frame.fn) (pos:=b.frame.place);rw[IB]at hp2;have hbo:=hp2.meet (c:=c) (s:=0) (hj.r c hM.rc) a.frame.fn b.frame.fn a.frame.place b.frame.place;have hBB:=YF (x:=a.finishComm P #[rcase c z,rcase c2 z2] .select 0 v true) (y:=b.finishComm P #[scase c v zz] .send 0 undef false) hB' (u:=MemOp.ofEvents n b.frame.fn b.frame.place es++Cl n c 0 a.frame.fn b.frame.fn a.frame.place b.frame.place) (fun op hop=>(BC.1 hop).elim (OP (.inr rfl) op) (U7 _ _ _ _ _ _ _ op));rw[<-Array.append_assoc]at hBB⊢;exact K _ _ _ _ _ _ _ _ _ _ _ hA2 hB2 (hj.at d) hbo hBB
omit K in
theorem Za(hB:Big P n gs a b t q)(hA:StA O0 a w)(hb:b.status= .running)(hj:JW Sh Rd c c2 N X W O0 O1 w)(hp:Ph1 n Shun O1 Rd w.heap.size t):
  ∃gs' ops,runT P (crowd gs w sl) 0=(.next (crowd gs' w sl),ops)/\Big P n gs' (parked a #[rcase c z,rcase c2 z2] .select) b (t++ops) q/\Ph1 n Shun O1 Rd w.heap.size (t++ops):=by
 obtain⟨_,es,hs,he⟩:=hM.a _ _ _ hA;have hpar:∀r,partners (gs.setIfInBounds 0 ph) r true=[]:=by
  intro r;refine partners_nil fun k x hx=> ?_
  rcases F8 hx with rfl|⟨h1,h2⟩
  ·rfl
  ·by_cases hk:k=n
   ·subst hk;rw[hB.hc]at h2;obtain rfl:=AC h2;exact offersAt_of_not_blocked (by rw[hb];simp) _ _
   ·exact HG hB h1 hk h2 _ _
 refine⟨_,_,crowd_waits (P:=P) (gs:=gs) (sl:=sl) (i:=0) hB.h0 hs ?_,ci hB (OP (.inl rfl)),hj.ph0 hS hp (ED O0 Rd w he)⟩;intro cc hcc;simp only[List.mem_toArray,AV,Ai,or_false]at hcc;rcases hcc with rfl|rfl
 ·exact ways_recv_none hj.ch (hpar c)
 ·exact ways_recv_none hj.ch2 (hpar c2)
omit K hS in
theorem ZZ{v zz:Value}(hB:Big P n gs a b t q)(hb:StB v zz O1 b w)(ha:a.status= .running)(hj:JW Sh Rd c c2 N X W O0 O1 w)(hp:Ph1 n Shun O1 Rd w.heap.size t):
  ∃gs' ops,runT P (crowd gs w sl) n=(.next (crowd gs' w sl),ops)/\Big P n gs' a (parked b #[scase c v zz] .send) (t++ops) q/\Ph1 n Shun O1 Rd w.heap.size (t++ops):=by
 obtain⟨_,es,hs,he⟩:=hM.b _ _ _ _ _ hb;have hn:=hB.pos;have hpar:∀r,partners (gs.setIfInBounds n ph) r false=[]:=by
  intro r;refine partners_nil fun k x hx=> ?_
  rcases F8 hx with rfl|⟨h1,h2⟩
  ·rfl
  ·by_cases hk:k=0
   ·subst hk;rw[hB.h0]at h2;obtain rfl:=AC h2;exact offersAt_of_not_blocked (by rw[ha];simp) _ _
   ·exact HG hB hk h1 h2 _ _
 have hp2:=hj.ph1 hp (ED O1 Rd w he) (fn:=b.frame.fn) (pos:=b.frame.place);rw[IB]at hp2;have hn0: (n==0)=false:=by simp;omega
 refine⟨_,_,crowd_waits (P:=P) (gs:=gs) (w:=w) (sl:=sl) (i:=n) hB.hc (by rw[hn0];exact hs) ?_,cZ hB (OP (.inr rfl)),hp2⟩;intro cc hcc;simp only[List.mem_toArray,AV,Ai,or_false]at hcc;subst hcc;exact ways_send_none hj.ch (AH _) (hpar c)
theorem jQ{v zz:Value}(hB:Big P n gs a b t q)(hA:StA O0 a w)(hb:StB v zz O1 b w)(hj:JW Sh Rd c c2 N X W O0 O1 w)(hp:Ph1 n Shun O1 Rd w.heap.size t):Fin P Post (crowd gs w sl) t:=by
 obtain⟨ra,_⟩:=hM.a _ _ _ hA;obtain⟨rb,_⟩:=hM.b _ _ _ _ _ hb;refine Kr hB (awake_of (.inl ra)) (awake_of (.inl rb)) (.inl ra) (fun _ _ _=>woken_run ra) (fun _ _ _=>woken_run rb) (fun _ gs' d sl' t' q' hB' hmu=> ?_) (fun _ gs' d sl' t' q' hB' hmu=> ?_)
 ·have hA2:=hM.aS _ _ _ (w.at d) hA (Keeps.at _ _ _);have hB2:=hM.bS _ _ _ _ _ (w.at d) hb (Keeps.at _ _ _);obtain⟨gs2,ops,hr,hBB,hp2⟩:=Za hS hM (sl:=sl') hB' hA2 rb (hj.at d) (hp.mutes hmu);exact⟨_,_,hr,jR hS hM K hBB hA2 hB2 (hj.at d) hp2⟩
 ·have hA2:=hM.aS _ _ _ (w.at d) hA (Keeps.at _ _ _);have hB2:=hM.bS _ _ _ _ _ (w.at d) hb (Keeps.at _ _ _);obtain⟨gs2,ops,hr,hBB,hp2⟩:=ZZ hM (sl:=sl') hB' hB2 ra (hj.at d) (hp.mutes hmu);exact⟨_,_,hr,jS hS hM K hBB hA2 hB2 (hj.at d) hp2⟩
theorem qz{v zz:Value}(hO:Own P true Rd StA O0 a w):∀(gs:Array Goroutine) (q:Nat->Nat) (w2:World) (O1:Nat->Prop) (sl:Option (Nat×Nat)) (t:Trace),Big P n gs a (parked b #[scase c v zz] .send) t q->Keeps (Uni O0 Rd) w w2->StB v zz O1 b w2->JW Sh Rd c c2 N X W O0 O1 w2->Ph1 n Shun O1 Rd w2.heap.size t->
  Fin P Post (crowd gs w2 sl) t:=by
 induction hO with
 |stop h=>exact fun gs q w2 O1 sl t hB hk hb hj hp=>jS hS hM K hB (h w2 hk) hb hj hp
 | @step O g w hr h1 h2 ih=>
  intro gs q w2 O1 sl t hB hk hb hj hp;refine Kr hB (awake_of (.inl hr)) (FW _ _ _) (.inl hr) (fun _ _ _=>woken_run hr) (fun _ _ d=>woken_send_open _ _ (hj.at d).ch) ?_ (fun h=>by cases h);intro _ gs' d sl' t' q' hB' hmu;have hk2:Keeps (Uni O Rd) w (w2.at d):=hk.trans (Keeps.at _ _ _);obtain⟨g',w',es,hgo,hm⟩:=h1 _ hk2;have hj2:=(hj.at d).move0 hM.rc hM.rc2 hm;obtain⟨gs2,hr2,hBB⟩:=Pz (sl:=sl') hB' hgo (woken_send_open g g' hj2.ch);exact⟨_,_,hr2,ih _ _ _ _ hk2 hgo gs2 q' w' O1 sl' _ hBB (Keeps.refl _ _) (hM.bS _ _ _ _ _ w' (hM.bS _ _ _ _ _ (w2.at d) hb (Keeps.at _ _ _)) ((hj.at d).keep1 hm)) hj2 ((hj.at d).ph0 hS (hp.mutes hmu) hm)⟩
theorem qy{v zz:Value}(hO:Own P true Rd StA O0 a w):∀(gs:Array Goroutine) (q:Nat->Nat) (w2:World) (O1:Nat->Prop) (sl:Option (Nat×Nat)) (t:Trace),Big P n gs a b t q->Keeps (Uni O0 Rd) w w2->StB v zz O1 b w2->JW Sh Rd c c2 N X W O0 O1 w2->Ph1 n Shun O1 Rd w2.heap.size t->
  Fin P Post (crowd gs w2 sl) t:=by
 induction hO with
 |stop h=>exact fun gs q w2 O1 sl t hB hk hb hj hp=>jQ hS hM K hB (h w2 hk) hb hj hp
 | @step O g w hr h1 h2 ih=>
  intro gs q w2 O1 sl t hB hk hb hj hp;obtain⟨rb,_⟩:=hM.b _ _ _ _ _ hb;refine Kr hB (awake_of (.inl hr)) (awake_of (.inl rb)) (.inl hr) (fun _ _ _=>woken_run hr) (fun _ _ _=>woken_run rb) (fun _ gs' d sl' t' q' hB' hmu=> ?_) (fun _ gs' d sl' t' q' hB' hmu=> ?_)
  ·have hk2:Keeps (Uni O Rd) w (w2.at d):=hk.trans (Keeps.at _ _ _);obtain⟨g',w',es,hgo,hm⟩:=h1 _ hk2;have hj2:=(hj.at d).move0 hM.rc hM.rc2 hm;obtain⟨gs2,hr2,hBB⟩:=Pz (sl:=sl') hB' hgo (woken_run rb);exact⟨_,_,hr2,ih _ _ _ _ hk2 hgo gs2 q' w' O1 sl' _ hBB (Keeps.refl _ _) (hM.bS _ _ _ _ _ w' (hM.bS _ _ _ _ _ (w2.at d) hb (Keeps.at _ _ _)) ((hj.at d).keep1 hm)) hj2 ((hj.at d).ph0 hS (hp.mutes hmu) hm)⟩
  ·have hB2:=hM.bS _ _ _ _ _ (w2.at d) hb (Keeps.at _ _ _);obtain⟨gs2,ops,hr2,hBB,hp2⟩:=ZZ hM (a:=g) (sl:=sl') hB' hB2 hr (hj.at d) (hp.mutes hmu);exact⟨_,_,hr2,qz hS hM K (Own.step hr h1 h2) gs2 q' (w2.at d) O1 sl' _ hBB (hk.trans (Keeps.at _ _ _)) hB2 (hj.at d) hp2⟩
theorem qx(hO:Own P false Rd (fun O b w=>∃v zz,StB v zz O b w) O1 b w):∀(gs:Array Goroutine) (q:Nat->Nat) (w2:World) (O0:Nat->Prop) (sl:Option (Nat×Nat)) (t:Trace),Big P n gs (parked a #[rcase c z,rcase c2 z2] .select) b t q->Keeps (Uni O1 Rd) w w2->StA O0 a w2->JW Sh Rd c c2 N X W O0 O1 w2->Ph1 n Shun O1 Rd w2.heap.size t->
  Fin P Post (crowd gs w2 sl) t:=by
 induction hO with
 |stop h=>
  intro gs q w2 O0 sl t hB hk hA hj hp;obtain⟨v,zz,hb⟩:=h w2 hk;exact jR hS hM K hB hA hb hj hp
 | @step O g w hr h1 h2 ih=>
  intro gs q w2 O0 sl t hB hk hA hj hp;refine Kr hB (FW _ _ _) (awake_of (.inl hr)) (.inr hr) (fun _ _ d=>Jz (hj.at d).ch (hj.at d).ch2) (fun _ _ _=>woken_run hr) (fun h=>by cases h) ?_;intro _ gs' d sl' t' q' hB' hmu;have hk2:Keeps (Uni O Rd) w (w2.at d):=hk.trans (Keeps.at _ _ _);obtain⟨g',w',es,hgo,hm⟩:=h1 _ hk2;have hj2:=(hj.at d).move1 hM.rc hM.rc2 hm;obtain⟨gs2,hr2,hBB⟩:=Py (sl:=sl') hB' hgo (Jz hj2.ch hj2.ch2);exact⟨_,_,hr2,ih _ _ _ _ hk2 hgo gs2 q' w' O0 sl' _ hBB (Keeps.refl _ _) (hM.aS _ _ _ w' (hM.aS _ _ _ (w2.at d) hA (Keeps.at _ _ _)) ((hj.at d).keep0 hm)) hj2 ((hj.at d).ph1 (hp.mutes hmu) hm)⟩
theorem qv(hO:Own P false Rd (fun O b w=>∃v zz,StB v zz O b w) O1 b w):∀(gs:Array Goroutine) (q:Nat->Nat) (w2:World) (O0:Nat->Prop) (sl:Option (Nat×Nat)) (t:Trace),Big P n gs a b t q->Keeps (Uni O1 Rd) w w2->StA O0 a w2->JW Sh Rd c c2 N X W O0 O1 w2->Ph1 n Shun O1 Rd w2.heap.size t->
  Fin P Post (crowd gs w2 sl) t:=by
 induction hO with
 |stop h=>
  intro gs q w2 O0 sl t hB hk hA hj hp;obtain⟨v,zz,hb⟩:=h w2 hk;exact jQ hS hM K hB hA hb hj hp
 | @step O g w hr h1 h2 ih=>
  intro gs q w2 O0 sl t hB hk hA hj hp;obtain⟨ra,_⟩:=hM.a _ _ _ hA;refine Kr hB (awake_of (.inl ra)) (awake_of (.inl hr)) (.inl ra) (fun _ _ _=>woken_run ra) (fun _ _ _=>woken_run hr) (fun _ gs' d sl' t' q' hB' hmu=> ?_) (fun _ gs' d sl' t' q' hB' hmu=> ?_)
  ·have hA2:=hM.aS _ _ _ (w2.at d) hA (Keeps.at _ _ _);obtain⟨gs2,ops,hr2,hBB,hp2⟩:=Za hS hM (b:=g) (sl:=sl') hB' hA2 hr (hj.at d) (hp.mutes hmu);exact⟨_,_,hr2,qx hS hM K (Own.step hr h1 h2) gs2 q' (w2.at d) O0 sl' _ hBB (hk.trans (Keeps.at _ _ _)) hA2 (hj.at d) hp2⟩
  ·have hk2:Keeps (Uni O Rd) w (w2.at d):=hk.trans (Keeps.at _ _ _);obtain⟨g',w',es,hgo,hm⟩:=h1 _ hk2;have hj2:=(hj.at d).move1 hM.rc hM.rc2 hm;obtain⟨gs2,hr2,hBB⟩:=Py (sl:=sl') hB' hgo (woken_run ra);exact⟨_,_,hr2,ih _ _ _ _ hk2 hgo gs2 q' w' O0 sl' _ hBB (Keeps.refl _ _) (hM.aS _ _ _ w' (hM.aS _ _ _ (w2.at d) hA (Keeps.at _ _ _)) ((hj.at d).keep0 hm)) hj2 ((hj.at d).ph1 (hp.mutes hmu) hm)⟩
theorem XS(hO:Own P false Rd (fun O b w=>∃v zz,StB v zz O b w) O1 b w):∀(gs:Array Goroutine) (q:Nat->Nat) (w2:World) (O0:Nat->Prop) (a:Goroutine) (wa:World) (sl:Option (Nat×Nat)) (t:Trace),Big P n gs a b t q->Keeps (Uni O1 Rd) w w2->Own P true Rd StA O0 a wa->Keeps (Uni O0 Rd) wa w2->
  JW Sh Rd c c2 N X W O0 O1 w2->Ph1 n Shun O1 Rd w2.heap.size t->Fin P Post (crowd gs w2 sl) t:=by
 induction hO with
 |stop h=>
  intro gs q w2 O0 a wa sl t hB hk hA hka hj hp;obtain⟨v,zz,hb⟩:=h w2 hk;exact qy hS hM K hA gs q w2 _ sl t hB hka hb hj hp
 | @step O g w hr h1 h2 ih=>
  intro gs q w2 O0 a wa sl t hB hk hA;induction hA generalizing gs q w2 sl t with
  |stop h=>exact fun hka hj hp=>qv hS hM K (Own.step hr h1 h2) gs q w2 _ sl t hB hk (h w2 hka) hj hp
  | @step O' g2 wa hr2 k1 k2 ih2=>
   intro hka hj hp;refine Kr hB (awake_of (.inl hr2)) (awake_of (.inl hr)) (.inl hr2) (fun _ _ _=>woken_run hr2) (fun _ _ _=>woken_run hr) (fun _ gs' d sl' t' q' hB' hmu=> ?_) (fun _ gs' d sl' t' q' hB' hmu=> ?_)
   ·have hk2:Keeps (Uni O' Rd) wa (w2.at d):=hka.trans (Keeps.at _ _ _);obtain⟨g',w',es,hgo,hm⟩:=k1 _ hk2;have hj2:=(hj.at d).move0 hM.rc hM.rc2 hm;obtain⟨gs2,hrr,hBB⟩:=Pz (sl:=sl') hB' hgo (woken_run hr);exact⟨_,_,hrr,ih2 _ _ _ _ hk2 hgo gs2 q' w' sl' _ hBB ((hk.trans (Keeps.at _ _ _)).trans ((hj.at d).keep1 hm)) (Keeps.refl _ _) hj2 ((hj.at d).ph0 hS (hp.mutes hmu) hm)⟩
   ·have hk2:Keeps (Uni O Rd) w (w2.at d):=hk.trans (Keeps.at _ _ _);obtain⟨g',w',es,hgo,hm⟩:=h1 _ hk2;have hj2:=(hj.at d).move1 hM.rc hM.rc2 hm;obtain⟨gs2,hrr,hBB⟩:=Py (sl:=sl') hB' hgo (woken_run hr2);exact⟨_,_,hrr,ih _ _ _ _ hk2 hgo gs2 q' w' O' g2 wa sl' _ hBB (Keeps.refl _ _) (Own.step hr2 k1 k2) ((hka.trans (Keeps.at _ _ _)).trans ((hj.at d).keep0 hm)) hj2 ((hj.at d).ph1 (hp.mutes hmu) hm)⟩
end
end
section
open Go.Conc
section
structure Ph where
 f:Nat->Nat
 sh:Nat->Nat
 sz:Nat->Nat
def Ph.ad(φ:Ph)(a:Addr):Addr:=⟨φ.f a.block,a.off+φ.sh a.block,none⟩
def Ph.same(φ φ':Ph)(a:Nat):Prop:=φ'.f a=φ.f a/\φ'.sh a=φ.sh a/\φ'.sz a=φ.sz a
def CJ:Nat:=18446744073709551616
def i5:Nat:=36893488147419103232
def Rb(φ:Ph)(a:Addr)(c c':Nat):Prop:=(c<CJ->c'=c)/\(CJ<=c->c<i5->a.off+c'*(c - CJ)<=φ.sz a.block)
def Dt(φ:Ph)(D:Nat->Prop):Fn->Fn->Prop
 | .yield l,f=>D l/\f= .yield (φ.f l)
 |g,f=>f=g
mutual
def vrel(φ:Ph)(D:Nat->Prop):Value->Value->Prop
 | .pointer none,v=>v= .pointer none
 | .pointer (some a),v=>D a.block/\a.spot=none/\v= .pointer (some (φ.ad a))
 | .slice none n c,v=>n=0/\c=0/\v= .slice none 0 0
 | .slice (some a) n c,v=>D a.block/\a.spot=none/\∃a' c',v= .slice (some a') n c'/\a'.spot=none/\(a'=φ.ad a\/c'=0)/\n<=c'/\Rb φ a c c'
 | .map none,v=>v= .map none
 | .map (some r),v=>D r/\v= .map (some (φ.f r))
 | .chan none,v=>v= .chan none
 | .chan (some r),v=>D r/\v= .chan (some (φ.f r))
 | .func g x c,v=>∃g' x' c',v= .func g' x' c'/\Dt φ D g g'/\B3 φ D x x'/\B3 φ D c c'
 | .iface t x,v=>∃x',v= .iface t x'/\vrel φ D x x'
 | .agg cs,v=>∃cs',v= .agg cs'/\B3 φ D cs cs'
 | .tuple cs,v=>∃cs',v= .tuple cs'/\B3 φ D cs cs'
 | .bool b,v=>v= .bool b
 | .int k n,v=>v= .int k n
 | .float k n,v=>v= .float k n
 | .complex k n m,v=>v= .complex k n m
 | .string s,v=>v= .string s
 | .nilFunc,v=>v= .nilFunc
 | .nilIface,v=>v= .nilIface
def B3(φ:Ph)(D:Nat->Prop):Array Value->Array Value->Prop
 |⟨l⟩,a=>BZ φ D l a.toList
def BZ(φ:Ph)(D:Nat->Prop):List Value->List Value->Prop
 |[],l=>l=[]
 |v::r,l=>∃v' r',l=v'::r'/\vrel φ D v v'/\BZ φ D r r'
end
mutual
def plainV:Value->Bool
 | .pointer a=>a.isNone
 | .slice a n c=>a.isNone&&n==0&&c==0
 | .map r=>r.isNone
 | .chan r=>r.isNone
 | .func g x c=>(match g with| .yield _=>false|_=>true)&&C1 x&&C1 c
 | .iface _ x=>plainV x
 | .agg cs=>C1 cs
 | .tuple cs=>C1 cs
 |_=>true
def C1:Array Value->Bool
 |⟨l⟩=>plainVl l
def plainVl:List Value->Bool
 |[]=>true
 |v::l=>plainV v&&plainVl l
end
section
variable{φ φ':Ph}{D D':Nat->Prop}
theorem Mk (h:∀a,D a->D' a/\φ.same φ' a) {g g':Fn} (k:Dt φ D g g'):Dt φ' D' g g':=by
 cases g<;>simp only[Dt]at k⊢<;>first|exact k|exact⟨(h _ k.1).1,by rw[k.2,(h _ k.1).2.1]⟩
theorem Wi{a:Addr}(h:φ.same φ' a.block):φ'.ad a=φ.ad a:=by unfold Ph.ad;rw[h.1,h.2.1]
mutual
theorem CB(h:∀a,D a->D' a/\φ.same φ' a):∀(v v':Value),vrel φ D v v'->vrel φ' D' v v'
 | .pointer none,v',k=>by simp only[vrel]at k⊢;exact k
 | .pointer (some a),v',k=>by
  simp only[vrel]at k⊢;exact⟨(h _ k.1).1,k.2.1,by rw[k.2.2,Wi (h _ k.1).2]⟩
 | .slice none n c,v',k=>by simp only[vrel]at k⊢;exact k
 | .slice (some a) n c,v',k=>by
  simp only[vrel]at k⊢;obtain⟨h1,h2,a',c',h3,h4,h5,h6,h7⟩:=k;have hs:=(h _ h1).2;refine⟨(h _ h1).1,h2,a',c',h3,h4,by rw[Wi hs];exact h5,h6,h7.1,fun h8 h9=> ?_⟩;rw[hs.2.2];exact h7.2 h8 h9
 | .map none,v',k=>by simp only[vrel]at k⊢;exact k
 | .map (some r),v',k=>by
  simp only[vrel]at k⊢;exact⟨(h _ k.1).1,by rw[k.2,(h _ k.1).2.1]⟩
 | .chan none,v',k=>by simp only[vrel]at k⊢;exact k
 | .chan (some r),v',k=>by
  simp only[vrel]at k⊢;exact⟨(h _ k.1).1,by rw[k.2,(h _ k.1).2.1]⟩
 | .func g x c,v',k=>by
  simp only[vrel]at k⊢;obtain⟨g',x',c',h1,h2,h3,h4⟩:=k;exact⟨g',x',c',h1,Mk h h2,Eh h x x' h3,Eh h c c' h4⟩
 | .iface t x,v',k=>by
  simp only[vrel]at k⊢;obtain⟨x',h1,h2⟩:=k;exact⟨x',h1,CB h x x' h2⟩
 | .agg cs,v',k=>by
  simp only[vrel]at k⊢;obtain⟨x',h1,h2⟩:=k;exact⟨x',h1,Eh h cs x' h2⟩
 | .tuple cs,v',k=>by
  simp only[vrel]at k⊢;obtain⟨x',h1,h2⟩:=k;exact⟨x',h1,Eh h cs x' h2⟩
 | .bool b,v',k=>by simp only[vrel]at k⊢;exact k
 | .int b n,v',k=>by simp only[vrel]at k⊢;exact k
 | .float b n,v',k=>by simp only[vrel]at k⊢;exact k
 | .complex b n m,v',k=>by simp only[vrel]at k⊢;exact k
 | .string b,v',k=>by simp only[vrel]at k⊢;exact k
 | .nilFunc,v',k=>by simp only[vrel]at k⊢;exact k
 | .nilIface,v',k=>by simp only[vrel]at k⊢;exact k
theorem Eh(h:∀a,D a->D' a/\φ.same φ' a):∀(v v':Array Value),B3 φ D v v'->B3 φ' D' v v'
 |⟨l⟩,v',k=>by
  simp only[B3]at k⊢;exact Gs h l v'.toList k
theorem Gs(h:∀a,D a->D' a/\φ.same φ' a):∀(v v':List Value),BZ φ D v v'->BZ φ' D' v v'
 |[],v',k=>by simp only[BZ]at k⊢;exact k
 |v::r,v',k=>by
  simp only[BZ]at k⊢;obtain⟨x,r',h1,h2,h3⟩:=k;exact⟨x,r',h1,CB h v x h2,Gs h r r' h3⟩
end
mutual
theorem Bi:∀(v v':Value),plainV v=true->(vrel φ D v v'↔v'=v)
 | .pointer none,v',k=>by simp only[vrel]
 | .pointer (some a),v',k=>by simp[plainV]at k
 | .slice none n c,v',k=>by
  simp only[plainV,Option.isNone_none,Bool.true_and,AA,beq_iff_eq]at k;obtain⟨rfl,rfl⟩:=k;simp only[vrel,true_and]
 | .slice (some a) n c,v',k=>by simp[plainV]at k
 | .map none,v',k=>by simp only[vrel]
 | .map (some a),v',k=>by simp[plainV]at k
 | .chan none,v',k=>by simp only[vrel]
 | .chan (some a),v',k=>by simp[plainV]at k
 | .func g x c,v',k=>by
  simp only[plainV,AA]at k;have hx:=fun x'=>E5 x x' k.1.2
  have hc:=fun x'=>E5 c x' k.2
  have hg:∀g',Dt φ D g g'↔g'=g:=by
   intro g';cases g<;>simp_all [Dt]
  simp only[vrel,hx,hc,hg];constructor
  ·rintro⟨_,_,_,h,rfl,rfl,rfl⟩;exact h
  ·intro h;exact⟨_,_,_,h,rfl,rfl,rfl⟩
 | .iface t x,v',k=>by
  simp only[plainV]at k;simp only[vrel,Bi x _ k];constructor
  ·rintro⟨_,h,rfl⟩;exact h
  ·intro h;exact⟨_,h,rfl⟩
 | .agg cs,v',k=>by
  simp only[plainV]at k;simp only[vrel,E5 cs _ k];constructor
  ·rintro⟨_,h,rfl⟩;exact h
  ·intro h;exact⟨_,h,rfl⟩
 | .tuple cs,v',k=>by
  simp only[plainV]at k;simp only[vrel,E5 cs _ k];constructor
  ·rintro⟨_,h,rfl⟩;exact h
  ·intro h;exact⟨_,h,rfl⟩
 | .bool b,v',k=>by simp only[vrel]
 | .int b n,v',k=>by simp only[vrel]
 | .float b n,v',k=>by simp only[vrel]
 | .complex b n m,v',k=>by simp only[vrel]
 | .string b,v',k=>by simp only[vrel]
 | .nilFunc,v',k=>by simp only[vrel]
 | .nilIface,v',k=>by simp only[vrel]
theorem E5:∀(v v':Array Value),C1 v=true->(B3 φ D v v'↔v'=v)
 |⟨l⟩,⟨l'⟩,k=>by
  simp only[C1]at k;simp only[B3,E4 l _ k,Array.mk.injEq]
theorem E4:∀(v v':List Value),plainVl v=true->(BZ φ D v v'↔v'=v)
 |[],v',k=>by simp only[BZ]
 |v::r,v',k=>by
  simp only[plainVl,AA]at k;simp only[BZ,Bi v _ k.1,E4 r _ k.2];constructor
  ·rintro⟨_,_,h,rfl,rfl⟩;exact h
  ·intro h;exact⟨_,_,h,rfl,rfl⟩
end
theorem Bp:∀(l l':List Value),BZ φ D l l'↔l'.length=l.length/\∀(i:Nat) v,l[i]? =some v->∃v',l'[i]? =some v'/\vrel φ D v v'
 |[],l'=>by simp[BZ,List.length_eq_zero_iff]
 |v::r,l'=>by
  simp only[BZ];constructor
  ·rintro⟨v',r',rfl,h1,h2⟩;obtain⟨h3,h4⟩:=(Bp r r').1 h2;refine⟨by simp[h3],fun i x hx=> ?_⟩;cases i with
   |zero=>simp only[AX,AO]at hx⊢;subst hx;exact⟨_,rfl,h1⟩
   |succ i=>simp only[Am]at hx⊢;exact h4 i x hx
  ·rintro⟨h1,h2⟩;cases l' with
   |nil=>simp at h1
   |cons v' r'=>
    obtain⟨x,hx,hv⟩:=h2 0 v rfl;simp only[AX,AO]at hx;subst hx;refine⟨_,_,rfl,hv,(Bp r r').2 ⟨by simpa using h1,fun i x hx=> ?_⟩⟩;have:=h2 (i+1) x (by simpa using hx);simpa using this
theorem DF(a a':Array Value):B3 φ D a a'↔a'.size=a.size/\∀(i:Nat) v,a[i]? =some v->∃v',a'[i]? =some v'/\vrel φ D v v':=by
 obtain⟨l⟩:=a;obtain⟨l'⟩:=a';simp only[B3,Bp];simp
theorem Cu:plainV undef=true:=by simp[undef,plainV,C1,plainVl]
end
structure ALoop where
 state:LoopState
 pending:Option Code
 n:Nat
 t:Nat->Value
 params:Array Tmp
 assign:Code
 body:Code
 defers:Nat
inductive AB where
 |dead
 |own (c:List Value)
 |ro (c:List Value)
 |mp (es:List MapEntry) (k:Nat)
 |lp (l:ALoop)
 |df (b:Bool)
 |it (m:Option Nat) (since:Nat) (seen:Array Nat) (stepped:Nat)
 |ob (p: (Nat->Nat)->Obj) (l:List Nat)
abbrev Hp:=Nat->Option AB
def dom(H:Hp):Nat->Prop:=fun a=>H a≠none
def upd{α:Type}(H:Nat->α)(a:Nat)(x:α):Nat->α:=fun b=>if b=a then x else H b
theorem BU{α:Type}(H:Nat->α)(a:Nat)(x:α):upd H a x a=x:=if_pos rfl
theorem upd_ne{α:Type}{H:Nat->α}{a b:Nat}{x:α}(h:b≠a):upd H a x b=H b:=if_neg h
def AB.mine:AB->Bool
 | .dead| .ro _=>false
 |_=>true
def NM(φ:Ph)(D:Nat->Prop)(n:Nat)(t:Nat->Value)(T:Array Value):Prop:=T.size=n/\∀i,vrel φ D (t i) (T.getD i undef)
def crel(φ:Ph)(D:Nat->Prop)(s:Nat)(c:List Value)(C:Array Value):Prop:=∀(i:Nat) v,c[i]? =some v->∃v',C[s+i]? =some v'/\vrel φ D v v'
def S7(φ:Ph)(D:Nat->Prop)(e e':MapEntry):Prop:=vrel φ D e.key e'.key/\vrel φ D e.val e'.val/\e'.born=e.born
def Fp(φ:Ph)(D:Nat->Prop)(l l':List MapEntry):Prop:=l'.length=l.length/\∀(i:Nat) e,l[i]? =some e->∃e',l'[i]? =some e'/\S7 φ D e e'
def brel(φ:Ph)(D:Nat->Prop)(a:Nat):AB->Obj->Prop
 | .own c,o=>∃C e,o= .cells C e (0,0)/\C.size=φ.sh a+φ.sz a/\c.length<=φ.sz a/\crel φ D (φ.sh a) c C
 | .mp es k,o=>∃es',o= .map es' k/\Fp φ D es es'.toList
 | .lp l,o=>∃l':Loop,o= .loop l'/\l'.state=l.state/\l'.pending=l.pending/\NM φ D l.n l.t l'.tmps/\l'.params=l.params/\l'.assign=l.assign/\l'.body=l.body/\D l.defers/\l'.defers=φ.f l.defers
 | .df b,o=>o= .deferred (if b then some []else none)
 | .it m s q k,o=>φ.sh a=0/\(∀r,m=some r->D r)/\o= .mapIter (m.map φ.f) s q k
 | .ob p l,o=>φ.sh a=0/\o=p φ.f/\(∀f f':Nat->Nat,(∀c,D c->f c=f' c)->p f=p f')/\∀c∈l,D c/\φ.f c<φ.f a
 |_,_=>False
variable[RdC]
structure Rel (X:Nat->Option Obj) (O:Nat->Prop) (φ:Ph) (H:Hp) (w:World):Prop where
 fin:∃n,∀a,n<=a->H a=none
 frame:∀(b:Nat) o,X b=some o->Uni O RD b/\w.heap[b]? =some o
 own:∀a x,H a=some x->x.mine=true->O (φ.f a)/\X (φ.f a)=none/\∃o,w.heap[φ.f a]? =some o/\brel φ (dom H) a x o
 ro:∀a c,H a=some (.ro c)->∃C e z,X (φ.f a)=some (.cells C e z)/\crel φ (dom H) (φ.sh a) c C
 inj:∀a b x y,H a=some x->H b=some y->x.mine=true->y.mine=true->φ.f a=φ.f b->a=b
def Gr(φ:Ph)(H:Hp)(φ':Ph)(H':Hp):Prop:=∀a,dom H a->dom H' a/\φ.same φ' a
section
variable{φ φ' φ'':Ph}{H H' H'':Hp}{X:Nat->Option Obj}{O O':Nat->Prop}{w w':World}
theorem Bs (φ:Ph) (a:Nat):φ.same φ a:=⟨rfl,rfl,rfl⟩
theorem Gr.refl(φ:Ph)(H:Hp):Gr φ H φ H:=fun a h=>⟨h,Bs φ a⟩
theorem Gr.trans(h:Gr φ H φ' H')(k:Gr φ' H' φ'' H''):Gr φ H φ'' H'':=fun a ha=>by
 obtain⟨h1,h2,h3,h4⟩:=h a ha;obtain⟨k1,k2,k3,k4⟩:=k a h1;exact⟨k1,k2.trans h2,k3.trans h3,k4.trans h4⟩
theorem Ei{D D':Nat->Prop}(h:∀a,D a->D' a/\φ.same φ' a){n:Nat}{t:Nat->Value}{T:Array Value}(k:NM φ D n t T):NM φ' D' n t T:=⟨k.1,fun i=>CB h _ _ (k.2 i)⟩
theorem DG{D D':Nat->Prop}(h:∀a,D a->D' a/\φ.same φ' a){s:Nat}{c:List Value}{C:Array Value}(k:crel φ D s c C):crel φ' D' s c C:=fun i v hv=>by
 obtain⟨v',h1,h2⟩:=k i v hv;exact⟨v',h1,CB h _ _ h2⟩
theorem It{D D':Nat->Prop}(h:∀a,D a->D' a/\φ.same φ' a){l l':List MapEntry}(k:Fp φ D l l'):Fp φ' D' l l':=⟨k.1,fun i e he=>by
 obtain⟨e',h1,h2,h3,h4⟩:=k.2 i e he;exact⟨e',h1,CB h _ _ h2,CB h _ _ h3,h4⟩⟩
variable{x:AB}
theorem DH{D D':Nat->Prop}(h:∀a,D a->D' a/\φ.same φ' a){a:Nat}(ha:D a){o:Obj}(k:brel φ D a x o):brel φ' D' a x o:=by
 have hs:=(h a ha).2;cases x with
 |dead=>exact k
 |ro c=>exact k
 |own c=>
  obtain⟨C,e,h1,h2,h3,h4⟩:=k;exact⟨C,e,h1,by rw[hs.2.1,hs.2.2];exact h2,by rw[hs.2.2];exact h3,by rw[hs.2.1];exact DG h h4⟩
 |mp es n=>
  obtain⟨es',h1,h2⟩:=k;exact⟨es',h1,It h h2⟩
 |lp l=>
  obtain⟨l',h1,h2,h3,h5,h6,h7,h8,h9,h10⟩:=k;exact⟨l',h1,h2,h3,Ei h h5,h6,h7,h8,(h _ h9).1,by rw[h10,(h _ h9).2.1]⟩
 |df b=>exact k
 |ob p l=>
  obtain⟨k0,k1,k2,k3⟩:=k;refine⟨by rw[hs.2.1];exact k0,k1.trans (k2 _ _ fun c hc=>(h c hc).2.1.symm),fun f f' e=>k2 f f' fun c hc=>e c (h c hc).1,fun c hc=> ?_⟩;rw[(h c (k3 c hc).1).2.1,hs.1];exact⟨(h c (k3 c hc).1).1,(k3 c hc).2⟩
 |it m s q n=>
  obtain⟨h0,h1,h2⟩:=k;refine⟨by rw[hs.2.1];exact h0,fun r hr=>(h _ (h1 r hr)).1,?_⟩;rw[h2];cases m with
  |none=>rfl
  |some r=>simp only[AU];rw[(h _ (h1 r rfl)).2.1]
theorem Rel.keep(h:Rel X O φ H w)(k:Keeps (Uni O RD) w w'):Rel X O φ H w':=by
 refine⟨h.fin,fun b o hb=> ?_,fun a x ha hx=> ?_,h.ro,h.inj⟩
 ·obtain⟨h1,h2⟩:=h.frame b o hb;exact⟨h1,(k.same b h1).trans h2⟩
 ·obtain⟨h1,h2,o,h3,h4⟩:=h.own a x ha hx;exact⟨h1,h2,o,(k.same _ (.inl h1)).trans h3,h4⟩
theorem Rel.more(h:Rel X O φ H w)(k:∀b,O b->O' b):Rel X O' φ H w:=
 ⟨h.fin,fun b o hb=>⟨(h.frame b o hb).1.imp (k _) id,(h.frame b o hb).2⟩,fun a x ha hx=>by obtain⟨h1,h2⟩:=h.own a x ha hx;exact⟨k _ h1,h2⟩,h.ro,h.inj⟩
theorem Rel.sameHeap(h:Rel X O φ H w)(k:w'.heap=w.heap):Rel X O φ H w':=
 ⟨h.fin,fun b o hb=>by rw[k];exact h.frame b o hb,fun a x ha hx=>by rw[k];exact h.own a x ha hx,h.ro,h.inj⟩
theorem Bx{a b:Nat}(h:dom H b):dom (upd H a (some x)) b:=by
 unfold dom at h⊢;by_cases hb:b=a
 ·subst hb;rw[BU];exact fun e=>by cases e
 ·rw[upd_ne hb];exact h
theorem C9{a:Nat}:dom (upd H a (some x)) a:=by unfold dom;rw[BU];exact fun e=>by cases e
def Ph.put(φ:Ph)(a b s z:Nat):Ph:=⟨upd φ.f a b,upd φ.sh a s,upd φ.sz a z⟩
theorem EK{φ:Ph}{a b s z i:Nat}(h:i≠a):φ.same (φ.put a b s z) i:=⟨upd_ne h,upd_ne h,upd_ne h⟩
theorem Jb{H:Hp}(h:∃n,∀a,n<=a->H a=none)(a:Nat)(x:AB):∃n,∀i,n<=i->upd H a (some x) i=none:=by
 obtain⟨n,hn⟩:=h;refine⟨max n (a+1),fun i hi=> ?_⟩;rw[upd_ne om];exact hn i om
theorem Rel.new(h:Rel X O φ H w){a:Nat}(ha:H a=none)(hx:x.mine=true){o:Obj}{s z:Nat}(hw:w'.heap=w.heap.push o)(hO:O' w.heap.size)(hOO:∀b,O b->O' b)
  (hb:brel (φ.put a w.heap.size s z) (dom (upd H a (some x))) a x o):Rel X O' (φ.put a w.heap.size s z) (upd H a (some x)) w'/\Gr φ H (φ.put a w.heap.size s z) (upd H a (some x)):=by
 have hg:Gr φ H (φ.put a w.heap.size s z) (upd H a (some x)):=fun b hb=>⟨Bx hb,EK (fun e=>hb (e▸ha))⟩
 have lt:∀(b:Nat) y,w.heap[b]? =some y->b<w.heap.size:=fun b y hy=>(AR.1 hy).1
 have old:∀(b:Nat) y,w.heap[b]? =some y->w'.heap[b]? =some y:=fun b y hy=>by rw[hw,Array.getElem?_push_lt (lt b y hy)];rw[AK (lt b y hy)]at hy;exact hy
 have hne:∀b y,H b=some y->b≠a:=fun b y hy e=>by rw[e,ha]at hy;cases hy
 refine⟨⟨Jb h.fin a x,fun b y hy=> ?_,fun b y hy hm=> ?_,fun b c hy=> ?_,fun b c y z hy hz hm hm2 e=> ?_⟩,hg⟩
 ·obtain⟨h1,h2⟩:=h.frame b y hy;exact⟨h1.imp (hOO _) id,old _ _ h2⟩
 ·by_cases e:b=a
  ·subst e;rw[BU]at hy;obtain rfl:=AC hy;refine⟨?_,?_,o,?_,hb⟩
   ·rw[show(φ.put b w.heap.size s _).f b=w.heap.size from BU ..];exact hO
   ·rw[show(φ.put b w.heap.size s _).f b=w.heap.size from BU ..];cases hX:X w.heap.size with
    |none=>rfl
    |some q=>have:=lt _ _ (h.frame _ _ hX).2;omega
   ·rw[show(φ.put b w.heap.size s _).f b=w.heap.size from BU ..,hw];simp
  ·rw[upd_ne e]at hy;obtain⟨h1,h2,q,h3,h4⟩:=h.own b y hy hm;rw[show(φ.put a w.heap.size s _).f b=φ.f b from upd_ne e];exact⟨hOO _ h1,h2,q,old _ _ h3,DH hg (by unfold dom;rw[hy];exact fun e=>by cases e) h4⟩
 ·by_cases e:b=a
  ·subst e;rw[BU]at hy;obtain rfl:=AC hy;cases hx
  ·rw[upd_ne e]at hy;obtain⟨C,q,z,h1,h2⟩:=h.ro b c hy;rw[show(φ.put a w.heap.size s _).f b=φ.f b from upd_ne e,show(φ.put a w.heap.size s _).sh b=φ.sh b from upd_ne e];exact⟨C,q,z,h1,DG hg h2⟩
 ·have key:∀b y,b≠a->H b=some y->y.mine=true->φ.f b<w.heap.size:=fun b y _ hy hm=>by obtain⟨_,_,q,h3,_⟩:=h.own b y hy hm;exact lt _ _ h3
  by_cases e1:b=a<;>by_cases e2:c=a
  ·rw[e1,e2]
  ·rw[upd_ne e2]at hz;rw[e1,show(φ.put a w.heap.size s _).f a=w.heap.size from BU ..,show(φ.put a w.heap.size s _).f c=φ.f c from upd_ne e2]at e;have:=key c z e2 hz hm2;omega
  ·rw[upd_ne e1]at hy;rw[e2,show(φ.put a w.heap.size s _).f a=w.heap.size from BU ..,show(φ.put a w.heap.size s _).f b=φ.f b from upd_ne e1]at e;have:=key b y e1 hy hm;omega
  ·rw[upd_ne e1]at hy;rw[upd_ne e2]at hz;rw[show(φ.put a w.heap.size s _).f b=φ.f b from upd_ne e1,show(φ.put a w.heap.size s _).f c=φ.f c from upd_ne e2]at e;exact h.inj b c y z hy hz hm hm2 e
theorem Rel.set(h:Rel X O φ H w){a:Nat}{y:AB}(ha:H a=some x)(hx:x.mine=true)(hy:y.mine=true){o:Obj}(hw:∀b:Nat,w'.heap[b]? =if b=φ.f a then some o else w.heap[b]?)
  (hb:brel φ (dom (upd H a (some y))) a y o):Rel X O φ (upd H a (some y)) w'/\Gr φ H φ (upd H a (some y)):=by
 have hg:Gr φ H φ (upd H a (some y)):=fun b hb=>⟨Bx hb,Bs φ b⟩
 obtain⟨ho,hX,q,hq,_⟩:=h.own a x ha hx;refine⟨⟨Jb h.fin a y,fun b z hz=> ?_,fun b z hz hm=> ?_,fun b c hz=> ?_,fun b c z u hz hu hm hm2 e=> ?_⟩,hg⟩
 ·obtain⟨h1,h2⟩:=h.frame b z hz;rw[hw,if_neg (fun e=>by rw[e,hX]at hz;cases hz)];exact⟨h1,h2⟩
 ·by_cases e:b=a
  ·subst e;rw[BU]at hz;obtain rfl:=AC hz;exact⟨ho,hX,o,by rw[hw,if_pos rfl],hb⟩
  ·rw[upd_ne e]at hz;obtain⟨h1,h2,p,h3,h4⟩:=h.own b z hz hm;refine⟨h1,h2,p,?_,DH hg (by unfold dom;rw[hz];exact fun e=>by cases e) h4⟩;rw[hw,if_neg (fun e2=>e (h.inj b a z x hz ha hm hx e2))];exact h3
 ·by_cases e:b=a
  ·subst e;rw[BU]at hz;obtain rfl:=AC hz;cases hy
  ·rw[upd_ne e]at hz;obtain⟨C,q,z,h1,h2⟩:=h.ro b c hz;exact⟨C,q,z,h1,DG hg h2⟩
 ·have key:∀b z,upd H a (some y) b=some z->z.mine=true->∃z',H b=some z'/\z'.mine=true:=fun b z hz hm=>by
   by_cases e:b=a
   ·exact⟨x,e▸ha,hx⟩
   ·rw[upd_ne e]at hz;exact⟨z,hz,hm⟩
  obtain⟨z',h1,h2⟩:=key b z hz hm;obtain⟨u',h3,h4⟩:=key c u hu hm2;exact h.inj b c z' u' h1 h3 h2 h4 e
end
end
structure Ran{α:Type}(P:Program)(s:Sem α)(w:World)(a:α)(w':World)(E:Event->Prop):Prop where
 run:s.run P w= .ok a w'
 ev:∀e∈s.events P w #[],E e
section
variable{P:Program}{α β:Type}{w w' w1:World}{E:Event->Prop}
theorem Ran.pure (a:α):Ran P (Pure.pure a:Sem α) w a w E:=⟨rfl,fun e h=>by simp at h⟩
theorem Ran.bind{x:Sem α}{f:α->Sem β}{a:α}{b:β}(h:Ran P x w a w1 E)(k:Ran P (f a) w1 b w' E):Ran P (x>>=f) w b w' E:=by
 refine⟨by rw[Sem.run_bind,h.run,Result.andThen_ok,k.run],fun e he=> ?_⟩;rw[Sem.events_bind,h.run,Result.evThen_ok,Sem.events_acc]at he;exact(BC.1 he).elim (h.ev e) (k.ev e)
theorem Ran.program:Ran P program w P w E:=⟨rfl,fun e h=>by simp at h⟩
theorem Ran.typeInfo{t:TypeId}{i:TypeInfo}(h:P.info? t=some i):Ran P (typeInfo t) w i w E:=by
 refine⟨?_,fun e he=>by simp at he⟩;simp[Go.typeInfo,Go.program,Sem.run,h,Bind.bind,Sem.bind,Pure.pure]
theorem Ran.underlying{t:TypeId}{d:TypeDesc}(h:P.underlying t=some d):Ran P (underlying t) w d w E:=⟨run_underlying h w,fun e he=>by simp at he⟩
theorem ND{t:TypeId}{i:TypeInfo}(h:P.info? t=some i):Ran P (sizeOf t) w i.size w E:=Ran.bind (Ran.typeInfo h) (Ran.pure _)
theorem Ran.zeroValue{t:TypeId}{i:TypeInfo}(h:P.info? t=some i){z:Value}(hz:i.zero=some z):Ran P (zeroValue t) w z w E:=by
 unfold Go.zeroValue;refine Ran.bind (Ran.typeInfo h) ?_;rw[hz];exact Ran.pure _
theorem Ran.choose(q:Question):∃n d,Ran P (choose q) w n (w.at d) E/\n=if q.forced then 0 else q.cut (w.tape w.drawn q):=by
 by_cases h:q.forced
 ·refine⟨0,w.drawn,⟨?_,fun e he=>by simp at he⟩,by simp[h]⟩;simp[Go.choose,Sem.run,h,World.at]
 ·refine⟨q.cut (w.tape w.drawn q),w.drawn+1,⟨?_,fun e he=>by simp at he⟩,by simp[h]⟩;simp[Go.choose,Sem.run,h,World.at]
theorem Ran.mono{E':Event->Prop}{x:Sem α}{a:α}(h:Ran P x w a w' E)(k:∀e,E e->E' e):Ran P x w a w' E':=⟨h.run,fun e he=>k e (h.ev e he)⟩
theorem FE(k:IntKind)(n:Int):Ran P (asIntOf (.int k n)) w (k,n) w E:=Ran.pure _
theorem Kb(k:IntKind)(n:Int):Ran P (asInt (.int k n)) w n w E:=Ran.pure _
end
structure TI where
 d:TypeDesc
 size:Nat
 zero:Value
 bytes:Nat
 eq:Bool
def aggD:TypeDesc->Bool
 | .struct _| .array _ _=>true
 |_=>false
structure TOk(P:Program)(Γ:TypeId->Option TI):Prop where
 und:∀t i,Γ t=some i->P.underlying t=some i.d
 inf:∀t i,Γ t=some i->∃x,P.info? t=some x/\x.size=i.size/\x.bytes=i.bytes/\x.zero=some i.zero
 zero:∀t i,Γ t=some i->plainV i.zero=true/\i.zero.cells.size=i.size
 one:∀t i,Γ t=some i->aggD i.d=false->i.size=1
 eq:∀t i,Γ t=some i->i.eq=true->P.underlying t=some (.struct (P.fieldsOf t))/\P.stoodInHeld t=false/\P.eqGuardType P.depth t=false/\(P.fieldsOf t).toList.length=i.size/\∀(j:Nat) (f:Field),(P.fieldsOf t).toList[j]? =some f->f.name≠"_"/\f.offset=j/\∃k,P.underlying f.type=some (.int k)
section
variable{P:Program}{Γ:TypeId->Option TI}{t:TypeId}{i:TI}{w:World}{E:Event->Prop}
theorem TOk.rUnd (h:TOk P Γ) (ht:Γ t=some i):Ran P (underlying t) w i.d w E:=Ran.underlying (h.und t i ht)
theorem TOk.rSize(h:TOk P Γ)(ht:Γ t=some i):Ran P (sizeOf t) w i.size w E:=by
 obtain⟨x,h1,h2,_⟩:=h.inf t i ht;exact h2▸ND h1
theorem TOk.rZero(h:TOk P Γ)(ht:Γ t=some i):Ran P (zeroValue t) w i.zero w E:=by
 obtain⟨x,h1,_,_,h2⟩:=h.inf t i ht;exact Ran.zeroValue h1 h2
theorem TOk.rInfo(h:TOk P Γ)(ht:Γ t=some i):∃x,Ran P (typeInfo t) w x w E/\x.bytes=i.bytes:=by
 obtain⟨x,h1,_,h3,_⟩:=h.inf t i ht;exact⟨x,Ran.typeInfo h1,h3⟩
theorem TOk.rAgg(h:TOk P Γ)(ht:Γ t=some i):Ran P (isAgg t) w (aggD i.d) w E:=by
 unfold isAgg;refine Ran.bind (h.rUnd ht) ?_;cases i.d<;>exact Ran.pure _
end
def MS:Value->Bool
 | .int .. =>true
 |_=>false
def Xj:List Value->List Value->Option Bool
 |[],[]=>some true
 | .int k a::l,.int k' b::m=>if k=k' then(if a=b then Xj l m else some false)else none
 |_,_=>none
def Iv(Γ:TypeId->Option TI)(t:TypeId):TypeDesc:=match Γ t with
 |some i=>i.d
 |none=> .invalid
def fF(Γ:TypeId->Option TI)(t:TypeId)(x y:Value):Option Bool:=
 match Iv Γ t,x,y with
 | .bool,.bool a,.bool b=>some (a==b)
 | .pointer _,.pointer none,.pointer b=>some b.isNone
 | .pointer _,.pointer (some _),.pointer none=>some false
 | .slice _,.slice none _ _,.slice b _ _=>some b.isNone
 | .slice _,.slice (some _) _ _,.slice none _ _=>some false
 | .interface _,.nilIface,.iface _ _=>some false
 | .interface _,.iface _ _,.nilIface=>some false
 | .interface ms,.nilIface,.nilIface=>if ms.isEmpty then some true else none
 | .struct _,.agg a,.agg b=>if(Γ t).any (·.eq)&&a.toList.all MS&&b.toList.all MS&&(Γ t).map (·.size)==some a.size&&a.size==b.size then Xj a.toList b.toList else none
 |_,_,_=>none
def Cr(Γ:TypeId->Option TI)(op:BinOp)(t:TypeId):Value->Value->Option Value
 | .int k a,.int k' b=>
  match op with
  | .shl=>if 0<=b then some (.int k (k.wrap (a*2^(min b.toNat k.bits))))else none
  | .shr=>if 0<=b then some (.int k (a.fdiv (2^(min b.toNat k.bits))))else none
  |_=>if k=k' then
    match op with
    | .add=>some (.int k (k.wrap (a+b)))
    | .sub=>some (.int k (k.wrap (a - b)))
    | .mul=>some (.int k (k.wrap (a*b)))
    | .quo=>if b=0 then none else some (.int k (k.wrap (a.tdiv b)))
    | .rem=>if b=0 then none else some (.int k (a.tmod b))
    | .and=>some (.int k (k.wrap (BitVec.ofInt k.bits a&&&BitVec.ofInt k.bits b).toNat))
    | .or=>some (.int k (k.wrap (BitVec.ofInt k.bits a|||BitVec.ofInt k.bits b).toNat))
    | .xor=>some (.int k (k.wrap (BitVec.ofInt k.bits a^^^BitVec.ofInt k.bits b).toNat))
    | .eql=>some (.bool (a==b))
    | .neq=>some (.bool (a !=b))
    | .lss=>some (.bool (a<b))
    | .leq=>some (.bool (a<=b))
    | .gtr=>some (.bool (a>b))
    | .geq=>some (.bool (a >= b))
    |_=>none
   else none
 |x,y=>
  match op with
  | .eql=>(fF Γ t x y).map .bool
  | .neq=>(fF Γ t x y).map fun b=> .bool (!b)
  |_=>none
section
variable{P:Program}{Γ:TypeId->Option TI}{t:TypeId}{w:World}{E:Event->Prop}{φ:Ph}{D:Nat->Prop}
theorem Br {d:TypeDesc} (h:Iv Γ t=d) (hd:d≠ .invalid):∃i,Γ t=some i/\i.d=d:=by
 unfold Iv at h;cases hi:Γ t with
 |none=>rw[hi]at h;exact absurd h.symm hd
 |some i=>rw[hi]at h;exact⟨i,rfl,h⟩
theorem G5:∀(l:List Value),l.all MS=true->plainVl l=true
 |[],_=>rfl
 |v::l,h=>by
  simp only[List.all_cons,AA]at h;simp only[plainVl,G5 l h.2,Bool.and_true];cases v<;>simp_all [MS,plainV]
theorem Jh(d:Nat)(xs ys:Array Value):∀(fs:List Field) (o:Nat) (b:Bool),(∀(j:Nat) (f:Field),fs[j]? =some f->f.name≠"_"/\f.offset=o+j/\∃k,P.underlying f.type=some (.int k))->fs.length+o=xs.size->Xj (xs.toList.drop o) (ys.toList.drop o)=some b->
  Ran P (Op.eqFields (d+1) xs ys fs) w b w E
 |[],o,b,hf,hl,h=>by
  simp only[As,AW]at hl;have hy:ys.toList.drop o=[]:=by
   rw[Az (by simp;omega)]at h;cases hd:ys.toList.drop o with
   |nil=>rfl
   |cons v l=>rw[hd]at h;simp[Xj]at h
  rw[hy,Az (by simp;omega)]at h;simp only[Xj,AO]at h;subst h;exact Ran.pure _
 |f::fs,o,b,hf,hl,h=>by
  obtain⟨hn,ho,k,hk⟩:=hf 0 f rfl;simp only[Nat.add_zero]at ho;simp only[AY]at hl;have hx:o<xs.toList.length:=by simp;omega
  rw[A4 hx]at h;cases hy:ys.toList.drop o with
  |nil=>rw[hy]at h;cases hv:xs.toList[o]<;>rw[hv]at h<;>simp[Xj]at h
  |cons y l=>
   rw[hy]at h;have hyo:ys[o]? =some y:=by
    have: (ys.toList.drop o)[0]? =some y:=by rw[hy];rfl
    simpa using this
   have hyl:ys.toList.drop (o+1)=l:=by rw[<-List.tail_drop,hy];rfl
   cases hv:xs.toList[o]with
   |int k1 a=>
    rw[hv]at h;have hxo:xs[o]? =some (.int k1 a):=by
     have:xs.toList[o]? =some (.int k1 a):=by rw[AD hx,hv]
     simpa using this
    cases y with
    |int k2 c=>
     simp only[Xj]at h;split at h
     ·rename_i hkk;subst hkk;have hpart:∀(zs:Array Value) v,zs[o]? =some v->Ran P (part f.type zs f.offset) w v w E:=by
       intro zs v hz;unfold part;refine Ran.bind (a:=false) (w1:=w) ?_ ?_
       ·unfold isAgg;exact Ran.bind (Ran.underlying hk) (Ran.pure _)
       ·rw[ho];simp only[AP,Ab,hz];exact Ran.pure _
      have heq:Ran P (Op.equalIn (d+1) f.type (.int k1 a) (.int k1 c)) w (a==c) w E:=⟨run_equalIn_int w d f.type k1 k a c hk,fun e he=>by simp[Op.equalIn,run_underlying hk]at he⟩;unfold Op.eqFields;rw[if_pos hn];refine Ran.bind (hpart xs _ hxo) (Ran.bind (hpart ys _ hyo) (Ran.bind heq ?_));by_cases hac:a=c
      ·rw[if_pos hac]at h;simp only[hac,beq_self_eq_true,Bool.not_true,AP,Ab];refine Jh d xs ys fs (o+1) b (fun j g hg=> ?_) om (by rw[hyl];exact h);have:=hf (j+1) g (by simpa using hg);exact⟨this.1,om,this.2.2⟩
      ·rw[if_neg hac]at h;have: (a==c)=false:=by simpa using hac
       simp only[this,Bool.not_false,Ag];obtain rfl:=AC h;exact Ran.pure _
     ·cases h
    |_=>simp[Xj]at h
   |_=>rw[hv]at h;simp[Xj]at h
end
section
variable{P:Program}{Γ:TypeId->Option TI}{t:TypeId}{w:World}{E:Event->Prop}{φ:Ph}{D:Nat->Prop}
variable{v':Value}
theorem CQ {b:Bool} :vrel φ D (.bool b) v'↔v'= .bool b:=by simp only[vrel]
theorem Bb{k:IntKind}{n:Int}:vrel φ D (.int k n) v'↔v'= .int k n:=by simp only[vrel]
theorem HU{a:Option Addr}(h:vrel φ D (.pointer a) v'):∃a',v'= .pointer a'/\a'.isNone=a.isNone:=by
 cases a with
 |none=>simp only[vrel]at h;exact⟨none,h,rfl⟩
 |some a=>simp only[vrel]at h;exact⟨_,h.2.2,rfl⟩
theorem Dw{a:Option Addr}{n c:Nat}(h:vrel φ D (.slice a n c) v'):∃a' c',v'= .slice a' n c'/\a'.isNone=a.isNone:=by
 cases a with
 |none=>simp only[vrel]at h;exact⟨none,0,by rw[h.2.2,h.1],rfl⟩
 |some a=>
  simp only[vrel]at h;obtain⟨_,_,a',c',h3,_⟩:=h;exact⟨some a',c',h3,rfl⟩
theorem Jf(w:World)(es:Array Event)(d:Nat)(t:TypeId)(xs ys:Array Value)(ht:P.underlying t=some (.struct (P.fieldsOf t)))(hp:P.stoodInHeld t=false):
  (Op.equalIn (d+1) t (.agg xs) (.agg ys)).events P w es=(Op.eqFields d xs ys (P.fieldsOf t).toList).events P w es:=by
 simp only[Op.equalIn,Sem.events_bind,Sem.run_bind,run_underlying ht,events_underlying,Result.evThen_ok,Result.andThen_ok,run_program,events_program,hp,AP,Ab];rw[<-Array.forIn_toList];generalize(P.fieldsOf t).toList=fs;clear ht;induction fs generalizing w es with
 |nil=>simp[Op.eqFields]
 |cons f fs ih=>
  simp only[List.forIn_cons,Op.eqFields,Sem.events_bind,Sem.run_bind,Sem.run_ite,Sem.events_ite];split
  ·generalize(part f.type xs f.offset).run P w=r1;cases r1 with
   |ok a w1=>
    simp only[Result.andThen_ok,Result.evThen_ok];generalize(part f.type ys f.offset).run P w1=r2;cases r2 with
    |ok b w2=>
     simp only[Result.andThen_ok,Result.evThen_ok];generalize(Op.equalIn d f.type a b).run P w2=r3;cases r3 with
     |ok r w3=>
      cases r
      ·simp only[Result.andThen_ok,Result.evThen_ok,Bool.not_false,Ag,Sem.run_pure,Sem.events_pure]
      ·simp only[Result.andThen_ok,Result.evThen_ok,Bool.not_true,AP,Ab,Sem.run_pure,Sem.events_pure];exact ih _ _
     |halt x w3=>simp[Result.andThen,Result.evThen]
    |halt x w2=>simp[Result.andThen,Result.evThen]
   |halt x w1=>simp[Result.andThen,Result.evThen]
  ·simp only[Sem.run_pure,Sem.events_pure,Result.andThen_ok,Result.evThen_ok];exact ih _ _
theorem Hw(hΓ:TOk P Γ){a b a' b':Value}{r:Bool}(h:fF Γ t a b=some r)(ha:vrel φ D a a')(hb:vrel φ D b b'){op:BinOp}(hop:op= .eql\/op= .neq)(x y:Operand):
  Ran P (eqGuard op t x y a' b') w () w E/\Ran P (Op.equal t a' b') w r w E/\(∀k n k' n',¬(a'= .int k n/\b'= .int k' n'))/\binOp .eql t a' b'=(do pure (.bool (<-Op.equal t a' b')))/\binOp .neq t a' b'=(do pure (.bool (!(<-Op.equal t a' b')))):=by
 have hmd:Op.maxDepth=9999+1:=rfl;unfold fF at h;split at h
 ·rename_i a b hd;obtain⟨i,hi,hid⟩:=Br hd (by simp);obtain rfl:=CQ.1 ha;obtain rfl:=CQ.1 hb;obtain rfl:=AC h;refine⟨?_,?_,by simp,rfl,rfl⟩
  ·rcases hop with rfl|rfl<;>exact Ran.pure _
  ·unfold Op.equal;rw[hmd];unfold Op.equalIn;exact Ran.bind (hid▸hΓ.rUnd hi) (Ran.pure _)
 ·rename_i e b hd;obtain⟨i,hi,hid⟩:=Br hd (by simp);simp only[vrel]at ha;subst ha;obtain⟨b',rfl,hb'⟩:=HU hb;obtain rfl:=AC h;refine⟨?_,?_,by simp,rfl,rfl⟩
  ·rcases hop with rfl|rfl<;>exact Ran.pure _
  ·unfold Op.equal;rw[hmd];unfold Op.equalIn;rw[<-hb'];exact Ran.bind (hid▸hΓ.rUnd hi) (Ran.pure _)
 ·rename_i e a hd;obtain⟨i,hi,hid⟩:=Br hd (by simp);simp only[vrel]at hb;subst hb;obtain⟨a',rfl,ha'⟩:=HU ha;obtain rfl:=AC h;cases a' with
  |none=>cases ha'
  |some a'=>
  refine⟨?_,?_,by simp,rfl,rfl⟩
  ·rcases hop with rfl|rfl<;>exact Ran.pure _
  ·unfold Op.equal;rw[hmd];unfold Op.equalIn;exact Ran.bind (hid▸hΓ.rUnd hi) (Ran.pure _)
 ·rename_i e n c b n2 c2 hd;obtain⟨i,hi,hid⟩:=Br hd (by simp);obtain⟨a',c',rfl,ha'⟩:=Dw ha;obtain⟨b',c2',rfl,hb'⟩:=Dw hb;obtain rfl:=AC h;cases a' with
  |some a'=>cases ha'
  |none=>
  refine⟨?_,?_,by simp,rfl,rfl⟩
  ·rcases hop with rfl|rfl<;>exact Ran.pure _
  ·unfold Op.equal;rw[hmd];unfold Op.equalIn;rw[<-hb'];exact Ran.bind (hid▸hΓ.rUnd hi) (Ran.pure _)
 ·rename_i e a n c n2 c2 hd;obtain⟨i,hi,hid⟩:=Br hd (by simp);obtain⟨a',c',rfl,ha'⟩:=Dw ha;obtain⟨b',c2',rfl,hb'⟩:=Dw hb;obtain rfl:=AC h;cases a' with
  |none=>cases ha'
  |some a'=>
  cases b' with
  |some b'=>cases hb'
  |none=>
  refine⟨?_,?_,by simp,rfl,rfl⟩
  ·rcases hop with rfl|rfl<;>exact Ran.pure _
  ·unfold Op.equal;rw[hmd];unfold Op.equalIn;exact Ran.bind (hid▸hΓ.rUnd hi) (Ran.pure _)
 ·rename_i e u v hd;obtain⟨i,hi,hid⟩:=Br hd (by simp);simp only[vrel]at ha hb;subst ha;obtain⟨b'',rfl,_⟩:=hb;obtain rfl:=AC h;refine⟨?_,?_,by simp,rfl,rfl⟩
  ·rcases hop with rfl|rfl<;>exact Ran.pure _
  ·unfold Op.equal;rw[hmd];unfold Op.equalIn;exact Ran.bind (hid▸hΓ.rUnd hi) (Ran.pure _)
 ·rename_i e u v hd;obtain⟨i,hi,hid⟩:=Br hd (by simp);simp only[vrel]at ha hb;subst hb;obtain⟨a'',rfl,_⟩:=ha;obtain rfl:=AC h;refine⟨?_,?_,by simp,rfl,rfl⟩
  ·rcases hop with rfl|rfl<;>exact Ran.pure _
  ·unfold Op.equal;rw[hmd];unfold Op.equalIn;exact Ran.bind (hid▸hΓ.rUnd hi) (Ran.pure _)
 ·rename_i ms hd;obtain⟨i,hi,hid⟩:=Br hd (by simp);simp only[vrel]at ha hb;subst ha hb;split at h
  ·rename_i hms;obtain rfl:=AC h;have hg:Ran P (Op.eqGuardIn Op.maxDepth t .nilIface .nilIface) w false w E:=by
    rw[hmd];unfold Op.eqGuardIn;refine Ran.bind (hid▸hΓ.rUnd hi) ?_;simp only[hms];exact Ran.pure _
   refine⟨?_,?_,by simp,rfl,rfl⟩
   ·have:Ran P (do if<-Op.eqGuardIn Op.maxDepth t .nilIface .nilIface then unsupported (.noEntry "binop/eql: two nil values of an interface type with methods, neither of them the literal nil"):Sem Unit) w () w E:=Ran.bind hg (Ran.pure _);have h2:Ran P (if(x matches .const _)||(y matches .const _)then Pure.pure ()else(do if<-Op.eqGuardIn Op.maxDepth t .nilIface .nilIface then unsupported (.noEntry "binop/eql: two nil values of an interface type with methods, neither of them the literal nil"):Sem Unit)) w () w E:=by
     cases x<;>cases y<;>first|exact Ran.pure _|exact this
    rcases hop with rfl|rfl<;>exact h2
   ·unfold Op.equal;rw[hmd];unfold Op.equalIn;exact Ran.bind (hid▸hΓ.rUnd hi) (Ran.pure _)
  ·cases h
 ·rename_i fs a b hd;split at h
  ·rename_i hc;simp only[AA,beq_iff_eq]at hc;obtain⟨⟨⟨⟨h1,h2⟩,h3⟩,h4⟩,h5⟩:=hc;obtain⟨i,hi,hid⟩:=Br hd (by simp);rw[hi]at h1 h4;simp only[Option.any_some]at h1;simp only[AU,AO]at h4;obtain⟨e1,e2,e3,e4,e5⟩:=hΓ.eq t i hi h1;have pa:plainV (.agg a)=true:=by obtain⟨l⟩:=a;simp only[plainV,C1];exact G5 l h2
   have pb:plainV (.agg b)=true:=by obtain⟨l⟩:=b;simp only[plainV,C1];exact G5 l h3
   obtain rfl:=(Bi _ _ pa).1 ha;obtain rfl:=(Bi _ _ pb).1 hb;refine⟨?_,?_,by simp,rfl,rfl⟩
   ·refine⟨run_eqGuard_agg w op t x y a b e3,fun e he=> ?_⟩;rcases hop with rfl|rfl<;>simp[eqGuard,e3,Go.program,Sem.run,Sem.events,Sem.runT,Bind.bind,Sem.bind,Pure.pure]at he
   ·have hr:=Jh (w:=w) (P:=P) (E:=E) 9998 a b (P.fieldsOf t).toList 0 r (fun j g hg=>by have:=e5 j g hg;exact⟨this.1,om,this.2.2⟩) om (by simpa using h);refine⟨?_,?_⟩
    ·unfold Op.equal;rw[hmd,run_equalIn_struct w 9999 t a b e1 e2];exact hr.run
    ·unfold Op.equal;rw[hmd,Jf w #[] 9999 t a b e1 e2];exact hr.ev
  ·cases h
 ·cases h
end
def fD(op:UnOp):Value->Option Value
 | .int k n=>match op with
  | .neg=>some (.int k (k.wrap (0 - n)))
  | .xor=>some (.int k (k.wrap (BitVec.ofInt k.bits (if k.signed then -1 else k.max)^^^BitVec.ofInt k.bits n).toNat))
  |_=>none
 | .bool b=>match op with
  | .not=>some (.bool !b)
  |_=>none
 |_=>none
def Ut(Γ:TypeId->Option TI)(t:TypeId)(cs:Array Value)(off:Nat):Option Value:=
 match Γ t with
 |some i=>if aggD i.d then some (.agg (cs.extract off (off+i.size)))else cs[off]?
 |none=>none
def KA(Γ:TypeId->Option TI)(t:TypeId)(f:Nat)(v:Value):Option Value:=
 match Iv Γ t,v with
 | .struct fs,.agg cs=>match fs[f]? with
  |some g=>Ut Γ g.type cs g.offset
  |none=>none
 |_,_=>none
def DW(Γ:TypeId->Option TI)(t:TypeId)(f:Nat)(v:Value):Option Value:=
 match Iv Γ t,v with
 | .struct fs,.pointer (some p)=>match fs[f]? with
  |some g=>match Γ g.type with
   |some i=>if i.size=0 then none else some (.pointer (some (p.add g.offset)))
   |none=>none
  |none=>none
 |_,_=>none
def Bg(Γ:TypeId->Option TI)(t:TypeId)(v ix:Value):Option Value:=
 match Iv Γ t,v,ix with
 | .slice e,.slice (some p) n _,.int _ i=>match Γ e with
  |some q=>if 0<=i/\i<n then some (.pointer (some (p.add (i.toNat*q.size))))else none
  |none=>none
 | .array n e,.pointer (some p),.int _ i=>match Γ e with
  |some q=>if 0<=i/\i<n then some (.pointer (some (p.add (i.toNat*q.size))))else none
  |none=>none
 |_,_,_=>none
def Ha(Γ:TypeId->Option TI)(t:TypeId)(v ix:Value):Option Value:=
 match Iv Γ t,v,ix with
 | .array n e,.agg cs,.int _ i=>match Γ e with
  |some q=>if 0<=i/\i<n then Ut Γ e cs (i.toNat*q.size)else none
  |none=>none
 | .string,.string s,.int _ i=>if 0<=i then(s.data.toList[i.toNat]?).map fun b=> .int .u8 b.toNat else none
 |_,_,_=>none
def HO:Option Value->Nat->Option Nat
 |none,d=>some d
 |some (.int _ i),_=>if 0<=i then some i.toNat else none
 |some _,_=>none
def Ls(c l:Nat):Nat:=if c<CJ then c - l else c
def Gx(Γ:TypeId->Option TI)(t:TypeId)(v:Value)(lo hi mx:Option Value):Option Value:=
 match Iv Γ t,v with
 | .slice e,.slice a n c=>match Γ e,HO lo 0,HO hi n with
  |some q,some l,some h=>
   if h<=n/\l<=h/\(CJ<=c->c<i5->c=CJ+q.size)/\(c<CJ->n<=c)then
    match mx with
    |none=>some (.slice (a.map (·.add (l*q.size))) (h - l) (Ls c l))
    |some v=>match HO (some v) 0 with
     |some m=>if hi≠none/\h<=m/\m<=n/\m<CJ then some (.slice (a.map (·.add (l*q.size))) (h - l) (m - l))else none
     |none=>none
   else none
  |_,_,_=>none
 |_,_=>none
def lJ(Γ:TypeId->Option TI)(fs:Array Field)(k:Nat):Option (Nat×Nat):=match fs[k]? with
 |some f=>(Γ f.type).map fun q=>(f.offset,q.size)
 |none=>none
def B9(Γ:TypeId->Option TI)(t:TypeId)(ps:List (Nat×Value)):Option Value:=
 match Γ t with
 |some i=>match i.d with
  | .struct fs=>(Instr.fill (lJ Γ fs) i.zero.cells ps).map .agg
  | .array _ e=>match Γ e with
   |some q=>(Instr.fill (fun k=>some (k*q.size,q.size)) i.zero.cells ps).map .agg
   |none=>none
  |_=>none
 |none=>none
def Ii(f:Int->Int->Int):List Value->Option Value
 |[.int k x]=>some (.int k x)
 | .int k x:: .int _ y::l=>Ii f (.int k (f x y)::l)
 |_=>none
termination_by l=>l.length
def Fh(Γ:TypeId->Option TI)(b:Builtin)(ts:Array TypeId)(vs:List Value):Option Value:=
 match b with
 | .len=>match ts[0]?,vs with
  |some t,.slice _ n _::_=>match Iv Γ t with
   | .slice _=>some (.int .i64 n)
   |_=>none
  |_,_=>none
 | .min=>Ii (fun x y=>if y<x then y else x) vs
 | .max=>Ii (fun x y=>if y>x then y else x) vs
 |_=>none
def GB(Γ:TypeId->Option TI)(ev:Operand->Value):Op->Option Value
 | .move x| .assign x=>some (ev x)
 | .pick c a b=>match ev c with
  | .bool t=>some (if t then ev a else ev b)
  |_=>none
 | .build t ps=>B9 Γ t (ps.toList.map fun p=>(p.1,ev p.2))
 | .nilCheck x=>match ev x with
  | .pointer (some _)| .func (.func _) _ _| .iface _ _=>some (ev x)
  |_=>none
 | .binOp op t x y _=>Cr Γ op t (ev x) (ev y)
 | .unOp op _ x=>fD op (ev x)
 | .convert s d x=>match Iv Γ s,Iv Γ d,ev x with
  | .int _,.int k,.int _ n=>some (.int k (k.wrap n))
  |_,_,_=>none
 | .makeInterface t x=>match Iv Γ t with
  | .interface _| .invalid=>none
  |_=>some (.iface t (ev x))
 | .makeFunc (.func f) x c=>some (.func (.func f) (x.map ev) (c.map ev))
 | .slice t x lo hi mx=>Gx Γ t (ev x) (lo.map ev) (hi.map ev) (mx.map ev)
 | .fieldAddr t x f=>DW Γ t f (ev x)
 | .field t x f=>KA Γ t f (ev x)
 | .indexAddr t x i=>Bg Γ t (ev x) (ev i)
 | .index t x i=>Ha Γ t (ev x) (ev i)
 | .extract x i=>match ev x with
  | .tuple vs=>vs[i]?
  |_=>none
 | .call {callee:= .builtin b,args,argTypes}=>Fh Γ b argTypes (args.toList.map ev)
 |_=>none
section
variable{P:Program}{Γ:TypeId->Option TI}{t:TypeId}{w:World}{E:Event->Prop}{φ:Ph}{D:Nat->Prop}
theorem TOk.rD {i:TI} {d:TypeDesc} (h:TOk P Γ) (ht:Γ t=some i) (hd:i.d=d):Ran P (underlying t) w d w E:=hd▸h.rUnd ht
theorem Pq(φ:Ph){p:Addr}(n:Nat)(h:p.spot=none): (φ.ad p).add n=φ.ad (p.add n):=by
 obtain⟨b,o,s⟩:=p;subst h;unfold Addr.add Ph.ad;by_cases hn:n=0
 ·simp[hn]
 ·simp[hn];omega
theorem Gm{p:Addr}(n:Nat)(h:p.spot=none): (p.add n).spot=none:=by unfold Addr.add;split<;>simp[h]
theorem Et{p:Addr}(n:Nat): (p.add n).block=p.block:=by unfold Addr.add;split<;>rfl
theorem iN{p:Addr}(n:Nat): (p.add n).off=p.off+n:=by unfold Addr.add;split<;>simp_all
variable{ix ix' v' x x':Value}
theorem HV{p:Addr}:vrel φ D (.pointer (some p)) v'↔D p.block/\p.spot=none/\v'= .pointer (some (φ.ad p)):=by simp only[vrel]
theorem J3{p:Addr}(n:Nat)(h:D p.block)(hs:p.spot=none):vrel φ D (.pointer (some (p.add n))) (.pointer (some ((φ.ad p).add n))):=by
 rw[HV];exact⟨by rw[Et];exact h,Gm n hs,by rw[Pq φ n hs]⟩
variable{cs cs':Array Value}
theorem Dh:vrel φ D (.agg cs) v'↔∃cs',v'= .agg cs'/\B3 φ D cs cs':=by simp only[vrel]
theorem NK(h:B3 φ D cs cs')(i j:Nat):B3 φ D (cs.extract i j) (cs'.extract i j):=by
 rw[DF]at h⊢;refine⟨by simp[h.1],fun k v hk=> ?_⟩;rw[Array.getElem?_extract]at hk⊢;rw[h.1];split at hk
 ·rename_i hlt;rw[if_pos hlt];exact h.2 _ v hk
 ·cases hk
theorem Km(hΓ:TOk P Γ){off:Nat}{v:Value}(h:Ut Γ t cs off=some v)(hc:B3 φ D cs cs'):∃v',Ran P (part t cs' off) w v' w E/\vrel φ D v v':=by
 unfold Ut at h;split at h
 ·rename_i i hi;unfold part;by_cases ha:aggD i.d
  ·rw[if_pos ha]at h;obtain rfl:=AC h;refine⟨.agg (cs'.extract off (off+i.size)),Ran.bind (hΓ.rAgg hi) ?_,Dh.2 ⟨_,rfl,NK hc _ _⟩⟩;rw[if_pos ha];exact Ran.bind (hΓ.rSize hi) (Ran.pure _)
  ·rw[if_neg ha]at h;obtain⟨v',h1,h2⟩:=((DF _ _).1 hc).2 off v h;refine⟨v',Ran.bind (hΓ.rAgg hi) ?_,h2⟩;rw[if_neg ha,h1];exact Ran.pure _
 ·cases h
theorem O7(hΓ:TOk P Γ){f:Nat}{v:Value}(h:KA Γ t f x=some v)(hx:vrel φ D x x'):∃v',Ran P (Instr.field t x' f) w v' w E/\vrel φ D v v':=by
 unfold KA at h;split at h
 ·rename_i fs cs hd;obtain⟨i,hi,hid⟩:=Br hd (by simp);obtain⟨cs',rfl,hc⟩:=Dh.1 hx;split at h
  ·rename_i g hg;obtain⟨v',h1,h2⟩:=Km (P:=P) (w:=w) (E:=E) hΓ h hc;refine⟨v',?_,h2⟩;unfold Instr.field;refine Ran.bind (hΓ.rD hi hid) ?_;simp only[hg];exact Ran.bind (Ran.pure _) h1
  ·cases h
 ·cases h
theorem J9(hΓ:TOk P Γ){f:Nat}{v:Value}(h:DW Γ t f x=some v)(hx:vrel φ D x x'):∃v',Ran P (Instr.fieldAt t x' f) w v' w E/\vrel φ D v v':=by
 unfold DW at h;split at h
 ·rename_i fs p hd;obtain⟨i,hi,hid⟩:=Br hd (by simp);obtain⟨h1,h2,rfl⟩:=HV.1 hx;split at h
  ·rename_i g hg;split at h
   ·rename_i q hq;split at h
    ·cases h
    ·rename_i hz;obtain rfl:=AC h;refine⟨_,?_,J3 _ h1 h2⟩;unfold Instr.fieldAt;refine Ran.bind (hΓ.rD hi hid) ?_;simp only[hg];refine Ran.bind (a:=φ.ad p) (Ran.pure _) (Ran.bind (a:=(φ.ad p).add g.offset) ?_ (Ran.pure _));unfold fieldPlace;refine Ran.bind (hΓ.rSize hq) ?_;rw[if_neg hz];exact Ran.pure _
   ·cases h
  ·cases h
 ·cases h
theorem Cj{p:Addr}{n c:Nat}:vrel φ D (.slice (some p) n c) v'↔D p.block/\p.spot=none/\∃a' c',v'= .slice (some a') n c'/\a'.spot=none/\(a'=φ.ad p\/c'=0)/\n<=c'/\Rb φ p c c':=by simp only[vrel]
theorem J8(hΓ:TOk P Γ){v:Value}(h:Bg Γ t x ix=some v)(hx:vrel φ D x x')(hix:vrel φ D ix ix'):∃v',Ran P (Instr.indexAt t x' ix') w v' w E/\vrel φ D v v':=by
 unfold Bg at h;split at h
 ·rename_i e p n c k i hd;obtain⟨j,hj,hjd⟩:=Br hd (by simp);obtain⟨h1,h2,a',c',rfl,h3,h4,h5,h6⟩:=Cj.1 hx;obtain rfl:=Bb.1 hix;split at h
  ·rename_i q hq;split at h
   ·rename_i hi;obtain rfl:=AC h;have ha:a'=φ.ad p:=h4.resolve_right om;subst ha;refine⟨_,?_,J3 _ h1 h2⟩;unfold Instr.indexAt;refine Ran.bind (FE k i) ?_;dsimp only;refine Ran.bind (hΓ.rD hj hjd) ?_;dsimp only;refine Ran.bind (Ran.pure _) ?_;dsimp only;refine Ran.bind (hΓ.rD hj hjd) ?_;simp only[hi,and_self,Ag];exact Ran.bind (hΓ.rSize hq) (Ran.pure _)
   ·cases h
  ·cases h
 ·rename_i n e p k i hd;obtain⟨j,hj,hjd⟩:=Br hd (by simp);obtain⟨h1,h2,rfl⟩:=HV.1 hx;obtain rfl:=Bb.1 hix;split at h
  ·rename_i q hq;split at h
   ·rename_i hi;obtain rfl:=AC h;refine⟨_,?_,J3 _ h1 h2⟩;unfold Instr.indexAt;refine Ran.bind (FE k i) ?_;dsimp only;refine Ran.bind (hΓ.rD hj hjd) ?_;dsimp only;refine Ran.bind (a:=φ.ad p) (Ran.pure _) ?_;refine Ran.bind (Ran.pure _) ?_;dsimp only;refine Ran.bind (hΓ.rD hj hjd) ?_;simp only[hi,and_self,Ag];exact Ran.bind (hΓ.rSize hq) (Ran.pure _)
   ·cases h
  ·cases h
 ·cases h
theorem O6(hΓ:TOk P Γ){v:Value}(h:Ha Γ t x ix=some v)(hx:vrel φ D x x')(hix:vrel φ D ix ix'):∃v',Ran P (Instr.index t x' ix') w v' w E/\vrel φ D v v':=by
 unfold Ha at h;split at h
 ·rename_i n e cs k i hd;obtain⟨j,hj,hjd⟩:=Br hd (by simp);obtain⟨cs',rfl,hc⟩:=Dh.1 hx;obtain rfl:=Bb.1 hix;split at h
  ·rename_i q hq;split at h
   ·rename_i hi;obtain⟨v',h1,h2⟩:=Km (P:=P) (w:=w) (E:=E) hΓ h hc;refine⟨v',?_,h2⟩;unfold Instr.index;refine Ran.bind (FE k i) (Ran.bind (hΓ.rD hj hjd) ?_);simp only[hi,and_self,Ag];exact Ran.bind (hΓ.rSize hq) h1
   ·cases h
  ·cases h
 ·rename_i s k i hd;obtain⟨j,hj,hjd⟩:=Br hd (by simp);obtain rfl:=Bb.1 hix;obtain rfl:x'= .string s:=by simpa only[vrel]using hx
  split at h
  ·rename_i hi;obtain⟨b,hb,rfl⟩:=AZ.1 h;refine⟨_,?_,Bb.2 rfl⟩;unfold Instr.index;refine Ran.bind (FE k i) (Ran.bind (hΓ.rD hj hjd) ?_);have hb':s[i.toNat]? =some b:=by
    have h1:i.toNat<s.data.toList.length:=(Ah.1 hb).1;have h2:i.toNat<s.size:=by simpa using h1
    rw[getElem?_pos s i.toNat h2];have:=(Ah.1 hb).2;exact congrArg some (by rw[<-this];rfl)
   simp only[hi,Ag,hb'];exact Ran.pure _
  ·cases h
 ·cases h
def Ze(φ:Ph)(D:Nat->Prop):Option Value->Option Value->Prop
 |none,o=>o=none
 |some v,o=>∃v',o=some v'/\vrel φ D v v'
theorem LM{lo lo':Option Value}{d l:Nat}(h:HO lo d=some l)(k:Ze φ D lo lo'):lo'=lo:=by
 cases lo with
 |none=>exact k
 |some v=>
  obtain⟨v',rfl,hv⟩:=k;cases v<;>simp only[HO]at h<;>first|cases h|skip
  rw[Bb.1 hv]
theorem Co{v:Value}{y l d:Nat}{code:BoundsCode}(h:HO (some v) d=some l)(hl:l<=y):Ran P (Instr.sliceBound v y code) w l w E:=by
 cases v<;>simp only[HO]at h<;>first|cases h|skip
 rename_i k i;split at h
 ·rename_i hi;obtain rfl:=AC h;unfold Instr.sliceBound;refine Ran.bind (FE k i) ?_;have:0<=i/\i<=(y:Int):=⟨hi,om⟩;dsimp only;rw[if_pos this];exact Ran.pure _
 ·cases h
theorem Dy{lo hi mx:Option Value}{n c l h m:Nat}(hl:HO lo 0=some l)(hh:HO hi n=some h)(hlh:l<=h)(hm:match mx with|none=>m=c/\h<=c|some v=>HO (some v) 0=some m/\m<=c/\h<=m/\hi≠none):Ran P (Instr.sliceBounds true n c lo hi mx) w (l,h,m) w E:=by
 unfold Instr.sliceBounds;cases mx with
 |none=>
  obtain⟨rfl,hc⟩:=hm;dsimp only;refine Ran.bind (Ran.pure _) ?_;cases hi with
  |none=>
   dsimp only;simp only[HO,AO]at hh;subst hh;refine Ran.bind (Ran.pure _) ?_;cases lo with
   |none=>
    simp only[HO,AO]at hl;subst hl;exact Ran.bind (Ran.pure _) (Ran.pure _)
   |some v=>exact Ran.bind (Co hl hlh) (Ran.pure _)
  |some u=>
   dsimp only;refine Ran.bind (Co hh hc) ?_;cases lo with
   |none=>
    simp only[HO,AO]at hl;subst hl;exact Ran.bind (Ran.pure _) (Ran.pure _)
   |some v=>exact Ran.bind (Co hl hlh) (Ran.pure _)
 |some q=>
  obtain⟨h1,h2,h3,h4⟩:=hm;dsimp only;refine Ran.bind (Co h1 h2) ?_;cases hi with
  |none=>exact absurd rfl h4
  |some u=>
   dsimp only;refine Ran.bind (Co hh h3) ?_;cases lo with
   |none=>
    simp only[HO,AO]at hl;subst hl;exact Ran.bind (Ran.pure _) (Ran.pure _)
   |some v=>exact Ran.bind (Co hl hlh) (Ran.pure _)
theorem Oq{lo hi mx:Option Value}{e:TypeId}{a:Option Addr}{n c l h m:Nat}{i q:TI}(hΓ:TOk P Γ)(ht:Γ t=some i)(hd:i.d= .slice e)(hq:Γ e=some q)(hb:Ran P (Instr.sliceBounds true n c lo hi mx) w (l,h,m) w E):
  Ran P (Instr.sliceAt t (.slice a n c) lo hi mx) w (.slice (if m=l then a else a.map (·.add (l*q.size))) (h - l) (m - l)) w E:=by
 unfold Instr.sliceAt;refine Ran.bind (hΓ.rD ht hd) ?_;dsimp only;unfold Instr.slice;refine Ran.bind (hΓ.rD ht hd) ?_;dsimp only;refine Ran.bind hb ?_;exact Ran.bind (hΓ.rSize hq) (Ran.pure _)
theorem O5(hΓ:TOk P Γ){v:Value}{lo hi mx lo' hi' mx':Option Value}(h:Gx Γ t x lo hi mx=some v)(hx:vrel φ D x x')(h1:Ze φ D lo lo')(h2:Ze φ D hi hi')(h3:Ze φ D mx mx'):∃v',Ran P (Instr.sliceAt t x' lo' hi' mx') w v' w E/\vrel φ D v v':=by
 unfold Gx at h;split at h;case h_2=>cases h
 rename_i e a n c hd;obtain⟨i,hi,hid⟩:=Br hd (by simp);split at h;case h_2=>cases h
 rename_i q l hh hq hl hhi;split at h;case isFalse=>cases h
 rename_i hc;obtain⟨c1,c2,c3,c4⟩:=hc;obtain rfl:=LM hl h1;obtain rfl:=LM hhi h2;cases a with
 |none=>
  simp only[vrel]at hx;obtain⟨rfl,rfl,rfl⟩:=hx;have e1:hh=0:=om;have e2:l=0:=om;subst e1 e2;cases mx with
  |none=>
   cases h3
   dsimp only at h;obtain rfl:=AC h;refine⟨_,Oq hΓ hi hid hq (Dy (m:=0) hl hhi (AH _) ⟨rfl,AH _⟩),?_⟩;simp[vrel,Ls]
  |some m0=>
   obtain⟨m',rfl,hm⟩:=h3;dsimp only at h;split at h;case h_2=>cases h
   rename_i m hm2;have:m'=m0:=by have:=LM (lo:=some m0) (lo':=some m') hm2 ⟨m',rfl,hm⟩;exact AC this
   subst this;split at h;case isFalse=>cases h
   rename_i hmm;obtain rfl:=AC h;have:m=0:=om;subst this;refine⟨_,Oq hΓ hi hid hq (Dy (m:=0) hl hhi (AH _) ⟨hm2,AH _,AH _,hmm.1⟩),?_⟩;simp[vrel]
 |some p=>
  obtain⟨d1,d2,a',c',rfl,d3,d4,d5,d6⟩:=Cj.1 hx;cases mx with
  |none=>
   cases h3
   dsimp only at h;obtain rfl:=AC h;refine⟨_,Oq hΓ hi hid hq (Dy (m:=c') hl hhi c2 ⟨rfl,om⟩),?_⟩;rw[AU,Cj];refine⟨by rw[Et];exact d1,Gm _ d2,?_⟩;have hcap:Rb φ (p.add (l*q.size)) (Ls c l) (c' - l):=by
    unfold Ls;refine⟨fun g=> ?_,fun g1 g2=> ?_⟩
    ·split at g
     ·rename_i g3;rw[if_pos g3,d6.1 g3]
     ·exact absurd g (by assumption)
    ·split at g1
     ·rename_i g3;omega
     ·rename_i g3;rw[if_neg g3]at g2⊢;have g4:=d6.2 om g2;rw[c3 om g2,Nat.add_sub_cancel_left]at g4⊢;rw[iN,Et];have:l*q.size+(c' - l)*q.size=c'*q.size:=by rw[<-Nat.add_mul];congr 1;omega
      omega
   by_cases hml:c'=l
   ·refine⟨a',0,?_,d3,.inr rfl,om,?_⟩
    ·rw[if_pos hml,hml,Nat.sub_self]
    ·have:=hcap;rw[hml,Nat.sub_self]at this;exact this
   ·refine⟨a'.add (l*q.size),c' - l,?_,Gm _ d3,?_,om,hcap⟩
    ·rw[if_neg hml,AU]
    ·rcases d4 with rfl|d4
     ·exact .inl (Pq φ _ d2)
     ·exact .inr om
  |some m0=>
   obtain⟨m',rfl,hm⟩:=h3;dsimp only at h;split at h;case h_2=>cases h
   rename_i m hm2;have:m'=m0:=by have:=LM (lo:=some m0) (lo':=some m') hm2 ⟨m',rfl,hm⟩;exact AC this
   subst this;split at h;case isFalse=>cases h
   rename_i hmm;obtain rfl:=AC h;refine⟨_,Oq hΓ hi hid hq (Dy (m:=m) hl hhi c2 ⟨hm2,om,hmm.2.1,hmm.1⟩),?_⟩;rw[AU,Cj];refine⟨by rw[Et];exact d1,Gm _ d2,?_⟩;have hcap:Rb φ (p.add (l*q.size)) (m - l) (m - l):=⟨fun _=>rfl,fun g2=>om⟩;by_cases hml:m=l
   ·refine⟨a',0,?_,d3,.inr rfl,om,?_⟩
    ·rw[if_pos hml,hml,Nat.sub_self]
    ·have:=hcap;rw[hml,Nat.sub_self]at this⊢;exact this
   ·refine⟨a'.add (l*q.size),m - l,?_,Gm _ d3,?_,om,hcap⟩
    ·rw[if_neg hml,AU]
    ·rcases d4 with rfl|d4
     ·exact .inl (Pq φ _ d2)
     ·exact .inr om
end
end
end Go.Proofs.YtjlallgaadmeaaaGreatDoor
