/- Parts of the proof, joined: FD FE FG FH FI FJ FL FM FN KM KD KE KF. Conditions: none. -/
import Derived.Test.YtjlallgaadmeaaaGreatDoorM02
import Derived.Test.YtjlallgaadmeaaaGreatDoorChecked
import Derived.Test.YtjlallgaadmeaaaGreatDoorProg
import Derived.KernelRfl
import Derived.Conc.FxGenLone
import Derived.Conc.FxGenDone
import Derived.Conc.FxGenWait
set_option linter.unusedVariables false
set_option linter.unusedSimpArgs false
set_option linter.unusedSectionVars false
set_option maxRecDepth 100000
namespace Go.Proofs.YtjlallgaadmeaaaGreatDoor
section
open Go.Conc
variable[Md]
def SC(P:Program)(C:RC):Prop:=∀top c f h ex f' h',C top c f h=some (ex,f',h')->GoodC P c->EHok P h->WC P top c (fun e A H=>e=ex/\A=f'.A/\H=h'.m.get) f.A h.m.get/\EHok P h'/\Lg h h'
def SG(P:Program)(g:FuncId)(F:List Value->EH->Option (Value×EH)):Prop:=∀args h v h',F args h=some (v,h')->EHok P h->Ee P g args (fun u H=>u=v/\H=h'.m.get) h.m.get/\EHok P h'/\Lg h h'
def SF(P:Program)(F:RF):Prop:=∀g,SG P g (F g)
structure EnvOk(P:Program)(E:Env):Prop where
 ty:TOk P E.ty
 fo:FOk P E.ty
 mix:P.follows .mixedOrders=true
 rfr:P.follows .rangeFuncRecover=true
 code:∀g n rs c,E.code g=some (n,rs,c)->∃fn:Func,P.funcs[g]? =some fn/\fn.body=some c/\fn.ntmps=n/\fn.results.toList=rs/\(fn.name=="runtime.NumGoroutine")=false/\GoodC P c
 ext:∀g vs v,E.ext g vs=some v->∃(fn:Func) (e:Array Value->Sem Value),P.funcs[g]? =some fn/\fn.body=none/\(fn.name=="runtime.NumGoroutine")=false/\Extern.findNext fn=none/\Extern.find fn=some e/\plainVl vs=true/\plainV v=true/\∀w E',Ran P (e vs.toArray) w v w E'
 ord:∀g o,E.ord g=some o->SG P g o
section
variable{P:Program}{E:Env}{C:RC}{F:RF}
variable{o:Oper}{args:List Operand}{ats:Array TypeId}{h h':EH}
theorem Ov (hC:SC P C)  {x:Operand}   {ev:Operand->Value} {l:Nat} (hop:o.op= .call {callee:= .value x,args:=⟨args⟩,argTypes:=ats}) (hx:ev x= .func (.yield l) #[] #[])  {v:Value} (he:SU C l (args.map ev) h=some (v,h')) (hh:EHok P h):
  WOp P o (fun u H=>u=v/\H=h'.m.get) ev h.m.get/\EHok P h'/\Lg h h':=by
 unfold SU at he;split at he
 ·rename_i lp hl;cases hc:Nat.beq (args.map ev).length lp.params.size with
  |false=>rw[hc]at he;cases he
  |true=>
   rw[hc]at he;simp only[cond_true]at he;split at he
   ·rename_i f1 h1 hc1;split at he
    ·rename_i lp1 hl1;split at he
     ·rename_i hst;split at he
      ·rename_i ex f2 h3 hc2;split at he
       ·rename_i lp3 hl3;cases he
        obtain⟨g1,g2⟩:=hh.lp l lp hl;obtain⟨w1,k1,l1⟩:=hC _ _ _ _ _ _ _ hc1 g1 hh;obtain⟨g3,g4⟩:=k1.lp l lp1 hl1;obtain⟨k2,l2⟩:=Eu k1 l (.lp {lp1 with state:= .busy}) (fun l' hl'=>by cases hl';exact⟨g3,g4⟩);obtain⟨k3,k4⟩:=hh.lp l lp hl;by_cases hb:GoodC P lp.body
        ·obtain⟨w2,k5,l5⟩:=hC _ _ _ _ _ _ _ hc2 hb k2;obtain⟨g5,g6⟩:=k5.lp l lp3 hl3;obtain⟨k6,l6⟩:=Eu k5 l (.lp {lp3 with state:=if Cg ex then .ready else .done,pending:=DN ex}) (fun l' hl'=>by cases hl';exact⟨g5,g6⟩);refine⟨?_,k6,l1.trans (l2.trans (l5.trans l6))⟩;refine WOp.yield hop hx hl (by have:=AE hc;simpa using this) ?_;have hA: (⟨lp.n,lp.t,JH lp.n (lp.params.toList.zip (args.map ev)) .lf,[]⟩:EF).A=⟨lp.n,Em lp.n (lp.params.toList.zip (args.map ev)) lp.t,[]⟩:=by
          unfold EF.A;dsimp only;rw[Kn];congr 1;congr 1;funext i;rw[Mp.get_lf];rfl
         rw[hA]at w1;refine WC.mono w1 fun ex0 A0 H0 q=> ?_
         obtain⟨rfl,rfl,rfl⟩:=q;refine⟨rfl,lp1,hl1,hst,?_⟩;rw[EH.put_get]at w2;refine WC.mono w2 fun ex0 A0 H0 q=> ?_
         obtain⟨rfl,rfl,rfl⟩:=q;exact⟨lp3,hl3,rfl,by rw[EH.put_get]⟩
        ·exact absurd g2 hb
       ·cases he
      ·cases he
     ·cases he
    ·cases he
   ·cases he
 ·cases he
theorem Lc{α:Type}{a:Array α}(h:a.toList.isEmpty=true):a= #[]:=by
 cases a with
 |mk l=>cases l with
  |nil=>rfl
  |cons x r=>cases h
theorem Re(hE:EnvOk P E)(hC:SC P C)(hF:SF P F){x:Operand}{ev:Operand->Value}(hop:o.op= .call {callee:= .value x,args:=⟨args⟩,argTypes:=ats}){v:Value}(he:bQ E C F x args ev h=some (v,h'))(hh:EHok P h):
  WOp P o (fun u H=>u=v/\H=h'.m.get) ev h.m.get/\EHok P h'/\Lg h h':=by
 unfold bQ kG at he;split at he
 ·rename_i g first cap hx
  unfold kI at he;split at he
  ·rename_i d hd;obtain⟨n,rs,c⟩:=d;obtain⟨fn,h1,h2,h3,h4,h5,h6⟩:=hE.code g n rs c hd;obtain⟨w1,k1,l1⟩:=hF g _ _ _ _ he hh;exact⟨WOp.call hop hx h1 h2 h5 w1,k1,l1⟩
  ·rename_i hd;cases hc:first.toList.isEmpty&&cap.toList.isEmpty with
   |false=>rw[hc]at he;cases he
   |true=>
    rw[hc]at he;unfold sM at he;dsimp only at he;obtain⟨u,hu,he⟩:=AZ.1 he;cases he
    simp only[AA]at hc;obtain rfl:=Lc hc.1;obtain rfl:=Lc hc.2;obtain⟨fn,e,h1,h2,h3,h4,h5,h6,h7,h8⟩:=hE.ext _ _ _ hu;exact⟨WOp.extern hop hx h1 h2 h3 h4 h5 h6 h7 h8 ⟨rfl,rfl⟩,hh,Lg.refl h⟩
 ·rename_i l first cap hx
  cases hc:first.toList.isEmpty&&cap.toList.isEmpty with
  |false=>rw[hc]at he;cases he
  |true=>
   rw[hc]at he;unfold kD at he;dsimp only at he;simp only[AA]at hc;obtain rfl:=Lc hc.1;obtain rfl:=Lc hc.2;exact Ov hC hop hx he hh
 ·cases he
theorem OQ(hE:EnvOk P E)(hC:SC P C)(hF:SF P F){k:OB}(hk:En E.ty o.op=k){ev:Operand->Value}{v:Value}(he:uN E C F k ev h=some (v,h'))(hh:EHok P h):
  WOp P o (fun u H=>u=v/\H=h'.m.get) ev h.m.get/\EHok P h'/\Lg h h':=by
 unfold uN at he;split at he
 ·rename_i g;unfold sU at he;split at he
  ·rename_i u hu;cases he
   refine⟨WOp.hop hE.ty hE.fo (hh.fin h.n (AH _)) (δ:=[]) (v:=v) ?_ ⟨rfl,rfl⟩,hh,Lg.refl h⟩;rw[Sw hk,hu];rfl
  ·cases he
 ·rename_i g;rw[force_eq]at he;unfold sW at he;split at he
  ·rename_i u δ hu;unfold sV at he;split at he
   ·rename_i hlp;cases he
    obtain⟨k1,l1⟩:=Gp δ hh fun x hm l hl=>by
     have:=AS.1 hlp x hm;rw[hl]at this;cases this
    refine⟨WOp.hop hE.ty hE.fo (hh.fin h.n (AH _)) (δ:=δ) (v:=v) ?_ ⟨rfl,(Ev δ h).symm⟩,k1,l1⟩;rw[nC hk,hu]
   ·cases he
  ·cases he
 ·rename_i x args;obtain⟨ats,hop⟩:=nE hk;exact Re hE hC hF hop he hh
 ·obtain⟨ats,hop⟩:=gG hk;cases he
  exact⟨WOp.recover hE.rfr hop ⟨rfl,rfl⟩,hh,Lg.refl h⟩
 ·cases he
theorem N2{ops:Array Oper}(h:IT ops=true){i:Nat}(ho:ops[i]? =some o):∀x∈o.op.operands,okX x=true:=by
 unfold IT at h;have hm:o∈ops.toList:=by
  rw[<-Ae]at ho;exact Ao ho
 have:=AS.1 h o hm;intro x hx;exact AS.1 this x (by simpa using hx)
theorem Gi(hE:EnvOk P E)(hC:SC P C)(hF:SF P F)(top:Bool){ops:Array Oper}(hok:IT ops=true):∀(is:List Nat) (f:EF) (h:EH) (f':EF) (h':EH),uM E C F top ops is f h=some (f',h')->EHok P h->
  Dj P top ops is (fun A H=>A=f'.A/\H=h'.m.get) f.A h.m.get/\EHok P h'/\Lg h h'
 |[],f,h,f',h',he,hh=>by
  cases he
  exact⟨Dj.nil ⟨rfl,rfl⟩,hh,Lg.refl h⟩
 |i::rest,f,h,f',h',he,hh=>by
  unfold uM at he;split at he
  ·cases he
  ·rename_i o ho;have hx:=N2 hok ho;unfold sP at he;split at he
   ·rename_i hw;rw[Li]at hw;obtain⟨w1,k1,l1⟩:=Gi hE hC hF top hok rest _ _ _ _ he hh;rw[Hq]at w1;exact⟨Dj.skip ho hw w1,k1,l1⟩
   ·rename_i hw;rw[Li]at hw;unfold sS at he;split at he
    ·rename_i g hk;unfold sQ at he;split at he
     ·rename_i v hv;rw[Eo]at he;obtain⟨w1,k1,l1⟩:=Gi hE hC hF top hok rest _ _ _ _ he hh;rw[Hq]at w1;refine⟨Dj.op ho hx hw ?_,k1,l1⟩;refine WOp.hop hE.ty hE.fo (hh.fin h.n (AH _)) (δ:=[]) (v:=v) ?_ w1;rw[Sw hk,<-GN,hv];rfl
     ·cases he
    ·rename_i x args hk;unfold sT at he;split at he
     ·rename_i g first cap hv
      obtain⟨ats,hop⟩:=nD hk;obtain⟨w1,k1,l1⟩:=Gi hE hC hF true hok rest _ _ _ _ he hh;rw[Hq,GO]at w1;refine⟨Dj.defer ho hx hw hop (by rw[<-GN];exact hv) ?_,k1,l1⟩;rw[GN]at w1;exact w1
     ·cases he
    ·unfold sR at he;split at he
     ·rename_i v h1 hv;rw[Eo]at he;obtain⟨w0,k0,l0⟩:=OQ hE hC hF rfl hv hh;obtain⟨w1,k1,l1⟩:=Gi hE hC hF top hok rest _ _ _ _ he k0;rw[Hq]at w1;refine⟨Dj.op ho hx hw ?_,k1,l0.trans l1⟩;rw[<-GN];refine WOp.mono w0 fun u H q=> ?_
      obtain⟨rfl,rfl⟩:=q;exact w1
     ·cases he
end
theorem RO(look:Nat->Nat)(j:Nat):∀(l:List Edge) (s:Nat),(l.foldl (fun s e=>if Region.binds .any e then s|||2^e.on|||look e.on else s) s).testBit j=true↔s.testBit j=true\/∃e∈l,Region.binds .any e=true/\(e.on=j\/(look e.on).testBit j=true)
 |[],s=>by simp
 |e::l,s=>by
  rw[List.foldl_cons,RO look j l];cases hb:Region.binds .any e with
  |false=>simp[hb]
  |true=>
   simp only[Ag,Nat.testBit_or,A6,Nat.testBit_two_pow,BE,AV,exists_eq_or_imp,hb,true_and];constructor
   ·rintro(((h|h)|h)|h)
    ·exact .inl h
    ·exact .inr (.inl (.inl h))
    ·exact .inr (.inl (.inr h))
    ·exact .inr (.inr h)
   ·rintro(h|(h|h)|h)
    ·exact .inl (.inl (.inl h))
    ·exact .inl (.inl (.inr h))
    ·exact .inl (.inr h)
    ·exact .inr h
def FK(acc:Array Nat)(o:Oper):Array Nat:=acc.push (o.after.foldl (fun s e=>if Region.binds .any e then s|||2^e.on|||acc.getD e.on 0 else s) 0)
theorem Pi:∀(l:List Oper) (acc:Array Nat),(l.foldl FK acc).size=acc.size+l.length/\(∀j,j<acc.size->(l.foldl FK acc).getD j 0=acc.getD j 0)/\∀(k:Nat) (o:Oper),l[k]? =some o->∃acc':Array Nat,acc'.size=acc.size+k/\(∀j,j<acc.size+k->acc'.getD j 0=(l.foldl FK acc).getD j 0)/\(l.foldl FK acc).getD (acc.size+k) 0=o.after.foldl (fun s e=>if Region.binds .any e then s|||2^e.on|||acc'.getD e.on 0 else s) 0
 |[],acc=>⟨by simp,fun j h=>rfl,fun k o h=>by simp at h⟩
 |x::l,acc=>by
  obtain⟨h1,h2,h3⟩:=Pi l (FK acc x);have hs: (FK acc x).size=acc.size+1:=by unfold FK;simp
  rw[List.foldl_cons];have h4:∀j,j<acc.size->(l.foldl FK (FK acc x)).getD j 0=acc.getD j 0:=fun j hj=>by
   rw[h2 j om];unfold FK;rw[AL,AL,Array.getElem?_push_lt hj,AK hj]
  refine⟨by rw[h1,hs,AY];omega,h4,fun k o hk=> ?_⟩;cases k with
  |zero=>
   simp only[AX,AO]at hk;subst hk;refine⟨acc,rfl,fun j hj=>(h4 j hj).symm,?_⟩;rw[Nat.add_zero,h2 acc.size om];unfold FK;rw[AL,Array.getElem?_push_size];rfl
  |succ k=>
   rw[Am]at hk;obtain⟨acc',e1,e2,e3⟩:=h3 k o hk;refine⟨acc',by rw[e1,hs];omega,fun j hj=>e2 j (by rw[hs];omega),?_⟩;rw[hs]at e3;rw[<-e3];congr 1;omega
section
variable{ops:Array Oper}
theorem Kx (ops:Array Oper):Region.before ops=ops.toList.foldl FK #[]:=by
 unfold Region.before;rw[<-Array.foldl_toList];rfl
theorem xu: (CheckFast.beforeF ops).toList=(Region.before ops).toList:=by rw[CheckFast.beforeF_eq]
theorem M9(i j:Nat):anc (CheckFast.beforeF ops).toList i j=((Region.before ops).getD i 0).testBit j:=by
 unfold anc;rw[xu,List.getD_eq_getElem?_getD,Ae,AL]
theorem Rj: (Region.before ops).size=ops.size:=by
 rw[Kx,(Pi _ _).1];simp
variable{i j:Nat}
theorem Jn{o:Oper}(ho:ops[i]? =some o)(hed:∀e∈o.after.toList,Region.binds .any e=true->e.on<i):anc (CheckFast.beforeF ops).toList i j=true↔∃e∈o.after.toList,Region.binds .any e=true/\(e.on=j\/anc (CheckFast.beforeF ops).toList e.on j=true):=by
 simp only[M9];rw[Kx];obtain⟨acc',e1,e2,e3⟩:=(Pi ops.toList #[]).2.2 i o (by rw[Ae];exact ho);simp only[Ay,As,AW]at e1 e2 e3;rw[e3,<-Array.foldl_toList];refine(RO (fun k=>acc'.getD k 0) j o.after.toList 0).trans ?_;simp only[Nat.zero_testBit,AP,false_or];constructor
 ·rintro⟨e,h1,h2,h3⟩;refine⟨e,h1,h2,h3.imp_right fun h=> ?_⟩;rw[e2 _ (hed e h1 h2)]at h;exact h
 ·rintro⟨e,h1,h2,h3⟩;refine⟨e,h1,h2,h3.imp_right fun h=> ?_⟩;rw[e2 _ (hed e h1 h2)];exact h
theorem Ro(h:anc (CheckFast.beforeF ops).toList i j=true):i<ops.size:=by
 rw[M9]at h;rcases Nat.lt_or_ge i ops.size with k|k
 ·exact k
 ·rw[AL,Array.getElem?_eq_none (by rw[Rj];exact k)]at h;simp at h
theorem Mi{sz:Nat}(g:Array (List (Tmp×Nat))->Oper×Nat->Array (List (Tmp×Nat)))(hg:∀w o i,g w (o,i)=match o.dst with
  |some d=>w.modify (d%sz) ((d,i):: ·)
  |none=>w)(d i:Nat):∀(l:List (Oper×Nat)) (w:Array (List (Tmp×Nat))),w.size=sz->((d,i)∈w.getD (d%sz) []\/∃o,(o,i)∈l/\o.dst=some d)->0<sz->(d,i)∈(l.foldl g w).getD (d%sz) []
 |[],w,hw,h,h0=>by
  rcases h with h|⟨o,h,_⟩
  ·exact h
  ·simp at h
 |(x,k)::l,w,hw,h,h0=>by
  rw[List.foldl_cons];have hsz: (g w (x,k)).size=sz:=by
   rw[hg];cases x.dst with
   |none=>exact hw
   |some d'=>simp[hw]
  refine Mi g hg d i l _ hsz ?_ h0;rw[hg];rcases h with h|⟨o,h,ho⟩
  ·left;cases x.dst with
   |none=>exact h
   |some d'=>
    dsimp only;rw[AL,Array.getElem?_modify];rw[AL]at h;split
    ·rename_i e;cases hq:w[d%sz]? with
     |none=>rw[hq]at h;simp at h
     |some y=>rw[hq]at h;simp only[AU,AQ];exact List.mem_cons_of_mem _ h
    ·exact h
  ·rcases AV.1 h with h|h
   ·cases h
    left;rw[ho];dsimp only;rw[AL,Array.getElem?_modify,if_pos rfl];have hlt:d%sz<w.size:=by rw[hw];exact Nat.mod_lt _ h0
    rw[AK hlt];simp
   ·exact .inr ⟨o,h,ho⟩
theorem QW(h:Region.temporariesOk ops (Region.before ops)=true){o o':Oper}(ho:ops[i]? =some o)(ho':ops[j]? =some o'){d:Tmp}(hd:o'.dst=some d)(hl:d∈o.op.operands.toList.filterMap fun| .tmp t=>some t|_=>none):i=j\/((Region.before ops).getD (max i j) 0).testBit (min i j)=true:=by
 unfold Region.temporariesOk at h;have hi: (o,i)∈ops.toList.zipIdx:=by
  rw[List.mk_mem_zipIdx_iff_getElem?,Ae];exact ho
 have hj: (o',j)∈ops.toList.zipIdx:=by
  rw[List.mk_mem_zipIdx_iff_getElem?,Ae];exact ho'
 have h1:=AS.1 h (o,i) hi;have h2:=AS.1 h1 d (List.mem_append_right _ hl);have hpos:0<ops.size:=by
  rcases Nat.eq_zero_or_pos ops.size with h0|h0
  ·rw[Array.getElem?_eq_none om]at ho;cases ho
  ·exact h0
 have hm:=Mi (sz:=ops.size) (fun w x=>match x with
  |(o,i)=>match o.dst with
   |some d=>w.modify (d%ops.size) ((d,i):: ·)
   |none=>w) (fun w o i=>rfl) d j ops.toList.zipIdx (Array.replicate ops.size []) (by simp) (.inr ⟨o',hj,hd⟩) hpos
 have h3:=AS.1 h2 (d,j) hm;simp only[A6,bne_iff_ne,ne_eq,beq_iff_eq,not_true_eq_false,false_or]at h3;rcases h3 with h3|h3
 ·exact .inl h3.symm
 ·right;rw[Nat.max_comm,Nat.min_comm];exact h3
theorem Mt:∀(l:List Oper) (m:Nat),IZ l m=true->(∀(i:Nat) (o:Oper) (d:Tmp),l[i]? =some o->o.dst=some d->m.testBit d=false)/\∀(i j:Nat) (o o':Oper) (d:Tmp),i≠j->l[i]? =some o->l[j]? =some o'->o.dst=some d->o'.dst≠some d
 |[],m,_=>⟨fun i o d h=>by simp at h,fun i j o o' d _ h=>by simp at h⟩
 |x::l,m,h=>by
  unfold IZ at h;split at h
  ·rename_i hx;obtain⟨h1,h2⟩:=Mt l m h;refine⟨fun i o d ho hd=> ?_,fun i j o o' d hij ho ho' hd=> ?_⟩
   ·cases i with
    |zero=>simp only[AX,AO]at ho;subst ho;rw[hx]at hd;cases hd
    |succ i=>exact h1 i o d ho hd
   ·cases i with
    |zero=>simp only[AX,AO]at ho;subst ho;rw[hx]at hd;cases hd
    |succ i=>cases j with
     |zero=>simp only[AX,AO]at ho';subst ho';rw[hx];simp
     |succ j=>exact h2 i j o o' d om ho ho' hd
  ·rename_i d0 hx;split at h
   ·cases h
   ·rename_i hm;rw[force_eq]at h;obtain⟨h1,h2⟩:=Mt l _ h;have h3:∀(i:Nat) (o:Oper) (d:Tmp),l[i]? =some o->o.dst=some d->m.testBit d=false/\d0≠d:=fun i o d ho hd=>by
     have:=h1 i o d ho hd;rw[Nat.testBit_or,Nat.testBit_two_pow]at this;simpa using this
    refine⟨fun i o d ho hd=> ?_,fun i j o o' d hij ho ho' hd=> ?_⟩
    ·cases i with
     |zero=>simp only[AX,AO]at ho;subst ho;rw[hx]at hd;cases hd;exact hm
     |succ i=>exact(h3 i o d ho hd).1
    ·cases i with
     |zero=>
      simp only[AX,AO]at ho;subst ho;rw[hx]at hd;cases hd
      cases j with
      |zero=>omega
      |succ j=>exact fun e=>(h3 j o' d0 ho' e).2 rfl
     |succ i=>cases j with
      |zero=>simp only[AX,AO]at ho';subst ho';rw[hx];exact fun e=>(h3 i o d ho hd).2 (AC e)
      |succ j=>exact h2 i j o o' d om ho ho' hd
theorem Gt:∀(l:List Oper) (m:Nat),m<=Dx l m/\∀(i:Nat) (o:Oper) (d:Tmp),l[i]? =some o->o.dst=some d->d<Dx l m
 |[],m=>⟨AH _,fun i o d h=>by simp at h⟩
 |x::l,m=>by
  unfold Dx;split
  ·rename_i hx;obtain⟨h1,h2⟩:=Gt l m;refine⟨h1,fun i o d ho hd=> ?_⟩;cases i with
   |zero=>simp only[AX,AO]at ho;subst ho;rw[hx]at hd;cases hd
   |succ i=>exact h2 i o d ho hd
  ·rename_i d0 hx;cases hc:Nat.ble m d0 with
   |true=>
    have hm:=Nat.le_of_ble_eq_true hc;obtain⟨h1,h2⟩:=Gt l (d0+1);simp only[cond_true];refine⟨om,fun i o d ho hd=> ?_⟩;cases i with
    |zero=>simp only[AX,AO]at ho;subst ho;rw[hx]at hd;cases hd;exact Ak (Nat.lt_succ_self _) h1
    |succ i=>exact h2 i o d ho hd
   |false=>
    have hm:d0<m:=by
     rcases Nat.lt_or_ge d0 m with k|k
     ·exact k
     ·rw[Nat.ble_eq_true_of_le k]at hc;cases hc
    obtain⟨h1,h2⟩:=Gt l m;simp only[cond_false];refine⟨h1,fun i o d ho hd=> ?_⟩;cases i with
    |zero=>simp only[AX,AO]at ho;subst ho;rw[hx]at hd;cases hd;exact Ak hm h1
    |succ i=>exact h2 i o d ho hd
theorem HA{d:Tmp}(h:dstOf ops i=some d):∃o:Oper,ops[i]? =some o/\o.dst=some d:=by
 unfold dstOf at h;cases ho:ops[i]? with
 |none=>rw[ho]at h;cases h
 |some o=>rw[ho]at h;exact⟨o,rfl,h⟩
theorem Hd{types:Array TypeInfo}{n:Nat}(hr:Region.ok types ops true=true)(hok:IT ops=true)(hdi:IZ ops.toList 0=true)(hn:Dx ops.toList 0<=n):Order ops (anc (CheckFast.beforeF ops).toList) n:=by
 have hbs:∀i (o:Oper),ops[i]? =some o->(∀e∈o.after.toList,Region.binds .any e=true->e.on<i)/\∀g b,o.guard=some (g,b)->∃e∈o.after.toList,e.on=g/\Region.binds .any e=true:=by
  intro i o ho;unfold Region.ok at hr;simp only[AA]at hr;have h1:=hr.1.1.1.1;have hi: (o,i)∈ops.zipIdx.toList:=by
   rw[Array.toList_zipIdx,List.mk_mem_zipIdx_iff_getElem?,Ae];exact ho
  have h2:=Array.all_eq_true'.1 h1 (o,i) (Array.mem_toList_iff.1 hi);simp only[AA]at h2;refine⟨fun e he hb=> ?_,fun g b hg=> ?_⟩
  ·have h3:=Array.all_eq_true'.1 h2.1 e (by simpa using he);simp only[A6,BE]at h3;rcases h3 with h3|h3
   ·exact h3
   ·unfold Region.binds at hb;split at h3
    ·rename_i dd hgr;rw[hgr]at hb;cases hb
    ·cases h3
  ·have h3:=h2.2;rw[hg]at h3;simp only[AA]at h3;obtain⟨e,he,h4⟩:=Array.any_eq_true'.1 h3.1;simp only[AA,beq_iff_eq]at h4;exact⟨e,by simpa using he,h4.1,h4.2⟩
 have htemp:Region.temporariesOk ops (Region.before ops)=true:=by
  unfold Region.ok at hr;simp only[AA]at hr;exact hr.1.1.1.2
 have hdist:∀i j d,i≠j->dstOf ops i=some d->dstOf ops j≠some d:=by
  intro i j d hij hi hj;obtain⟨o,ho,hd⟩:=HA hi;obtain⟨o',ho',hd'⟩:=HA hj;exact(Mt _ _ hdi).2 i j o o' d hij (by rw[Ae];exact ho) (by rw[Ae];exact ho') hd hd'
 have hlt:∀i j,anc (CheckFast.beforeF ops).toList i j=true->j<i/\i<ops.size:=by
  intro i;induction i using Nat.strongRecOn with
  |ind i ih=>
   intro j h;have hi:=Ro h;obtain⟨o,ho⟩:∃o,ops[i]? =some o:=⟨_,AK hi⟩;obtain⟨e,he,hb,h1⟩:=(Jn ho (hbs i o ho).1).1 h;have h2:=(hbs i o ho).1 e he hb;refine⟨?_,hi⟩;rcases h1 with h1|h1
   ·omega
   ·have:=(ih e.on h2 j h1).1;omega
 refine⟨?_,hlt,?_,?_,hdist,?_,fun i o ho=>(hbs i o ho).1,?_⟩
 ·intro o hm x hx;obtain⟨i,hi,rfl⟩:=List.mem_iff_getElem.1 hm;exact N2 hok (i:=i) (by rw[<-Ae];exact AD hi) x hx
 ·intro i o ho j h;obtain⟨e,he,hb,h1⟩:=(Jn ho (hbs i o ho).1).1 h;exact⟨e,he,hb,h1⟩
 ·intro i;induction i using Nat.strongRecOn with
  |ind i ih=>
   intro j k h1 h2;have hi:=Ro h1;obtain⟨o,ho⟩:∃o,ops[i]? =some o:=⟨_,AK hi⟩;obtain⟨e,he,hb,h3⟩:=(Jn ho (hbs i o ho).1).1 h1;refine(Jn ho (hbs i o ho).1).2 ⟨e,he,hb,.inr ?_⟩;rcases h3 with h3|h3
   ·rw[h3];exact h2
   ·exact ih e.on ((hbs i o ho).1 e he hb) j k h3 h2
 ·intro i d hd;obtain⟨o,ho,hd⟩:=HA hd;exact Ak ((Gt ops.toList 0).2 i o d (by rw[Ae];exact ho) hd) hn
 ·intro i o j d ho hij hj hl;unfold Oper.looksAt at hl;rcases Ax.1 hl with hl|hl
  ·obtain⟨o',ho',hd⟩:=HA hj;rcases QW htemp ho ho' hd hl with h|h
   ·exact absurd h hij
   ·rw[<-M9]at h;rcases Nat.lt_or_ge i j with k|k
    ·rw[Nat.max_eq_right om,Nat.min_eq_left om]at h;exact .inr h
    ·rw[Nat.max_eq_left om,Nat.min_eq_right om]at h;exact .inl h
  ·cases hg:o.guard with
   |none=>rw[hg]at hl;simp at hl
   |some p=>
    obtain⟨g,b⟩:=p;rw[hg]at hl;dsimp only at hl;have hl:dstOf ops g=some d:=by simpa[Option.mem_toList,dstOf]using hl
    have hgj:g=j:=by
     by_cases e:g=j
     ·exact e
     ·exact absurd hj (hdist g j d e hl)
    subst hgj;obtain⟨e,he,h1,h2⟩:=(hbs i o ho).2 g b hg;exact .inl ((Jn ho (hbs i o ho).1).2 ⟨e,he,h2,.inl h1⟩)
end
theorem Gu:∀(δ:List (Nat×AB)) (m:Mp AB),(L0 m δ).get=Kz m.get δ
 |[],m=>rfl
 |p::δ,m=>by
  show(L0 (m.set p.1 p.2) δ).get=Kz (upd m.get p.1 (some p.2)) δ
  rw[Gu δ];congr 1;funext b;exact Mp.get_set _ _ _ _
theorem PU(S:Nat->Bool)(dl:Nat->List (Nat×AB))(H:Hp)(n:Nat):hs S dl H (n+1)=if S n then app (hs S dl H n) (dlf (dl n))else hs S dl H n:=rfl
theorem Hg(b:List Nat)(i:Nat)(dl:Nat->List (Nat×AB))(H:Hp):∀(ds:List Did) (m:Mp AB) (j:Nat),m.get=hs (anc b i) dl H j->(∀k d,ds[k]? =some d->dl (j+k)=d.δ)->(LW b i m j ds).get=hs (anc b i) dl H (j+ds.length)
 |[],m,j,hm,hd=>hm
 |d::ds,m,j,hm,hd=>by
  have h0:dl j=d.δ:=hd 0 d rfl;have h2:∀k d',ds[k]? =some d'->dl (j+1+k)=d'.δ:=fun k d' hk=>by
   have:=hd (k+1) d' (by rw[Am];exact hk);rw[<-this];congr 1;omega
  have h3:j+(d::ds).length=j+1+ds.length:=by rw[AY];omega
  rw[h3];unfold LW;cases hc:anc b i j with
  |true=>
   dsimp only;refine Hg b i dl H ds _ (j+1) ?_ h2;rw[PU,if_pos hc,Gu,E3,hm,h0]
  |false=>
   dsimp only;refine Hg b i dl H ds _ (j+1) ?_ h2;rw[PU,if_neg (by rw[hc];simp),hm]
theorem Hh(dl:Nat->List (Nat×AB))(H:Hp):∀(ds:List Did) (h:EH) (j:Nat),h.m.get=hs (fun _=>true) dl H j->(∀k d,ds[k]? =some d->dl (j+k)=d.δ)->(ds.foldl (fun h d=>h.app d.δ) h).m.get=hs (fun _=>true) dl H (j+ds.length)
 |[],h,j,hm,hd=>hm
 |d::ds,h,j,hm,hd=>by
  rw[List.foldl_cons];have h1:=Hh dl H ds (h.app d.δ) (j+1) (by
    have h0:dl j=d.δ:=hd 0 d rfl;rw[PU,if_pos rfl,Ev,E3,hm,h0]) (fun k d' hk=>by
     have:=hd (k+1) d' (by rw[Am];exact hk);rw[<-this];congr 1;omega)
  rw[h1,AY];congr 1;omega
theorem Is{P:Program}:∀(ds:List Did) {h:EH},EHok P h->(∀d∈ds,∀x∈d.δ,∀l,x.2= .lp l->GoodC P l.assign/\GoodC P l.body)->EHok P (ds.foldl (fun h d=>h.app d.δ) h)/\Lg h (ds.foldl (fun h d=>h.app d.δ) h)
 |[],h,k,_=>⟨k,Lg.refl h⟩
 |d::ds,h,k,hx=>by
  obtain⟨k1,l1⟩:=Gp d.δ k (hx d (List.mem_cons_self ..));obtain⟨k2,l2⟩:=Is ds k1 fun d' hm=>hx d' (List.mem_cons_of_mem _ hm)
  exact⟨k2,l1.trans l2⟩
theorem Me:∀(l:List Nat) (m:Mp AB),(gU m l).get=mk l m.get
 |[],m=>by
  funext a;unfold mk;rw[if_neg (by simp)];rfl
 |b::l,m=>by
  have key:∀m':Mp AB,(∀a,m'.get a=if a=b then(m.get b).map fun _=> .dead else m.get a)->mk l m'.get=mk (b::l) m.get:=by
   intro m' h1;funext a;unfold mk;rw[h1];by_cases e:a=b
   ·subst e;rw[if_pos rfl];have h2:a∈a::l:=List.mem_cons_self ..;rw[if_pos h2];split
    ·cases m.get a<;>rfl
    ·rfl
   ·rw[if_neg e];by_cases hl:a∈l
    ·rw[if_pos hl,if_pos (List.mem_cons_of_mem _ hl)]
    ·rw[if_neg hl,if_neg (by simp[e,hl])]
  unfold gU;cases hb:m.get b with
  |none=>
   dsimp only;rw[Me l];refine key m fun a=> ?_
   split
   ·rename_i e;rw[e,hb];rfl
   ·rfl
  |some x=>
   dsimp only;rw[Me l];refine key _ fun a=> ?_
   rw[Mp.get_set,hb];rfl
theorem WM(G:Hp)(a:Nat):∀(ids:List Nat),dlf (ids.filterMap fun a=>(G a).map fun x=>(a,x)) a=if a∈ids then G a else none
 |[]=>rfl
 |b::l=>by
  rw[List.filterMap_cons];have ih:=WM G a l;cases hb:G b with
  |none=>
   simp only[Option.map_none];rw[ih];by_cases e:a=b
   ·subst e;rw[if_pos (List.mem_cons_self ..),hb];split<;>rfl
   ·simp[e]
  |some x=>
   simp only[AU,dlf];rw[ih];by_cases e:a=b
   ·subst e;rw[if_pos (List.mem_cons_self ..)];by_cases hl:a∈l
    ·rw[if_pos hl,hb]
    ·rw[if_neg hl,hb];simp
   ·by_cases hl:a∈l
    ·rw[if_pos hl,if_pos (List.mem_cons_of_mem _ hl)];cases G a with
     |none=>simp[e]
     |some y=>rfl
    ·have h9:a ∉ b::l:=by simp[e,hl]
     rw[if_neg hl,if_neg h9];simp only[if_neg e]
theorem bF{P:Program}{see h2:EH}(k1:EHok P see)(k2:EHok P h2)(l:Lg see h2)(hl: (h2.log.all fun a=>(h2.m.get a).isSome)=true):h2.m.get=app see.m.get (dlf (KZ see.n h2))/\∀x∈KZ see.n h2,h2.m.get x.1=some x.2:=by
 refine⟨?_,?_⟩
 ·funext a;unfold app KZ;rw[WM];by_cases hm:a∈h2.log++(List.range (h2.n - see.n)).map (·+see.n)
  ·rw[if_pos hm];cases hg:h2.m.get a with
   |some y=>rfl
   |none=>
    dsimp only;rcases Ax.1 hm with hm|hm
    ·have:=AS.1 hl a hm;rw[hg]at this;cases this
    ·obtain⟨k,hk,rfl⟩:=List.mem_map.1 hm;exact(k1.fin _ om).symm
  ·rw[if_neg hm];dsimp only;have hm1:a ∉ h2.log:=fun h=>hm (List.mem_append_left _ h)
   have hm2:¬(see.n<=a/\a<h2.n):=fun h=>hm (List.mem_append_right _ (List.mem_map.2 ⟨a - see.n,by simp;omega,om⟩))
   rcases Nat.lt_or_ge a see.n with k|k
   ·exact l.same a k hm1
   ·rw[k1.fin a k];exact k2.fin a om
 ·intro x hx;unfold KZ at hx;obtain⟨a,ha,h⟩:=List.mem_filterMap.1 hx;obtain⟨y,hy,h⟩:=AZ.1 h;cases h
  exact hy
theorem dU(S:Nat->Bool)(dst:Nat->Option Tmp)(v:Nat->Value)(t:Nat->Value)(n:Nat):ts S dst v t (n+1)=if S n then(match dst n with|some d=>upd (ts S dst v t n) d (v n)|none=>ts S dst v t n)else ts S dst v t n:=rfl
def vv(L:List Did)(i:Nat):Value:=((L[i]?).map (·.v)).getD undef
def dd(L:List Did)(i:Nat):List (Nat×AB):=((L[i]?).map (·.δ)).getD []
section
variable{P:Program}{E:Env}{C:RC}{F:RF}
variable{mask:Nat->List Nat}
theorem Fo {ops:Array Oper} {b:List Nat}  {h:EH}:∀(is:List Nat) (f:EF) (dids:List Did) (n:Nat) (L:List Did) (f1:EF),Xi E C F ops b mask h is f dids n=some (L,f1)->L.length=dids.length+is.length/\∀j,j<dids.length->L[j]? =dids[j]?
 |[],f,dids,n,L,f1,he=>by cases he;exact⟨rfl,fun j hj=>rfl⟩
 |i::rest,f,dids,n,L,f1,he=>by
  have key:∀{f':EF} {d:Did} {n':Nat},Xi E C F ops b mask h rest f' (dids++[d]) n'=some (L,f1)->L.length=dids.length+(i::rest).length/\∀j,j<dids.length->L[j]? =dids[j]? :=fun{f' d n'} he=>by
   obtain⟨h1,h2⟩:=Fo rest f' (dids++[d]) n' L f1 he;refine⟨by rw[h1];simp;omega,fun j hj=> ?_⟩;rw[h2 j (by simp;omega),Ac hj]
  unfold Xi at he;split at he
  ·cases he
  ·unfold nc at he;split at he
   ·exact key he
   ·unfold nk at he;split at he
    ·unfold nh at he;split at he
     ·rw[Eo]at he;exact key he
     ·cases he
    ·unfold ng ni at he;split at he
     ·unfold nj at he;split at he
      ·rw[Eo,force_eq]at he;exact key he
      ·cases he
     ·cases he
def YB(P:Program)(Γ:TypeId->Option TI)(ops:Array Oper)(b:List Nat)(mask:Nat->List Nat)(H:Hp)(A0:AF)(L:List Did)(i:Nat):Prop:=
 ∃(o:Oper) (d:Did),ops[i]? =some o/\L[i]? =some d/\(∀x∈d.δ,∀l,x.2= .lp l->GoodC P l.assign/\GoodC P l.body)/\
  ((Region.wanted o (yiel ops (A0.with (ts (fun _=>true) (dstOf ops) (vv L) A0.t i)).t)=false/\d.q=true/\d.v=undef/\d.δ=[])\/
   (Region.wanted o (yiel ops (A0.with (ts (fun _=>true) (dstOf ops) (vv L) A0.t i)).t)=true/\d.q=true/\d.δ=[]/\∀H a,hop Γ H a (A0.with (ts (fun _=>true) (dstOf ops) (vv L) A0.t i)).ev o.op=some (d.v,[]))\/
   (Region.wanted o (yiel ops (A0.with (ts (fun _=>true) (dstOf ops) (vv L) A0.t i)).t)=true/\d.q=false/\d.see.m.get=mk (mask i) (hs (anc b i) (dd L) H i)/\WOp P o (fun u H'=>u=d.v/\H'=app d.see.m.get (dlf d.δ)) (A0.with (ts (fun _=>true) (dstOf ops) (vv L) A0.t i)).ev d.see.m.get))
theorem KX(hE:EnvOk P E)(hC:SC P C)(hF:SF P F){ops:Array Oper}{b:List Nat}{h:EH}(hh:EHok P h){A0:AF}(hsl:∀i d,dstOf ops i=some d->d<A0.n){L:List Did}{f1:EF}:∀(m:Nat) (f:EF) (dids:List Did) (n:Nat),Xi E C F ops b mask h (List.range' dids.length m) f dids n=some (L,f1)->
  f.A=A0.with (ts (fun _=>true) (dstOf ops) (vv L) A0.t dids.length)->h.n<=n->(∀(j:Nat) (d:Did),dids[j]? =some d->∀x∈d.δ,x.1<n/\∀l,x.2= .lp l->GoodC P l.assign/\GoodC P l.body)->
  f1.A=A0.with (ts (fun _=>true) (dstOf ops) (vv L) A0.t (dids.length+m))/\∀i,dids.length<=i->i<dids.length+m->YB P E.ty ops b mask h.m.get A0 L i
 |0,f,dids,n,he,hf,hn,hb=>by
  cases he
  exact⟨hf,fun i h1 h2=>om⟩
 |m+1,f,dids,n,he,hf,hn,hb=>by
  rw[List.range'_succ]at he;have hev:f.ev=(A0.with (ts (fun _=>true) (dstOf ops) (vv L) A0.t dids.length)).ev:=by rw[GN,hf]
  have hyi:Lj ops f=yiel ops (A0.with (ts (fun _=>true) (dstOf ops) (vv L) A0.t dids.length)).t:=by rw[Li,hf]
  have hpre:=(Fo _ _ _ _ _ _ he).2;have hdl:∀k d,dids[k]? =some d->dd L (0+k)=d.δ:=fun k d hk=>by
   unfold dd;rw[AW,hpre k (Ah.1 hk).1,hk];rfl
  have key:∀{o:Oper} {v:Value} {d:Did} {n':Nat},ops[dids.length]? =some o->d.v=v->n<=n'->(∀x∈d.δ,x.1<n'/\∀l,x.2= .lp l->GoodC P l.assign/\GoodC P l.body)->Xi E C F ops b mask h (List.range' (dids.length+1) m) (f.put o.dst v) (dids++[d]) n'=some (L,f1)->
    (L[dids.length]? =some d->YB P E.ty ops b mask h.m.get A0 L dids.length)->f1.A=A0.with (ts (fun _=>true) (dstOf ops) (vv L) A0.t (dids.length+(m+1)))/\∀i,dids.length<=i->i<dids.length+(m+1)->YB P E.ty ops b mask h.m.get A0 L i:=by
   intro o v d n' ho hv hn' hd he' hfact;have hLs:L[dids.length]? =some d:=by
    rw[(Fo _ _ _ _ _ _ he').2 dids.length (by simp)];simp
   have hlen: (dids++[d]).length=dids.length+1:=by simp
   have hvs:vv L dids.length=v:=by unfold vv;rw[hLs];exact hv
   have hfA: (f.put o.dst v).A=A0.with (ts (fun _=>true) (dstOf ops) (vv L) A0.t (dids++[d]).length):=by
    have this:dstOf ops dids.length=o.dst:=by unfold dstOf;rw[ho];rfl
    rw[Hq,hf,hlen,dU,if_pos rfl,hvs,this];cases hd:o.dst with
    |none=>rfl
    |some t=>
     have ht:=hsl dids.length t (by rw[this,hd]);unfold AF.put AF.with;dsimp only;rw[if_pos ht]
   obtain⟨g1,g2⟩:=KX hE hC hF hh hsl m (f.put o.dst v) (dids++[d]) n' (by rw[hlen];exact he') hfA om (fun j d' hj x hx=>by
    by_cases hjl:j<dids.length
    ·rw[Ac hjl]at hj;have:=hb j d' hj x hx;exact⟨om,this.2⟩
    ·rw[Ad om]at hj;have hj0:j - dids.length=0:=by
      have:=(Ah.1 hj).1;simp at this;omega
     rw[hj0]at hj;cases hj
     exact hd x hx)
   rw[hlen]at g1 g2;refine⟨by rw[g1];congr 2;omega,fun i h1 h2=> ?_⟩;rcases Nat.lt_or_ge dids.length i with k|k
   ·exact g2 i k om
   ·have:i=dids.length:=om;subst this;exact hfact hLs
  unfold Xi at he;split at he
  ·cases he
  ·rename_i o ho;unfold nc at he;split at he
   ·rename_i hw;rw[hyi]at hw;refine key (d:=⟨true,undef,h,[]⟩) ho rfl (AH _) (by simp) he fun hL=> ?_
    exact⟨o,_,ho,hL,by simp,.inl ⟨hw,rfl,rfl,rfl⟩⟩
   ·rename_i hw;rw[hyi]at hw;unfold nk at he;split at he
    ·rename_i g hk;unfold nh at he;split at he
     ·rename_i v hv;rw[Eo]at he;refine key (d:=⟨true,v,h,[]⟩) ho rfl (AH _) (by simp) he fun hL=> ?_
      refine⟨o,_,ho,hL,by simp,.inr (.inl ⟨hw,rfl,rfl,fun H a=> ?_⟩)⟩;rw[Sw hk,<-hev,hv];rfl
     ·cases he
    ·unfold ng ni at he;split at he
     ·rename_i v h2 hv;unfold nj at he;split at he
      ·rename_i hlog;rw[Eo,force_eq]at he;have hget: (W5 h b dids.length dids (mask dids.length) n).m.get=mk (mask dids.length) (hs (anc b dids.length) (dd L) h.m.get dids.length):=by
        unfold W5;dsimp only;rw[Me,Hg b dids.length (dd L) h.m.get dids h.m 0 rfl hdl,AW]
       have hsee:EHok P (W5 h b dids.length dids (mask dids.length) n):=by
        refine⟨fun a ha=> ?_,fun a l hl=> ?_⟩
        ·rw[hget];have:¬dom (hs (anc b dids.length) (dd L) h.m.get dids.length) a:=fun hd=>by
          rcases PW hd with hd|⟨j,hj,_,hd⟩
          ·exact hd (hh.fin a (BN hn ha))
          ·cases hx:dlf (dd L j) a with
           |none=>exact hd hx
           |some x=>
            have hm:=CD hx;have hj':dids[j]? =some dids[j]:=AD hj;have e:=hdl j _ hj';rw[AW]at e;rw[e]at hm;have:=(hb j _ hj' _ hm).1;have ha:n<=a:=ha;simp only at this;omega
         cases hg:mk (mask dids.length) (hs (anc b dids.length) (dd L) h.m.get dids.length) a with
         |none=>rfl
         |some x=>exact absurd (Il.1 (by unfold dom;rw[hg];simp)) this
        ·rw[hget]at hl;have hl:=LO hl (by simp);rcases Mb _ _ _ hl with⟨h1,_⟩|⟨j,hj,_,h1,_⟩
         ·exact hh.lp a l h1
         ·have hm:=CD h1;have hj':dids[j]? =some dids[j]:=AD hj;have e:=hdl j _ hj';rw[AW]at e;rw[e]at hm;exact(hb j _ hj' _ hm).2 l rfl
       obtain⟨w0,k0,l0⟩:=OQ hE hC hF rfl hv hsee;obtain⟨d1,d2⟩:=bF hsee k0 l0 hlog;have hsn: (W5 h b dids.length dids (mask dids.length) n).n=n:=rfl;rw[hsn]at d1 d2;refine key (d:=⟨false,v,W5 h b dids.length dids (mask dids.length) n,KZ n h2⟩) ho rfl l0.n (fun x hx=>⟨?_,fun l hl=> ?_⟩) he fun hL=> ?_
       ·rcases Nat.lt_or_ge x.1 h2.n with k|k
        ·exact k
        ·have:=d2 x hx;rw[k0.fin _ k]at this;cases this
       ·exact k0.lp x.1 l (by rw[d2 x hx,hl])
       ·refine⟨o,_,ho,hL,fun x hx l hl=>k0.lp x.1 l (by rw[d2 x hx,hl]),.inr (.inr ⟨hw,rfl,hget,?_⟩)⟩;rw[<-hev];refine WOp.mono w0 fun u H' q=> ?_
        obtain⟨rfl,rfl⟩:=q;exact⟨rfl,d1⟩
      ·cases he
     ·cases he
end
section
variable{P:Program}{E:Env}{C:RC}{F:RF}
variable{L:List Did}{i:Nat}
theorem iY   {d:Did} (h:L[i]? =some d):vv L i=d.v:=by unfold vv;rw[h];rfl
theorem Fq{d:Did}(h:L[i]? =some d):dd L i=d.δ:=by unfold dd;rw[h];rfl
theorem QL{b:List Nat}{j:Nat}(hij:i≠j)(h1:anc b i j=false)(h2:anc b j i=false):Ni b i j=true:=by
 unfold Ni;rw[Xw hij,h1,h2];rfl
def EU(b:List Nat)(sz:Nat)(L:List Did)(mask:Nat->List Nat)(i:Nat):List Nat:=match(L[i]?).map (·.q)with
 |some true=>In b sz L i
 |_=>mask i
variable{mask:Nat->List Nat}
theorem bD(hE:EnvOk P E){ops:Array Oper}{h:EH}(hh:EHok P h){A0:AF}(hO:Order ops (anc (CheckFast.beforeF ops).toList) A0.n)
  (hfact:∀i,i<ops.size->YB P E.ty ops (CheckFast.beforeF ops).toList mask h.m.get A0 L i)(hok:fW (CheckFast.beforeF ops).toList ops.size L=true):
  Drawn P ops (anc (CheckFast.beforeF ops).toList) (dd L) (vv L) (EU (CheckFast.beforeF ops).toList ops.size L mask) A0 h.m.get:=by
 generalize hb: (CheckFast.beforeF ops).toList=b at*;have sees:∀i (o:Oper),ops[i]? =some o->∀d,d∈o.looksAt ops->ts (fun _=>true) (dstOf ops) (vv L) A0.t i d=ts (anc b i) (dstOf ops) (vv L) A0.t ops.size d:=by
  intro i o ho d hd;have hi:i<ops.size:=(AR.1 ho).1;refine Nj hO.dst fun j hj=> ?_
  by_cases e:j=i
  ·subst e;have:anc b j j=false:=by
    cases h:anc b j j with
    |false=>rfl
    |true=>have:=(hO.lt j j h).1;omega
   rw[this];simp
  ·rcases hO.names i o j d ho (fun e2=>e e2.symm) hj hd with h|h
   ·have:=(hO.lt i j h).1;rw[h];simp only[and_true];omega
   ·have h1:=(hO.lt j i h).1;have h2:anc b i j=false:=by
     cases h3:anc b i j with
     |false=>rfl
     |true=>have:=(hO.lt i j h3).1;omega
    rw[h2];simp only[and_true,AP,and_false,iff_false];omega
 have hwant:∀i (o:Oper),ops[i]? =some o->Region.wanted o (yiel ops (slotsAt ops (anc b) (vv L) A0 i).t)=Region.wanted o (yiel ops (A0.with (ts (fun _=>true) (dstOf ops) (vv L) A0.t i)).t):=by
  intro i o ho;unfold Region.wanted;cases hg:o.guard with
  |none=>rfl
  |some p=>
   obtain⟨g,want⟩:=p;dsimp only;have:yiel ops (slotsAt ops (anc b) (vv L) A0 i).t g=yiel ops (A0.with (ts (fun _=>true) (dstOf ops) (vv L) A0.t i)).t g:=by
    unfold yiel;cases hd: (ops[g]?).bind (·.dst)with
    |none=>rfl
    |some d=>
     simp only[AU];have h1:=sees i o ho d (by unfold Oper.looksAt;rw[hg];simp[hd]);show(match some (ts (anc b i) (dstOf ops) (vv L) A0.t ops.size d)with|some (.bool b)=>some b|_=>none)=(match some (ts (fun _=>true) (dstOf ops) (vv L) A0.t i d)with|some (.bool b)=>some b|_=>none)
     rw[h1]
   rw[this]
 have hev:∀i (o:Oper),ops[i]? =some o->∀x∈o.op.operands,(A0.with (ts (fun _=>true) (dstOf ops) (vv L) A0.t i)).ev x=(slotsAt ops (anc b) (vv L) A0 i).ev x:=by
  intro i o ho x hxm;cases x with
  |tmp d=>
   refine sees i o ho d ?_;unfold Oper.looksAt;refine List.mem_append_left _ (List.mem_filterMap.2 ⟨.tmp d,by simpa using hxm,rfl⟩)
  |_=>rfl
 have hsee:∀i d,L[i]? =some d->d.q=false->d.see.m.get=mk (mask i) (hs (anc b i) (dd L) h.m.get i)->i<ops.size->memAt (anc b) (dd L) (EU b ops.size L mask) ops.size h.m.get i=d.see.m.get:=by
  intro i d hd hq hs1 hi;unfold memAt;have:EU b ops.size L mask i=mask i:=by unfold EU;rw[hd];simp[hq]
  rw[this,hs1];congr 1;funext a;exact LV i ops.size a om fun j h1 h2 h3=>by have:=(hO.lt i j h3).1;omega
 have hquiet:∀i d,L[i]? =some d->d.q=true->EU b ops.size L mask i=In b ops.size L i:=by
  intro i d hd hq;unfold EU;rw[hd];simp[hq]
 have okAt:∀j p,j<ops.size->L[j]? =some p->(∀x∈p.δ,nF x.2=false/\MT p.see x.1=false)/\∀i r,i<ops.size->L[i]? =some r->Ni b i j=true->∀x∈p.δ,(r.q=true\/ML r.see x.1=false)/\x.1 ∉ OC r.δ:=by
  intro j p hj hp;unfold fW at hok;have h1:=AS.1 hok j (An.2 hj);rw[hp]at h1;simp only[AA,A6]at h1;refine⟨fun x hx=> ?_,fun i r hi hr hu x hx=> ?_⟩
  ·have:=AS.1 h1.1 x hx;simpa using this
  ·rcases h1.2 with h2|h2
   ·cases hδ:p.δ with
    |nil=>rw[hδ]at hx;simp at hx
    |cons y l=>rw[hδ]at h2;cases h2
   ·have h3:=AS.1 h2 i (An.2 hi);rw[hr,hu]at h3;simp only[Bool.not_true,Bool.false_or]at h3;have:=AS.1 h3 x hx;simp only[AA,A6,A7]at this;refine⟨this.1,fun hm=> ?_⟩;have h4:=this.2;rw[List.contains_iff_mem.2 hm]at h4;cases h4
 have hmem:∀{l:List (Nat×AB)} {a:Nat},dlf l a≠none->∃x,(a,x)∈l:=fun{l a} hn=>by
  cases hx:dlf l a with
  |none=>exact absurd hx hn
  |some x=>exact⟨x,CD hx⟩
 refine⟨fun i o ho=> ?_,fun i j hi hj hij h1 h2 a ha=> ?_,fun i hi a ha=> ?_,fun i hi a c hc=> ?_⟩
 ·have hi:i<ops.size:=(AR.1 ho).1;obtain⟨o',d,ho',hd,_,hcase⟩:=hfact i hi;have hoo:o'=o:=by rw[ho]at ho';exact(AC ho').symm
  subst hoo;rw[hwant i o' ho,iY hd,Fq hd];rcases hcase with⟨hw,_,hv,hδ⟩|⟨hw,hq,hδ,hhop⟩|⟨hw,hq,hs1,hop⟩
  ·rw[hw,hv,hδ];exact⟨rfl,rfl⟩
  ·rw[hw,if_pos rfl,hδ];obtain⟨n,hn⟩:=PV (S:=anc b i) (dl:=dd L) ops.size ⟨h.n,hh.fin⟩;have hfresh:memAt (anc b) (dd L) (EU b ops.size L mask) ops.size h.m.get i n=none:=by
    cases hx:memAt (anc b) (dd L) (EU b ops.size L mask) ops.size h.m.get i n with
    |none=>rfl
    |some x=>
     have:dom (memAt (anc b) (dd L) (EU b ops.size L mask) ops.size h.m.get i) n:=by unfold dom;rw[hx];simp
     exact absurd (hn n (AH _)) (Il.1 this)
   refine WOp.congr ?_ (hev i o' ho);refine WOp.hop hE.ty hE.fo hfresh (δ:=[]) (v:=d.v) (hhop _ _) ⟨rfl,?_⟩;funext a;rfl
  ·rw[hw,if_pos rfl,hsee i d hd hq hs1 hi];exact WOp.congr hop (hev i o' ho)
 ·obtain⟨o,d,ho,hd,_,hcase⟩:=hfact i hi;obtain⟨o2,p,ho2,hp,_,_⟩:=hfact j hj;rw[Fq hp]at ha;obtain⟨x,hx⟩:=hmem ha;have hu:=QL hij h1 h2;obtain⟨k1,k2⟩:=(okAt j p hj hp).2 i d hi hd hu (a,x) hx;refine⟨fun hl=> ?_,?_⟩
  ·have hql:d.q=true->False:=fun hq=>by
    obtain⟨y,hy,hyd⟩:=hl;have hm:a∈EU b ops.size L mask i:=by
     rw[hquiet i d hd hq];unfold In;refine List.mem_flatMap.2 ⟨j,An.2 hj,?_⟩;rw[hu,hp];exact List.mem_map.2 ⟨(a,x),hx,rfl⟩
    unfold memAt mk at hy;rw[if_pos hm]at hy;obtain⟨z,_,hz⟩:=AZ.1 hy;exact hyd hz.symm
   rcases hcase with⟨_,hq,_,_⟩|⟨_,hq,_,_⟩|⟨_,hq,hs1,_⟩
   ·exact hql hq
   ·exact hql hq
   ·rw[hsee i d hd hq hs1 hi]at hl;obtain⟨y,hy,hyd⟩:=hl;rcases k1 with k1|k1
    ·rw[hq]at k1;cases k1
    ·unfold ML at k1;rw[hy]at k1;cases y<;>first|exact hyd rfl|cases k1
  ·rw[Fq hd];cases hx2:dlf d.δ a with
   |none=>rfl
   |some y=>exact absurd (List.mem_map.2 ⟨(a,y),CD hx2,rfl⟩) k2
 ·obtain⟨o,d,ho,hd,_,hcase⟩:=hfact i hi;rw[Fq hd]at ha;obtain⟨x,hx⟩:=hmem ha;rcases hcase with⟨_,_,_,hδ⟩|⟨_,_,hδ,_⟩|⟨_,hq,hs1,_⟩
  ·rw[hδ]at hx;simp at hx
  ·rw[hδ]at hx;simp at hx
  ·have h3:=((okAt i d hi hd).1 (a,x) hx).2;have hm:=hsee i d hd hq hs1 hi;unfold MT at h3;cases hy:d.see.m.get a with
   |none=>
    right;rw[<-hm]at hy;cases hz:hs (anc b i) (dd L) h.m.get ops.size a with
    |none=>rfl
    |some z=>
     have:dom (memAt (anc b) (dd L) (EU b ops.size L mask) ops.size h.m.get i) a:=Il.2 (by unfold dom;rw[hz];simp);exact absurd hy this
   |some y=>
    left;rw[hy]at h3;refine⟨y,by rw[hm];exact hy,fun e=> ?_⟩;rw[e]at h3;cases h3
 ·obtain⟨o,d,ho,hd,_,_⟩:=hfact i hi;rw[Fq hd]at hc;have:=((okAt i d hi hd).1 (a,.ro c) (CD hc)).1;cases this
theorem Jg(hE:EnvOk P E)(hC:SC P C)(hF:SF P F){top:Bool}{id:Nat}{ops:Array Oper}{f f1:EF}{h:EH}(hr:Region.ok P.types ops true=true)(hop: (IT ops&&IZ ops.toList 0)=true)(hn:Nat.ble (Dx ops.toList 0) f.n=true)(hh:EHok P h)
  (he:Xi E C F ops (CheckFast.beforeF ops).toList mask h (List.range ops.size) f [] h.n=some (L,f1))(hok:fW (CheckFast.beforeF ops).toList ops.size L=true):
  WC P top (.region id ops true) (fun e A H=>e= .norm/\A=f1.A/\H=(L.foldl (fun h d=>h.app d.δ) h).m.get) f.A h.m.get/\EHok P (L.foldl (fun h d=>h.app d.δ) h)/\Lg h (L.foldl (fun h d=>h.app d.δ) h):=by
 simp only[AA]at hop;have hO:=Hd (n:=f.A.n) hr hop.1 hop.2 (Nat.le_of_ble_eq_true hn);rw[List.range_eq_range']at he;obtain⟨g1,g2⟩:=KX hE hC hF (A0:=f.A) hh hO.slot ops.size f [] h.n he rfl (AH _) (by simp);simp only[As,AW,Nat.zero_le,true_implies]at g1 g2;have hlen:L.length=ops.size:=by have:=(Fo _ _ _ _ _ _ he).1;simpa using this
 have hD:=bD hE hh hO g2 hok;obtain⟨k1,l1⟩:=Is L hh (fun d hd x hx l hl=>by
  obtain⟨i,hi,rfl⟩:=List.mem_iff_getElem.1 hd;obtain⟨o,d',ho,hd',hg,_⟩:=g2 i om;rw[AD hi]at hd';cases hd'
  exact hg x hx l hl)
 refine⟨?_,k1,l1⟩;refine cO hE.mix hO hD ⟨rfl,g1.symm,?_⟩;have:=Hh (dd L) h.m.get L h 0 rfl (fun k d hk=>by rw[AW];exact Fq hk);rw[this,AW,hlen]
end
theorem TU{P:Program}{g:FuncId}{args:List Value}{v:Value}{H H1:Hp}(h:Ee P g args (fun u H'=>u=v/\H'=H1) H)(hv:plainV v=true)(hs:∀a,H a≠none->H1 a=H a):Ee P g args (fun u H'=>u=v/\H'=H) H:=by
 intro main K hK X O φ w args' kind cs hq hr hargs hk;refine h main K hK X O φ w args' kind cs hq hr hargs fun u H' O' φ' w' fr q g o r rets=> ?_
 obtain⟨rfl,rfl⟩:=q;have hsc:=hr.sc;have hsome:∀a x,H a=some x->H' a=some x:=fun a x hx=>by rw[hs a (by rw[hx];simp),hx]
 refine hk u H O' φ' w' fr ⟨rfl,rfl⟩ (fun a ha=>⟨ha,(g a ha).2⟩) o ⟨hr.fin,r.frame,fun a x ha hm=> ?_,fun a c ha=> ?_,fun a b x y ha hb=>r.inj a b x y (hsome a x ha) (hsome b y hb)⟩ ⟨rets.mode,rets.defers,rets.fn,rets.kind,?_⟩
 ·obtain⟨h1,h2,ob,h3,h4⟩:=r.own a x (hsome a x ha) hm;exact⟨h1,h2,ob,h3,(hsc a x ha).1 _ _ _ _ h4⟩
 ·obtain⟨C,e,z,h1,h2⟩:=r.ro a c (hsome a _ ha);exact⟨C,e,z,h1,(hsc a _ ha).2 c rfl _ _ _ _ h2⟩
 ·obtain⟨fn,h1,h2⟩:=rets.res;refine⟨fn,h1,fun w₁ k=> ?_⟩;obtain⟨v',h3,h4⟩:=h2 w₁ k;exact⟨v',h3,(Bi _ _ hv).2 ((Bi _ _ hv).1 h4)⟩
section
variable{P:Program}{E:Env}{C:RC}{F:RF}
theorem QV {next:AF->Hp->Prop} {Q:QT} {ex:Ex} {A:AF} {H:Hp} (h:ex≠ .norm) (q:Q ex A H):I5 next Q ex A H:=by
 cases ex with
 |norm=>exact absurd rfl h
 |exit id=>exact q
 |ret=>exact q
theorem Q8(hC:SC P C){top:Bool}{c:Code}(hg:GoodC P c){ex:Ex}{f':EF}{h':EH}:∀(n:Nat) (f:EF) (h:EH),MK C top c n f h=some (ex,f',h')->EHok P h->EHok P h'/\Lg h h'
 |0,f,h,he,hh=>by cases he
 |n+1,f,h,he,hh=>by
  unfold MK Qd at he;split at he
  ·rename_i f1 h1 hc;obtain⟨_,k1,l1⟩:=hC _ _ _ _ _ _ _ hc hg hh;obtain⟨k2,l2⟩:=Q8 hC hg n f1 h1 he k1;exact⟨k2,l1.trans l2⟩
  ·exact(hC _ _ _ _ _ _ _ he hg hh).2
theorem Q7(hC:SC P C){top:Bool}{c:Code}(hg:GoodC P c){ex:Ex}{f':EF}{h':EH}(n:Nat)(f:EF)(h:EH)(he:MK C top c n f h=some (ex,f',h'))(hh:EHok P h):WC P top (.loop c) (fun e A H=>e=ex/\A=f'.A/\H=h'.m.get) f.A h.m.get:=by
 refine Pr (fun m A H=>∃(f:EF) (h:EH),A=f.A/\H=h.m.get/\EHok P h/\MK C top c m f h=some (ex,f',h')) (m:=n) ⟨f,h,rfl,rfl,hh,he⟩ ?_;rintro m A H ⟨f,h,rfl,rfl,hh,he⟩;cases m with
 |zero=>cases he
 |succ m=>
  unfold MK Qd at he;split at he
  ·rename_i f1 h1 hc;obtain⟨w1,k1,l1⟩:=hC _ _ _ _ _ _ _ hc hg hh;refine WC.mono w1 fun e A H q=> ?_
   obtain⟨rfl,rfl,rfl⟩:=q;exact⟨m,Nat.lt_succ_self m,f1,h1,rfl,rfl,k1,he⟩
  ·rename_i hne;obtain⟨w1,k1,l1⟩:=hC _ _ _ _ _ _ _ he hg hh;refine WC.mono w1 fun e A H q=> ?_
   obtain⟨rfl,rfl,rfl⟩:=q;exact QV (fun e=>hne f' h' (by rw[<-e];exact he)) ⟨rfl,rfl,rfl⟩
theorem Qb(hE:EnvOk P E)(hC:SC P C)(hF:SF P F):SC P (Yd E C F):=by
 intro top c f h ex f' h' he hg hh;unfold Yd at he;split at he
 ·cases he;exact⟨BR ⟨rfl,rfl,rfl⟩,hh,Lg.refl h⟩
 ·cases he;exact⟨Rx ⟨rfl,rfl,rfl⟩,hh,Lg.refl h⟩
 ·cases he;exact⟨Ps ⟨rfl,rfl,rfl⟩,hh,Lg.refl h⟩
 ·cases he;exact⟨BT ⟨rfl,rfl,rfl⟩,hh,Lg.refl h⟩
 ·rename_i a b;unfold Qd at he;split at he
  ·rename_i f1 h1 hc;obtain⟨w1,k1,l1⟩:=hC _ _ _ _ _ _ _ hc hg.1 hh;obtain⟨w2,k2,l2⟩:=hC _ _ _ _ _ _ _ he hg.2 k1;refine⟨BO (WC.mono w1 fun e A H q=> ?_),k2,l1.trans l2⟩;obtain⟨rfl,rfl,rfl⟩:=q;exact w2
  ·rename_i hne;obtain⟨w1,k1,l1⟩:=hC _ _ _ _ _ _ _ he hg.1 hh;refine⟨BO (WC.mono w1 fun e A H q=> ?_),k1,l1⟩;obtain⟨rfl,rfl,rfl⟩:=q;exact QV (fun e=>hne f' h' (by rw[<-e];exact he)) ⟨rfl,rfl,rfl⟩
 ·rename_i c x y;unfold Yl at he;split at he
  ·rename_i hc hx;obtain⟨w1,k1,l1⟩:=hC _ _ _ _ _ _ _ he hg.1 hh;exact⟨Pt (b:=true) hx (by rw[<-GN];exact hc) w1,k1,l1⟩
  ·rename_i hc hx;obtain⟨w1,k1,l1⟩:=hC _ _ _ _ _ _ _ he hg.2 hh;exact⟨Pt (b:=false) hx (by rw[<-GN];exact hc) w1,k1,l1⟩
  ·cases he
 ·rename_i id c;unfold Uf at he;split at he
  ·rename_i i f1 h1 hc;obtain⟨w1,k1,l1⟩:=hC _ _ _ _ _ _ _ hc hg hh;cases hi:Nat.beq i id with
   |true=>
    rw[hi]at he;cases he
    refine⟨BS (WC.mono w1 fun e A H q=> ?_),k1,l1⟩;obtain⟨rfl,rfl,rfl⟩:=q;show(if i=id then _ else _)
    rw[if_pos (AE hi)];exact⟨rfl,rfl,rfl⟩
   |false=>
    rw[hi]at he;cases he
    refine⟨BS (WC.mono w1 fun e A H q=> ?_),k1,l1⟩;obtain⟨rfl,rfl,rfl⟩:=q;show(if i=id then _ else _)
    rw[if_neg fun e=>by rw[wI e]at hi;cases hi];exact⟨rfl,rfl,rfl⟩
  ·rename_i hne;obtain⟨w1,k1,l1⟩:=hC _ _ _ _ _ _ _ he hg hh;refine⟨BS (WC.mono w1 fun e A H q=> ?_),k1,l1⟩;obtain⟨rfl,rfl,rfl⟩:=q;cases e with
   |norm=>exact⟨rfl,rfl,rfl⟩
   |ret=>exact⟨rfl,rfl,rfl⟩
   |exit i=>exact absurd he (hne i f' h')
 ·obtain⟨w1,k1,l1⟩:=hC _ _ _ _ _ _ _ he hg hh;exact⟨Rw w1,k1,l1⟩
 ·rename_i c;have hg':GoodC P c:=hg;obtain⟨k1,l1⟩:=Q8 hC hg' _ _ _ he hh;exact⟨Q7 hC hg' _ _ _ he hh,k1,l1⟩
 ·rename_i id ops;unfold iv at he;split at he
  ·rename_i hok;unfold Yi at he;split at he
   ·rename_i f1 h1 hr;cases he
    obtain⟨w1,k1,l1⟩:=Gi hE hC hF top hok _ _ _ _ _ hr hh;refine⟨OY (Dj.mono w1 fun A H q=> ?_),k1,l1⟩;obtain⟨rfl,rfl⟩:=q;exact⟨rfl,rfl,rfl⟩
   ·cases he
  ·cases he
 ·rename_i id ops;unfold qP at he;rw[force_eq]at he;unfold Yk at he;split at he
  ·rename_i b t hb;injection hb with hb1 hb2 hb3;subst hb1 hb3;unfold qD at he;split at he
   ·rename_i hn;unfold qC at he;split at he
    ·rename_i L f1 hd;unfold iz at he;split at he
     ·rename_i hok;cases he
      exact Jg hE hC hF (hg rfl) hb2 hn hh hd hok
     ·unfold qB at he;split at he
      ·rename_i L2 f2 hd2;unfold qA at he;split at he
       ·rename_i hok;cases he
        exact Jg hE hC hF (hg rfl) hb2 hn hh hd2 hok
       ·cases he
      ·cases he
    ·cases he
   ·cases he
  ·cases he
 ·rename_i x params assign body;unfold Ue at he;split at he
  ·rename_i g first cap hox hx
   unfold iu at he;split at he
   ·cases he
   ·rename_i cd hcd;obtain⟨n,rs,c⟩:=cd;obtain⟨fn,q1,q2,q3,q4,q5,q6⟩:=hE.code g n rs c hcd;rw[force_eq]at he;obtain⟨k1,l1⟩:=Eu hh h.n (.df true) (fun l hl=>by cases hl);obtain⟨k2,l2⟩:=Eu k1 (h.n+1) (.lp ⟨.ready,none,f.n,fun i=>(f.t.get i).getD (f.b i),params,assign,body,h.n⟩) (fun l hl=>by cases hl;exact hg);unfold ir at he;split at he
    ·rename_i u h2 hf;obtain⟨w1,k3,l3⟩:=hF g _ _ _ _ hf k2;rw[EH.put_get,EH.put_get]at w1;split at he
     ·rename_i lp hlp;obtain⟨k4,l4⟩:=Eu k3 (h.n+1) (.lp {lp with state:= .exhausted}) (fun l hl=>by cases hl;exact k3.lp _ lp hlp);have hl4:=l1.trans (l2.trans (l3.trans l4));have fin:∀{Q:QT},lp.state≠ .busy->Qs Q {f.A with d:={target:= .collected h.n,args:= #[]}::f.A.d} (h2.put (h.n+1) (.lp {lp with state:= .exhausted})).m.get lp.pending->WC P true (.rangeFunc x params assign body) Q f.A h.m.get:=fun{Q} hst hp=>by
       refine Jo hox (by rw[<-GN];exact hx) q1 q2 q5 (hh.fin _ (AH _)) (hh.fin (h.n+1) om) om (Ee.mono w1 fun u' H' q=> ?_);obtain⟨rfl,rfl⟩:=q;refine⟨lp,hlp,hst,?_⟩;rw[<-EH.put_get];exact hp
      unfold iq at he;split at he
      ·cases he
      ·rename_i hp hst;cases he
       exact⟨fin (fun e=>hst e) (by rw[hp,GO];exact⟨rfl,rfl,rfl⟩),k4,hl4⟩
      ·rename_i hp hst;cases he
       exact⟨fin (fun e=>hst e) (by rw[hp,GO];exact⟨rfl,rfl,rfl⟩),k4,hl4⟩
      ·rename_i id hp hst;cases he
       exact⟨fin (fun e=>hst e) (by rw[hp,GO];exact⟨rfl,rfl,rfl⟩),k4,hl4⟩
      ·cases he
     ·cases he
    ·cases he
  ·cases he
 ·cases he
theorem KW(hE:EnvOk P E)(hF:SF P F){g:FuncId}{fn:Func}(hf:P.funcs[g]? =some fn){h2:EH}{v:Value}:∀(ds:List Deferred) (A:AF) (h:EH),A.d=ds->sO E F ds h=some h2->EHok P h->Dn E.ty h2.m.get {A with d:=[]} fn.results.toList=some v->
  NA P g (fun u H=>u=v/\H=h2.m.get) A h.m.get/\EHok P h2/\Lg h h2
 |[],A,h,hd,he,hh,hv=>by
  cases he
  refine⟨NA.done hE.ty hf hd (v:=v) ?_ ⟨rfl,rfl⟩,hh,Lg.refl _⟩;rw[<-hv];obtain⟨n,t,d⟩:=A;cases hd
  rfl
 |d::ds,A,h,hd,he,hh,hv=>by
  unfold sO at he;split at he
  ·rename_i g' cap ht;split at he
   ·cases he
   ·rename_i cd hcd;obtain⟨n,rs,c⟩:=cd;obtain⟨fn',q1,q2,q3,q4,q5,q6⟩:=hE.code g' n rs c hcd;split at he
    ·rename_i u h1 hc;obtain⟨w1,k1,l1⟩:=hF g' _ _ _ _ hc hh;obtain⟨w2,k2,l2⟩:=KW hE hF hf ds {A with d:=ds} h1 rfl he k1 hv;refine⟨NA.call hd ht q1 q2 q5 (Ee.mono w1 fun u' H' q=> ?_),k2,l1.trans l2⟩;obtain⟨rfl,rfl⟩:=q;exact w2
    ·cases he
  ·rename_i r ht;split at he
   ·rename_i hr;obtain⟨k1,l1⟩:=Eu hh r (.df false) (fun l hl=>by cases hl);obtain⟨w2,k2,l2⟩:=KW hE hF hf ds {A with d:=ds} _ rfl he k1 hv;rw[EH.put_get]at w2;exact⟨NA.collected hd ht hr w2,k2,l1.trans l2⟩
   ·cases he
  ·cases he
theorem Qa(hE:EnvOk P E)(hC:SC P C)(hF:SF P F):SF P (Yc E C F):=by
 intro g args h v h' he hh;unfold Yc pz at he;split at he
 ·rename_i o ho;exact hE.ord g o ho _ _ _ _ he hh
 ·unfold py at he;split at he
  ·cases he
  ·rename_i n rs c hcd;rw[force_eq,R3]at he;obtain⟨fn,q1,q2,q3,q4,q5,q6⟩:=hE.code g n rs c hcd;subst q3 q4;have hh0:EHok P ⟨h.m,h.n,[]⟩:=⟨hh.fin,hh.lp⟩;unfold px at he;split at he
   ·cases he
   ·cases he
   ·rename_i ex f h1 hnx hc;obtain⟨w1,k1,l1⟩:=hC _ _ _ _ _ _ _ hc q6 hh0;rw[I1]at w1;unfold pu at he;split at he
    ·cases he
    ·rename_i h2 hu;unfold pr at he;split at he
     ·cases he
     ·rename_i v' hv;rw[Eo]at he;obtain⟨w2,k2,l2⟩:=KW hE hF q1 f.A.d f.A h1 rfl hu k1 (v:=v') hv;have hl:=l1.trans l2;have hW:Ee P g args (fun u H=>u=v'/\H=h2.m.get) h.m.get:=by
       refine Ee.body q1 q2 (WC.mono w1 fun e A H q=> ?_);obtain⟨rfl,rfl,rfl⟩:=q;cases e with
       |norm=>exact w2
       |ret=>exact w2
       |exit i=>exact(hnx i rfl).elim
      have hsame:∀a,a<h.n->a ∉ h2.log->h2.m.get a=h.m.get a:=hl.same;have hno:h2.log.filter (Nat.blt · h.n)=[]->∀a,a<h.n->h2.m.get a=h.m.get a:=fun hch a ha=>hsame a ha fun hm=>by
       have:a∈h2.log.filter (Nat.blt · h.n):=List.mem_filter.2 ⟨hm,Nat.ble_eq_true_of_le ha⟩;rw[hch]at this;simp at this
      unfold pq at he;split at he
      ·rename_i hch hp;cases he
       refine⟨TU hW hp fun a ha=>hno hch a ?_,hh,Lg.refl h⟩;rcases Nat.lt_or_ge a h.n with k|k
       ·exact k
       ·exact absurd (hh.fin a k) ha
      ·rename_i hch hp;cases he
       rw[Js];exact⟨hW,⟨k2.fin,k2.lp⟩,⟨hl.n,fun a ha=>ha,fun a ha _=>hno hch a ha⟩⟩
      ·cases he
       rw[Js];refine⟨hW,⟨k2.fin,k2.lp⟩,⟨hl.n,fun a ha=>List.mem_append_right _ ha,fun a ha hm=>hsame a ha fun hm2=>hm (List.mem_append_left _ ?_)⟩⟩;exact List.mem_filter.2 ⟨hm2,Nat.ble_eq_true_of_le ha⟩
theorem EX(hE:EnvOk P E):∀k,SC P (ev E k).C/\SF P (ev E k).F
 |0=>⟨fun _ _ _ _ _ _ _ he=>(by cases he),fun _ _ _ _ _ he=>(by cases he)⟩
 |k+1=>⟨Qb hE (EX hE k).1 (EX hE k).2,Qa hE (EX hE k).1 (EX hE k).2⟩
end
end
section
open Go.Conc Go.Proofs
variable[Md]
section
variable{α:Type}
theorem S0{β:Type}{x:Except String α}{f:α->Except String β}{b:β}(h: (x>>=f)= .ok b):∃a,x= .ok a/\f a= .ok b:=by
 cases x with
 |error e=>cases h
 |ok a=>exact⟨a,rfl,h⟩
theorem nZ{x:Except String α}{f:String->String}{a:α}(h:x.mapError f= .ok a):x= .ok a:=by
 cases x with
 |error e=>cases h
 |ok b=>exact h
theorem WF{g:α->Except String PUnit}:∀(l:List α),l.forM g= .ok ()->∀x∈l,g x= .ok ()
 |[],_,x,hx=>by simp at hx
 |y::l,h,x,hx=>by
  have h: (g y>>=fun _=>l.forM g)= .ok ():=h;obtain⟨u,h1,h2⟩:=S0 h;rcases AV.1 hx with rfl|hx
  ·exact h1
  ·exact WF l h2 x hx
theorem nY{b:Bool}{m:String}{u:Unit}(h:Check.require b m= .ok u):b=true:=by
 unfold Check.require at h;cases b with
 |true=>rfl
 |false=>cases h
theorem E1(p:Program)(f:Func):∀(c:Code) (bl lb:List Nat),CheckCode.code p f bl lb c= .ok ()->GoodC p c
 | .region id ops d,bl,lb,h=>fun hd=>by
  subst hd;unfold CheckCode.code CheckCode.region at h;obtain⟨_,_,h⟩:=S0 h;obtain⟨_,_,h⟩:=S0 h;exact nY h
 | .seq a b,bl,lb,h=>by
  unfold CheckCode.code at h;obtain⟨_,h1,h2⟩:=S0 h;exact⟨E1 p f a bl lb h1,E1 p f b bl lb h2⟩
 | .cond c a b,bl,lb,h=>by
  unfold CheckCode.code at h;obtain⟨_,_,h⟩:=S0 h;obtain⟨_,h1,h2⟩:=S0 h;exact⟨E1 p f a bl lb h1,E1 p f b bl lb h2⟩
 | .block id c,bl,lb,h=>E1 p f c (id::bl) lb (by unfold CheckCode.code at h;exact h)
 | .loop c,bl,lb,h=>E1 p f c bl lb (by unfold CheckCode.code at h;exact h)
 | .scope c,bl,lb,h=>E1 p f c bl _ (by unfold CheckCode.code at h;exact h)
 | .rangeFunc g ps a c,bl,lb,h=>by
  unfold CheckCode.code at h;obtain⟨_,_,h⟩:=S0 h;obtain⟨_,_,h⟩:=S0 h;obtain⟨_,_,h⟩:=S0 h;obtain⟨_,h1,h2⟩:=S0 h;exact⟨E1 p f a [] [] h1,E1 p f c bl lb h2⟩
 | .skip,_,_,_=>trivial
 | .ret,_,_,_=>trivial
 | .label _,_,_,_=>trivial
 | .refuse _,_,_,_=>trivial
 | .exit _,_,_,_=>trivial
 | .goto _,_,_,_=>trivial
theorem V5{p:Program}{g:FuncId}{fn:Func}{c:Code}(hp: (List.range p.funcs.size).forM (CheckCode.funcAt p)= .ok ())(hf:p.funcs[g]? =some fn)(hb:fn.body=some c):GoodC p c:=by
 have h:=WF _ hp g (An.2 (AR.1 hf).1);unfold CheckCode.funcAt at h;rw[hf]at h;have h:=nZ h;unfold CheckCode.func at h;obtain⟨_,_,h⟩:=S0 h;obtain⟨_,_,h⟩:=S0 h;obtain⟨_,_,h⟩:=S0 h;rw[hb]at h;obtain⟨_,_,h⟩:=S0 h;obtain⟨_,h1,h⟩:=S0 h;exact E1 p fn c [] [] h1
def cK:List Value->Option Value
 |[.int .u64 (.ofNat x),.int .u64 (.ofNat y),.int .u64 (.ofNat c)]=>match Nat.ble c 1 with
  |true=>some (Extern.MathBitsCarry.pair ((x+y+c)%18446744073709551616) ((x+y+c)/18446744073709551616))
  |false=>none
 |_=>none
def Yb:List Value->Option Value
 |[.int .u64 (.ofNat x),.int .u64 (.ofNat y),.int .u64 (.ofNat c)]=>match Nat.ble c 1 with
  |true=>some (Extern.MathBitsCarry.pair ((x+18446744073709551616 - y - c)%18446744073709551616) (bif Nat.blt x (y+c)then 1 else 0))
  |false=>none
 |_=>none
def gd(g:FuncId)(vs:List Value):Option Value:=match Nat.beq g 116,Nat.beq g 145 with
 |true,_=>cK vs
 |_,true=>Yb vs
 |_,_=>none
noncomputable def QR(ord:FuncId->Option (List Value->EH->Option (Value×EH))):Env:=⟨QU Tryz.prog,TC Tryz.prog,gd,ord⟩
theorem My: (Tryz.prog.funcs.toList.all fun fn=> !(fn.name=="runtime.NumGoroutine"))=true:=by kernel_rfl
variable{P:Program}
theorem Nl{x y c:Nat}{nm:String}(hc:c<=1){w:World}{E:Event->Prop}:Ran P (Extern.MathBitsCarry.three nm #[.int .u64 (.ofNat x),.int .u64 (.ofNat y),.int .u64 (.ofNat c)]) w (x,y,c) w E:=by
 unfold Extern.MathBitsCarry.three;have h:¬c>1:=by omega
 refine Ran.bind (Kb _ _) ?_;simp only[Int.ofNat_eq_natCast,Aa,h,Ab];exact Ran.pure _
variable{vs:List Value}
theorem X4{P:Program}{v:Value}(h:cK vs=some v):plainVl vs=true/\plainV v=true/\∃x y c,c<=1/\vs=[.int .u64 (.ofNat x),.int .u64 (.ofNat y),.int .u64 (.ofNat c)]/\v=Extern.MathBitsCarry.pair ((x+y+c)%18446744073709551616) ((x+y+c)/18446744073709551616):=by
 unfold cK at h;split at h
 ·rename_i x y c;split at h
  ·rename_i hc;cases h
   exact⟨rfl,rfl,x,y,c,Nat.le_of_ble_eq_true hc,rfl,rfl⟩
  ·cases h
 ·cases h
theorem Wx{P:Program}{v:Value}(h:Yb vs=some v):plainVl vs=true/\plainV v=true/\∃x y c,c<=1/\vs=[.int .u64 (.ofNat x),.int .u64 (.ofNat y),.int .u64 (.ofNat c)]/\v=Extern.MathBitsCarry.pair ((x+18446744073709551616 - y - c)%18446744073709551616) (bif Nat.blt x (y+c)then 1 else 0):=by
 unfold Yb at h;split at h
 ·rename_i x y c;split at h
  ·rename_i hc;cases h
   exact⟨rfl,rfl,x,y,c,Nat.le_of_ble_eq_true hc,rfl,rfl⟩
  ·cases h
 ·cases h
noncomputable def jz:Func:=(Tryz.prog.funcs.toList[116]?).getD default
noncomputable def jy:Func:=(Tryz.prog.funcs.toList[145]?).getD default
set_option maxRecDepth 100000 in
theorem F5{ord:FuncId->Option (List Value->EH->Option (Value×EH))}(ho:∀g o,ord g=some o->SG Tryz.prog g o):EnvOk Tryz.prog (QR ord) where
 ty:=show TOk Tryz.prog (QU Tryz.prog)from UZ Tryz.prog
 fo:=show FOk Tryz.prog (QU Tryz.prog)from QS Tryz.prog
 mix:=by kernel_rfl
 rfr:=by kernel_rfl
 code g n rs c h:=by
  have h:TC Tryz.prog g=some (n,rs,c):=h;unfold TC at h;split at h
  ·rename_i fn hf;split at h
   ·rename_i c' hc;cases h
    have hf':Tryz.prog.funcs[g]? =some fn:=by rw[<-Ae];exact hf
    refine⟨fn,hf',hc,rfl,rfl,?_,V5 Tryz.co.funcs hf' hc⟩;have:=AS.1 My fn (Ao hf);simpa using this
   ·cases h
  ·cases h
 ext g vs v h:=by
  have h:gd g vs=some v:=h;unfold gd at h;split at h
  ·rename_i hg;obtain rfl:=AE hg;obtain⟨h1,h2,x,y,c,h3,h4,h5⟩:=X4 (P:=Tryz.prog) h;refine⟨jz,_,by rw[<-Ae];kernel_rfl,by kernel_rfl,by kernel_rfl,by kernel_rfl,show Extern.find jz=some (fun args=>do
    let(x,y,c) <-Extern.MathBitsCarry.three "Add64" args
    pure (Extern.MathBitsCarry.pair ((x+y+c)%Extern.MathBitsCarry.m64) ((x+y+c)/Extern.MathBitsCarry.m64))) by kernel_rfl,h1,h2,fun w E'=> ?_⟩
   rw[h4,h5];exact Ran.bind (Nl h3) (Ran.pure _)
  ·rename_i hg _;obtain rfl:=AE hg;obtain⟨h1,h2,x,y,c,h3,h4,h5⟩:=Wx (P:=Tryz.prog) h;refine⟨jy,_,by rw[<-Ae];kernel_rfl,by kernel_rfl,by kernel_rfl,by kernel_rfl,show Extern.find jy=some (fun args=>do
    let(x,y,b) <-Extern.MathBitsCarry.three "Sub64" args
    pure (Extern.MathBitsCarry.pair ((x+Extern.MathBitsCarry.m64 - y - b)%Extern.MathBitsCarry.m64) (if x<y+b then 1 else 0))) by kernel_rfl,h1,h2,fun w E'=> ?_⟩
   rw[h4,h5];refine Ran.bind (Nl h3) ?_;have e: (bif Nat.blt x (y+c)then 1 else 0)=if x<y+c then 1 else 0:=by
    cases hb:Nat.blt x (y+c)with
    |true=>rw[if_pos (Dd hb)];rfl
    |false=>rw[if_neg (Nat.not_lt.2 (Gl hb))];rfl
   rw[e];exact Ran.pure _
  ·cases h
 ord:=ho
end
end
section
open Go.Conc
variable[Md]
theorem Q5:∀(args:List Value) {D:Nat->Prop},(∀v∈args,R6 D v)->∀φ D' vs,BZ φ D' args vs->BZ φ D args vs
 |[],D,h,φ,D',vs,k=>by cases vs<;>simp_all [BZ]
 |v::l,D,h,φ,D',vs,k=>by
  cases vs with
  |nil=>simp[BZ]at k
  |cons u r=>
   simp only[BZ]at k⊢;obtain⟨v',r',e,k1,k2⟩:=k;exact⟨v',r',e,h v (List.mem_cons_self ..) _ _ _ k1,Q5 l (fun x hx=>h x (List.mem_cons_of_mem _ hx)) _ _ _ k2⟩
open Classical in
theorem Ee.frame{P:Program}{g:FuncId}{args:List Value}{M G:Hp}{δ:Dl}{v0:Value}(h:Ee P g args (fun v H'=>v=v0/\H'=app M δ) M)(hs:Sub M G)(hsc:Sc M)(hfin:∃n,∀a,n<=a->M a=none)(hev:∀v∈args,R6 (dom M) v)
  (hδ:∀a,δ a≠none->Live M a\/G a=none)(hro:∀a c,δ a≠some (.ro c)):Ee P g args (fun v H'=>v=v0/\H'=app G δ) G:=by
 intro main K hK X O φ w args' kind cs hqu hr hargs hk;let C:Nat->Prop:=fun b=>∃a y,G a=some y/\y.mine=true/\φ.f a=b/\¬Live M a
 let X':Nat->Option Obj:=fun b=>if C b then w.heap[b]? else X b
 have hXC:∀b,C b->X' b=w.heap[b]? :=fun b hb=>if_pos hb
 have hXN:∀b,¬C b->X' b=X b:=fun b hb=>if_neg hb
 have hCs:∀b,C b->O b/\X b=none/\∃q,w.heap[b]? =some q:=by
  rintro b ⟨a,y,h1,h2,rfl,_⟩;obtain⟨k1,k2,q,k3,_⟩:=hr.own a y h1 h2;exact⟨k1,k2,q,k3⟩
 have hcn:∀a x,M a=some x->x.mine=true->¬C (φ.f a):=by
  rintro a x hx hxm ⟨a2,y,h1,h2,h3,h4⟩;have e:=hr.inj a2 a y x h1 (hs.live a x hx (CI hxm)) h2 hxm h3;exact h4 ⟨x,e▸hx,CI hxm⟩
 have hrM:Rel X' O φ M w:=by
  refine⟨hfin,fun b q hb=> ?_,fun a x hx hxm=> ?_,fun a c hc=> ?_,fun a b x y hx hy hxm hym e=> ?_⟩
  ·by_cases hC:C b
   ·rw[hXC b hC]at hb;exact⟨.inl (hCs b hC).1,hb⟩
   ·rw[hXN b hC]at hb;exact hr.frame b q hb
  ·obtain⟨k1,k2,q,k3,k4⟩:=hr.own a x (hs.live a x hx (CI hxm)) hxm;exact⟨k1,by rw[hXN _ (hcn a x hx hxm)];exact k2,q,k3,(hsc a x hx).1 _ _ _ _ k4⟩
  ·obtain⟨q,e,z,k1,k2⟩:=hr.ro a c (hs.live a _ hc (fun e=>by cases e));refine⟨q,e,z,?_,(hsc a _ hc).2 c rfl _ _ _ _ k2⟩;by_cases hC:C (φ.f a)
   ·rw[hXC _ hC];exact(hr.frame _ _ k1).2
   ·rw[hXN _ hC];exact k1
  ·exact hr.inj a b x y (hs.live a x hx (CI hxm)) (hs.live b y hy (CI hym)) hxm hym e
 refine h main K hK X' O φ w args' kind cs hqu hrM (Q5 args hev _ _ _ hargs) fun v H' O' φ' w' fr q hg hO hr' rets=> ?_
 obtain⟨rfl,rfl⟩:=q;let ψ:Ph:=⟨fun a=>if dom (app M δ) a then φ'.f a else φ.f a,fun a=>if dom (app M δ) a then φ'.sh a else φ.sh a,fun a=>if dom (app M δ) a then φ'.sz a else φ.sz a⟩
 have ψin:∀a,dom (app M δ) a->φ'.same ψ a:=fun a ha=>⟨if_pos ha,if_pos ha,if_pos ha⟩
 have ψout:∀a,¬dom (app M δ) a->φ.same ψ a:=fun a ha=>⟨if_neg ha,if_neg ha,if_neg ha⟩
 have ψold:∀a,dom G a->φ.same ψ a:=by
  intro a ha;by_cases hd:dom (app M δ) a
  ·have h1:=ψin a hd;have hM:dom M a:=by
    cases hδa:δ a with
    |none=>unfold dom at hd⊢;rwa [Be hδa]at hd
    |some y=>
     rcases hδ a (by rw[hδa];exact fun e=>by cases e)with⟨x,hx,_⟩|hn
     ·unfold dom;rw[hx];exact fun e=>by cases e
     ·exact absurd hn ha
   obtain⟨_,g1,g2,g3⟩:=hg a hM;exact⟨h1.1.trans g1,h1.2.1.trans g2,h1.2.2.trans g3⟩
  ·exact ψout a hd
 have dsub:∀a,dom (app M δ) a->dom (app G δ) a:=by
  intro a ha;unfold dom at ha⊢;cases hδa:δ a with
  |none=>rw[Be hδa]at ha⊢;exact hs.dom a ha
  |some y=>rw[Bl hδa];exact fun e=>by cases e
 have hin:∀c,dom (app M δ) c->dom (app G δ) c/\φ'.same ψ c:=fun c hc=>⟨dsub c hc,ψin c hc⟩
 have hG2:Gr φ G ψ (app G δ):=by
  intro a ha;refine⟨?_,ψold a ha⟩;unfold dom at ha⊢;cases hδa:δ a with
  |none=>rwa [Be hδa]
  |some y=>rw[Bl hδa];exact fun e=>by cases e
 have domS:∀{H:Hp} {a:Nat} {x:AB},H a=some x->dom H a:=fun hx e=>by rw[hx]at e;cases e
 have cases_:∀a x,app G δ a=some x->x≠ .dead->(app M δ a=some x/\ψ.f a=φ'.f a)\/(δ a=none/\G a=some x/\¬Live M a):=by
  intro a x hx hxd;cases hδa:δ a with
  |some y=>
   rw[Bl hδa]at hx;have:app M δ a=some x:=by rw[Bl hδa];exact hx
   exact .inl ⟨this,(ψin a (domS this)).1⟩
  |none=>
   rw[Be hδa]at hx;by_cases hl:Live M a
   ·obtain⟨x2,h1,h2⟩:=hl;have h3:=hs.live a x2 h1 h2;rw[hx]at h3;obtain rfl:=AC h3;have:app M δ a=some x:=by rw[Be hδa];exact h1
    exact .inl ⟨this,(ψin a (domS this)).1⟩
   ·exact .inr ⟨rfl,hx,hl⟩
 have hfr:∀a x,G a=some x->x.mine=true->¬Live M a->X' (φ.f a)=w.heap[φ.f a]? /\w'.heap[φ.f a]? =w.heap[φ.f a]? /\O' (φ.f a):=by
  intro a x hx hxm hl;have hC:C (φ.f a):=⟨a,x,hx,hxm,rfl,hl⟩;obtain⟨k1,k2,q,k3⟩:=hCs _ hC;have hX:=hXC _ hC;rw[k3]at hX;obtain⟨g1,g2⟩:=hr'.frame _ _ hX;exact⟨hX.trans k3.symm,g2.trans k3.symm,hO _ k1⟩
 have hX0:∀b,X' b=none->X b=none:=by
  intro b hb;by_cases hC:C b
  ·rw[hXC b hC]at hb;obtain⟨_,k2,_⟩:=hCs b hC;exact k2
  ·rwa [hXN b hC]at hb
 have hrG:Rel X O' ψ (app G δ) w':=by
  refine⟨?_,fun b q hb=> ?_,fun a x hx hxm=> ?_,fun a c hc=> ?_,fun a b x y hx hy hxm hym e=> ?_⟩
  ·obtain⟨n1,h1⟩:=hr'.fin;obtain⟨n2,h2⟩:=hr.fin;refine⟨max n1 n2,fun a ha=> ?_⟩;have h3:=h1 a om;cases hδa:δ a with
   |none=>rw[Be hδa];exact h2 a om
   |some y=>rw[Bl hδa]at h3;cases h3
  ·have hC:¬C b:=fun hC=>by rw[(hCs b hC).2.1]at hb;cases hb
   exact hr'.frame b q (by rw[hXN b hC];exact hb)
  ·rcases cases_ a x hx (CI hxm)with⟨h1,h2⟩|⟨h1,h2,h3⟩
   ·obtain⟨g1,g2,q,g3,g4⟩:=hr'.own a x h1 hxm;rw[h2];exact⟨g1,hX0 _ g2,q,g3,DH hin (domS h1) g4⟩
   ·obtain⟨k1,k2,q,k3,k4⟩:=hr.own a x h2 hxm;obtain⟨g1,g2,g3⟩:=hfr a x h2 hxm h3;rw[(ψold a (domS h2)).1];exact⟨g3,k2,q,g2.trans k3,DH hG2 (domS h2) k4⟩
  ·cases hδa:δ a with
   |some y=>rw[Bl hδa]at hc;exact absurd (hδa.trans hc) (hro a c)
   |none=>
    rw[Be hδa]at hc;obtain⟨q,e,z,k1,k2⟩:=hr.ro a c hc;have hso:=ψold a (domS hc);exact⟨q,e,z,by rw[hso.1];exact k1,by rw[hso.2.1];exact DG hG2 k2⟩
  ·rcases cases_ a x hx (CI hxm)with⟨h1,h2⟩|⟨h1,h2,h3⟩<;>rcases cases_ b y hy (CI hym)with⟨g1,g2⟩|⟨g1,g2,g3⟩
   ·rw[h2,g2]at e;exact hr'.inj a b x y h1 g1 hxm hym e
   ·exfalso;rw[h2,(ψold b (domS g2)).1]at e;obtain⟨_,u2,_⟩:=hr'.own a x h1 hxm;obtain⟨q1,q2,_⟩:=hfr b y g2 hym g3;obtain⟨_,_,q,k3,_⟩:=hr.own b y g2 hym;rw[e,q1,k3]at u2;cases u2
   ·exfalso;rw[g2,(ψold a (domS h2)).1]at e;obtain⟨_,u2,_⟩:=hr'.own b y g1 hym;obtain⟨q1,q2,_⟩:=hfr a x h2 hxm h3;obtain⟨_,_,q,k3,_⟩:=hr.own a x h2 hxm;rw[<-e,q1,k3]at u2;cases u2
   ·rw[(ψold a (domS h2)).1,(ψold b (domS g2)).1]at e;exact hr.inj a b x y h2 g2 hxm hym e
 refine hk v (app G δ) O' ψ w' fr ⟨rfl,rfl⟩ hG2 hO hrG ⟨rets.mode,rets.defers,rets.fn,rets.kind,?_⟩;obtain⟨fn,q1,q2⟩:=rets.res;refine⟨fn,q1,fun w₁ k=> ?_⟩;obtain⟨v',q3,q4⟩:=q2 w₁ k;exact⟨v',q3,CB hin _ _ q4⟩
theorem Ee.drop{P:Program}{g:FuncId}{args:List Value}{v:Value}{H H1 H2:Hp}(h:Ee P g args (fun u H'=>u=v/\H'=H1) H)(hv:R6 (dom H2) v)(hd:∀a,dom H a->dom H2 a)(hs:∀a x,H2 a=some x->H1 a=some x)(hm:∀a x,H2 a=some x->NU (dom H2) x)(hfin:∃n,∀a,n<=a->H2 a=none):Ee P g args (fun u H'=>u=v/\H'=H2) H:=by
 intro main K hK X O φ w args' kind cs hq hr hargs hk;refine h main K hK X O φ w args' kind cs hq hr hargs fun u H' O' φ' w' fr q g o r rets=> ?_
 obtain⟨rfl,rfl⟩:=q;refine hk u H2 O' φ' w' fr ⟨rfl,rfl⟩ (fun a ha=>⟨hd a ha,(g a ha).2⟩) o ⟨hfin,r.frame,fun a x ha hx=> ?_,fun a c ha=> ?_,fun a b x y ha hb=>r.inj a b x y (hs a x ha) (hs b y hb)⟩ ⟨rets.mode,rets.defers,rets.fn,rets.kind,?_⟩
 ·obtain⟨h1,h2,ob,h3,h4⟩:=r.own a x (hs a x ha) hx;exact⟨h1,h2,ob,h3,(hm a x ha).1 _ _ _ _ h4⟩
 ·obtain⟨C,e,z,h1,h2⟩:=r.ro a c (hs a _ ha);exact⟨C,e,z,h1,(hm a _ ha).2 c rfl _ _ _ _ h2⟩
 ·obtain⟨fn,h1,h2⟩:=rets.res;refine⟨fn,h1,fun w₁ k=> ?_⟩;obtain⟨v',h3,h4⟩:=h2 w₁ k;exact⟨v',h3,hv _ _ _ h4⟩
mutual
def Vu(D:Nat->Bool):Value->Bool
 | .pointer (some a)=>D a.block
 | .slice (some a) _ _=>D a.block
 | .map (some r)=>D r
 | .chan (some r)=>D r
 | .func g x c=>(match g with
  | .yield l=>D l
  |_=>true)&&pJ D x&&pJ D c
 | .iface _ x=>Vu D x
 | .agg cs=>pJ D cs
 | .tuple cs=>pJ D cs
 |_=>true
def pJ(D:Nat->Bool):Array Value->Bool
 |⟨l⟩=>RJ D l
def RJ(D:Nat->Bool):List Value->Bool
 |[]=>true
 |v::r=>Vu D v&&RJ D r
end
section
variable{D:Nat->Bool}{φ:Ph}{D':Nat->Prop}
mutual
theorem PT:∀(v v':Value),Vu D v=true->vrel φ D' v v'->vrel φ (fun a=>D a=true) v v'
 | .pointer none,v',h,k=>by simp only[vrel]at k⊢;exact k
 | .pointer (some a),v',h,k=>by simp only[vrel,Vu]at h k⊢;exact⟨h,k.2⟩
 | .slice none n c,v',h,k=>by simp only[vrel]at k⊢;exact k
 | .slice (some a) n c,v',h,k=>by simp only[vrel,Vu]at h k⊢;exact⟨h,k.2⟩
 | .map none,v',h,k=>by simp only[vrel]at k⊢;exact k
 | .map (some r),v',h,k=>by simp only[vrel,Vu]at h k⊢;exact⟨h,k.2⟩
 | .chan none,v',h,k=>by simp only[vrel]at k⊢;exact k
 | .chan (some r),v',h,k=>by simp only[vrel,Vu]at h k⊢;exact⟨h,k.2⟩
 | .func g x c,v',h,k=>by
  simp only[vrel,Vu,AA]at h k⊢;obtain⟨g',x',c',e,k1,k2,k3⟩:=k;refine⟨g',x',c',e,?_,LU x x' h.1.2 k2,LU c c' h.2 k3⟩;cases g<;>first|exact⟨h.1.1,k1.2⟩|exact k1
 | .iface t x,v',h,k=>by
  simp only[vrel,Vu]at h k⊢;obtain⟨x',e,k1⟩:=k;exact⟨x',e,PT x x' h k1⟩
 | .agg cs,v',h,k=>by
  simp only[vrel,Vu]at h k⊢;obtain⟨x',e,k1⟩:=k;exact⟨x',e,LU cs x' h k1⟩
 | .tuple cs,v',h,k=>by
  simp only[vrel,Vu]at h k⊢;obtain⟨x',e,k1⟩:=k;exact⟨x',e,LU cs x' h k1⟩
 | .bool _,v',h,k=>by simp only[vrel]at k⊢;exact k
 | .int _ _,v',h,k=>by simp only[vrel]at k⊢;exact k
 | .float _ _,v',h,k=>by simp only[vrel]at k⊢;exact k
 | .complex _ _ _,v',h,k=>by simp only[vrel]at k⊢;exact k
 | .string _,v',h,k=>by simp only[vrel]at k⊢;exact k
 | .nilFunc,v',h,k=>by simp only[vrel]at k⊢;exact k
 | .nilIface,v',h,k=>by simp only[vrel]at k⊢;exact k
theorem LU:∀(v v':Array Value),pJ D v=true->B3 φ D' v v'->B3 φ (fun a=>D a=true) v v'
 |⟨l⟩,v',h,k=>by
  simp only[B3,pJ]at h k⊢;exact Vv l v'.toList h k
theorem Vv:∀(v v':List Value),RJ D v=true->BZ φ D' v v'->BZ φ (fun a=>D a=true) v v'
 |[],v',h,k=>by simp only[BZ]at k⊢;exact k
 |v::r,v',h,k=>by
  simp only[BZ,RJ,AA]at h k⊢;obtain⟨u,r',e,k1,k2⟩:=k;exact⟨u,r',e,PT v u h.1 k1,Vv r r' h.2 k2⟩
end
end
theorem MY{D:Nat->Bool}{v:Value}(h:Vu D v=true):R6 (fun a=>D a=true) v:=fun φ D' v' k=>PT v v' h k
theorem Ma{D:Nat->Bool}:∀(l:List Value),RJ D l=true->∀v∈l,Vu D v=true
 |[],_,v,hv=>by simp at hv
 |u::l,h,v,hv=>by
  simp only[RJ,AA]at h;rcases AV.1 hv with rfl|hv
  ·exact h.1
  ·exact Ma l h.2 v hv
def xR(D:Nat->Bool):AB->Bool
 | .own c=>RJ D c
 | .ro c=>RJ D c
 | .dead=>true
 |_=>false
theorem Ip{D:Nat->Bool}{x:AB}(h:xR D x=true):NU (fun a=>D a=true) x:=by
 have hc:∀c:List Value,RJ D c=true->∀φ D' s C,crel φ D' s c C->crel φ (fun a=>D a=true) s c C:=fun c hl φ D' s C k i v hv=>by
  obtain⟨v',h1,h2⟩:=k i v hv;exact⟨v',h1,MY (Ma c hl v (Ao hv)) _ _ _ h2⟩
 cases x with
 |own c=>
  refine⟨fun φ D' a o k=> ?_,fun c' e=>by cases e⟩;obtain⟨C,e,k1,k2,k3,k4⟩:=k;exact⟨C,e,k1,k2,k3,hc c h _ _ _ _ k4⟩
 |ro c=>exact⟨fun φ D' a o k=>k.elim,fun c' e=>by cases e;exact hc c h⟩
 |dead=>exact KJ
 |mp _ _=>cases h
 |lp _=>cases h
 |df _=>cases h
 |ob _ _=>cases h
 |it _ _ _ _=>cases h
noncomputable section
def wh:Int->Int->Bool
 | .ofNat a,.ofNat b=>Nat.beq a b
 | .negSucc a,.negSucc b=>Nat.beq a b
 |_,_=>false
theorem nr:∀{a b:Int},wh a b=true->a=b
 | .ofNat a,.ofNat b,h=>congrArg _ (AE h)
 | .negSucc a,.negSucc b,h=>congrArg _ (AE h)
 | .ofNat _,.negSucc _,h=>by cases h
 | .negSucc _,.ofNat _,h=>by cases h
mutual
def R7:Value->Value->Bool
 | .bool a,.bool b=>a==b
 | .int k a,.int l b=>wh a b&&k==l
 | .pointer none,.pointer none=>true
 | .pointer (some a),.pointer (some b)=>Nat.beq a.block b.block&&Nat.beq a.off b.off&&a.spot==b.spot
 | .slice none n c,.slice none m e=>Nat.beq n m&&Nat.beq c e
 | .slice (some a) n c,.slice (some b) m e=>Nat.beq a.block b.block&&Nat.beq a.off b.off&&a.spot==b.spot&&Nat.beq n m&&Nat.beq c e
 | .agg a,.agg b=>uP a b
 | .tuple a,.tuple b=>uP a b
 | .nilIface,.nilIface=>true
 |_,_=>false
def uP:Array Value->Array Value->Bool
 |⟨a⟩,⟨b⟩=>j0 a b
def j0:List Value->List Value->Bool
 |[],[]=>true
 |a::r,b::s=>R7 a b&&j0 r s
 |_,_=>false
end
theorem Wf{a b:Addr}(h1:Nat.beq a.block b.block=true)(h2:Nat.beq a.off b.off=true)(h3: (a.spot==b.spot)=true):a=b:=by
 cases a;cases b
 simp only[Addr.mk.injEq];exact⟨AE h1,AE h2,by simpa using h3⟩
mutual
theorem EY:∀(a b:Value),R7 a b=true->a=b
 |a,b,h=>by
  unfold R7 at h;split at h
  ·rw[eq_of_beq h]
  ·simp only[AA,beq_iff_eq]at h;rw[nr h.1,h.2]
  ·rfl
  ·simp only[AA]at h;rw[Wf h.1.1 h.1.2 h.2]
  ·simp only[AA]at h;rw[AE h.1,AE h.2]
  ·simp only[AA]at h;rw[Wf h.1.1.1.1 h.1.1.1.2 h.1.1.2,AE h.1.2,AE h.2]
  ·rename_i x y;rw[ak x y h]
  ·rename_i x y;rw[ak x y h]
  ·rfl
  ·cases h
theorem ak:∀(a b:Array Value),uP a b=true->a=b
 |⟨a⟩,⟨b⟩,h=>by rw[Mq a b (by unfold uP at h;exact h)]
theorem Mq:∀(a b:List Value),j0 a b=true->a=b
 |[],[],h=>rfl
 |a::r,b::s,h=>by
  unfold j0 at h;simp only[AA]at h;rw[EY a b h.1,Mq r s h.2]
 |[],b::s,h=>by cases h
 |a::r,[],h=>by cases h
end
structure Mm where
 args:List Value
 M:List (Nat×List Value)
 n:Nat
 v:Value
 δ:List (Nat×List Value)
def G6(m:Mp AB)(p:Nat×List Value):Bool:=match m.get p.1 with
 |some (.own c)=>j0 p.2 c
 |_=>false
theorem Fb{m:Mp AB}{p:Nat×List Value}(h:G6 m p=true):m.get p.1=some (.own p.2):=by
 unfold G6 at h;split at h
 ·rename_i c hc;rw[hc,Mq _ _ h]
 ·cases h
def DL(l:List (Nat×List Value)):List (Nat×AB):=l.map fun p=>(p.1,.own p.2)
def Mm.mem(m:Mm):Mp AB:=L0 .lf (DL m.M)
def Mm.end(m:Mm):Mp AB:=L0 m.mem (DL m.δ)
def MZ(m:Mp AB)(a:Nat):Bool:=(m.get a).isSome
def Ck(m:Mm)(args:List Value)(h:EH):Option (Value×EH):=match j0 m.args args&&m.M.all (G6 h.m)&&Nat.ble h.n m.n with
 |true=>some (m.v,h.app (DL m.δ))
 |false=>none
def ET(m:Mm):Option (Value×EH)->Bool
 |some (v,h1)=>R7 m.v v&&m.M.all (G6 h1.m)&&m.δ.all (G6 h1.m)&&(m.δ.all fun p=>Nat.ble m.n p.1)&&(m.M.all fun p=>Nat.blt p.1 m.n)&&Vu (MZ m.end) m.v&&(m.M.all fun p=>RJ (MZ m.mem) p.2)&&(m.M.all fun p=>RJ (MZ m.end) p.2)&&(m.δ.all fun p=>RJ (MZ m.end) p.2)&&RJ (MZ m.mem) m.args
 |none=>false
theorem CX{l:List (Nat×List Value)}{a:Nat}{x:AB}(h: (a,x)∈DL l):∃c,x= .own c/\(a,c)∈l:=by
 obtain⟨p,hp,e⟩:=List.mem_map.1 h;cases e
 exact⟨p.2,rfl,hp⟩
theorem TX(m:Mm):m.mem.get=app (fun _=>none) (dlf (DL m.M)):=by
 unfold Mm.mem;rw[Gu,E3];congr 1;funext a;exact Mp.get_lf a
variable{m:Mm}
theorem Bv{a:Nat}{x:AB}(h:m.mem.get a=some x):∃c,x= .own c/\(a,c)∈m.M:=by
 rw[TX]at h;unfold app at h;split at h
 ·rename_i y hy;cases h
  exact CX (CD hy)
 ·cases h
theorem HF(m:Mm):m.end.get=app m.mem.get (dlf (DL m.δ)):=by
 unfold Mm.end;rw[Gu,E3]
theorem Ob{a:Nat}{x:AB}(h:m.end.get a=some x):∃c,x= .own c/\((a,c)∈m.δ\/(a,c)∈m.M):=by
 rw[HF]at h;unfold app at h;split at h
 ·rename_i y hy;cases h
  obtain⟨c,e,k⟩:=CX (CD hy);exact⟨c,e,.inl k⟩
 ·obtain⟨c,e,k⟩:=Bv h;exact⟨c,e,.inr k⟩
theorem Ds(m:Mp AB): (fun a=>MZ m a=true)=dom m.get:=by
 funext a;unfold MZ dom;cases m.get a<;>simp
noncomputable def G4(m:Mm):Bool:=(m.δ.all fun p=>Nat.ble m.n p.1)&&(m.M.all fun p=>Nat.blt p.1 m.n)&&(m.M.all fun p=>RJ (MZ m.mem) p.2)&&RJ (MZ m.mem) m.args
theorem Q6{P:Program}{g:FuncId}(w1:Ee P g m.args (fun u H'=>u=m.v/\H'=app m.mem.get (dlf (DL m.δ))) m.mem.get)(hst:G4 m=true):SG P g (Ck m):=by
 unfold G4 at hst;simp only[AA,AS]at hst;obtain⟨⟨⟨e4,e5⟩,e7⟩,e10⟩:=hst;have hfin:∀a,m.n<=a->m.mem.get a=none:=fun a ha=>by
  cases hx:m.mem.get a with
  |none=>rfl
  |some x=>
   obtain⟨c,_,hc⟩:=Bv hx;have:=Dd (e5 _ hc);simp only at this;omega
 have hsc:Sc m.mem.get:=fun a x hx=>by
  obtain⟨c,rfl,hc⟩:=Bv hx;rw[<-Ds];exact Ip (x:= .own c) (e7 _ hc)
 intro args h v h' he hh;unfold Ck at he;split at he
 ·rename_i hc;cases he
  simp only[AA,AS]at hc;obtain⟨⟨c1,c2⟩,c3⟩:=hc;obtain rfl:=Mq _ _ c1;have hn:=Nat.le_of_ble_eq_true c3;have hsub:∀a x,m.mem.get a=some x->h.m.get a=some x:=fun a x hx=>by
   obtain⟨c,rfl,hc⟩:=Bv hx;exact Fb (c2 _ hc)
  obtain⟨k1,l1⟩:=Gp (DL m.δ) hh fun x hx l hl=>by
   obtain⟨c,e,_⟩:=CX (a:=x.1) (x:=x.2) hx;rw[hl]at e;cases e
  refine⟨?_,k1,l1⟩;have:=Ee.frame w1 (G:=h.m.get) ⟨fun a x hx _=>hsub a x hx,fun a ha=>by
   unfold dom at*;cases hx:m.mem.get a with
   |none=>exact absurd hx ha
   |some x=>rw[hsub a x hx];simp⟩ hsc ⟨m.n,hfin⟩ (fun v hv=>by rw[<-Ds];exact MY (Ma _ e10 v hv)) (fun a ha=> ?_) (fun a c hc=> ?_)
  ·rw[Ev,E3];exact this
  ·right;cases hx:dlf (DL m.δ) a with
   |none=>exact absurd hx ha
   |some x=>
    obtain⟨c,_,hc⟩:=CX (CD hx);have:=Nat.le_of_ble_eq_true (e4 _ hc);exact hh.fin a (by simp only at this;omega)
  ·obtain⟨c',e,_⟩:=CX (CD hc);cases e
 ·cases he
theorem Dz{P:Program}{E:Env}(hE:EnvOk P E){g:FuncId}(k:Nat)(h:ET m ((ev E k).F g m.args ⟨m.mem,m.n,[]⟩)=true):SG P g (Ck m):=by
 unfold ET at h;split at h
 ·rename_i v0 h1 hr;simp only[AA,AS]at h;obtain⟨⟨⟨⟨⟨⟨⟨⟨⟨e1,e2⟩,e3⟩,e4⟩,e5⟩,e6⟩,e7⟩,e8⟩,e9⟩,e10⟩:=h;obtain rfl:=EY _ _ e1;have hfin:∀a,m.n<=a->m.mem.get a=none:=fun a ha=>by
   cases hx:m.mem.get a with
   |none=>rfl
   |some x=>
    obtain⟨c,_,hc⟩:=Bv hx;have:=Dd (e5 _ hc);simp only at this;omega
  have hok0:EHok P ⟨m.mem,m.n,[]⟩:=⟨hfin,fun a l hl=>by obtain⟨c,e,_⟩:=Bv hl;cases e⟩;obtain⟨w0,_,_⟩:=(EX hE k).2 g _ _ _ _ hr hok0;have hsc:Sc m.mem.get:=fun a x hx=>by
   obtain⟨c,rfl,hc⟩:=Bv hx;rw[<-Ds];exact Ip (x:= .own c) (e7 _ hc)
  have w1:Ee P g m.args (fun u H'=>u=m.v/\H'=app m.mem.get (dlf (DL m.δ))) m.mem.get:=by
   rw[<-HF];refine Ee.drop w0 ?_ (fun a ha=> ?_) (fun a x hx=> ?_) (fun a x hx=> ?_) ?_
   ·rw[<-Ds];exact MY e6
   ·rw[HF];unfold dom app at*;split
    ·simp
    ·exact ha
   ·obtain⟨c,rfl,hc|hc⟩:=Ob hx
    ·exact Fb (e3 _ hc)
    ·exact Fb (e2 _ hc)
   ·rw[<-Ds];obtain⟨c,rfl,hc|hc⟩:=Ob hx
    ·exact Ip (x:= .own c) (e9 _ hc)
    ·exact Ip (x:= .own c) (e8 _ hc)
   ·obtain⟨n2,hn2⟩:=WN (DL m.δ);refine⟨max m.n n2,fun a ha=> ?_⟩;rw[HF,Be (hn2 a om)];exact hfin a om
  exact Q6 w1 (by unfold G4;simp only[AA,AS];exact⟨⟨⟨e4,e5⟩,e7⟩,e10⟩)
 ·cases h
end
abbrev Spn.fr(S:Spn)(T:Array Value)(ds:List Deferred)(k:List Item):Frame:={fn:=S.f,tmps:=T,todo:=k,defers:=ds,mode:= .run,kind:=S.kind}
section
variable{S:Spn}(hK:Closed S.P S.main S.K)(hke: (S.kind== .early)=false){A:AF}{H:Hp}{k:List Item}{ops:Array Oper}{i:Nat}{rest:List Nat}{o:Oper}
include hK hke
theorem KC.hop{Γ:TypeId->Option TI}(hΓ:TOk S.P Γ)(hF:FOk S.P Γ)(ho:ops[i]? =some o)(hx:∀x∈o.op.operands,okX x=true)(hw:Region.wanted o (yiel ops A.t)=true){a:Nat}{v:Value}{δ:List (Nat×AB)}(ha:H a=none)(h:hop Γ H a A.ev o.op=some (v,δ))(hk:KC S (.inRegion ops rest::k) (A.put o.dst v) (Kz H δ)):KC S (.inRegion ops (i::rest)::k) A H:=by
 intro O φ w T ds hO hg hr har;refine hK.step O _ S.cs w fun w₁ hk1=> ?_
 obtain⟨n,v',φ',w',h1,h2,h3,h4,h5,h6⟩:=OD (P:=S.P) hΓ hF (hr.keep hk1) ha (o:=o) h (ev':=fun x=>Frame.eval (S.fr T ds (.inRegion ops (i::rest)::k)) x) fun x hxm=>DQ har (hx x hxm) _ rfl
 refine⟨(S.fr T ds (.inRegion ops (i::rest)::k)).finish v',S.cs,w',_,?_,CY (P:=S.P) h3 h2.ev S.f,?_⟩
 ·rw[Dq rfl rfl ho (by rw[FP har.1];exact hw) (JV h),Df hke h1 h2.run]
 ·rw[Ep rfl ho];exact hk _ φ' w' _ ds (fun b hb=> .inl (hO b hb)) (hg.trans h4) h5 (FD (DI h4 har) h6 o.dst)
theorem KC.defer{x:Operand}{ats:Array TypeId}{args:Array Operand}{g:FuncId}{first cap:Array Value}(ho:ops[i]? =some o)(hx:∀x∈o.op.operands,okX x=true)(hw:Region.wanted o (yiel ops A.t)=true)(hop:o.op= .defer {callee:= .value x,args,argTypes:=ats})(hd:o.dst=none)
  (hv:A.ev x= .func (.func g) first cap)(hk:KC S (.inRegion ops rest::k) {A with d:={target:= .fn (.func g) cap,args:=first++args.map A.ev}::A.d} H):KC S (.inRegion ops (i::rest)::k) A H:=by
 intro O φ w T ds hO hg hr har;have hvr:=DQ har (hx x (by rw[hop];simp[Op.operands,Call.operands])) (S.fr T ds (.inRegion ops (i::rest)::k)) rfl;rw[hv]at hvr;simp only[vrel,Dt]at hvr;obtain⟨_,first',cap',e1,rfl,h1,h2⟩:=hvr;have har2:BZ φ (dom H) (args.map A.ev).toList (args.map (Frame.eval (S.fr T ds (.inRegion ops (i::rest)::k)))).toList:=by
  rw[BG,BG];exact Dg _ fun y hy=>DQ har (hx y (by rw[hop];simp only[Op.operands,Call.operands];simp;exact .inr (by simpa using hy))) _ rfl
 refine hK.idle (fr':=S.fr T ({target:= .fn (.func g) cap',args:=first'++args.map (Frame.eval (S.fr T ds (.inRegion ops (i::rest)::k)))}::ds) (.inRegion ops rest::k)) (cs':=S.cs) (fun w₁=> ?_) fun w₁ k1=> ?_
 ·have hs:execOp (Frame.eval (S.fr T ds (.inRegion ops (i::rest)::k))) o=pure (.defer {target:= .fn (.func g) cap',args:=first'++args.map (Frame.eval (S.fr T ds (.inRegion ops (i::rest)::k)))}):=by
   unfold execOp;rw[hop];dsimp only;unfold resolve;dsimp only;rw[e1];rfl
  have hw2:Region.wanted o (yielded ops T)=true:=by rw[FP har.1];exact hw
  simp only[G,stepG,stepG.exec,ho,AU,AQ,hw2,Ag,stepG.oper,Frame.oper?];rw[hs];simp[stepG.apply,hke,GStep.after,seen_none,Frame.finish,ho,hd]
 ·refine hk O φ w₁ T _ hO hg (hr.keep k1) ⟨har.1,?_⟩;refine⟨_,_,rfl,⟨?_,⟨.func g,cap',rfl,rfl,h2⟩⟩,har.2⟩;have g1:=Bj.1 h1;rw[Bj,Array.toList_append,Array.toList_append];rw[Bp]at g1 har2⊢;refine⟨by rw[AN,AN,g1.1,har2.1],fun j v hj=> ?_⟩;by_cases hlt:j<first.toList.length
  ·rw[Ac hlt]at hj;rw[Ac (by rw[g1.1];exact hlt)];exact g1.2 j v hj
  ·rw[Ad om]at hj;rw[Ad (by rw[g1.1];omega),g1.1];exact har2.2 _ v hj
theorem KC.enter{x:Operand}{ats:Array TypeId}{args:Array Operand}{g:FuncId}{fn:Func}{c:Code}(ho:ops[i]? =some o)(hx:∀x∈o.op.operands,okX x=true)(hw:Region.wanted o (yiel ops A.t)=true)(hop:o.op= .call {callee:= .value x,args,argTypes:=ats})(hv:A.ev x= .func (.func g) #[] #[])
  (hf:S.P.funcs[g]? =some fn)(hb:fn.body=some c)(hn: (fn.name=="runtime.NumGoroutine")=false)
  (hk:∀(O:Nat->Prop) (φ:Ph) (w:World) (T:Array Value) (ds:List Deferred) (args':Array Value),(∀b,S.O0 b->O b)->Gr S.φ0 S.H0 φ H->Rel S.X O φ H w->GW φ (dom H) A T ds->BZ φ (dom H) (args.toList.map A.ev) args'.toList->S.K O (G (Frame.enter S.P g args' .normal) ((S.fr T ds (.inRegion ops (i::rest)::k))::S.cs)) w):KC S (.inRegion ops (i::rest)::k) A H:=by
 intro O φ w T ds hO hg hr har;have hvr:=DQ har (hx x (by rw[hop];simp[Op.operands,Call.operands])) (S.fr T ds (.inRegion ops (i::rest)::k)) rfl;rw[hv]at hvr;simp only[vrel,Dt]at hvr;obtain⟨_,first',cap',e1,rfl,h1,h2⟩:=hvr;have e2:first'= #[]:=by have:=(DF _ _).1 h1;exact Array.eq_empty_of_size_eq_zero this.1
 have e3:cap'= #[]:=by have:=(DF _ _).1 h2;exact Array.eq_empty_of_size_eq_zero this.1
 subst e2 e3;have hrun:∀w₁,Ran S.P (execOp (Frame.eval (S.fr T ds (.inRegion ops (i::rest)::k))) o) w₁ (.enter g (args.map (Frame.eval (S.fr T ds (.inRegion ops (i::rest)::k))))) w₁ (EvO O RD):=fun w₁=>by
  unfold execOp;rw[hop];dsimp only;unfold resolve;dsimp only;rw[e1];refine Ran.bind (a:=({target:= .fn (.func g) #[],args:= #[]++args.map (Frame.eval (S.fr T ds (.inRegion ops (i::rest)::k)))}:Deferred)) (Ran.pure _) ?_;have e: (#[]++args.map (Frame.eval (S.fr T ds (.inRegion ops (i::rest)::k)))++ #[]:Array Value)=args.map (Frame.eval (S.fr T ds (.inRegion ops (i::rest)::k))):=by simp
  have h9:=FQ (w:=w₁) (E:=EvO O RD) hf hb hn (#[]++args.map (Frame.eval (S.fr T ds (.inRegion ops (i::rest)::k)))++ #[]);show Ran S.P (callFunc g (#[]++args.map (Frame.eval (S.fr T ds (.inRegion ops (i::rest)::k)))++ #[])) w₁ _ w₁ _
  rw[e]at h9⊢;exact h9
 refine hK.step O _ S.cs w fun w₁ k1=>⟨Frame.enter S.P g (args.map (Frame.eval (S.fr T ds (.inRegion ops (i::rest)::k)))) .normal,S.fr T ds (.inRegion ops (i::rest)::k)::S.cs,w₁,seen S.P S.f ((execOp (Frame.eval (S.fr T ds (.inRegion ops (i::rest)::k))) o).events S.P w₁ #[]),?_,⟨fun _ _ _=>rfl,AH _,rfl,rfl,rfl,fun e he=> ?_⟩,?_⟩
 ·rw[Dq rfl rfl ho (by rw[FP har.1];exact hw) (fun c e=>by rw[hop]at e;cases e),IQ rfl hke (hrun w₁).run]
 ·have h1:=(hrun w₁).ev e (mem_seen he);rw[B4];exact h1
 ·rw[B4];refine hk O φ w₁ T ds _ hO hg (hr.keep k1) har ?_;rw[BG];exact Dg _ fun y hy=>DQ har (hx y (by rw[hop];simp only[Op.operands,Call.operands];simp;exact .inr (by simpa using hy))) _ rfl
end
theorem KC.start{S:Spn}{fn:Func}{c:Code}{args:List Value}(hf:S.P.funcs[S.f]? =some fn)(hb:fn.body=some c)(h:KC S [.code c] (AF.enter (max args.length fn.ntmps) args) S.H0){w:World}{args':Array Value}(hr:Rel S.X S.O0 S.φ0 S.H0 w)(ha:BZ S.φ0 (dom S.H0) args args'.toList):S.K S.O0 (G (Frame.enter S.P S.f args' S.kind) S.cs) w:=by
 have hlen:=((Bp _ _).1 ha).1;simp only[Array.length_toList]at hlen;have he:Frame.enter S.P S.f args' S.kind={fn:=S.f,tmps:=args'++Array.replicate (fn.ntmps - args'.size) undef,todo:=[.code c],defers:=[],mode:= .run,kind:=S.kind}:=by
  unfold Frame.enter;simp only[hf,hb,AU,AQ,Option.bind_some]
 rw[he];refine h S.O0 S.φ0 w _ [] (fun _=>id) (Gr.refl _ _) hr ⟨⟨?_,fun i=> ?_⟩,rfl⟩
 ·show _=max args.length fn.ntmps
  simp;omega
 ·show vrel _ _ (args.getD i undef) _
  rw[AL,List.getD_eq_getElem?_getD];by_cases hi:i<args'.size
  ·rw[BK hi];obtain⟨v',h1,h2⟩:=((Bp _ _).1 ha).2 i args[i] (AD om);rw[AD om];rw[<-Ae,h1];exact h2
  ·rw[Ap om,BD om,Array.getElem?_replicate];split<;>exact(Bi _ _ Cu).2 rfl
end
section
open Go.Conc Go.ConcX
open Go.ConcN (sumTo sumTo_upd)
theorem af{g:Nat}{fn:FuncId}{pos:String}{es:Array Event}:∀op∈MemOp.ofEvents g fn pos es,Pv op:=NX
theorem RU(t:Trace)(g:Nat):∀k,Deaf (t++Array.replicate k ({g,fn:=0,pos:="",act:= .mark .disable}:MemOp)) g=Deaf t g+k
 |0=>by simp
 |k+1=>by
  have e:t++Array.replicate (k+1) ({g,fn:=0,pos:="",act:= .mark .disable}:MemOp)=(t++Array.replicate k ({g,fn:=0,pos:="",act:= .mark .disable}:MemOp))++ #[{g,fn:=0,pos:="",act:= .mark .disable}]:=by
   rw[Array.replicate_succ];simp
  rw[e,Deaf_push,RU t g k];simp[deafStep];omega
theorem Kw(d:Nat->Nat):∀m,∃t:Trace,(∀op∈t,op.g≠0/\op.g<m/\op.act= .mark .disable)/\∀g,Deaf t g=if 0<g/\g<m then d g else 0
 |0=>⟨#[],by simp,fun g=>by simp[Deaf,Trace.deaf]⟩
 |m+1=>by
  obtain⟨t,h1,h2⟩:=Kw d m;by_cases h0:m=0
  ·subst h0;exact⟨t,fun op hop=>⟨(h1 op hop).1,by have:=(h1 op hop).2.1;omega,(h1 op hop).2.2⟩,fun g=>by rw[h2];rw[if_neg om,if_neg om]⟩
  ·refine⟨t++Array.replicate (d m) {g:=m,fn:=0,pos:="",act:= .mark .disable},fun op hop=> ?_,fun g=> ?_⟩
   ·rcases BC.1 hop with x|x
    ·exact⟨(h1 op x).1,by have:=(h1 op x).2.1;omega,(h1 op x).2.2⟩
    ·obtain rfl:op={g:=m,fn:=0,pos:="",act:= .mark .disable}:=(Array.mem_replicate.1 x).2;exact⟨h0,Nat.lt_succ_self m,rfl⟩
   ·by_cases hg:g=m
    ·subst hg;rw[RU,h2,if_neg om,if_pos om,AW]
    ·rw[Er (fun op hop=>by rw[(Array.mem_replicate.1 hop).2];exact fun e=>hg e.symm),h2];by_cases hlt:0<g/\g<m
     ·rw[if_pos hlt,if_pos om]
     ·rw[if_neg hlt,if_neg om]
section
variable[Payload]{P:Program}{Post Post0:Value->World->Prop}{ty:TypeId}{Wg C Low n:Nat}[Shy Wg C]{vals:List Value}{Mine:Loc->Prop}{AnchW:Goroutine->World->Prop}{T t₀:Trace}
theorem ba(hW:Wg<Low)(hC:C<Low)(hCW:C≠Wg)(hAr:∀g w,AnchW g w->g.status= .running)
  (hAn:∀g w,AnchW g w->∃m,Goes P true (RPa ty Wg C vals) (DPi Mine Wg C Low) (AtW1 P ty Wg C Low vals Mine AnchW Post0) m g w)
  (μ:Nat×(Nat×Nat×Nat×Nat))(M:Machine)(A:Trace)(h:GInv P ty Wg C Low vals Mine AnchW Post0 n t₀ μ M A):
  GDone P ty Wg C Low vals Mine Post0 n t₀ M A\/∃M' ops μ',stepT P M=(.next M',ops)/\LtG μ' μ/\GInv P ty Wg C Low vals Mine AnchW Post0 n t₀ μ' M' (A++ops)/\∀op∈ops,Pv op:=by
 obtain⟨gs,a,b,w,sl,s,q,μs,rfl,hB,hJ,hL,rfl⟩:=h;obtain⟨a1,b1,w1,sl1,e,awa,awb,hrun,hat⟩:=hJ.shape hAr;obtain⟨rfl,rfl,rfl,rfl⟩:=duo_inj e;have hn0:n≠0:=Nat.ne_of_gt hB.pos;have haw:∀g∈gs,awake g:=by
  intro g hg;obtain⟨i,hi,rfl⟩:=Array.mem_iff_getElem.1 hg;have hgi:gs[i]? =some gs[i]:=AK hi;by_cases h0:i=0
  ·subst h0;rw[hB.h0]at hgi;rw[<-AC hgi];exact awa
  ·by_cases h1:i=n
   ·subst h1;rw[hB.hc]at hgi;rw[<-AC hgi];exact awb
   ·exact awake_of ((hB.old i _ om (by have:=hB.size;omega) hgi).status.elim .inl fun x=> .inr (.inr x))
 obtain⟨i,g,d,sl',hi,hg,hst⟩:=crowd_pick (P:=P) (w:=w) (sl:=sl) haw (hrun.elim (fun x=>⟨0,a,hB.h0,x⟩) (fun x=>⟨n,b,hB.hc,x⟩));have hilt:i<gs.size:=(AR.1 hi).1;have hJd:=hat d none;by_cases h0:i=0
 ·subst h0;obtain rfl:g=a:=by rw[hB.h0]at hi;exact(AC hi).symm
  rcases join_step hW hC hCW hAr hAn μs _ s hJd (runTX P (duo g b (w.at d) none) 0)
   (fun a2 b2 w2 sl2 e2=>by obtain⟨rfl,rfl,rfl,rfl⟩:=duo_inj e2;exact⟨d,none,.inl ⟨hg,rfl⟩⟩)with hacq|⟨m',ops,μ',hX,hlt,hJ'⟩
  ·exact .inl ⟨gs,g,b,w,sl,s,q,rfl,hB,hacq.at w.drawn none,hL⟩
  ·rw[duo_eq_crowd]at hX;obtain⟨g0,g',w',es,hg0,hgo,rfl,rfl⟩:=runTX_next hX;obtain rfl:g0=g:=by simpa using hg0.symm
   have hrunT:=runT_crowd_go (P:=P) (sl:=sl') (i:=0) hi hgo;have em:crowd ((#[g0,b].map (Go.Conc.woken P g0 g' w')).setIfInBounds 0 g') w' none=duo g' (Go.Conc.woken P g0 g' w' b) w' none:=by simp[crowd,duo]
   rw[em]at hJ';refine .inr ⟨_,_,(sumTo n q,μ'),hst.trans hrunT,.right _ hlt,⟨_,g',Go.Conc.woken P g0 g' w' b,w',sl',_,q,μ',rfl,Big.upd hB (by simp[hB.size]) (by simp[hilt]) ?_ (fun j x hj hjc hx=> ?_) (OP (.inl rfl)),hJ',hL.events hn0 (.inl rfl) _ _ es,rfl⟩,af⟩
   ·rw[AG (Ne.symm hn0),Al,hB.hc];rfl
   ·rw[AG om,Al]at hx;exact Ju hB hj hjc hx
 by_cases h1:i=n
 ·subst h1;obtain rfl:g=b:=by rw[hB.hc]at hi;exact(AC hi).symm
  have hi0: (i==0)=false:=by simp[h0]
  rcases join_step hW hC hCW hAr hAn μs _ s hJd (runTX P (duo a g (w.at d) none) 1)
   (fun a2 b2 w2 sl2 e2=>by obtain⟨rfl,rfl,rfl,rfl⟩:=duo_inj e2;exact⟨d,none,.inr ⟨hg,rfl⟩⟩)with hacq|⟨m',ops,μ',hX,hlt,hJ'⟩
  ·exact .inl ⟨gs,a,g,w,sl,s,q,rfl,hB,hacq.at w.drawn none,hL⟩
  ·rw[duo_eq_crowd]at hX;obtain⟨g0,g',w',es,hg0,hgo,rfl,rfl⟩:=runTX_next hX;obtain rfl:g0=g:=by simpa using hg0.symm
   have hrunT:=runT_crowd_go (P:=P) (sl:=sl') (i:=i) hi (by rw[hi0];exact hgo);have em:crowd ((#[a,g0].map (Go.Conc.woken P g0 g' w')).setIfInBounds 1 g') w' none=duo (Go.Conc.woken P g0 g' w' a) g' w' none:=by simp[crowd,duo]
   rw[em]at hJ';refine .inr ⟨_,_,(sumTo i q,μ'),hst.trans hrunT,.right _ hlt,⟨_,Go.Conc.woken P g0 g' w' a,g',w',sl',_,q,μ',rfl,Big.upd hB (by simp[hB.size]) ?_ (by simp[hilt]) (fun j x hj hjc hx=> ?_) (OP (.inr rfl)),hJ',hL.events hn0 (.inr rfl) _ _ es,rfl⟩,af⟩
   ·rw[AG h0,Al,hB.h0];rfl
   ·rw[AG om,Al]at hx;exact Ju hB hj hjc hx
 ·have hic:i<n:=by have:=hB.size;omega
  have hq:=hB.old i g om hic hi;have hi0: (i==0)=false:=by simp[h0]
  cases hqi:q i with
  |zero=>rw[hqi]at hq;rw[hq.1]at hg;cases hg
  |succ k=>
   rw[hqi]at hq;rcases hq with⟨hf,_⟩|⟨_,g',es,hm,hstp,hq'⟩
   ·rw[hf]at hg;cases hg
   have hrunT:=runT_crowd_go (P:=P) (sl:=sl') (i:=i) hi (by rw[hi0];exact hstp (w.at d));have hsum:sumTo n (ConcN.upd q i k)+(k+1)=sumTo n q+k:=by
    have:=sumTo_upd q k id hic;simpa[hqi]using this
   obtain⟨a2,b2,w2,sl2,e2,μ',hJ'⟩:=hJd.woken hAr g g';obtain⟨rfl,rfl,rfl,rfl⟩:=duo_inj e2;refine .inr ⟨_,_,(sumTo n (ConcN.upd q i k),μ'),hst.trans hrunT,.left _ _ om,⟨_,_,_,w.at d,sl',s,ConcN.upd q i k,μ',rfl,⟨by simp[hB.size],hB.pos,?_,?_,fun j x hj hjc hx=> ?_,fun j hj=> ?_⟩,hJ',hL.mutes h0 h1 _ _ hm,rfl⟩,af⟩
   ·rw[AG h0,Al,hB.h0];rfl
   ·rw[AG h1,Al,hB.hc];rfl
   ·by_cases hji:i=j
    ·subst hji;rw[Au (by simpa using hilt)]at hx;obtain rfl:=AC hx;rw[ConcN.upd_same,Deaf_own];exact hq'
    ·rw[AG hji,Al]at hx;obtain⟨y,hy,rfl⟩:=AZ.1 hx;have hqj:=hB.old j y hj hjc hy;rw[woken_quitsD hqj,ConcN.upd_ne q k (Ne.symm hji),Deaf_other A hji _ (fun op hop=>by obtain⟨e,_,rfl⟩:=CK hop;rfl)];exact hqj
   ·rw[Deaf_other A (g':=i) om _ (fun op hop=>by obtain⟨e,_,rfl⟩:=CK hop;rfl)];exact hB.above j hj
theorem bh{A0:Trace}(hW:Wg<Low)(hC:C<Low)(hCW:C≠Wg)(hAr:∀g w,AnchW g w->g.status= .running)
  (hAn:∀g w,AnchW g w->∃m,Goes P true (RPa ty Wg C vals) (DPi Mine Wg C Low) (AtW1 P ty Wg C Low vals Mine AnchW Post0) m g w)
  (K:∀(M:Machine) (U:Trace),GDone P ty Wg C Low vals Mine Post0 n t₀ M (A0++U)->(∀op∈U,Pv op)->Fin P Post M (T++U)):
  ∀(μ:Nat×(Nat×Nat×Nat×Nat)) (M:Machine) (U:Trace),GInv P ty Wg C Low vals Mine AnchW Post0 n t₀ μ M (A0++U)->(∀op∈U,Pv op)->Fin P Post M (T++U):=by
 intro μ;induction μ using ltG_wf.induction with
 |_ μ ih=>
  intro M U h hU;rcases ba hW hC hCW hAr hAn μ M _ h with hd|⟨M',ops,μ',hs,hlt,hI,he⟩
  ·exact K M U hd hU
  ·refine Fin.step hs ?_;rw[Array.append_assoc]at hI⊢;exact ih μ' hlt M' _ hI (fun op hop=>(BC.1 hop).elim (hU op) (he op))
theorem aB{Shun:Loc->Prop}{B B':Nat}(hW:Wg<Low)(hC:C<Low)(hCW:C≠Wg)(hAr:∀g w,AnchW g w->g.status= .running)
  (hAn:∀g w,AnchW g w->∃m,Goes P true (RPa ty Wg C vals) (DPi Mine Wg C Low) (AtW1 P ty Wg C Low vals Mine AnchW Post0) m g w)
  (hok:∀act,Shy.ok Wg C act->ConcX.okF Shun B' Wg act)(hB:B<=B')(hT:Both n Shun B T)
  {gs:Array Goroutine}{a b:Goroutine}{w:World}{sl:Option (Nat×Nat)}{q:Nat->Nat}{mA mC:Nat}(hBig:Big P n gs a b T q)(hwg:WgAt ty Wg w KK 0)
  (hA:Goes P true (RPa ty Wg C vals) (DPi Mine Wg C Low) (AtKd P ty Wg C Low vals Mine AnchW) mA a w)(hCh:Goes P false (RCa ty Wg Low) (DCs Mine Wg C) (AtR0 P ty Wg C Low vals) mC b w)
  (K:∀(gs:Array Goroutine) (a:Goroutine) (w:World) (sl:Option (Nat×Nat)) (t:Trace) (q:Nat->Nat),gs[0]? =some a->a.status= .running->Shy.stop Wg C a w->Leavers P t gs q->Past (fun l=>Shun l\/OfWg Wg l) B' t->Fin P Post (crowd gs w sl) t):
  Fin P Post (crowd gs w sl) T:=by
 obtain⟨t₀,ht0,hd0⟩:=Kw (fun g=>Deaf T g) n;have hpos:=hBig.pos;have hD0:Deaf t₀ 0=0:=by rw[hd0,if_neg om]
 have hDn:Deaf t₀ n=0:=by rw[hd0,if_neg om]
 have hDT:∀g,Deaf t₀ g=Deaf T g:=by
  intro g;rw[hd0];by_cases h:0<g/\g<n
  ·rw[if_pos h]
  ·rw[if_neg h];by_cases h0:g=0
   ·subst h0;exact hT.d0.symm
   ·by_cases h1:g=n
    ·subst h1;exact hT.dc.symm
    ·exact(hBig.above g om).symm
 have still0:∀op∈t₀,op.act.touch?=none:=fun op hop=>by rw[(ht0 op hop).2.2];rfl
 have past0:Past Shun 0 t₀:=by
  have n0:∀said,¬Race said t₀:=by
   intro said;have:=Fg (t:= #[]) (u:=t₀) (said:=said) still0 (by rintro⟨i,j,_,⟨a,b,ha,_⟩,_⟩;simp[Trace.act?]at ha);rwa [Array.empty_append]at this
  have nt:∀i a,touchAt t₀ i≠some a:=by
   intro i a ha;obtain⟨op,ho,hoa⟩:=touch_of ha;rw[still0 op (mem_of_getElem? ho)]at hoa;cases hoa
  exact⟨n0,fun i a ha=>absurd ha (nt i a),fun i g _ _ hc=>by obtain⟨a,ha⟩:=EZ hc;exact absurd ha (nt i a),hD0,fun op hop=>by rw[(ht0 op hop).2.2];trivial⟩
 let x:MemOp:={g:=0,fn:=0,pos:="",act:= .go 1}
 let y:MemOp:={g:=1,fn:=0,pos:="",act:= .start}
 have hLk:Linked n t₀ ((#[].push x).push y) (t₀++ #[renOp n x]++ #[renOp n y]):=by
  have:=Link.both (Link.both (Link.init hD0 hDn id) om (op:=x) (.inl rfl)) om (op:=y) (.inr rfl);exact⟨_,this⟩
 generalize hA0:t₀++ #[renOp n x]++ #[renOp n y]=A0 at hLk;have hA0':∀op∈A0,op.act.touch?=none/\(∀c,op.act≠ .recvClosed c)/\(op ∉ t₀->op.act≠ .mark .disable/\op.act≠ .mark .enable):=by
  intro op hop;rw[<-hA0]at hop;rcases BC.1 hop with h|h
  ·rcases BC.1 h with h|h
   ·exact⟨still0 op h,fun c=>by rw[(ht0 op h).2.2];simp,fun hn=>absurd h hn⟩
   ·obtain rfl:op=renOp n x:=by simpa using h
    exact⟨rfl,fun c=>by simp[renOp,renAct,x],fun _=>by simp[renOp,renAct,x]⟩
  ·obtain rfl:op=renOp n y:=by simpa using h
   exact⟨rfl,fun c=>by simp[renOp,renAct,y],fun _=>by simp[renOp,renAct,y]⟩
 have hd:∀g,Deaf A0 g=Deaf T g:=by
  intro g;rw[<-hDT,<-hA0,Array.append_assoc];refine ConcX.Deaf_keep t₀ g _ fun op hop=> ?_
  rcases BC.1 hop with h|h
  ·obtain rfl:op=renOp n x:=by simpa using h
   simp[renOp,renAct,x]
  ·obtain rfl:op=renOp n y:=by simpa using h
   simp[renOp,renAct,y]
 have hdU:∀U g,Deaf (A0++U) g=Deaf (T++U) g:=by
  intro U g;have:=GL (A:=A0) (A':=T) (U:=U) (hd g) U.size (AH _);unfold Deaf;rw[Array.size_append,Array.size_append];exact this
 obtain⟨hJT,hj0,hj1,hna⟩:=JT.init (Mine:=Mine) (Wg:=Wg) (C:=C) (u:= #[]) (x:=x) (y:=y) ST.nil ⟨rfl,rfl⟩ ⟨rfl,rfl⟩;have hBA:Big P n gs a b A0 q:=⟨hBig.size,hBig.pos,hBig.h0,hBig.hc,fun i g h1 h2 hg=>by rw[hd];exact hBig.old i g h1 h2 hg,fun j hj=>by rw[hd];exact hBig.above j hj⟩;have hI:GInv P ty Wg C Low vals Mine AnchW Post0 n t₀ (sumTo n q,(7,mC,4+2,mA)) (crowd gs w sl) (A0++ #[]):=by
  rw[Array.append_empty];exact⟨gs,a,b,w,sl,_,q,_,rfl,hBA,.a a b w none _ _ 0 0 _ mC 4 mA false false vals [] (by simp) ⟨hwg,(fun e=>by cases e),hJT,hj0,hj1,(fun _=>hna),fun e=>by cases e⟩ (.kd hA) (.r0 hCh),hLk,rfl⟩
 suffices hK:∀(M:Machine) (U:Trace),GDone P ty Wg C Low vals Mine Post0 n t₀ M (A0++U)->(∀op∈U,Pv op)->Fin P Post M (T++U) by
  have key:=bh (P:=P) (Post:=Post) (Post0:=Post0) (T:=T) (A0:=A0) (t₀:=t₀) (n:=n) hW hC hCW hAr hAn hK _ (crowd gs w sl) #[] hI (fun op hop=>by simp at hop);rw[Array.append_empty]at key;exact key
 intro M U hgd hU;obtain⟨gs1,a1,b1,w1,sl1,s1,q1,rfl,hBig1,hacq1,⟨φ,L⟩⟩:=id hgd;obtain⟨a2,b2,w2,sl2,p2,d2,k2,mp2,r2,vs2,e2,hbase,_⟩:=id hacq1;have hwhere:∀op∈U,∃k,(A0++U)[k]? =some op/\t₀.size<=k:=by
  intro op hop;obtain⟨i,hi,rfl⟩:=Array.mem_iff_getElem.1 hop;refine⟨A0.size+i,by rw[BD om,show A0.size+i - A0.size=i from om];exact AK hi,?_⟩;rw[<-hA0];simp;omega
 have h2:∀op∈U,op.g=0\/op.g=n\/op.act.touch?=none:=by
  intro op hop;obtain⟨k,hk,hlo⟩:=hwhere op hop;rcases L.gap k op hk hlo with⟨i,hi,rfl⟩|⟨_,_,h⟩
  ·have ho:s1[i]? =some s1[i]:=AK hi;have e:op=renOp n s1[i]:=AC (hk.symm.trans (L.img i _ ho));rcases hbase.jt.two i s1[i].g (by unfold Trace.g?;rw[ho];rfl)with e0|e1
   ·exact .inl (by rw[e];show renG n s1[i].g=0;rw[e0];rfl)
   ·exact .inr (.inl (by rw[e];show renG n s1[i].g=n;rw[e1];rfl))
  ·exact .inr (.inr (G0 h))
 have shy:∀op∈U,∀a,op.act.touch?=some a->Shun a.loc->a.kind≠ .plain:=by
  intro op hop a ha hs;obtain⟨k,hk,hlo⟩:=hwhere op hop;rcases L.gap k op hk hlo with⟨i,hi,rfl⟩|⟨_,_,h⟩
  ·have ho:s1[i]? =some s1[i]:=AK hi;have e:op=renOp n s1[i]:=AC (hk.symm.trans (L.img i _ ho));rw[e]at ha;have ha2: (renAct n s1[i].act).touch?=some a:=ha;rw[renAct_touch]at ha2;exact((hok _ (hbase.jt.oks s1[i] (mem_of_getElem? ho))).1 a ha2).1 hs
  ·rw[G0 h]at ha;cases ha
 obtain⟨gs3,a3,w3,sl3,q3,mp,e,hsz,h0,hL,hP,hG⟩:=done_frame hok past0 (Nat.zero_le _) hgd;have hP2:=Qu hT hB (fun l hl=>Or.inl hl) (fun op hop=>⟨(hA0' op hop).1,(hA0' op hop).2.1⟩) hd hU h2 shy hP;have hL2:Leavers P (T++U) gs3 q3:=⟨fun i g hi hg=>by rw[<-hdU];exact hL.old i g hi hg,fun j hj=>by rw[<-hdU];exact hL.above j hj⟩;obtain⟨N,gs',a',w',sl',t',q',hr,hs',h0',hSt,hL',hP'⟩:=walk_beside (P:=P) (fun _ _ es hD e he=>evL_of_EvJ hok (hD.2 e he)) _ mp gs3 a3 w3 sl3 (T++U) q3 (AH _) h0 hL2 hP2 hG;rw[e];exact Fin.run hr (K gs' a' w' sl' t' q' h0' hSt.1 hSt.2 hL' hP')
end
end
section
open Go.Conc
open Go.ConcN (sumTo sumTo_upd)
structure PD(Shun:Loc->Prop)(B:Nat)(t:Trace)(d:Nat):Prop where
 clean:∀said,¬Race said t
 known:∀i a,touchAt t i=some a->a.loc.isMemory=true->Knows t 0 i\/(Shun a.loc/\a.kind= .atomic)
 over:t.HandedOver
 seen:∀op∈t,op.act.low B
 deaf:Deaf t 0=d
section
variable{Shun:Loc->Prop}{B B' d n:Nat}{t t':Trace}{fn:FuncId}{pos:String}{es:Array Event}
theorem PD.past (h:PD Shun B t 0):Past Shun B t:=⟨h.clean,h.known,h.over,h.deaf,h.seen⟩
theorem TV(h:Past Shun B t):PD Shun B t 0:=⟨h.clean,h.known,h.over,h.seen,h.hears⟩
theorem PD.mono(h:PD Shun B t d)(hB:B<=B'):PD Shun B' t d:=⟨h.clean,h.known,h.over,fun op hop=>MemAct.low_mono hB (h.seen op hop),h.deaf⟩
theorem PD.mutes(h:PD Shun B t d)(hm:FO 0 t t'):PD Shun B t' d:=by
 obtain⟨u,rfl,hu⟩:=hm;have st:∀op∈u,op.act.touch?=none:=fun op hop=>G0 (hu op hop).2.2
 refine⟨fun said=>Fg st (h.clean said),fun i a ha hmm=>(h.known i a (B7 st ha).2 hmm).imp (fun x=>x.app u) id,fun i g hg hne hcn=> ?_,fun op hop=>(BC.1 hop).elim (h.seen op) (fun x=>N8 (hu op x).2.2),(Er fun op hop=>(hu op hop).1).trans h.deaf⟩;obtain⟨a,ha⟩:=EZ hcn;have hlt:=(B7 st ha).1;obtain⟨j,hj,hb⟩:=h.over i g (by rw[<-g?_old (u:=u) hlt];exact hg) hne ((counts_old hlt).1 hcn);exact⟨j,by rw[g?_old (lt_of_g? hj)];exact hj,hb_app u hb⟩
theorem PD.app0(h:PD Shun B t d)(he:∀e∈es,(∀x,(MemAct.ofEvent e).touch?=some x->Shun x.loc->x.kind≠ .plain)/\(MemAct.ofEvent e).low B):PD Shun B (t++MemOp.ofEvents 0 fn pos es) (deafBehind d es):=by
 have own:∀op∈MemOp.ofEvents 0 fn pos es,op.g=0:=fun op hop=>by obtain⟨e,_,rfl⟩:=CK hop;rfl
 refine⟨fun said=>noRace_append (h.clean said) own fun i a ha op hop b hb hcf=> ?_,fun i a ha hm=> ?_,fun i g hg hne hcn=> ?_,fun op hop=>(BC.1 hop).elim (h.seen op) (fun x=>by obtain⟨e,h1,rfl⟩:=CK x;exact(he e h1).2),by rw[Deaf_own,h.deaf]⟩
 ·obtain⟨e,h1,rfl⟩:=CK hop;refine(h.known i a ha hcf.2.1).resolve_right fun x=> ?_
  have hkb:=(he e h1).1 b hb (hcf.1▸x.1);obtain⟨_,_,_,hkind⟩:=hcf;rw[x.2]at hkind;rcases hkind with z|z|⟨_,z,_⟩
  ·cases z
  ·exact absurd z hkb
  ·cases z
 ·rcases Cw own ha with h1|⟨_,_,_,hk,_⟩
  ·exact(h.known i a h1 hm).imp (fun x=>x.app _) id
  ·exact .inl hk
 ·rcases V8 own hg with⟨hlt,h1⟩|rfl
  ·obtain⟨j,hj,hb⟩:=h.over i g h1 hne ((counts_old hlt).1 hcn);exact⟨j,by rw[g?_old (lt_of_g? hj)];exact hj,hb_app _ hb⟩
  ·exact absurd rfl hne
theorem ag(he:∀e∈es,EvL Shun B e):∀e∈es,(∀x,(MemAct.ofEvent e).touch?=some x->Shun x.loc->x.kind≠ .plain)/\(MemAct.ofEvent e).low B:=fun e h=>⟨(he e h).1,(he e h).2.2.2⟩
theorem PD.fork(h:PD Shun B t 0)(hn:n≠0)(hdn:Deaf t n=0){O1 Rd:Nat->Prop}(hO:∀l,InB O1 l->¬Shun l)(hR:∀l,InB Rd l->¬Shun l)(f0 f1:FuncId)(p0 p1:String):
  Ph1 n Shun O1 Rd B (t++ #[({g:=0,fn:=f0,pos:=p0,act:= .go n}:MemOp),{g:=n,fn:=f1,pos:=p1,act:= .start}]):=by
 have at_:∀k,(t++ #[({g:=0,fn:=f0,pos:=p0,act:= .go n}:MemOp),{g:=n,fn:=f1,pos:=p1,act:= .start}])[t.size+k]? =(#[({g:=0,fn:=f0,pos:=p0,act:= .go n}:MemOp),{g:=n,fn:=f1,pos:=p1,act:= .start}])[k]? :=by
  intro k;rw[BD om,show t.size+k - t.size=k from om]
 have e0:=at_ 0;have e1:=at_ 1;rw[show(#[({g:=0,fn:=f0,pos:=p0,act:= .go n}:MemOp),{g:=n,fn:=f1,pos:=p1,act:= .start}])[0]? =some {g:=0,fn:=f0,pos:=p0,act:= .go n}from rfl]at e0;rw[show(#[({g:=0,fn:=f0,pos:=p0,act:= .go n}:MemOp),{g:=n,fn:=f1,pos:=p1,act:= .start}])[1]? =some {g:=n,fn:=f1,pos:=p1,act:= .start}from rfl]at e1;generalize hu: (#[({g:=0,fn:=f0,pos:=p0,act:= .go n}:MemOp),{g:=n,fn:=f1,pos:=p1,act:= .start}]:Trace)=u at e0 e1⊢;have calm:∀op∈u,op.act.touch?=none/\op.act≠ .mark .disable/\op.act≠ .mark .enable/\op.act.low B:=by
  intro op hop;rw[<-hu]at hop;simp only[List.mem_toArray,AV,Ai,or_false]at hop;rcases hop with rfl|rfl
  ·exact⟨rfl,by simp,by simp,trivial⟩
  ·exact⟨rfl,by simp,by simp,trivial⟩
 have still:∀op∈u,op.act.touch?=none:=fun op hop=>(calm op hop).1
 have dk:∀g,Deaf (t++u) g=Deaf t g:=fun g=>ConcX.Deaf_keep t g _ fun op hop=>⟨(calm op hop).2.1,(calm op hop).2.2.1⟩
 have b0: (t++u).deaf 0 (t.size+0)=0:=by rw[Nat.add_zero,deaf_old (AH _)];exact h.deaf
 have b1: (t++u).deaf n (t.size+1)=0:=by
  rw[deaf_succ e0];show(t++u).deaf n t.size=0
  rw[deaf_old (AH _)];exact hdn
 have edge:HappensBefore (t++u) (t.size+0) (t.size+1):= .single (.inr ⟨.spawn (child:=n) (by rw[act?_of e0]) (by rw[act?_of e1]) (by unfold Trace.g?;rw[e1];rfl),⟨0,by unfold Trace.g?;rw[e0];rfl,b0⟩,⟨n,by unfold Trace.g?;rw[e1];rfl,b1⟩⟩);have both:∀i a,touchAt (t++u) i=some a->a.loc.isMemory=true->(Knows (t++u) 0 i/\Knows (t++u) n i)\/(Shun a.loc/\a.kind= .atomic):=by
  intro i a ha hm;obtain⟨hlt,hat⟩:=B7 still ha;rcases h.known i a hat hm with hk|hk
  ·exact .inl ⟨hk.app u,t.size+1,_,e1,rfl,.inr (Relation.TransGen.trans (hk.hb_new (u:=u) om e0 rfl) edge)⟩
  ·exact .inr hk
 refine⟨hn,fun said=>Fg still (h.clean said),fun i a ha hl=>((both i a ha (JU hl)).resolve_right fun x=>hO _ hl x.1).2,fun i a ha hm _ _=>(both i a ha hm).imp (fun x=>x.1) id,fun i a ha hl _=>(both i a ha (JU hl)).resolve_right fun x=>hR _ hl x.1,
  fun i a ha hm=>(both i a ha hm).imp id .inr,fun i g hg h0 hc hcn=> ?_,fun op hop=>(BC.1 hop).elim (h.seen op) (fun x=>(calm op x).2.2.2),(dk 0).trans h.deaf,(dk n).trans hdn⟩
 obtain⟨a,ha⟩:=EZ hcn;have hlt:=(B7 still ha).1;obtain⟨j,hj,hb⟩:=h.over i g (by rw[<-g?_old (u:=u) hlt];exact hg) h0 ((counts_old hlt).1 hcn);exact⟨j,by rw[g?_old (lt_of_g? hj)];exact hj,hb_app u hb⟩
end
structure Solo(P:Program)(Shun:Loc->Prop)(B n:Nat)(gs:Array Goroutine)(a:Goroutine)(t:Trace)(q:Nat->Nat)(d:Nat):Prop where
 h0:gs[0]? =some a
 size:gs.size=n
 leavers:Leavers P t gs q
 pd:PD Shun B t d
section
variable{P:Program}{Post:Value->World->Prop}{E:Event->Prop}{Shun:Loc->Prop}{B n dd:Nat}{gs:Array Goroutine}{a a':Goroutine}{w w':World}{sl:Option (Nat×Nat)}{t:Trace}{q:Nat->Nat}
theorem Solo.pick (hS:Solo P Shun B n gs a t q dd) (hr:a.status= .running)
  (K:∀(gs':Array Goroutine) (d:Nat) (sl':Option (Nat×Nat)) (t':Trace) (q':Nat->Nat),Solo P Shun B n gs' a t' q' dd->ot P Post (runT P (crowd gs' (w.at d) sl') 0) t'):Fin P Post (crowd gs w sl) t:=by
 have key:∀(M:Nat) (gs:Array Goroutine) (d0:Nat) (sl:Option (Nat×Nat)) (t':Trace) (q:Nat->Nat),sumTo n q=M->Solo P Shun B n gs a t' q dd->Fin P Post (crowd gs (w.at d0) sl) t':=by
  intro M;induction M using Nat.strongRecOn with
  |_ M ih=>
   intro gs d0 sl t' q hM hS;have haw:∀g∈gs,awake g:=by
    intro g hg;obtain⟨i,hi,rfl⟩:=Array.mem_iff_getElem.1 hg;have hgi:gs[i]? =some gs[i]:=AK hi;by_cases h0:i=0
    ·subst h0;rw[hS.h0]at hgi;rw[<-AC hgi];exact awake_of (.inl hr)
    ·exact awake_of ((hS.leavers.old i _ om hgi).status.elim .inl fun x=> .inr (.inr x))
   obtain⟨i,g,d,sl',hi,hg,hst⟩:=crowd_pick (P:=P) (w:=w.at d0) (sl:=sl) haw ⟨0,a,hS.h0,hr⟩;have hilt:i<gs.size:=(AR.1 hi).1;by_cases h0:i=0
   ·subst h0;obtain⟨m',ops,e,hf⟩:=K gs d sl' t' q hS;exact Fin.step (hst.trans e) hf
   have hq:=hS.leavers.old i g om hi;have hi0: (i==0)=false:=by simp[h0]
   have hin:i<n:=by rw[<-hS.size];exact hilt
   cases hqi:q i with
   |zero=>rw[hqi]at hq;rw[hq.1]at hg;cases hg
   |succ k=>
    rw[hqi]at hq;rcases hq with⟨hf,_⟩|⟨_,g',es,hm,hstp,hq'⟩
    ·rw[hf]at hg;cases hg
    have hrunT:=runT_crowd_go (P:=P) (sl:=sl') (i:=i) hi (by rw[hi0];exact hstp (w.at d));have hsum:sumTo n (ConcN.upd q i k)+(k+1)=sumTo n q+k:=by
     have:=sumTo_upd q k id hin;simpa[hqi]using this
    refine Fin.step (hst.trans hrunT) (ih (sumTo n (ConcN.upd q i k)) om _ d sl' _ (ConcN.upd q i k) rfl ⟨?_,by simp[hS.size],⟨fun j x hj hx=> ?_,fun j hj=> ?_⟩,hS.pd.mutes (FO.evs h0 h0 hm)⟩)
    ·rw[AG h0,Al,hS.h0,AU,woken_run hr]
    ·by_cases hji:i=j
     ·subst hji;rw[Au (by simpa using hilt)]at hx;obtain rfl:=AC hx;rw[ConcN.upd_same,Deaf_own];exact hq'
     ·rw[AG hji,Al]at hx;obtain⟨y,hy,rfl⟩:=AZ.1 hx;have hqj:=hS.leavers.old j y hj hy;rw[woken_quitsD hqj,ConcN.upd_ne q k (Ne.symm hji),Deaf_other t' hji _ (fun op hop=>by obtain⟨e,_,rfl⟩:=CK hop;rfl)];exact hqj
    ·rw[Deaf_other t' (g':=i) (by simp at hj;omega) _ (fun op hop=>by obtain⟨e,_,rfl⟩:=CK hop;rfl)];exact hS.leavers.above j (by simpa using hj)
 exact key _ gs w.drawn sl t q rfl hS
theorem Solo.go(hS:Solo P Shun B n gs a t q dd){es:Array Event}(h:stepG P true a w= .go a' w' es)(he:∀e∈es,(∀x,(MemAct.ofEvent e).touch?=some x->Shun x.loc->x.kind≠ .plain)/\(MemAct.ofEvent e).low B):
  ∃gs',runT P (crowd gs w sl) 0=(.next (crowd gs' w' sl),MemOp.ofEvents 0 a.frame.fn a.frame.place es)/\Solo P Shun B n gs' a' (t++MemOp.ofEvents 0 a.frame.fn a.frame.place es) q (deafBehind dd es):=by
 have hpos:0<gs.size:=(AR.1 hS.h0).1;exact⟨_,runT_crowd_go (P:=P) (gs:=gs) (sl:=sl) (i:=0) hS.h0 h,by simp[hpos],by simp[hS.size],hS.leavers.own hpos _ _ es,hS.pd.app0 he⟩
theorem KN{Stop:Goroutine->World->Prop}(hE:∀e,E e->EvL Shun B e):
  ∀(m:Nat) (gs:Array Goroutine) (a:Goroutine) (w:World) (sl:Option (Nat×Nat)) (t:Trace) (q:Nat->Nat) (d:Nat),Goes P true AtRel (DE E) Stop m a w->Solo P Shun B n gs a t q d->
   (∀(gs':Array Goroutine) (a':Goroutine) (w':World) (sl':Option (Nat×Nat)) (t':Trace) (q':Nat->Nat),(∀w₁,AtRel w' w₁->Stop a' w₁)->Solo P Shun B n gs' a' t' q' d->Fin P Post (crowd gs' w' sl') t')->Fin P Post (crowd gs w sl) t:=by
 intro m;induction m with
 |zero=>exact fun gs a w sl t q d hG hS K=>K gs a w sl t q hG hS
 |succ m ih=>
  intro gs a w sl t q d hG hS K;rcases hG with hstop|⟨hrun,hstep⟩
  ·exact K gs a w sl t q hstop hS
  refine hS.pick hrun fun gs1 dd sl1 t1 q1 hS1=> ?_
  have hs:=hstep (w.at dd) ⟨dd,rfl⟩;cases hgo:stepG P true a (w.at dd)with
  |go a' w' es=>
   rw[hgo,goes_go]at hs;obtain⟨hd,hG'⟩:=hs;obtain⟨gs2,hr,hS2⟩:=hS1.go (sl:=sl1) hgo (ag fun e he=>hE e (hd e he));rw[deafBehind_still (fun e he=>⟨(hE e (hd e he)).2.1,(hE e (hd e he)).2.2.1⟩)]at hS2;exact⟨_,_,hr,ih gs2 a' w' sl1 _ q1 d hG' hS2 K⟩
  |_=>rw[hgo]at hs;exact hs.elim
theorem Rl{w:World}{d:Nat}:AtRel w (w.at d):=⟨d,rfl⟩
theorem iO{StopG:Goroutine->World->Prop}(hE:∀e,E e->EvL Shun B e){m:Nat}
  (h:Goes P true AtRel (DE E) (ConcX.AtMkS P .disable fun a w=>∃n,Goes P true AtRel (DE E) (ConcX.AtMkS P .enable fun a w=>∃n,Goes P true AtRel (DE E) StopG n a w) n a w) m a w)(hS:Solo P Shun B n gs a t q 0)
  (K:∀(gs':Array Goroutine) (a':Goroutine) (w':World) (sl':Option (Nat×Nat)) (t':Trace) (q':Nat->Nat),(∀w₁,AtRel w' w₁->StopG a' w₁)->Solo P Shun B n gs' a' t' q' 0->Fin P Post (crowd gs' w' sl') t'):Fin P Post (crowd gs w sl) t:=by
 refine KN hE m gs a w sl t q 0 h hS fun gs1 a1 w1 sl1 t1 q1 h1 hS1=> ?_
 refine hS1.pick (h1 w1 (atRel_refl _)).1 fun gs2 d2 sl2 t2 q2 hS2=> ?_
 obtain⟨_,a2,e2,n2,g2⟩:=h1 (w1.at d2) Rl;obtain⟨gs3,hr3,hS3⟩:=hS2.go (sl:=sl2) e2 (fun e he=>by simp at he;subst he;exact⟨fun x hx=>(by cases hx),trivial⟩);refine⟨_,_,hr3,?_⟩;refine KN hE n2 gs3 a2 _ sl2 _ q2 1 g2 hS3 fun gs4 a4 w4 sl4 t4 q4 h4 hS4=> ?_
 refine hS4.pick (h4 w4 (atRel_refl _)).1 fun gs5 d5 sl5 t5 q5 hS5=> ?_
 obtain⟨_,a5,e5,n5,g5⟩:=h4 (w4.at d5) Rl;obtain⟨gs6,hr6,hS6⟩:=hS5.go (sl:=sl5) e5 (fun e he=>by simp at he;subst he;exact⟨fun x hx=>(by cases hx),trivial⟩);exact⟨_,_,hr6,KN hE n5 gs6 a5 _ sl5 _ q5 0 g5 hS6 K⟩
theorem aU{child:Goroutine}(hr:a.status= .running)(h:∀d,∃d',stepG P true a (w.at d)= .spawn a' child (w'.at d') #[])(hS:Solo P Shun B n gs a t q 0)
  (K:∀(gs':Array Goroutine) (d:Nat) (sl':Option (Nat×Nat)) (t':Trace) (q':Nat->Nat),ConcX.Big P n gs' a' child t' q'->(∀O1 Rd:Nat->Prop,(∀l,InB O1 l->¬Shun l)->(∀l,InB Rd l->¬Shun l)->Ph1 n Shun O1 Rd B t')->Fin P Post (crowd gs' (w'.at d) sl') t'):Fin P Post (crowd gs w sl) t:=by
 refine hS.pick hr fun gs1 d1 sl1 t1 q1 hS1=> ?_
 obtain⟨d',e⟩:=h d1;have hpos:0<gs1.size:=(AR.1 hS1.h0).1;have hn:n≠0:=by rw[<-hS1.size];omega
 have hrun:=runT_crowd_spawn (P:=P) (gs:=gs1) (sl:=sl1) (i:=0) hS1.h0 (show stepG P (0==0) a (w.at d1)=_ from e);have hdn:Deaf t1 n=0:=hS1.leavers.above n (by rw[hS1.size];omega);have etr: ((MemOp.ofEvents 0 a.frame.fn a.frame.place #[]).push {g:=0,fn:=a.frame.fn,pos:=a.frame.place,act:= .go gs1.size}).push {g:=gs1.size,fn:=child.frame.fn,pos:=a.frame.place,act:= .start}= #[({g:=0,fn:=a.frame.fn,pos:=a.frame.place,act:= .go n}:MemOp),{g:=n,fn:=child.frame.fn,pos:=a.frame.place,act:= .start}]:=by
  rw[hS1.size];apply Array.toList_inj.1;simp[MemOp.ofEvents]
 refine⟨_,_,hrun,?_⟩;rw[etr];have hsz: (gs1.setIfInBounds 0 a').size=n:=by simp[hS1.size]
 have hkeep:∀g,Deaf (t1++ #[({g:=0,fn:=a.frame.fn,pos:=a.frame.place,act:= .go n}:MemOp),{g:=n,fn:=child.frame.fn,pos:=a.frame.place,act:= .start}]) g=Deaf t1 g:=fun g=>ConcX.Deaf_keep t1 g _ fun op hop=>by
  simp only[List.mem_toArray,AV,Ai,or_false]at hop;rcases hop with rfl|rfl<;>simp
 refine K _ d' sl1 _ q1 ⟨by simp[hS1.size],om,?_,?_,fun i g h1 h2 hg=> ?_,fun j hj=> ?_⟩ fun O1 Rd hO hR=>hS1.pd.fork hn hdn hO hR _ _ _ _
 ·rw[Array.getElem?_push_lt (by simpa using hpos)];simp
 ·have:=Array.getElem?_push_size (xs:=gs1.setIfInBounds 0 a') (x:=child);rwa [hsz]at this
 ·rw[hkeep];rw[Array.getElem?_push,if_neg (by rw[hsz];omega),AG om]at hg;exact hS1.leavers.old i g h1 hg
 ·rw[hkeep];exact hS1.leavers.above j (by rw[hS1.size];omega)
end
section
variable{P:Program}{main:Bool}{Rd:Nat->Prop}{Stop:StopT}{O:Nat->Prop}{g g':Goroutine}{w:World}{b:Frame}{a:Act}{k:List Item}{cs:List Frame}
theorem Own.ctl (hr:g.status= .running) (h:∀w,stepG P main g w= .go g' w #[]) (hO:Own P main Rd Stop O g' w):Own P main Rd Stop O g w:=
 .one hr fun w₁ k=>⟨g',w₁,#[],h w₁,ED O Rd w₁ (fun e he=>by simp at he),by rw[IB];exact hO.rely k⟩
theorem Own.goes(hr:g.status= .running)(h:∀w₁,Keeps (Uni O Rd) w w₁->(stepG P main g w₁).goes fun g' w' es=>Moves O Rd w₁ w' es/\Own P main Rd Stop (grow O w₁ w') g' w'):Own P main Rd Stop O g w:=
 .one hr fun w₁ k=>by
  obtain⟨g',w',es,h1,h2,h3⟩:=goes_elim (h w₁ k);exact⟨g',w',es,h1,h2,h3⟩
theorem Own.value{ops:Array Oper}{i:Nat}{rest:List Nat}{o:Oper}(v:Value)(ho:ops[i]? =some o)(hw:Region.wanted o (yielded ops a.tmps)=true)(hk:b.kind≠ .early)
  (hr:∀w,(execOp a.eval o).run P w= .ok (.value v) w)(he:∀w,(execOp a.eval o).events P w #[]= #[])
  (hO:Own P main Rd Stop O (G (b.at (a.put o.dst v) (.inRegion ops rest::k)) cs) w):Own P main Rd Stop O (G (b.at a (.inRegion ops (i::rest)::k)) cs) w:=
 .ctl rfl (fun w=>by rw[stepG_value ho hw hk (hr w)];unfold listed;rw[he w,seen_none]) hO
theorem Own.oper{ops:Array Oper}{i:Nat}{rest:List Nat}{o:Oper}(ho:ops[i]? =some o)(hw:Region.wanted o (yielded ops a.tmps)=true)(hk:b.kind≠ .early)
  (h:∀w₁,Keeps (Uni O Rd) w w₁->∃v w',(execOp a.eval o).run P w₁= .ok (.value v) w'/\Moves O Rd w₁ w' (listed P b.fn a o w₁)/\Own P main Rd Stop (grow O w₁ w') (G (b.at (a.put o.dst v) (.inRegion ops rest::k)) cs) w'):
  Own P main Rd Stop O (G (b.at a (.inRegion ops (i::rest)::k)) cs) w:=
 .one rfl fun w₁ k=>by
  obtain⟨v,w',h1,h2,h3⟩:=h w₁ k;exact⟨_,w',_,stepG_value ho hw hk h1,h2,h3⟩
end
end
section
open Go.Conc
abbrev Do:Go.Conc.Lib.WgLink:={add:=166,done:=168,wait:=170,relMerge:=229,disable:=230,enable:=231,inBubble:=232,associate:=233,fatal:=234,uOr:=235,uAdd:=236,raceRead:=237,uLoad:=238,uStore:=239,disassociate:=240,semrelease:=241,acquire:=243,isAssociated:=244,uCas:=245,raceWrite:=246,semacquire:=247,orU64:=277,addU64:=278,loadU64:=279,storeU64:=280,casU64:=281,tWgP:=274,tUP:=276,tAssoc:=277,tWg:=239,tAU:=236,tU64:=50,tUint:=95,tU32:=237,tPU32:=281,tPAU:=318,tPU64:=320,tNoCopy:=232,tANoCopy:=233,tAlign64:=234}
theorem Lm:Go.Conc.Lib.WgLib Tryz.prog Do:=
 ⟨Tryz.func166,Tryz.func168,Tryz.func170,Tryz.func229,Tryz.func230,Tryz.func231,Tryz.func232,Tryz.func233,Tryz.func234,Tryz.func235,Tryz.func236,Tryz.func237,Tryz.func238,Tryz.func239,Tryz.func240,Tryz.func241,Tryz.func243,Tryz.func244,Tryz.func245,Tryz.func246,Tryz.func247,Tryz.func277,Tryz.func278,Tryz.func279,Tryz.func280,Tryz.func281,Tryz.underlying274,Tryz.runUnderlying274,Tryz.sizeOf274,Tryz.isAgg274,Tryz.zeroValue274,Tryz.underlying276,Tryz.runUnderlying276,Tryz.sizeOf276,Tryz.isAgg276,Tryz.zeroValue276,Tryz.underlying277,Tryz.runUnderlying277,Tryz.sizeOf277,Tryz.isAgg277,Tryz.zeroValue277,Tryz.underlying239,Tryz.runUnderlying239,Tryz.sizeOf239,Tryz.isAgg239,Tryz.zeroValue239,Tryz.underlying236,Tryz.runUnderlying236,Tryz.sizeOf236,Tryz.isAgg236,Tryz.zeroValue236,Tryz.underlying50,Tryz.runUnderlying50,Tryz.sizeOf50,Tryz.isAgg50,Tryz.zeroValue50,Tryz.underlying95,Tryz.runUnderlying95,Tryz.sizeOf95,Tryz.isAgg95,Tryz.zeroValue95,Tryz.underlying237,Tryz.runUnderlying237,Tryz.sizeOf237,Tryz.isAgg237,Tryz.zeroValue237,Tryz.underlying281,Tryz.runUnderlying281,Tryz.sizeOf281,Tryz.isAgg281,Tryz.zeroValue281,Tryz.underlying318,Tryz.runUnderlying318,Tryz.sizeOf318,Tryz.isAgg318,Tryz.zeroValue318,Tryz.underlying320,Tryz.runUnderlying320,Tryz.sizeOf320,Tryz.isAgg320,Tryz.zeroValue320,Tryz.underlying0,Tryz.runUnderlying0,Tryz.sizeOf0,Tryz.isAgg0,Tryz.zeroValue0,Tryz.underlying3,Tryz.runUnderlying3,Tryz.sizeOf3,Tryz.isAgg3,Tryz.zeroValue3,Tryz.underlying4,Tryz.runUnderlying4,Tryz.sizeOf4,Tryz.isAgg4,Tryz.zeroValue4,Tryz.underlying9,Tryz.runUnderlying9,Tryz.sizeOf9,Tryz.isAgg9,Tryz.zeroValue9,Tryz.underlying20,Tryz.runUnderlying20,Tryz.sizeOf20,Tryz.isAgg20,Tryz.zeroValue20,Tryz.underlying21,Tryz.runUnderlying21,Tryz.sizeOf21,Tryz.isAgg21,Tryz.zeroValue21,kr,kr⟩
end
end Go.Proofs.YtjlallgaadmeaaaGreatDoor
