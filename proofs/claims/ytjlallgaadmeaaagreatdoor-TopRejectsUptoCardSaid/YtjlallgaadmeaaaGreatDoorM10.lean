/- Parts of the proof, joined: KK KL KS KT KU KV LJ LK FR FS LA LB. Conditions: none. -/
import Derived.Test.YtjlallgaadmeaaaGreatDoorM09
import Derived.Conc.AppendEvents3
import Derived.Deep.MidRow
set_option linter.unusedVariables false
set_option linter.unusedSimpArgs false
set_option linter.unusedSectionVars false
set_option maxRecDepth 100000
namespace Go.Proofs.YtjlallgaadmeaaaGreatDoor
section
open Go.Conc Go.ConcX Go.ConcX.Gen Go.Conc.Lib
section
def NE(g:Nat)(e:Event):Prop:=∃(ad:Addr) (x:Bool),e=⟨.cell ad,x,false⟩/\ad.block=g
theorem IX{P:Program}(g o:Nat)(t:TypeId):∀(vs:List Value) (i:Nat) (cur:Array Value) (w:World) (es:Array Event),w.heap[g]? =some (.cells cur t (0,0))->o+i+vs.length<=cur.size->(∀v∈vs,v.oneCell'=true)->
  ∀ev∈(storeCells ⟨g,o,none⟩ vs i).events P w es,ev∈es\/NE g ev
 |[],_,_,_,_,_,_,_=>fun ev h=> .inl (by simpa[storeCells]using h)
 |v::rest,i,cur,w,es,hg,hl,h1=>fun ev h=>by
  have hi:o+i<cur.size:=by simp at hl;omega
  have hadd: (⟨g,o,none⟩:Addr).add i=⟨g,o+i,none⟩:=by unfold Addr.add;split<;>simp_all
  have hcell:w.cell? ⟨g,o+i,none⟩=some cur[o+i]:=by simp[World.cell?,hg,hi]
  have hfro:w.frozen? ⟨g,o+i,none⟩=false:=by simp[World.frozen?,hg]
  have hst: (store ((⟨g,o,none⟩:Addr).add i) v).run P w= .ok () (w.setRow g (cur.setIfInBounds (o+i) v)):=by
   rw[hadd,run_store P w _ v _ (h1 v (by simp)),hcell];simp[hfro,setCell_eq_setRow w g (o+i) cur t (0,0) v hg]
  have hev: (store ((⟨g,o,none⟩:Addr).add i) v).events P w es=es.push ⟨.cell ⟨g,o+i,none⟩,true,false⟩:=by
   rw[hadd,events_store P w es _ v _ (h1 v (by simp)),hcell];simp only[hfro,AP,Ab];rfl
  simp only[storeCells,Sem.events_bind,hst,Result.evThen_ok,hev]at h;rcases IX g o t rest (i+1) (cur.setIfInBounds (o+i) v) (w.setRow g (cur.setIfInBounds (o+i) v)) _ (setRow_heap w g cur _ t _ hg) (by simp at hl⊢;omega) (fun x hx=>h1 x (by simp[hx])) ev h with h|h
  ·rcases Array.mem_push.1 h with h|rfl
   ·exact .inl h
   ·exact .inr ⟨_,_,rfl,rfl⟩
  ·exact .inr h
theorem gh{P:Program}(w:World)(a:Addr)(es:Array Event){u:Value}(hu:w.cell? a=some u):∀ev∈(load a).events P w es,ev∈es\/NE a.block ev:=by
 intro ev h;rw[events_load,hu]at h;rcases Array.mem_push.1 h with h|rfl
 ·exact .inl h
 ·exact .inr ⟨_,_,rfl,rfl⟩
theorem Je{P:Program}(a:Addr):∀(n i:Nat) (acc:Array Value) (w:World) (es:Array Event),(∀j,j<n->(w.cell? (a.add (i+j))).isSome)->
  ∀ev∈(loadCellsFrom a i n acc).events P w es,ev∈es\/NE a.block ev
 |0,_,_,_,_,_=>fun ev h=> .inl (by simpa[loadCellsFrom]using h)
 |n+1,i,acc,w,es,hc=>fun ev h=>by
  simp only[loadCellsFrom,Sem.events_bind]at h;obtain⟨u,hu⟩:=Option.isSome_iff_exists.1 (hc 0 om);simp only[Nat.add_zero]at hu;have hr: (load (a.add i)).run P w= .ok u w:=by simp[hu]
  rw[hr]at h;rcases Je a n (i+1) (acc.push u) w _ (fun j hj=>by have:=hc (j+1) om;rwa [show i+(j+1)=i+1+j from om]at this) ev h with h|h
  ·rcases gh w _ es hu ev h with h|h
   ·exact .inl h
   ·rw[addBlock]at h;exact .inr h
  ·exact .inr h
theorem Vr: (Tryz.prog.info? 29).map (·.size)=some 5:=by
 obtain⟨i,hi,_,h,_⟩:=C5 PS;rw[hi,<-h];rfl
theorem Sx: (Tryz.prog.info? 246).map (fun i=>(i.zero,i.size,i.bytes))=some (some (.agg #[.int .i64 0,.int .i64 0,.slice none 0 0,.slice none 0 0,.slice none 0 0,.slice none 0 0,.int .u16 0]),7,120):=kr
theorem aD: (Tryz.prog.info? 246).map (·.size)=some 7:=by
 obtain⟨i,hi,_,h,_⟩:=C5 Sx;rw[hi,<-h];rfl
def Cc:Array Value:= #[.int .i64 0,.int .i64 0,.slice none 0 0,.slice none 0 0,.slice none 0 0,.slice none 0 0,.int .u16 0]
def CE(ca:Array Value):Array Value:= #[.int .i64 0]++ca++ #[.int .u16 0]
theorem YO(ca:Array Value): (CE ca)[0]? =some (.int .i64 0):=by
 rw[CE,BK (by simp;omega),BK (by simp)];rfl
theorem Uv{g:Nat}{t ty:TypeId}{n:Nat}{old cells:Array Value}{w:World}(hg:w.heap[g]? =some (.cells old t))(hi: (Tryz.prog.info? ty).map (·.size)=some n)(hs:Sem.run Tryz.prog (sizeOf ty) w= .ok n w)(ho:old.size=n)(hc:cells.size=n)(h1:cells.all (·.oneCell')=true):
  (uS (Instr.storeAt ty (.pointer (some ⟨g,0,none⟩)) (.agg cells))).run Tryz.prog w= .ok .skip (w.setRow g cells)/\∀e∈(uS (Instr.storeAt ty (.pointer (some ⟨g,0,none⟩)) (.agg cells))).events Tryz.prog w #[],NE g e:=by
 have hr:=run_storeVar_row (P:=Tryz.prog) w g t ty old cells hg (by rw[hi,hc]) om h1;refine⟨?_,fun e he=> ?_⟩
 ·show((Instr.storeAt ty (.pointer (some ⟨g,0,none⟩)) (.agg cells)).bind fun _=>(pure Next.skip:Sem Next)).run Tryz.prog w=_
  have: (Instr.storeAt ty (.pointer (some ⟨g,0,none⟩)) (.agg cells)).run Tryz.prog w= .ok () (w.setRow g cells):=by
   simp only[Instr.storeAt,Instr.sureAddr,Sem.run_bind,Sem.run_pure,Result.andThen,hr]
  rw[show((Instr.storeAt ty (.pointer (some ⟨g,0,none⟩)) (.agg cells)).bind fun _=>(pure Next.skip:Sem Next))=(Instr.storeAt ty (.pointer (some ⟨g,0,none⟩)) (.agg cells)>>=fun _=>pure Next.skip)from rfl,Sem.run_bind,this];rfl
 ·have he2:e∈(storeCells ⟨g,0,none⟩ cells.toList).events Tryz.prog w #[]:=by
   have hne:¬((Value.agg cells).cells.size≠n):=by show¬(cells.size≠n);omega
   have hev: (sizeOf ty).events Tryz.prog w #[]= #[]:=by simp[sizeOf,typeInfo,go_sem];cases Tryz.prog.info? ty<;>simp[go_sem,stuck]
   simp only[uS,Instr.storeAt,Instr.sureAddr,storeVar,Sem.events_bind,Sem.events_pure,Sem.run_pure,Sem.run_bind,hs,Result.evThen_ok,Result.andThen,hev,if_neg hne]at he;replace he:e∈((storeCells ⟨g,0,none⟩ cells.toList).run Tryz.prog w).evThen ((storeCells ⟨g,0,none⟩ cells.toList).events Tryz.prog w #[]) fun _ _ es=>es:=he
   cases hx: (storeCells ⟨g,0,none⟩ cells.toList).run Tryz.prog w with
   |ok u w1=>rw[hx]at he;exact he
   |halt x w1=>rw[hx]at he;exact he
  rcases IX g 0 t cells.toList 0 old w #[] hg (by simp;omega) (fun v hv=>Array.all_eq_true_iff_forall_mem.1 h1 v (by simpa using hv)) e he2 with h|h
  ·simp at h
  ·exact h
variable{ca:Array Value}
theorem Z3{bf:Nat}(v:World)(hca:ca.size=5)(hb:v.heap[bf]? =some (.cells (CE ca) 246)):
  (vS (Instr.loadAt 29 (.pointer (some ⟨bf,1,none⟩)))).run Tryz.prog v= .ok (.value (.agg ca)) v/\∀e∈(vS (Instr.loadAt 29 (.pointer (some ⟨bf,1,none⟩)))).events Tryz.prog v #[],NE bf e:=by
 have hc:∀j,j<5->v.cell? ⟨bf,1+j,none⟩=ca[j]? :=fun j hj=>by
  rw[cell_of_row v _ _ _ _ _ hb];simp only[CE];rw[BK (by simp;omega),BD (by simp)];simp
 have hr:=run_loadAt_mid (P:=Tryz.prog) v bf 1 29 ca.toList _ (fun j u hu=>by
  have hj:j<5:=by
   have:=(Ah.1 hu).1;simpa[hca]using this
  rw[hc j hj];simpa using hu) Tryz.underlying29 rfl (by rw[Vr];simp[hca])
 refine⟨?_,fun e he=> ?_⟩
 ·skip
  show((Instr.loadAt 29 (.pointer (some ⟨bf,1,none⟩)))>>=fun z=>pure (Next.value z)).run Tryz.prog v=_
  rw[Sem.run_bind,hr];rfl
 ·have hagg:∀w,(isAgg 29).run Tryz.prog w= .ok true w:=Tryz.isAgg29;have hev: (isAgg 29).events Tryz.prog v #[]= #[]:=by simp[isAgg,underlying,go_sem]
  have hev2: (sizeOf 29).events Tryz.prog v #[]= #[]:=by
   obtain⟨i,hi,_⟩:=C5 PS;simp[sizeOf,typeInfo,hi,go_sem]
  have he2:e∈(loadCells ⟨bf,1,none⟩ 5).events Tryz.prog v #[]:=by
   have hx: (loadCells ⟨bf,1,none⟩ 5).run Tryz.prog v= .ok ca v:=by
    have:=run_loadCells_list (P:=Tryz.prog) v ⟨bf,1,none⟩ ca.toList (fun j u hu=>by
     have hj:j<5:=by
      have:=(Ah.1 hu).1;simpa[hca]using this
     rw[Addr.add_mid,hc j hj];simpa using hu)
    simpa[hca]using this
   simp only[vS,Instr.loadAt,Instr.sureAddr,loadVar,Sem.events_bind,Sem.events_pure,Sem.run_pure,Sem.run_bind,hagg,hev,hev2,Tryz.sizeOf29,Result.evThen_ok,Result.andThen,Ag,hx]at he;exact he
  rcases Je ⟨bf,1,none⟩ 5 0 #[] v #[] (fun j hj=>by
   rw[Addr.add_mid,AW,hc j hj];simp[hca,hj]) e he2 with h|h
  ·simp at h
  ·exact h
structure FA(w:World)(s:Sol)(bl:Nat)(X Y:Array Value)(w':World):Prop where
 o1:s.b6<s.bW
 o2:s.bW<bl
 o3:bl<w.heap.size
 size:w'.heap.size=w.heap.size+1
 mbf:w'.heap[w.heap.size]? =some (.cells X 246)
 mbl:w'.heap[bl]? =some (.cells Y 29)
 same:∀x,x<w.heap.size->x≠bl->x≠s.b6->x≠s.bW->w'.heap[x]? =w.heap[x]?
 tape:w'.tape=w.tape
 os:w'.os=w.os
 output:w'.output=w.output
theorem FA.rely{w:World}{s:Sol}[Shy s.bW s.b6]{bl:Nat}{X Y:Array Value}(w1 w2:World)(r:Aside2 s.b6 s.bW w1 w2)(h:FA w s bl X Y w1):FA w s bl X Y w2:=by
 have:=h.o1;have:=h.o2;have:=h.o3;exact⟨h.o1,h.o2,h.o3,r.size.trans h.size,(r.block _ om om).trans h.mbf,(r.block _ om om).trans h.mbl,fun x a b c d=>(r.block x c d).trans (h.same x a b c d),r.tape.trans h.tape,r.os.trans h.os,r.output.trans h.output⟩
theorem Rm{s:Sol}[Shy s.bW s.b6]{w:World}(w1 w2:World)(r:Aside2 s.b6 s.bW w1 w2)(h:Aside2 s.b6 s.bW w w1):Aside2 s.b6 s.bW w w2:=h.trans r
theorem MO{Wg C:Nat}[Shy Wg C]{vals:List Value}{w w':World}(h:KPa 239 Wg C vals w)(h1:w'.heap[Wg]? =w.heap[Wg]?)(h2:w'.heap[C]? =w.heap[C]?):KPa 239 Wg C vals w':=by
 rcases h with h|⟨h,hf⟩
 ·exact .inl (h1.trans h)
 ·exact .inr ⟨h1.trans h,fun hc=>h2.trans (hf hc)⟩
structure Slots3(s:Sol)(bl bw:Nat)(V:List Value):Prop where
 len:80<=V.length
 e13:V[13]? =some (.slice (some ⟨bl,0,none⟩) 1 1)
 e14:V[14]? =some (.slice (some ⟨bw,0,none⟩) 1 1)
def Lr(ca:Array Value):Value:= .tuple #[.int .i64 0,.bool true,.agg (CE ca),.agg Cc]
set_option maxRecDepth 100000 in
set_option maxHeartbeats 8000000 in
theorem Xe{k:CallKind}(hke: (bq k).kind≠ .early){s:Sol}[Shy s.bW s.b6]{Low:Nat}{Mine:Loc->Prop}{bl bw:Nat}{V:List Value}(hV:Slots2 s bl bw V)(hca:ca.size=5)(hca1:ca.all (·.oneCell')=true)(w:World)
  (o1:s.b6<s.bW)(o2:s.bW<bl)(o3:bl<w.heap.size)(hbl:w.heap[bl]? =some (.cells HI 29))(hk:KPa 239 s.bW s.b6 [.chan (some s.bg)] w)(hLow:Low<=bl)
  (hacc:∀(a:Addr) (x:Bool),(a.block=bl\/a.block=w.heap.size)->EvQ Mine s.bW s.b6 0 ⟨.cell a,x,false⟩)(cs':List Frame):
  ∃(V':List Value) (m:Nat),Slots3 s bl bw V'/\Goes Tryz.prog true (RPa 239 s.bW s.b6 [.chan (some s.bg)]) (DPi Mine s.bW s.b6 Low) (AtKd Tryz.prog 239 s.bW s.b6 Low [.chan (some s.bg)] Mine (AnchW7 Do (FA w s bl (CE ca) ca) s.bW s.b6 [.chan (some s.bg)] ((bq k).at ⟨V'.toArray,[]⟩ (.inRegion dA [0]:: [.code II])) cs')) m
   (G ((bq k).at ⟨(V.set 49 (Lr ca)).toArray,[]⟩ (.inRegion O9 [1,2,3]::EV)) cs') w:=by
 obtain⟨v0,v1,v2,v3,v4,v5,v6,v7,v8,v9,v10,v11,v12,v13,v14,v15,v16,v17,v18,v19,v20,v21,v22,v23,v24,v25,v26,v27,v28,v29,v30,v31,v32,v33,v34,v35,v36,v37,v38,v39,v40,v41,v42,v43,v44,v45,v46,v47,v48,v49,v50,v51,v52,v53,v54,v55,v56,v57,v58,v59,v60,v61,v62,v63,v64,v65,v66,v67,v68,v69,v70,v71,v72,v73,v74,v75,v76,v77,v78,v79,vl,rfl⟩:=Pe V hV.len;have e8:=hV.e8;have e13:=hV.e13;have e14:=hV.e14;have e44:=hV.e44;have e45:=hV.e45;have e47:=hV.e47;have e48:=hV.e48;simp only[Am,AX,AO]at e8 e13 e14 e44 e45 e47 e48;subst e8 e13 e14 e44 e45 e47 e48;have hvf: (CE ca).size=7:=by simp[CE,hca]
 have hvf1: (CE ca).all (·.oneCell')=true:=by
  simp only[CE,Array.all_append,hca1,Bool.and_true,AA];constructor<;>simp[Value.oneCell']
 apply Exists.intro;refine⟨41,?_,?_⟩;rotate_left;simp only[List.set_cons_succ,List.set_cons_zero,EV,Lr];have hF:Aside2 s.b6 s.bW w w/\KPa 239 s.bW s.b6 [.chan (some s.bg)] w:=⟨.refl w,hk⟩;have rl:= @fa_rely _ Do s.bW s.b6 _ [.chan (some s.bg)] _ (Rm (s:=s) (w:=w));have hq:O9=O9:=rfl;conv at hq=>rhs;simp only[O9,K0,K1,K2,K3,K4,Jv,Jr,Jq,II,Kd,X1,Y1,X2,Y2,C2,X3,Y3,C3,Ef,Tryz.f136,AQ,rO,cA,cB,cC,cT,cE]
 rw[hq];clear hq;refine Goes.step rfl (fun wq hq=> ?_);replace hF:=rl hF hq;clear hq;rw[stepG_value (v:= .int .i64 0) (w':=wq) rfl rfl hke (by go_simp;try decide)];simp only[goes_go];refine⟨by u_none;intro e he;have hm:=mem_listed he;skip;simp[go_sem]at hm,?_⟩;walk_nrm;refine Goes.step rfl (fun wq hq=> ?_);replace hF:=rl hF hq;clear hq;rw[stepG_value (v:= .bool true) (w':=wq) rfl rfl hke (by go_simp;try decide)];simp only[goes_go];refine⟨by u_none;intro e he;have hm:=mem_listed he;skip;simp[go_sem]at hm,?_⟩;walk_nrm;refine Goes.step rfl (fun wq hq=> ?_);replace hF:=rl hF hq;clear hq;rw[stepG_value (v:= .bool false) (w':=wq) rfl rfl hke (by go_simp;try decide)];simp only[goes_go];refine⟨by u_none;intro e he;have hm:=mem_listed he;skip;simp[go_sem]at hm,?_⟩;walk_nrm;u_c stepG_region_end rl hF;u_c stepG_block rl hF;rw[xd];u_cond true rl hF;u_c stepG_seq rl hF;have hq:uG=uG:=rfl;conv at hq=>rhs;simp only[uG,K0,K1,K2,K3,K4,Jv,Jr,Jq,II,Kd,X1,Y1,X2,Y2,C2,X3,Y3,C3,Ef,Tryz.f136,AQ,rO,cA,cB,cC,cT,cE]
 rw[hq];clear hq;u_reg rl hF;refine Goes.step rfl (fun wq hq=> ?_);replace hF:=rl hF hq;clear hq;rw[stepG_value (v:= .agg (CE ca)) (w':=wq) rfl rfl hke (by go_simp;try decide)];simp only[goes_go];refine⟨by u_none;intro e he;have hm:=mem_listed he;skip;simp[go_sem]at hm,?_⟩;walk_nrm;refine Goes.step rfl (fun wq hq=> ?_);replace hF:=rl hF hq;clear hq;rw[stepG_value (v:= .pointer (some ⟨wq.heap.size,0,none⟩)) (w':=wq.alloc (.cells Cc 246)) rfl rfl hke (by go_simp;try rfl)];simp only[goes_go];have hsz:wq.heap.size=w.heap.size:=hF.1.size;refine⟨⟨fun b hb=>heap_alloc_old _ _ om,fun e he=>by have hm:=mem_listed he;skip;simp[go_sem]at hm⟩,?_⟩;walk_nrm;have hblq:wq.heap[bl]? =some (.cells HI 29):=(hF.1.block bl om om).trans hbl;have hFA:FA w s bl Cc HI (wq.alloc (.cells Cc 246))/\KPa 239 s.bW s.b6 [.chan (some s.bg)] (wq.alloc (.cells Cc 246)):=by
  refine⟨⟨o1,o2,o3,by unfold World.alloc;simp[hsz],by rw[<-hsz];exact IW _ _,(heap_alloc_old _ _ om).trans hblq,fun x a b c d=>(heap_alloc_old _ _ om).trans (hF.1.block x c d),hF.1.tape,hF.1.os,hF.1.output⟩,MO hF.2 (heap_alloc_old _ _ om) (heap_alloc_old _ _ om)⟩
 rw[hsz];generalize wq.alloc (.cells Cc 246)=wa at hFA⊢;clear hF rl hblq hsz;have hF:=hFA;clear hFA;have rl:= @fa_rely _ Do s.bW s.b6 _ [.chan (some s.bg)] _ (FA.rely (w:=w) (s:=s) (bl:=bl) (X:=Cc) (Y:=HI));refine Goes.step rfl (fun wq hq=> ?_);replace hF:=rl hF hq;clear hq rl;have hps:=Uv (g:=w.heap.size) (ty:=246) (cells:=CE ca) (w:=wq) hF.1.mbf aD (Tryz.sizeOf246 wq) rfl hvf hvf1;rw[stepG_none (w':=wq.setRow w.heap.size (CE ca)) rfl rfl hke (by exact hps.1)];simp only[goes_go];have hse:=setRow_heap wq (w.heap.size) _ (CE ca) _ _ hF.1.mbf;have hne:∀x,x≠w.heap.size->(wq.setRow w.heap.size (CE ca)).heap[x]? =wq.heap[x]? :=fun x hx=>by simp[World.setRow,Array.getElem?_modify,Ne.symm hx]
 refine⟨⟨fun b hb=>hne b om,fun e he=> ?_⟩,?_⟩
 ·have hm:=mem_listed he;skip
  obtain⟨ad,x,rfl,hb⟩:=hps.2 e hm;exact hacc ad x om
 walk_nrm;have hFA:FA w s bl (CE ca) (HI) (wq.setRow w.heap.size (CE ca))/\KPa 239 s.bW s.b6 [.chan (some s.bg)] (wq.setRow w.heap.size (CE ca)):=by
  have hsz2: (wq.setRow w.heap.size (CE ca)).heap.size=wq.heap.size:=by simp[World.setRow]
  exact⟨⟨o1,o2,o3,hsz2.trans hF.1.size,hse,(hne _ om).trans hF.1.mbl,fun x a b c d=>(hne x om).trans (hF.1.same x a b c d),hF.1.tape,hF.1.os,hF.1.output⟩,MO hF.2 (hne _ om) (hne _ om)⟩
 generalize wq.setRow w.heap.size (CE ca)=wa at hFA⊢;clear hF hps hse hne;have hF:=hFA;clear hFA;have rl:= @fa_rely _ Do s.bW s.b6 _ [.chan (some s.bg)] _ (FA.rely (w:=w) (s:=s) (bl:=bl) (X:=CE ca) (Y:=HI));u_c stepG_region_end rl hF;have hq:uF=uF:=rfl;conv at hq=>rhs;simp only[uF,K0,K1,K2,K3,K4,Jv,Jr,Jq,II,Kd,X1,Y1,X2,Y2,C2,X3,Y3,C3,Ef,Tryz.f136,AQ,rO,cA,cB,cC,cT,cE]
 rw[hq];clear hq;u_reg rl hF;refine Goes.step rfl (fun wq hq=> ?_);replace hF:=rl hF hq;clear hq;rw[stepG_value (v:= .slice (some ⟨bl,0,none⟩) 1 1) (w':=wq) rfl rfl hke (by go_simp;try decide)];simp only[goes_go];refine⟨by u_none;intro e he;have hm:=mem_listed he;skip;simp[go_sem]at hm,?_⟩;walk_nrm;refine Goes.step rfl (fun wq hq=> ?_);replace hF:=rl hF hq;clear hq;rw[stepG_value (v:= .pointer (some ⟨w.heap.size,0,none⟩)) (w':=wq) rfl rfl hke (by go_simp;try decide)];simp only[goes_go];refine⟨by u_none;intro e he;have hm:=mem_listed he;skip;simp[go_sem]at hm,?_⟩;walk_nrm;refine Goes.step rfl (fun wq hq=> ?_);replace hF:=rl hF hq;clear hq;have h1:wq.cell? ⟨w.heap.size,0,none⟩=some (.int .i64 0):=by rw[cell_of_row wq _ _ _ _ _ hF.1.mbf,YO]
 have hrun: (vS (Instr.loadAt 3 (.pointer (some ⟨w.heap.size,0,none⟩)))).run Tryz.prog wq= .ok (.value (.int .i64 0)) wq:=by unfold vS;simp[go_sem,h1,Instr.loadAt,Instr.sureAddr,loadVar]
 rw[stepG_value (v:= .int .i64 0) (w':=wq) rfl rfl hke hrun];simp only[goes_go];refine⟨⟨fun _ _=>rfl,fun e he=> ?_⟩,?_⟩
 ·have hm:=mem_listed he;skip
  simp[go_sem,h1]at hm;subst hm;exact hacc _ _ (.inr rfl)
 walk_nrm;clear hrun;clear h1;refine Goes.step rfl (fun wq hq=> ?_);replace hF:=rl hF hq;clear hq;rw[stepG_value (v:= .pointer (some ⟨w.heap.size,1,none⟩)) (w':=wq) rfl rfl hke (by go_simp;try decide)];simp only[goes_go];refine⟨by u_none;intro e he;have hm:=mem_listed he;skip;simp[go_sem]at hm,?_⟩;walk_nrm;refine Goes.step rfl (fun wq hq=> ?_);replace hF:=rl hF hq;clear hq;have hlm:=Z3 wq hca hF.1.mbf;have hrun: (vS (Instr.loadAt 29 (.pointer (some ⟨w.heap.size,1,none⟩)))).run Tryz.prog wq= .ok (.value (.agg ca)) wq:=hlm.1;rw[stepG_value (v:= .agg ca) (w':=wq) rfl rfl hke hrun];simp only[goes_go];refine⟨⟨fun _ _=>rfl,fun e he=> ?_⟩,?_⟩
 ·have hm:=mem_listed he;skip
  obtain⟨ad,x,rfl,hb⟩:=hlm.2 e hm;exact hacc ad x (.inr hb)
 walk_nrm;clear hrun;clear hlm;refine Goes.step rfl (fun wq hq=> ?_);replace hF:=rl hF hq;clear hq;rw[stepG_value (v:= .pointer (some ⟨bl,0,none⟩)) (w':=wq) rfl rfl hke (by go_simp;try decide)];simp only[goes_go];refine⟨by u_none;intro e he;have hm:=mem_listed he;skip;simp[go_sem]at hm,?_⟩;walk_nrm;refine Goes.step rfl (fun wq hq=> ?_);replace hF:=rl hF hq;clear hq rl;have hps:=Uv (g:=bl) (ty:=29) (cells:=ca) (w:=wq) hF.1.mbl Vr (Tryz.sizeOf29 wq) rfl hca hca1;rw[stepG_none (w':=wq.setRow bl (ca)) rfl rfl hke (by exact hps.1)];simp only[goes_go];have hse:=setRow_heap wq (bl) _ (ca) _ _ hF.1.mbl;have hne:∀x,x≠bl->(wq.setRow bl (ca)).heap[x]? =wq.heap[x]? :=fun x hx=>by simp[World.setRow,Array.getElem?_modify,Ne.symm hx]
 refine⟨⟨fun b hb=>hne b om,fun e he=> ?_⟩,?_⟩
 ·have hm:=mem_listed he;skip
  obtain⟨ad,x,rfl,hb⟩:=hps.2 e hm;exact hacc ad x om
 walk_nrm;have hFA:FA w s bl (CE ca) (ca) (wq.setRow bl (ca))/\KPa 239 s.bW s.b6 [.chan (some s.bg)] (wq.setRow bl (ca)):=by
  have hsz2: (wq.setRow bl (ca)).heap.size=wq.heap.size:=by simp[World.setRow]
  exact⟨⟨o1,o2,o3,hsz2.trans hF.1.size,(hne _ om).trans hF.1.mbf,hse,fun x a b c d=>(hne x om).trans (hF.1.same x a b c d),hF.1.tape,hF.1.os,hF.1.output⟩,MO hF.2 (hne _ om) (hne _ om)⟩
 generalize wq.setRow bl (ca)=wa at hFA⊢;clear hF hps hse hne;have hF:=hFA;clear hFA;have rl:= @fa_rely _ Do s.bW s.b6 _ [.chan (some s.bg)] _ (FA.rely (w:=w) (s:=s) (bl:=bl) (X:=CE ca) (Y:=ca));u_c stepG_region_end rl hF;u_c stepG_inBlock rl hF;u_c stepG_inBlock rl hF;have hq:qQ=qQ:=rfl;conv at hq=>rhs;simp only[qQ,K0,K1,K2,K3,K4,Jv,Jr,Jq,II,Kd,X1,Y1,X2,Y2,C2,X3,Y3,C3,Ef,Tryz.f136,AQ,rO,cA,cB,cC,cT,cE]
 rw[hq];clear hq;u_reg rl hF;refine Goes.step rfl (fun wq hq=> ?_);replace hF:=rl hF hq;clear hq;rw[stepG_value (v:= .int .i64 1) (w':=wq) rfl rfl hke (by go_simp;try decide)];simp only[goes_go];refine⟨by u_none;intro e he;have hm:=mem_listed he;skip;simp[go_sem]at hm,?_⟩;walk_nrm;refine Goes.step rfl (fun wq hq=> ?_);replace hF:=rl hF hq;clear hq;rw[stepG_value (v:= .int .i64 1) (w':=wq) rfl rfl hke (by go_simp;try decide)];simp only[goes_go];refine⟨by u_none;intro e he;have hm:=mem_listed he;skip;simp[go_sem]at hm,?_⟩;walk_nrm;u_c stepG_region_end rl hF;u_c stepG_inLoop rl hF;rw[j6];u_c stepG_seq rl hF;have hq:mQ=mQ:=rfl;conv at hq=>rhs;simp only[mQ,K0,K1,K2,K3,K4,Jv,Jr,Jq,II,Kd,X1,Y1,X2,Y2,C2,X3,Y3,C3,Ef,Tryz.f136,AQ,rO,cA,cB,cC,cT,cE]
 rw[hq];clear hq;u_reg rl hF;refine Goes.step rfl (fun wq hq=> ?_);replace hF:=rl hF hq;clear hq;rw[stepG_value (v:= .bool false) (w':=wq) rfl rfl hke (by go_simp;try decide)];simp only[goes_go];refine⟨by u_none;intro e he;have hm:=mem_listed he;skip;simp[go_sem]at hm,?_⟩;walk_nrm;u_c stepG_region_end rl hF;u_c stepG_seq rl hF;u_cond false rl hF;u_exit rl hF;rw[vo];u_c stepG_seq rl hF;have hq:dA=dA:=rfl;conv at hq=>rhs;simp only[dA,K0,K1,K2,K3,K4,Jv,Jr,Jq,II,Kd,X1,Y1,X2,Y2,C2,X3,Y3,C3,Ef,Tryz.f136,AQ,rO,cA,cB,cC,cT,cE]
 rw[hq];clear hq;u_reg rl hF;refine Goes.step rfl (fun wq hq=> ?_);replace hF:=rl hF hq;clear hq rl;refine goes_call rfl rfl hke rfl Lm.f_wait (nm_wait Do) rfl ⟨by u_nil,?_⟩;walk_nrmf waitFn;have hA:=fun(a₀:Act) (ops₀:Array Oper) (i₀:Nat) (rest₀:List Nat) (k₀:List Item)=>waitStart (L:=Do) (P:=Tryz.prog) (Mine:=Mine) (Wg:=s.bW) (C:=s.b6) (Low:=Low) (vals:=[.chan (some s.bg)]) (F:=FA w s bl (CE ca) ca) (b₀:=bq k) (a₀:=a₀) (ops₀:=ops₀) (i₀:=i₀) (rest₀:=rest₀) (k₀:=k₀) (cs:=cs') Lm (FA.rely (w:=w) (s:=s) (bl:=bl) (X:=CE ca) (Y:=ca)) _ hF
 simp only[body_wait,waitFn,AQ]at hA;exact hA _ _ _ _ _;exact⟨by simp,rfl,rfl⟩
end
section
variable{k:CallKind}{bl bw:Nat}{V:List Value}
set_option maxRecDepth 100000 in
set_option maxHeartbeats 4000000 in
theorem Zc(hke: (bq k).kind≠ .early){s:Sol}(hV:Slots3 s bl bw V){Stop:StopT}{Rd O:Nat->Prop}(hO:Uni O Rd bw)(cs':List Frame)(w:World)(hbw:w.heap[bw]? =some (.cells #[.int .u16 0] 37))
  (K:∀(T:Array Value) (td:List Item),T.getD 4 undef= .slice (some ⟨bl,0,none⟩) 1 1->T.getD 5 undef= .int .u16 0->Own Tryz.prog true Rd Stop O (G {(bq k).at ⟨T,[]⟩ td with mode:= .returning} cs') w):
  Own Tryz.prog true Rd Stop O (G ((bq k).at ⟨V.toArray,[]⟩ (.inRegion dA []:: [.code II])) cs') w:=by
 obtain⟨v0,v1,v2,v3,v4,v5,v6,v7,v8,v9,v10,v11,v12,v13,v14,v15,v16,v17,v18,v19,v20,v21,v22,v23,v24,v25,v26,v27,v28,v29,v30,v31,v32,v33,v34,v35,v36,v37,v38,v39,v40,v41,v42,v43,v44,v45,v46,v47,v48,v49,v50,v51,v52,v53,v54,v55,v56,v57,v58,v59,v60,v61,v62,v63,v64,v65,v66,v67,v68,v69,v70,v71,v72,v73,v74,v75,v76,v77,v78,v79,vl,rfl⟩:=Pe V hV.len;have e13:=hV.e13;have e14:=hV.e14;simp only[Am,AX,AO]at e13 e14;subst e13 e14;refine Own.ctl rfl (fun _=>stepG_region_end) ?_;rw[vn];refine Own.ctl rfl (fun _=>stepG_seq) ?_;refine Own.ctl rfl (fun _=>stepG_seq) ?_;have hq:uE=uE:=rfl;conv at hq=>rhs;simp only[uE,K0,K1,K2,K3,K4,Jv,Jr,Jq,II,Kd,X1,Y1,X2,Y2,C2,X3,Y3,C3,Ef,Tryz.f136,AQ,rO,cA,cB,cC,cT,cE]
 rw[hq];clear hq;refine Own.ctl rfl (fun _=>stepG_region) ?_;simp only[Ay,AY,As,Nat.reduceAdd,AW,List.range,List.range.loop];refine Own.value (.slice (some ⟨bw,0,none⟩) 1 1) rfl rfl hke (fun w=>by go_simp;try decide) (fun w=>by simp[go_sem]) ?_;walk_nrm;refine Own.value (.int .i64 1) rfl rfl hke (fun w=>by go_simp;try decide) (fun w=>by simp[go_sem]) ?_;walk_nrm;refine Own.value (.int .i64 0) rfl rfl hke (fun w=>by go_simp;try decide) (fun w=>by simp[go_sem]) ?_;walk_nrm;refine Own.ctl rfl (fun _=>stepG_region_end) ?_;refine Own.ctl rfl (fun _=>stepG_block) ?_;refine Own.ctl rfl (fun _=>stepG_loop) ?_;rw[xW];refine Own.ctl rfl (fun _=>stepG_seq) ?_;have hq:uD=uD:=rfl;conv at hq=>rhs;simp only[uD,K0,K1,K2,K3,K4,Jv,Jr,Jq,II,Kd,X1,Y1,X2,Y2,C2,X3,Y3,C3,Ef,Tryz.f136,AQ,rO,cA,cB,cC,cT,cE]
 rw[hq];clear hq;refine Own.ctl rfl (fun _=>stepG_region) ?_;simp only[Ay,AY,As,Nat.reduceAdd,AW,List.range,List.range.loop];refine Own.value (.bool true) rfl rfl hke (fun w=>by go_simp;try decide) (fun w=>by simp[go_sem]) ?_;walk_nrm;refine Own.ctl rfl (fun _=>stepG_region_end) ?_;refine Own.ctl rfl (fun _=>stepG_seq) ?_;refine Own.ctl rfl (fun _=>stepG_cond (t:=true) rfl) ?_;simp only[Ag];refine Own.ctl rfl (fun _=>stepG_skip) ?_;refine Own.ctl rfl (fun _=>stepG_seq) ?_;refine Own.ctl rfl (fun _=>stepG_block) ?_;rw[xU];refine Own.ctl rfl (fun _=>stepG_seq) ?_;have hq:uC=uC:=rfl;conv at hq=>rhs;simp only[uC,K0,K1,K2,K3,K4,Jv,Jr,Jq,II,Kd,X1,Y1,X2,Y2,C2,X3,Y3,C3,Ef,Tryz.f136,AQ,rO,cA,cB,cC,cT,cE]
 rw[hq];clear hq;refine Own.ctl rfl (fun _=>stepG_region) ?_;simp only[Ay,AY,As,Nat.reduceAdd,AW,List.range,List.range.loop];refine Own.value (.pointer (some ⟨bw,0,none⟩)) rfl rfl hke (fun w=>by go_simp;try decide) (fun w=>by simp[go_sem]) ?_;walk_nrm;refine NG rfl rfl hke (c:=bw) (obj:= .cells #[.int .u16 0] 37) hO hbw (.int .u16 0) (fun w h=> ?_) (fun w h e he=> ?_) ?_
 ·have h1:w.cell? ⟨bw,0,none⟩=some (.int .u16 0):=by simp[World.cell?,h]
  go_simp
 ·have h1:w.cell? ⟨bw,0,none⟩=some (.int .u16 0):=by simp[World.cell?,h]
  simp[go_sem,h1]at he;subst he;exact⟨_,rfl,rfl,rfl,rfl⟩
 walk_nrm;refine Own.value (.int .u16 0) rfl rfl hke (fun w=>by go_simp;try decide) (fun w=>by simp[go_sem]) ?_;walk_nrm;refine Own.ctl rfl (fun _=>stepG_region_end) ?_;refine Own.ctl rfl (fun _=>stepG_seq) ?_;have hq:uB=uB:=rfl;conv at hq=>rhs;simp only[uB,K0,K1,K2,K3,K4,Jv,Jr,Jq,II,Kd,X1,Y1,X2,Y2,C2,X3,Y3,C3,Ef,Tryz.f136,AQ,rO,cA,cB,cC,cT,cE]
 rw[hq];clear hq;refine Own.ctl rfl (fun _=>stepG_region) ?_;simp only[Ay,AY,As,Nat.reduceAdd,AW,List.range,List.range.loop];refine Own.value (.int .u16 0) rfl rfl hke (fun w=>by go_simp;try decide) (fun w=>by simp[go_sem]) ?_;walk_nrm;refine Own.value (.bool false) rfl rfl hke (fun w=>by go_simp;try decide) (fun w=>by simp[go_sem]) ?_;walk_nrm;refine Own.ctl rfl (fun _=>stepG_region_end) ?_;rw[xZ];refine Own.ctl rfl (fun _=>stepG_cond (t:=false) rfl) ?_;simp only[AP,Ab];refine Own.ctl rfl (fun _=>stepG_skip) ?_;refine Own.ctl rfl (fun _=>stepG_inBlock) ?_;have hq:uA=uA:=rfl;conv at hq=>rhs;simp only[uA,K0,K1,K2,K3,K4,Jv,Jr,Jq,II,Kd,X1,Y1,X2,Y2,C2,X3,Y3,C3,Ef,Tryz.f136,AQ,rO,cA,cB,cC,cT,cE]
 rw[hq];clear hq;refine Own.ctl rfl (fun _=>stepG_region) ?_;simp only[Ay,AY,As,Nat.reduceAdd,AW,List.range,List.range.loop];refine Own.value (.int .i64 1) rfl rfl hke (fun w=>by go_simp;try decide) (fun w=>by simp[go_sem]) ?_;walk_nrm;refine Own.value (.int .i64 1) rfl rfl hke (fun w=>by go_simp;try decide) (fun w=>by simp[go_sem]) ?_;walk_nrm;refine Own.ctl rfl (fun _=>stepG_region_end) ?_;refine Own.ctl rfl (fun _=>stepG_inLoop) ?_;refine Own.ctl rfl (fun _=>stepG_seq) ?_;refine Own.ctl rfl (fun _=>stepG_region) ?_;simp only[Ay,AY,As,Nat.reduceAdd,AW,List.range,List.range.loop];refine Own.value (.bool false) rfl rfl hke (fun w=>by go_simp;try decide) (fun w=>by simp[go_sem]) ?_;walk_nrm;refine Own.ctl rfl (fun _=>stepG_region_end) ?_;refine Own.ctl rfl (fun _=>stepG_seq) ?_;refine Own.ctl rfl (fun _=>stepG_cond (t:=false) rfl) ?_;simp only[AP,Ab];refine Own.ctl rfl (fun _=>stepG_exit rfl) ?_;rw[vm];refine Own.ctl rfl (fun _=>stepG_seq) ?_;have hq:tx=tx:=rfl;conv at hq=>rhs;simp only[tx,K0,K1,K2,K3,K4,Jv,Jr,Jq,II,Kd,X1,Y1,X2,Y2,C2,X3,Y3,C3,Ef,Tryz.f136,AQ,rO,cA,cB,cC,cT,cE]
 rw[hq];clear hq;refine Own.ctl rfl (fun _=>stepG_region) ?_;simp only[Ay,AY,As,Nat.reduceAdd,AW,List.range,List.range.loop];refine Own.value (.slice (some ⟨bl,0,none⟩) 1 1) rfl rfl hke (fun w=>by go_simp;try decide) (fun w=>by simp[go_sem]) ?_;walk_nrm;refine Own.value (.slice (some ⟨bl,0,none⟩) 1 1) rfl rfl hke (fun w=>by go_simp;try decide) (fun w=>by simp[go_sem]) ?_;walk_nrm;refine Own.value (.int .u16 0) rfl rfl hke (fun w=>by go_simp;try decide) (fun w=>by simp[go_sem]) ?_;walk_nrm;refine Own.ctl rfl (fun _=>stepG_region_end) ?_;refine Own.ctl rfl (fun _=>stepG_ret') ?_;exact K _ _ rfl rfl
theorem Tc(w:World): (zeroValue 246).run Tryz.prog w= .ok (.agg Cc) w:=by
 obtain⟨i,hi,hz,_,_⟩:=C5 Sx;simp[zeroValue,typeInfo,hi,hz,Cc,go_sem]
theorem P9(w:World)(es:Array Event): (zeroValue 246).events Tryz.prog w es=es:=by
 obtain⟨i,hi,hz,_,_⟩:=C5 Sx;simp[zeroValue,typeInfo,hi,hz,Cc,go_sem]
theorem Ku{P:Program}(ev:Operand->Value)(o:Oper){x y:Operand}{t:TypeId}{z:Value}(h:o.op= .select #[{chan:=x,send:=none,elem:=t},{chan:=y,send:=none,elem:=t}] true)(hz:∀w,(zeroValue t).run P w= .ok z w)(he:∀w es,(zeroValue t).events P w es=es){c c2:Nat}(hx:ev x= .chan (some c))(hy:ev y= .chan (some c2))(w:World):
  (execOp ev o).run P w= .ok (.comm #[rcase c z,rcase c2 z] true .select) w/\(execOp ev o).events P w #[]= #[]:=by
 unfold execOp;simp[h,hz,he,hx,hy,rcase]
set_option maxRecDepth 100000 in
set_option maxHeartbeats 4000000 in
theorem Yw(hke: (bq k).kind≠ .early){s:Sol}(hV:Slots2 s bl bw V)(cs':List Frame)(w:World):
  ∃es,stepG Tryz.prog true (G ((bq k).at ⟨V.toArray,[]⟩ (.inRegion O9 [0,1,2,3]::EV)) cs') w= .comm (G ((bq k).at ⟨V.toArray,[]⟩ (.inRegion O9 [0,1,2,3]::EV)) cs') #[rcase s.bg (.agg Cc),rcase s.bb (.agg Cc)] true .select w es/\es= #[]:=by
 obtain⟨v0,v1,v2,v3,v4,v5,v6,v7,v8,v9,v10,v11,v12,v13,v14,v15,v16,v17,v18,v19,v20,v21,v22,v23,v24,v25,v26,v27,v28,v29,v30,v31,v32,v33,v34,v35,v36,v37,v38,v39,v40,v41,v42,v43,v44,v45,v46,v47,v48,v49,v50,v51,v52,v53,v54,v55,v56,v57,v58,v59,v60,v61,v62,v63,v64,v65,v66,v67,v68,v69,v70,v71,v72,v73,v74,v75,v76,v77,v78,v79,vl,rfl⟩:=Pe V hV.len;have e47:=hV.e47;have e48:=hV.e48;simp only[Am,AX,AO]at e47 e48;subst e47 e48;have hq:O9=O9:=rfl;conv at hq=>rhs;simp only[O9,K0,K1,K2,K3,K4,Jv,Jr,Jq,II,Kd,X1,Y1,X2,Y2,C2,X3,Y3,C3,Ef,Tryz.f136,AQ,rO,cA,cB,cC,cT,cE]
 rw[hq];clear hq;refine⟨_,stepG_comm rfl rfl hke (Ku (x:= .tmp 47) (y:= .tmp 48) (t:=246) _ _ rfl Tc P9 rfl rfl w).1,?_⟩;unfold listed;rw[(Ku (P:=Tryz.prog) (x:= .tmp 47) (y:= .tmp 48) (t:=246) _ _ rfl Tc P9 rfl rfl w).2,seen_none]
set_option maxRecDepth 100000 in
set_option maxHeartbeats 4000000 in
theorem Yx{s:Sol}(hV:Slots2 s bl bw V)(cs':List Frame)(ca:Array Value):
  (G ((bq k).at ⟨V.toArray,[]⟩ (.inRegion O9 [0,1,2,3]::EV)) cs').finishComm Tryz.prog #[rcase s.bg (.agg Cc),rcase s.bb (.agg Cc)] .select 0 (.agg (CE ca)) true=G ((bq k).at ⟨(V.set 49 (Lr ca)).toArray,[]⟩ (.inRegion O9 [1,2,3]::EV)) cs':=by
 have hq: ((O9[0]?).bind (·.dst))=some 49:=rfl;unfold Goroutine.finishComm;show({(G _ _)with frame:=(((bq k).at ⟨V.toArray,[]⟩ (.inRegion O9 [0,1,2,3]::EV))).finish _,status:= .running,offers:=none}:Goroutine)=_
 rw[Frame.finish_at,hq];have hc:commResult #[rcase s.bg (.agg Cc),rcase s.bb (.agg Cc)] .select 0 (.agg (CE ca)) true=Lr ca:=by
  simp[commResult,rcase,Lr,goInt,Array.zipIdx,Array.filter]
 rw[hc];simp[Act.put,G]
theorem OO{P:Program}(ev:Operand->Value)(o:Oper){x y:Operand}{c:Nat}{v:Value}(h:o.op= .send x y)(hx:ev x= .chan (some c))(hy:ev y=v)(w:World):
  (execOp ev o).run P w= .ok (.comm #[scase c v (.tuple #[])] true .send) w/\(execOp ev o).events P w #[]= #[]:=by
 unfold execOp;simp[h,hx,hy,scase]
theorem W3{s:Sol}{W1:List Value}{v:Value}(h22:W1[22]? =some (.chan (some s.bg)))(h25:W1[25]? =some v)(ds:List Deferred)(cs:List Frame)(w:World):
  ∃es,stepG Tryz.prog false (G ((base 169).at ⟨W1.toArray,ds⟩ [.inRegion fK [4]]) cs) w= .comm (G ((base 169).at ⟨W1.toArray,ds⟩ [.inRegion fK [4]]) cs) #[scase s.bg v (.tuple #[])] true .send w es/\es= #[]:=by
 have e1:Act.eval ⟨W1.toArray,ds⟩ (.tmp 22)= .chan (some s.bg):=by simp[Act.eval,AL,h22]
 have e2:Act.eval ⟨W1.toArray,ds⟩ (.tmp 25)=v:=by simp[Act.eval,AL,h25]
 obtain⟨o,ho,hop,hg⟩:∃o,fK[4]? =some o/\o.op= .send (.tmp 22) (.tmp 25)/\o.guard=none:=⟨_,rfl,rfl,rfl⟩;refine⟨_,stepG_comm ho (by simp[Region.wanted,hg]) dZ (OO _ _ hop e1 e2 w).1,?_⟩;unfold listed;rw[(OO (P:=Tryz.prog) _ _ hop e1 e2 w).2,seen_none]
theorem W4{s:Sol}{W1:List Value}{v zz:Value}(ds:List Deferred)(cs:List Frame):
  (G ((base 169).at ⟨W1.toArray,ds⟩ [.inRegion fK [4]]) cs).finishComm Tryz.prog #[scase s.bg v zz] .send 0 undef false=G ((base 169).at ⟨W1.toArray,ds⟩ [.inRegion fK []]) cs:=by
 have hq: ((fK[4]?).bind (·.dst))=none:=rfl;unfold Goroutine.finishComm;show({(G _ _)with frame:=((base 169).at ⟨W1.toArray,ds⟩ [.inRegion fK [4]]).finish _,status:= .running,offers:=none}:Goroutine)=_
 rw[Frame.finish_at,hq];rfl
end
theorem Calm.mono{P:Program}{Shun:Loc->Prop}{Sh:Nat->Prop}{N:Nat}{X:Nat->Prop}{W:World}{O O':Nat->Prop}{gs:Array Goroutine}{a:Goroutine}{w:World}{t:Trace}{q:Nat->Nat}(h:Calm P Shun Sh N X W O gs a w t q)(hO:∀b,O' b->O b):Calm P Shun Sh N X W O' gs a w t q:=
 ⟨h.h0,h.leavers,h.past,fun b hb=>h.own b (hO b hb),fun b hb=>h.dom b (hO b hb),h.shun,h.far⟩
theorem Zn{k:CallKind}(hke: (bq k).kind≠ .early){X1:Nat->Option Obj}{O1:Nat->Prop}{φ0:Ph}{H0:Hp}{cs':List Frame}{s:Sol}(hne:s.bb≠s.bg):
  Meet Tryz.prog s.R s.bg s.bb (.agg Cc) (.agg Cc) (cu k s cs') (HH X1 O1 φ0 H0 s) where
 a:=by
  rintro O a w ⟨bl,bw,V,rfl,h1,h2,h3,h4,h5,h6,hV,rfl⟩;obtain⟨es,h,rfl⟩:=Yw hke hV cs' w;exact⟨rfl,_,h,fun e he=>by simp at he⟩
 aS:=by
  rintro O a w w₁ ⟨bl,bw,V,rfl,h1,h2,h3,h4,h5,h6,hV,rfl⟩ hk;exact⟨bl,bw,V,rfl,h1,h2,(hk.same bl (.inl (.inl (.inr rfl)))).trans h3,(hk.same bw (.inl (.inr rfl))).trans h4,(hk.same _ (.inr (by simp[Sol.R]))).trans h5,(hk.same _ (.inr (by simp[Sol.R]))).trans h6,hV,rfl⟩
 b:=by
  rintro v zz O b w ⟨φ,H',W1,W2,x,y,ca,rfl,h1,h2,h3,h4,h5,h6,h7,h8,h9,h10,h11,h12,h13,h14,rfl⟩;obtain⟨es,h,rfl⟩:=W3 (s:=s) h12 h13 [dV x y] _ w;exact⟨rfl,_,h,fun e he=>by simp at he⟩
 bS:=by
  rintro v zz O b w w₁ ⟨φ,H',W1,W2,x,y,ca,h0,h1,h2,h3,h4,h5,h6,h7⟩ hk;letI:=Ss s.R
  exact⟨φ,H',W1,W2,x,y,ca,h0,h1,h2,h3,h4,h5,Rel.keep h6 hk,h7⟩
 ne:=hne
 rc:= .inl rfl
 rc2:= .inr (.inr (.inl rfl))
section
variable{Post:Value->World->Prop}{Shun:Loc->Prop}{Sh:Nat->Prop}{W:World}{k:CallKind}{cs:List Frame}
theorem ae{Wg C B':Nat}{stop:Goroutine->World->Prop}(hW:Wg<B')(hC:C<B')(hCS:∀a:Addr,a.block=C->¬Shun (.cell a))(a:Addr)(x:Bool)(h1:a.block≠Wg)(h2:a.block≠C)(h3:¬Shun (.cell a))(h4:a.block<B'):
  letI:=shyOf Shun B' Wg C stop hW hC hCS
  EvQ (fun _=>True) Wg C 0 ⟨.cell a,x,false⟩:=by
 letI:=shyOf Shun B' Wg C stop hW hC hCS
 refine⟨fun fn pos=>⟨rfl,fun y hy=>⟨.inr (.inl ⟨rfl,fun _=>trivial⟩),fun hsh=> ?_,fun hth=> ?_⟩,by simp[MemAct.ofEvent],okF_plain a x h3 h4⟩,by simp,by simp,by simp⟩
 ·simp[MemAct.ofEvent,MemAct.touch?]at hy;subst hy;rcases hsh with⟨a2,e,hb⟩|e
  ·cases e;exact absurd hb h1
  ·cases e
 ·simp[MemAct.ofEvent,MemAct.touch?]at hy;subst hy;obtain⟨a2,e,hb,_⟩:=hth;cases e;exact absurd hb h2
def tm(Post:Value->World->Prop)(W:World)(X1:Nat->Option Obj)(O1:Nat->Prop)(φ2:Ph)(H1:Hp)(k:CallKind)(cs:List Frame):Prop:=
 ∀(R0:Nat->Prop) (φ3:Ph) (H3:Hp) (O3:Nat->Prop) (ca:Array Value) (bl bw:Nat) (w0 w':World) (T:Array Value) (td:List Item) (Shun:Loc->Prop) (Sh:Nat->Prop) (gs:Array Goroutine) (sl:Option (Nat×Nat)) (t:Trace) (q:Nat->Nat),
  (∀l,Shun l->∃a:Addr,l= .cell a/\Sh a.block)->(∀b,O1 b->O3 b)->Gr φ2 H1 φ3 H3->(letI:=Ss R0;Rel X1 O3 φ3 H3 w0)->Ext H1 H3->H3 421=some (.own [.int .i64 1,.int .i64 1])->H3 558=some (.own [.int .i64 2,.int .i64 0])->B3 φ3 (dom H3) WU ca->ca.size=5->
  (∀b,O3 b->b≠bl/\w'.heap[b]? =w0.heap[b]?)->w'.heap[bl]? =some (.cells ca 29)->T.getD 4 undef= .slice (some ⟨bl,0,none⟩) 1 1->T.getD 5 undef= .int .u16 0->
  Calm Tryz.prog Shun Sh 0 GM W (Hn (Hn O3 bl) bw) gs (G {(bq k).at ⟨T,[]⟩ td with mode:= .returning} cs) w' t q->Fin Tryz.prog Post (crowd gs w' sl) t
theorem Yy(hk:k= .normal\/k= .deferred)(hS:∀l,Shun l->∃a:Addr,l= .cell a/\Sh a.block){s:Sol}{n:Nat}(o1:s.bg<s.b6)(o2:s.b6<s.bb)(o3:s.bb<s.b7)(o4:s.b7<s.bW)
  (hSF:∀b,s.R b->¬Sh b){X1:Nat->Option Obj}{O1:Nat->Prop}{φ2:Ph}{H1:Hp}(K:tm Post W X1 O1 φ2 H1 k cs):
  ti Tryz.prog Post Shun n Sh s.R s.bg s.bb (.agg Cc) (.agg Cc) (cu k s cs) (HH X1 O1 φ2 H1 s) 0 GM W:=by
 rintro O0 O3 gs a b v zz w sl t q ⟨bl,bw,V,rfl,l1,l2,m1,m2,m6,mW,hV,rfl⟩ ⟨φ,H3,W1,W2,x,y,ca,rfl,hca,hca1,rfl,hO3,hgr,hrel,hext,m421,m558,hvr,hW1,hW122,hW125,hW2,rfl⟩ hj hB hBig;have hke:=Rh hk;have Fbg:s.R s.bg:=by simp[Sol.R]
 have Fb6:s.R s.b6:=by simp[Sol.R]
 have FbW:s.R s.bW:=by simp[Sol.R]
 have lbl:bl<w.heap.size:=(hj.o0 bl (.inl (.inr rfl))).1;have lbw:bw<w.heap.size:=(hj.o0 bw (.inr rfl)).1;have hbgs:s.bg<w.heap.size:=om;have e1: (G ((bq k).at ⟨V.toArray,[]⟩ (.inRegion O9 [0,1,2,3]::EV)) cs).finishComm Tryz.prog #[rcase s.bg (.agg Cc),rcase s.bb (.agg Cc)] .select 0 (.agg (#[.int .i64 0]++ca++ #[.int .u16 0])) true=_:=Yx hV cs ca;rw[e1,W4]at hBig;have hws: (w.setChan s.bg 0 #[] false 1 1 false).heap.size=w.heap.size:=by simp[World.setChan]
 have hwo:∀x,x≠s.bg->(w.setChan s.bg 0 #[] false 1 1 false).heap[x]? =w.heap[x]? :=fun x hx=>by simp[World.setChan,Array.getElem?_modify,Ne.symm hx]
 have hwt: (w.setChan s.bg 0 #[] false 1 1 false).tape=w.tape:=rfl;have hwos: (w.setChan s.bg 0 #[] false 1 1 false).os=w.os:=rfl;have hwout: (w.setChan s.bg 0 #[] false 1 1 false).output=w.output:=rfl;generalize w.setChan s.bg 0 #[] false 1 1 false=w' at hws hwo hwt hwos hwout⊢;have im1:∀b,O3 b->b<w.heap.size/\¬s.R b/\¬Sh b:=fun b hb=>⟨(hj.o1 _ hb).1,(hj.o1 _ hb).2,hj.s1 _ hb⟩
 have im0:∀b,O3 b->b≠bl:=fun b hb e=>(hj.o0 bl (.inl (.inr rfl))).2.1 (e▸hb)
 have im2:∀b,O3 b->b≠s.bg/\b≠s.b6/\b≠s.bW:=fun b hb=>⟨fun e=>(im1 b hb).2.1 (.inl e),fun e=>(im1 b hb).2.1 (.inr (.inl e)),fun e=>(im1 b hb).2.1 (.inr (.inr (.inr (.inr e))))⟩
 have hcs6:∀a:Addr,a.block=s.b6->¬Shun (.cell a):=fun a ha hs=>by
  obtain⟨a2,e,h2⟩:=hS _ hs;cases e
  exact hSF _ Fb6 (ha▸h2)
 have hnS:∀(x:Nat),¬Sh x->∀a:Addr,a.block=x->¬Shun (.cell a):=fun x hx a ha hs=>by
  obtain⟨a2,e,h2⟩:=hS _ hs;cases e
  exact hx (ha▸h2)
 letI:Shy s.bW s.b6:=shyOf Shun (w.heap.size+1) s.bW s.b6 (fun g w1=>∃V',Slots3 s bl bw V'/\g=G ((bq k).at ⟨V'.toArray,[]⟩ (.inRegion dA []:: [.code II])) cs/\FA w' s bl (CE ca) ca w1) om om hcs6
 have hbl':w'.heap[bl]? =some (.cells HI 29):=(hwo bl om).trans m1;have hW':WgAt 239 s.bW w' KK 0:=(hwo s.bW om).trans mW;have h6':w'.heap[s.b6]? =some (.cells #[.chan (some s.bg)] 230):=(hwo s.b6 om).trans m6;obtain⟨V',m,hV3,hgo⟩:=Xe (k:=k) hke (Low:=s.bW+1) (Mine:=fun _=>True) hV hca hca1 w' om om om hbl' (.inl hW') om (fun a x ha=>by
  refine ae _ _ _ a x ?_ ?_ ?_ ?_
  ·rcases ha with ha|ha<;>omega
  ·rcases ha with ha|ha<;>omega
  ·rcases ha with ha|ha
   ·exact hnS bl (hj.s0 _ (.inl (.inr rfl))) a ha
   ·exact hnS w'.heap.size (fun h=>by have:=hj.sh _ h;omega) a ha
  ·rcases ha with ha|ha<;>omega) cs
 obtain⟨mC,hch⟩:=YI (s:=s) (Low:=s.bW+1) om om om (Mine:=fun _=>True) (p4:=y) (p7:=x) (W1:=W1) hW2 w' ⟨.inl hW',fun _=>h6'⟩;refine aB (P:=Tryz.prog) (Post:=Post) (Post0:=fun _ _=>True) (ty:=239) (Wg:=s.bW) (C:=s.b6) (Low:=s.bW+1) (vals:=[.chan (some s.bg)]) (Mine:=fun _=>True) (Shun:=Shun) (B:=w.heap.size) (B':=w.heap.size+1) om om om (fun g w2 h=> ?_) (fun g w2 h=> ?_) (fun act h=>h) om hB hBig hW' hgo hch (fun gs1 a1 w1 sl1 t1 q1 h0 hr hstop hL hP=> ?_)
 ·obtain⟨T',rfl,_⟩:=h;rfl
 ·refine waitRound (mT:=0) Lm om (FA.rely (w:=w') (s:=s) (bl:=bl) (X:=CE ca) (Y:=ca)) (fun w3 hF3 hW3 hC3=>Goes.stop (fun w4 h4=> ?_)) g w2 h;obtain⟨d,rfl⟩:=h4;refine⟨rfl,V'.set 68 (.tuple #[]),⟨by simpa using hV3.len,by simpa using hV3.e13,by simpa using hV3.e14⟩,?_,FA.rely w3 (w3.at d) ⟨rfl,rfl,rfl,rfl,fun _ _ _=>rfl⟩ hF3⟩;have hq: ((dA[0]?).bind (·.dst))=some 68:=rfl;rw[hq];simp[Act.put]
 ·obtain⟨V1,hV1,rfl,hFA⟩:=hstop;have h1s:=hFA.size;have hbw1:w1.heap[bw]? =some (.cells #[.int .u16 0] 37):=(hFA.same bw om om om om).trans ((hwo bw om).trans m2);have hS2:∀l,(Shun l\/OfWg s.bW l)->∃a:Addr,l= .cell a/\(Sh a.block\/a.block=s.bW):=by
   rintro l (hl|⟨a,rfl,ha⟩)
   ·obtain⟨a,e,h⟩:=hS l hl;exact⟨a,e,.inl h⟩
   ·exact⟨a,rfl,.inr ha⟩
  have hc:Calm Tryz.prog (fun l=>Shun l\/OfWg s.bW l) (fun b=>Sh b\/b=s.bW) 0 GM W (Hn (Hn O3 bl) bw) gs1 (G ((bq k).at ⟨V1.toArray,[]⟩ (.inRegion dA []:: [.code II])) cs) w1 t1 q1:=by
   refine⟨h0,hL,by rw[h1s,hws];exact hP,?_,fun b _ h=>absurd h (Aj b),?_,?_⟩
   ·rintro b ((hb|rfl)|rfl)
    ·exact⟨by have:=(im1 b hb).1;omega,fun h=>h.elim (im1 b hb).2.2 (im2 b hb).2.2⟩
    ·exact⟨om,fun h=>h.elim (hj.s0 _ (.inl (.inr rfl))) (fun e=>om)⟩
    ·exact⟨om,fun h=>h.elim (hj.s0 _ (.inr rfl)) (fun e=>om)⟩
   ·rintro b (hb|rfl)
    ·have:=hj.sh b hb;omega
    ·omega
   ·have hfs:=hj.far.size;exact⟨fun b hb=>absurd hb (Aj b),om,hFA.tape.trans (hwt.trans hj.far.tape),hFA.os.trans (hwos.trans hj.far.os),hFA.output.trans (hwout.trans hj.far.output)⟩
  have hO:Own Tryz.prog true GM (fun O' a' w'=>O'=Hn (Hn O3 bl) bw/\∃(T:Array Value) (td:List Item),T.getD 4 undef= .slice (some ⟨bl,0,none⟩) 1 1/\T.getD 5 undef= .int .u16 0/\a'=G {(bq k).at ⟨T,[]⟩ td with mode:= .returning} cs/\Keeps (Uni (Hn (Hn O3 bl) bw) GM) w1 w') (Hn (Hn O3 bl) bw) (G ((bq k).at ⟨V1.toArray,[]⟩ (.inRegion dA []:: [.code II])) cs) w1:=
   Zc hke hV1 (.inl (.inr rfl)) cs w1 hbw1 fun T td h4 h5=> .stop fun w₂ k2=>⟨rfl,T,td,h4,h5,rfl,k2⟩
  refine Sj hS2 hO gs1 sl1 t1 q1 hc (fun O' gs' a' w2 sl' t' q' hs hc'=> ?_);obtain⟨rfl,T,td,h4,h5,rfl,hk2⟩:=hs w2 (Keeps.refl _ _);exact K s.R φ H3 O3 ca bl bw w w2 T td _ _ gs' sl' t' q' hS2 hO3 hgr hrel hext m421 m558 hvr hca (fun b hb=>⟨im0 b hb,(hk2.same b (.inl (.inl (.inl hb)))).trans ((hFA.same b (by have:=(im1 b hb).1;omega) (im0 b hb) (im2 b hb).2.1 (im2 b hb).2.2).trans (hwo b (im2 b hb).1))⟩) ((hk2.same bl (.inl (.inl (.inr rfl)))).trans hFA.mbl) h4 h5 hc'
end
structure At5(H:Hp):Prop where
 e4:H 294=some (.ob (fun _=> .chan 0 #[] false 0 0 false) [])
 e5:H 295=some (.ob (fun f=> .cells #[.chan (some (f 294))] 230) [294])
 e6:H 296=some (.ob (fun _=> .chan 0 #[] false 0 0 false) [295])
 e7:H 297=some (.ob (fun f=> .cells #[.chan (some (f 296))] 230) [296])
 e8:H 298=some (.ob (fun _=> .cells #[.int .u64 0,.int .u32 0] 239) [297])
def wH(H:Hp):Hp:=fun a=>if a=294\/a=296\/a=298 then some .dead else if a=295 then some (.ro [.chan (some 294)])else if a=297 then some (.ro [.chan (some 296)])else H a
theorem EO{H:Hp}{a:Nat}(h:a<294\/298<a):wH H a=H a:=by
 unfold wH;rw[if_neg om,if_neg om,if_neg om]
theorem Lq{H:Hp}(h:At5 H)(a:Nat):dom (wH H) a↔dom H a:=by
 by_cases h1:a<294\/298<a
 ·unfold dom;rw[EO h1]
 ·have h2:a=294\/a=295\/a=296\/a=297\/a=298:=om;unfold dom;rcases h2 with rfl|rfl|rfl|rfl|rfl
  ·rw[h.e4];simp[wH]
  ·rw[h.e5];simp[wH]
  ·rw[h.e6];simp[wH]
  ·rw[h.e7];simp[wH]
  ·rw[h.e8];simp[wH]
theorem Oi{H:Hp}{a:Nat}{x:AB}(h:wH H a=some x)(hm:x.mine=true): (a<294\/298<a)/\H a=some x:=by
 by_cases h1:a<294\/298<a
 ·exact⟨h1,(EO h1).symm.trans h⟩
 ·have h2:a=294\/a=295\/a=296\/a=297\/a=298:=om;exfalso;rcases h2 with rfl|rfl|rfl|rfl|rfl<;>simp[wH]at h<;>subst h<;>cases hm
def LI(s:Sol)(X:Nat->Option Obj):Nat->Option Obj:=fun b=>if b=s.b6 then some (.cells #[.chan (some s.bg)] 230)else if b=s.b7 then some (.cells #[.chan (some s.bb)] 230)else X b
structure SolAt(s:Sol)(φ:Ph):Prop where
 bg:s.bg=φ.f 294
 b6:s.b6=φ.f 295
 bb:s.bb=φ.f 296
 b7:s.b7=φ.f 297
 bW:s.bW=φ.f 298
theorem tn{s:Sol}{φ:Ph}(hs:SolAt s φ){b:Nat}(h:s.R b):∃c,294<=c/\c<=298/\b=φ.f c:=by
 rcases h with rfl|rfl|rfl|rfl|rfl
 ·exact⟨294,om,om,hs.bg⟩
 ·exact⟨295,om,om,hs.b6⟩
 ·exact⟨296,om,om,hs.bb⟩
 ·exact⟨297,om,om,hs.b7⟩
 ·exact⟨298,om,om,hs.bW⟩
theorem At5.mine{H:Hp}(h:At5 H){c:Nat}(h1:294<=c)(h2:c<=298):∃x,H c=some x/\x.mine=true:=by
 have h3:c=294\/c=295\/c=296\/c=297\/c=298:=om;rcases h3 with rfl|rfl|rfl|rfl|rfl
 ·exact⟨_,h.e4,rfl⟩
 ·exact⟨_,h.e5,rfl⟩
 ·exact⟨_,h.e6,rfl⟩
 ·exact⟨_,h.e7,rfl⟩
 ·exact⟨_,h.e8,rfl⟩
section
variable{s:Sol}{φ:Ph}{H:Hp}{X:Nat->Option Obj}{O:Nat->Prop}{w:World}
theorem cU (hs:SolAt s φ) (h5:At5 H) (hr: @Rel ⟨GM⟩ X O φ H w) {b:Nat} (h:s.R b):O b/\X b=none:=by
 letI:RdC:=⟨GM⟩
 obtain⟨c,h1,h2,rfl⟩:=tn hs h;obtain⟨x,h3,h4⟩:=h5.mine h1 h2;exact⟨(hr.own c x h3 h4).1,(hr.own c x h3 h4).2.1⟩
theorem lC(hs:SolAt s φ)(h5:At5 H)(hr: @Rel ⟨GM⟩ X O φ H w){a:Nat}{x:AB}(ha:H a=some x)(hx:x.mine=true)(hn:a<294\/298<a):¬s.R (φ.f a):=fun h=>by
 letI:RdC:=⟨GM⟩
 obtain⟨c,h1,h2,e⟩:=tn hs h;obtain⟨y,h3,h4⟩:=h5.mine h1 h2;have:=hr.inj a c x y ha h3 hx h4 e;omega
theorem Ui(hs:SolAt s φ)(h5:At5 H)(hr: @Rel ⟨GM⟩ X O φ H w):s.Mem w 0/\φ.sh 295=0/\φ.sh 297=0/\φ.sh 298=0:=by
 letI:RdC:=⟨GM⟩
 obtain⟨-, -,o4,q4,s4,r4, -,c4⟩:=hr.own 294 _ h5.e4 rfl;obtain⟨-, -,o5,q5,s5,r5, -,c5⟩:=hr.own 295 _ h5.e5 rfl;obtain⟨-, -,o6,q6,s6,r6, -,c6⟩:=hr.own 296 _ h5.e6 rfl;obtain⟨-, -,o7,q7,s7,r7, -,c7⟩:=hr.own 297 _ h5.e7 rfl;obtain⟨-, -,o8,q8,s8,r8, -,c8⟩:=hr.own 298 _ h5.e8 rfl;subst r4 r5 r6 r7 r8;refine⟨⟨?_,?_,?_,?_,?_,?_,?_,?_,?_,?_⟩,s5,s7,s8⟩
 ·rw[hs.bg,hs.b6];exact(c5 294 (by simp)).2
 ·rw[hs.b6,hs.bb];exact(c6 295 (by simp)).2
 ·rw[hs.bb,hs.b7];exact(c7 296 (by simp)).2
 ·rw[hs.b7,hs.bW];exact(c8 297 (by simp)).2
 ·rw[hs.bW];exact(AR.1 q8).1
 ·rw[hs.bg];exact q4
 ·rw[hs.b6,hs.bg];exact q5
 ·rw[hs.bb];exact q6
 ·rw[hs.b7,hs.bb];exact q7
 ·rw[hs.bW];exact q8
theorem SX(hs:SolAt s φ)(h5:At5 H)(hr: @Rel ⟨GM⟩ X O φ H w){w3:World}(hw:∀b,b≠s.bW->w3.heap[b]? =w.heap[b]?): @Rel ⟨s.R⟩ (LI s X) (fun b=>O b/\¬s.R b) φ (wH H) w3:=by
 letI:RdC:=⟨GM⟩
 obtain⟨hM,s5,s7,s8⟩:=Ui hs h5 hr;have o1:=hM.o1;have o2:=hM.o2;have o3:=hM.o3;have o4:=hM.o4;have xn:∀b,s.R b->X b=none:=fun b hb=>(cU hs h5 hr hb).2
 have d1:∀a,dom H a->dom (wH H) a/\φ.same φ a:=fun a ha=>⟨(Lq h5 a).2 ha,Bs φ a⟩
 have hx1:∀b,¬s.R b->LI s X b=X b:=fun b hb=>by
  unfold LI;rw[if_neg (fun e=>hb (by simp[Sol.R,e])),if_neg (fun e=>hb (by simp[Sol.R,e]))]
 refine @Rel.mk ⟨s.R⟩ _ _ _ _ _ ?_ (fun b o hb=> ?_) (fun a x ha hx=> ?_) (fun a c ha=> ?_) (fun a b x y ha hb hx hy e=> ?_)
 ·obtain⟨n,hn⟩:= @Rel.fin ⟨GM⟩ _ _ _ _ _ hr;exact⟨n+299,fun a ha=>by rw[EO om];exact hn a om⟩
 ·unfold LI at hb;split at hb
  ·rename_i e;subst e;cases hb
   exact⟨.inr (by show s.R _;simp[Sol.R]),(hw _ om).trans hM.m6⟩
  split at hb
  ·rename_i e;subst e;cases hb
   exact⟨.inr (by show s.R _;simp[Sol.R]),(hw _ om).trans hM.m7⟩
  ·obtain⟨h1,h2⟩:= @Rel.frame ⟨GM⟩ _ _ _ _ _ hr b o hb;have hnr:¬s.R b:=fun h=>by rw[xn b h]at hb;cases hb
   have hO:O b:=h1.elim id (fun h=>h.elim);exact⟨.inl ⟨hO,hnr⟩,(hw b (fun e=>hnr (by simp[Sol.R,e]))).trans h2⟩
 ·obtain⟨h1,h2⟩:=Oi ha hx;obtain⟨k1,k2,o,k3,k4⟩:= @Rel.own ⟨GM⟩ _ _ _ _ _ hr a x h2 hx;have hnr:=lC hs h5 hr h2 hx h1;exact⟨⟨k1,hnr⟩,(hx1 _ hnr).trans k2,o,(hw _ (fun e=>hnr (by simp[Sol.R,e]))).trans k3,DH d1 (by unfold dom;rw[h2];simp) k4⟩
 ·by_cases h1:a<294\/298<a
  ·rw[EO h1]at ha;obtain⟨C,e,z,k1,k2⟩:= @Rel.ro ⟨GM⟩ _ _ _ _ _ hr a c ha;have hnr:¬s.R (φ.f a):=fun h=>by rw[xn _ h]at k1;cases k1
   exact⟨C,e,z,(hx1 _ hnr).trans k1,DG d1 k2⟩
  ·have h2:a=294\/a=295\/a=296\/a=297\/a=298:=om;rcases h2 with rfl|rfl|rfl|rfl|rfl
   ·simp[wH]at ha
   ·simp[wH]at ha;subst ha;refine⟨_,_,_,by unfold LI;rw[if_pos hs.b6.symm],fun i v hv=> ?_⟩;cases i with
    |zero=>
     simp at hv;subst hv;exact⟨.chan (some s.bg),by rw[s5];rfl,by simp only[vrel];exact⟨(Lq h5 294).2 (by unfold dom;rw[h5.e4];simp),by rw[hs.bg]⟩⟩
    |succ i=>simp at hv
   ·simp[wH]at ha
   ·simp[wH]at ha;subst ha;refine⟨_,_,_,by unfold LI;rw[if_neg (by rw[<-hs.b7];omega),if_pos hs.b7.symm],fun i v hv=> ?_⟩;cases i with
    |zero=>
     simp at hv;subst hv;exact⟨.chan (some s.bb),by rw[s7];rfl,by simp only[vrel];exact⟨(Lq h5 296).2 (by unfold dom;rw[h5.e6];simp),by rw[hs.bb]⟩⟩
    |succ i=>simp at hv
   ·simp[wH]at ha
 ·obtain⟨-,h1⟩:=Oi ha hx;obtain⟨-,h2⟩:=Oi hb hy;exact @Rel.inj ⟨GM⟩ _ _ _ _ _ hr a b x y h1 h2 hx hy e
end
section
noncomputable abbrev IP:Hp:=app m136.mem.get (dlf (DL m136.δ))
abbrev oH:List Value:=[.int .i64 1,.int .i64 1]
abbrev oG:List Value:=[.int .i64 2,.int .i64 0]
abbrev ss:List Value:=[.int .i64 1,.slice (some ⟨410,0,none⟩) 2 2,.slice (some ⟨547,0,none⟩) 2 2,.slice none 0 0,.slice none 0 0]
def M6(φ:Ph)(bl:Nat):Ph:=⟨fun a=>if a=410 then φ.f 421 else if a=547 then φ.f 558 else if a=552 then bl else φ.f a,fun a=>if a=410 then φ.sh 421 else if a=547 then φ.sh 558 else if a=552 then 0 else φ.sh a,fun a=>if a=410 then φ.sz 421 else if a=547 then φ.sz 558 else if a=552 then 5 else φ.sz a⟩
theorem IF(φ:Ph)(bl:Nat){a:Nat}(h:a<293):φ.same (M6 φ bl) a:=by
 refine⟨?_,?_,?_⟩<;>unfold M6<;>dsimp only<;>rw[if_neg om,if_neg om,if_neg om]
theorem FZ{a:Nat}(h:m136.mem.get a≠none):a<293:=by
 letI:Md:=Ss GM
 refine Nat.lt_of_not_le fun h1=>h ?_
 exact jx a h1
theorem LZ{a:Nat}{x:AB}(h:IP a=some x): (a=410/\x= .own oH)\/(a=547/\x= .own oG)\/(a=552/\x= .own ss)\/(a<293/\m136.mem.get a=some x):=by
 letI:Md:=Ss GM
 unfold IP app at h;cases hx:dlf (DL m136.δ) a with
 |none=>
  rw[hx]at h;dsimp only at h;exact .inr (.inr (.inr ⟨FZ (by rw[h];simp),h⟩))
 |some y=>
  rw[hx]at h;dsimp only at h;cases h
  obtain⟨c,rfl,hc⟩:=CX (CD hx);simp only[m136,AV,Ai,or_false,Prod.mk.injEq]at hc;rcases hc with⟨rfl,rfl⟩|⟨rfl,rfl⟩|⟨rfl,rfl⟩
  ·exact .inl ⟨rfl,rfl⟩
  ·exact .inr (.inl ⟨rfl,rfl⟩)
  ·exact .inr (.inr (.inl ⟨rfl,rfl⟩))
theorem a9:IP 410=some (.own oH):=rfl
theorem a8:IP 547=some (.own oG):=rfl
theorem a7:IP 552=some (.own ss):=rfl
theorem ay{a:Nat}{x:AB}(h:m136.mem.get a=some x):IP a=some x:=by
 letI:Md:=Ss GM
 have hlt:=FZ (a:=a) (by rw[h];simp);unfold IP;rw[Be]
 ·exact h
 ·cases hx:dlf (DL m136.δ) a with
  |none=>rfl
  |some y=>
   obtain⟨c,_,hc⟩:=CX (CD hx);simp[m136]at hc;omega
theorem az:∀a,553<=a->IP a=none:=fun a ha=>by
 cases hx:IP a with
 |none=>rfl
 |some x=>
  rcases LZ hx with h|h|h|h<;>omega
theorem WK{a:Nat}(h:dom m136.mem.get a):dom IP a:=by
 unfold dom at*;obtain⟨x,hx⟩:=Option.ne_none_iff_exists'.1 h;rw[ay hx];simp
variable{D D':Nat->Prop}
theorem Qw{φ φ':Ph}{a a':Nat}{c:List Value}{o:Obj}(h:brel φ D a (.own c) o)(h1:φ'.sh a'=φ.sh a)(h2:φ'.sz a'=φ.sz a)(hv:∀v∈c,∀v',vrel φ D v v'->vrel φ' D' v v'):brel φ' D' a' (.own c) o:=by
 obtain⟨C,e,rfl,k1,k2,k3⟩:=h;refine⟨C,e,rfl,by rw[h1,h2];exact k1,by rw[h2];exact k2,fun i v hi=> ?_⟩;obtain⟨v',h3,h4⟩:=k3 i v hi;exact⟨v',by rw[h1];exact h3,hv v (Ao hi) v' h4⟩
theorem Lx{φ φ':Ph}{b b':Nat}{v:Value}(h:vrel φ D (.slice (some ⟨b,0,none⟩) 2 2) v)(hd:D' b')(hf:φ'.f b'=φ.f b)(hs:φ'.sh b'=φ.sh b):vrel φ' D' (.slice (some ⟨b',0,none⟩) 2 2) v:=by
 simp only[vrel]at h⊢;obtain⟨_,_,a',c',rfl,h1,h2,h3,h4⟩:=h;refine⟨hd,trivial,a',c',rfl,h1,?_,h3,h4.1,fun h5=> ?_⟩
 ·refine h2.imp (fun e=> ?_) id;rw[e];simp only[Ph.ad,hf,hs]
 ·exact absurd h5 (by unfold CJ;omega)
theorem bm{R0 O3:Nat->Prop}{X X1:Nat->Option Obj}{φ3:Ph}{H3:Hp}{w0 w':World}{ca:Array Value}{bl bw:Nat}(hrel: @Rel ⟨R0⟩ X1 O3 φ3 H3 w0)(m421:H3 421=some (.own oH))(m558:H3 558=some (.own oG))(hvr:B3 φ3 (dom H3) WU ca)(hca:ca.size=5)
  (hsame:∀b,O3 b->b≠bl/\w'.heap[b]? =w0.heap[b]?)(hbl:w'.heap[bl]? =some (.cells ca 29))(hext:∀a x,m136.mem.get a=some x->H3 a=some x)(hX:∀b o,X b=some o->X1 b=some o/\O3 b)(sc:Sc m136.mem.get):
  @Rel ⟨GM⟩ X (Hn (Hn O3 bl) bw) (M6 φ3 bl) IP w':=by
 letI:Md:=Ss GM
 have xn:∀b,X1 b=none->X b=none:=fun b hb=>by
  cases hx:X b with
  |none=>rfl
  |some o=>rw[(hX b o hx).1]at hb;cases hb
 have d410:dom IP 410:=by unfold dom;rw[a9];simp
 have d547:dom IP 547:=by unfold dom;rw[a8];simp
 have own3:∀a x,H3 a=some x->x.mine=true->O3 (φ3.f a)/\X1 (φ3.f a)=none/\∃o,w0.heap[φ3.f a]? =some o/\brel φ3 (dom H3) a x o:=fun a x=> @Rel.own ⟨R0⟩ _ _ _ _ _ hrel a x
 have inj3:∀a b x y,H3 a=some x->H3 b=some y->x.mine=true->y.mine=true->φ3.f a=φ3.f b->a=b:=fun a b x y=> @Rel.inj ⟨R0⟩ _ _ _ _ _ hrel a b x y
 have src:∀a x,IP a=some x->a=552\/∃a3 x3,H3 a3=some x3/\x3.mine=true/\(M6 φ3 bl).f a=φ3.f a3/\((a=410/\a3=421)\/(a=547/\a3=558)\/(a<293/\a3=a)):=by
  intro a x ha;rcases LZ ha with⟨rfl,rfl⟩|⟨rfl,rfl⟩|⟨rfl,rfl⟩|⟨h1,h2⟩
  ·exact .inr ⟨421,_,m421,rfl,rfl,.inl ⟨rfl,rfl⟩⟩
  ·exact .inr ⟨558,_,m558,rfl,rfl,.inr (.inl ⟨rfl,rfl⟩)⟩
  ·exact .inl rfl
  ·obtain⟨c,rfl,_⟩:=Bv h2;exact .inr ⟨a,_,hext a _ h2,rfl,(IF φ3 bl h1).1,.inr (.inr ⟨h1,rfl⟩)⟩
 refine⟨⟨553,az⟩,fun b o hb=> ?_,fun a x ha hx=> ?_,fun a c ha=> ?_,fun a b x y ha hb hx hy e=> ?_⟩
 ·obtain⟨h1,h2⟩:=hX b o hb;exact⟨.inl (.inl (.inl h2)),(hsame b h2).2.trans (@Rel.frame ⟨R0⟩ _ _ _ _ _ hrel b o h1).2⟩
 ·rcases LZ ha with⟨rfl,rfl⟩|⟨rfl,rfl⟩|⟨rfl,rfl⟩|⟨h1,h2⟩
  ·obtain⟨k1,k2,o,k3,k4⟩:=own3 421 _ m421 rfl;refine⟨.inl (.inl k1),xn _ k2,o,(hsame _ k1).2.trans k3,Qw k4 rfl rfl fun v hv v' h=> ?_⟩;simp only[AV,Ai,or_false]at hv;rcases hv with rfl|rfl<;>exact Bb.2 (Bb.1 h)
  ·obtain⟨k1,k2,o,k3,k4⟩:=own3 558 _ m558 rfl;refine⟨.inl (.inl k1),xn _ k2,o,(hsame _ k1).2.trans k3,Qw k4 rfl rfl fun v hv v' h=> ?_⟩;simp only[AV,Ai,or_false]at hv;rcases hv with rfl|rfl<;>exact Bb.2 (Bb.1 h)
  ·refine⟨.inl (.inr rfl),?_,_,hbl,ca,29,rfl,hca,AH 5,fun i v hi=> ?_⟩
   ·cases hx2:X bl with
    |none=>exact hx2
    |some o=>exact absurd rfl (hsame _ (hX bl o hx2).2).1
   ·obtain⟨hsz,hall⟩:=(DF _ _).1 hvr;show∃v',ca[0+i]? =some v'/\_
    rw[AW];match i,hi with
    |0,hi=>
     cases hi
     obtain⟨v',h1,h2⟩:=hall 0 _ rfl;exact⟨v',h1,Bb.2 (Bb.1 h2)⟩
    |1,hi=>
     cases hi
     obtain⟨v',h1,h2⟩:=hall 1 _ rfl;exact⟨v',h1,Lx h2 d410 rfl rfl⟩
    |2,hi=>
     cases hi
     obtain⟨v',h1,h2⟩:=hall 2 _ rfl;exact⟨v',h1,Lx h2 d547 rfl rfl⟩
    |3,hi=>
     cases hi
     obtain⟨v',h1,h2⟩:=hall 3 _ rfl;obtain rfl:=LK h2;exact⟨_,h1,by simp[vrel]⟩
    |4,hi=>
     cases hi
     obtain⟨v',h1,h2⟩:=hall 4 _ rfl;obtain rfl:=LK h2;exact⟨_,h1,by simp[vrel]⟩
    |i+5,hi=>simp at hi
  ·obtain⟨k1,k2,o,k3,k4⟩:=own3 a x (hext a x h2) hx;have hs:=IF φ3 bl h1;rw[hs.1];refine⟨.inl (.inl k1),xn _ k2,o,(hsame _ k1).2.trans k3,?_⟩;exact DH (fun b hb=>⟨WK hb,IF φ3 bl (FZ hb)⟩) (by unfold dom;rw[h2];simp) ((sc a x h2).1 _ _ _ _ k4)
 ·rcases LZ ha with⟨rfl,e⟩|⟨rfl,e⟩|⟨rfl,e⟩|⟨h1,h2⟩
  ·cases e
  ·cases e
  ·cases e
  ·obtain⟨c2,e,_⟩:=Bv h2;cases e
 ·have o3:∀a3 x3,H3 a3=some x3->x3.mine=true->φ3.f a3≠bl:=fun a3 x3 h1 h2=>(hsame _ (own3 a3 x3 h1 h2).1).1
  rcases src a x ha with rfl|⟨a3,x3,p1,p2,p3,p4⟩
  ·rcases src b y hb with rfl|⟨b3,y3,r1,r2,r3,r4⟩
   ·rfl
   ·have: (M6 φ3 bl).f 552=bl:=rfl;rw[this,r3]at e;exact absurd e.symm (o3 b3 y3 r1 r2)
  ·rcases src b y hb with rfl|⟨b3,y3,r1,r2,r3,r4⟩
   ·have: (M6 φ3 bl).f 552=bl:=rfl;rw[this,p3]at e;exact absurd e (o3 a3 x3 p1 p2)
   ·rw[p3,r3]at e;have:=inj3 a3 b3 x3 y3 p1 r1 p2 r2 e;omega
end
theorem S4{Shun:Loc->Prop}{B' Wg C:Nat}{stop:Goroutine->World->Prop}(hW:Wg<B')(hC:C<B')(hCS:∀a:Addr,a.block=C->¬Shun (.cell a))(e:Event)
  (h:letI:=shyOf Shun B' Wg C stop hW hC hCS;EvS Wg C e):EvL Shun B' e:=by
 obtain⟨_,_,_,h4,h5,h6⟩:=h;refine⟨fun x hx hs=>((h6.1 x hx).1 hs),fun e'=>h4 ?_,fun e'=>h5 ?_,h6.2.1⟩
 ·obtain⟨l,x,y⟩:=e;subst e';rfl
 ·obtain⟨l,x,y⟩:=e;subst e';rfl
theorem WE{P:Program}(ev:Operand->Value)(o:Oper){x:Operand}{f:FuncId}{cap:Array Value}(h:o.op= .go {callee:= .value x,args:= #[],argTypes:= #[]})(hx:ev x= .func (.func f) #[] cap)(w:World):
  (execOp ev o).run P w= .ok (.spawn {target:= .fn (.func f) cap,args:= #[]}) w/\(execOp ev o).events P w #[]= #[]:=by
 unfold execOp;simp[h,resolve,Deferred.ofValue,hx]
theorem mG{T:Array Value}{x y:Value}(h4:T.getD 4 undef=x)(h5:T.getD 5 undef=y){E:Event->Prop}(w:World):Ran Tryz.prog (results Tryz.f136 T) w (.tuple #[x,y]) w E:=by
 have e:results Tryz.f136 T=pure (.tuple #[x,y]):=by
  subst h4 h5;unfold results;rw[show Tryz.f136.results= #[.tmp 4,.tmp 5]from rfl];simp
 rw[e];exact Ran.pure _
theorem Pc{H:Hp}{a:Nat}{x:AB}(h:H a=some x):dom H a:=by unfold dom;rw[h];simp
structure At136(t:Nat->Value)(H:Hp)(n:Nat):Prop where
 hn:600<=n
 t1:t 1=vP
 t6:t 6= .pointer (some ⟨295,0,none⟩)
 t7:t 7= .pointer (some ⟨297,0,none⟩)
 t8:t 8= .pointer (some ⟨298,0,none⟩)
 t9:t 9= .pointer (some ⟨299,0,none⟩)
 t11:t 11= .pointer (some ⟨n,0,none⟩)
 t22:t 22= .int .i64 1
 t23:t 23= .int .i64 0
 fr:Fr H (n+1)
 ext:Ext m136.mem.get H
 at5:At5 H
 e9:H 299=some (.own [.int .i64 0])
 f2:H 323=some (.own c192)
 f3:H 333=some (.own c206)
 en:H n=some (.own [.slice (some ⟨323,0,none⟩) 2 18446744073709551617,.slice (some ⟨333,0,none⟩) 2 18446744073709551621])
 free:∀a,300<=a->a≠310->a≠323->a≠333->a≠n->H a=none
section
variable{Post:Value->World->Prop}{W:World}{kind:CallKind}{cs:List Frame}
theorem eI (hk:kind= .normal\/kind= .deferred) {t:Nat->Value} {H:Hp} {n:Nat} (hA:At136 t H n) {X:Nat->Option Obj} {φ:Ph} {w:World} {O:Nat->Prop} {T:Array Value} (hr: @Rel ⟨GM⟩ X O φ H w) (har:GW φ (dom H) ⟨80,t,[]⟩ T [])
  (K:∀s:Sol,SolAt s φ->tm Post W (LI s X) (fun b=>O b/\¬s.R b) φ (wH H) kind cs):KM Tryz.prog Post W O (G ((bq kind).at ⟨T,[]⟩ (.inRegion q8 [0]::MQ)) cs) w:=by
 intro Shun Sh gs sl tr q hS hc;letI:Md:=Ss GM
 have hke:=Rh hk;obtain⟨s,hs,hp9⟩:∃s:Sol,SolAt s φ/\s.p9=φ.ad ⟨299,0,none⟩:=⟨⟨φ.f 294,φ.f 295,φ.f 296,φ.f 297,φ.f 298,φ.ad ⟨299,0,none⟩⟩,⟨rfl,rfl,rfl,rfl,rfl⟩,rfl⟩;have hKs:=K s hs;obtain⟨hM,s5,s7,s8⟩:=Ui hs hA.at5 hr;have o1:=hM.o1;have o2:=hM.o2;have o3:=hM.o3;have o4:=hM.o4;have o5:=hM.o5;have hlen:T.size=80:=har.1.1;obtain⟨v1,i1,r1⟩:=E2 har 1 hA.t1 (show 1<80 from dZ);obtain⟨v6,i6,r6⟩:=E2 har 6 hA.t6 (show 6<80 from dZ);obtain⟨v7,i7,r7⟩:=E2 har 7 hA.t7 (show 7<80 from dZ);obtain⟨v8,i8,r8⟩:=E2 har 8 hA.t8 (show 8<80 from dZ);obtain⟨v9,i9,r9⟩:=E2 har 9 hA.t9 (show 9<80 from dZ);obtain⟨v11,i11,r11⟩:=E2 har 11 hA.t11 (show 11<80 from dZ);obtain⟨v22,i22,r22⟩:=E2 har 22 hA.t22 (show 22<80 from dZ);obtain⟨v23,i23,r23⟩:=E2 har 23 hA.t23 (show 23<80 from dZ);obtain rfl:=Bb.1 r22;obtain rfl:=Bb.1 r23;obtain⟨pa,pc,rfl⟩:∃pa pc,v1= .slice (some pa) 1 pc:=by
  have r1':vrel φ (dom H) (.slice (some ⟨292,0,none⟩) 1 18446744073709551617) v1:=r1;simp only[vrel]at r1';obtain⟨_,_,a',c',e,_⟩:=r1';exact⟨a',c',e⟩
 have p6:v6= .pointer (some ⟨s.b6,0,none⟩):=by
  simp only[vrel]at r6;rw[r6.2.2,hs.b6];simp only[Ph.ad,s5]
 have p7:v7= .pointer (some ⟨s.b7,0,none⟩):=by
  simp only[vrel]at r7;rw[r7.2.2,hs.b7];simp only[Ph.ad,s7]
 have p8:v8= .pointer (some ⟨s.bW,0,none⟩):=by
  simp only[vrel]at r8;rw[r8.2.2,hs.bW];simp only[Ph.ad,s8]
 have p9:v9= .pointer (some s.p9):=by
  simp only[vrel]at r9;rw[r9.2.2,hp9]
 subst p6 p7 p8 p9;obtain⟨U⟩:=T;have hSl:Slots s (some pa) pc v11 U:=⟨Nat.le_of_eq (by simpa using hlen.symm),i1,i6,i7,i8,i9,i11,i22,i23⟩;have hRO:∀b,s.R b->O b:=fun b hb=>(cU hs hA.at5 hr hb).1
 have hSF:∀b,s.R b->¬Sh b:=fun b hb=>(hc.own b (hRO b hb)).2
 have hnS:∀(x:Nat),¬Sh x->∀a:Addr,a.block=x->¬Shun (.cell a):=fun x hx a ha hsh=>by
  obtain⟨a2,e,h2⟩:=hS _ hsh;cases e
  exact hx (ha▸h2)
 have Fb6:s.R s.b6:=by simp[Sol.R]
 have hCS:∀a:Addr,a.block=s.b6->¬Shun (.cell a):=hnS _ (hSF _ Fb6);have hB1:s.bW<w.heap.size:=om;have hB2:s.b6<w.heap.size:=om;letI:Shy s.bW s.b6:=shyOf Shun w.heap.size s.bW s.b6 (fun _ _=>True) hB1 hB2 hCS
 obtain⟨m,hgo⟩:=aQ hke hSl cs w hM;refine iO (E:=EvS s.bW s.b6) (Shun:=Shun) (B:=w.heap.size) (n:=gs.size) (fun e he=>S4 hB1 hB2 hCS e he) hgo ⟨hc.h0,rfl,hc.leavers,TV hc.past⟩ (fun gs1 a1 w1 sl1 t1 q1 h1 hS1=> ?_);obtain⟨d,rfl,rfl⟩:=h1 w1 (atRel_refl _);have hl35:35<(U.set 34 (.tuple #[])).length:=by have:=hSl.len;simp;omega
 have ef:Act.eval ⟨((U.set 34 (.tuple #[])).set 35 (nO s v11)).toArray,[]⟩ (.tmp 35)= .func (.func 167) #[] #[.pointer (some ⟨s.bW,0,none⟩),.pointer (some s.p9),v11,.pointer (some ⟨s.b6,0,none⟩),.pointer (some ⟨s.b7,0,none⟩)]:=by
  have e1: ((U.set 34 (.tuple #[])).set 35 (nO s v11))[35]? =some (nO s v11):=by rw[List.getElem?_set_self hl35]
  simp only[Act.eval,AL,List.getElem?_toArray,e1,AQ];rfl
 obtain⟨o,ho,hop,hg,hdst⟩:∃o,q9[1]? =some o/\o.op= .go {callee:= .value (.tmp 35),args:= #[],argTypes:= #[]}/\o.guard=none/\o.dst=none:=⟨_,rfl,rfl,rfl,rfl⟩;have hsp:∀w,stepG Tryz.prog true (G ((bq kind).at ⟨((U.set 34 (.tuple #[])).set 35 (nO s v11)).toArray,[]⟩ (.inRegion q9 [1]::IA)) cs) w= .spawn (G ((bq kind).at ⟨((U.set 34 (.tuple #[])).set 35 (nO s v11)).toArray,[]⟩ (.inRegion q9 []::IA)) cs) (born Tryz.prog (WW s v11)) w #[]:=fun w=>by
  have h1:=stepG_spawn (P:=Tryz.prog) (main:=true) (b:=bq kind) (k:=IA) (cs:=cs) (rest:=[]) ho (by simp[Region.wanted,hg]) hke (WE _ o hop ef w).1 rfl;rw[hdst]at h1;have h2:listed Tryz.prog (bq kind).fn ⟨((U.set 34 (.tuple #[])).set 35 (nO s v11)).toArray,[]⟩ o w= #[]:=by
   unfold listed;rw[(WE _ o hop ef w).2,seen_none]
  rw[h2]at h1;exact h1
 refine aU rfl (fun d'=>⟨d',hsp _⟩) hS1 (fun gs2 d2 sl2 t2 q2 hBig hPh=> ?_);have hws: ((w.setCell (stA s.bW) (.int .u64 KK)).at d).heap.size=w.heap.size:=by simp[World.at,World.setCell]
 have hwo:∀x,x≠s.bW->((w.setCell (stA s.bW) (.int .u64 KK)).at d).heap[x]? =w.heap[x]? :=fun x hx=>heap_setCell_other w (stA s.bW) x _ hx
 have hwW: ((w.setCell (stA s.bW) (.int .u64 KK)).at d).heap[s.bW]? =some (.cells #[.int .u64 KK,.int .u32 0] 239):=heap_setCell_same w s.bW 0 _ 239 _ hM.mW;have hwt: ((w.setCell (stA s.bW) (.int .u64 KK)).at d).tape=w.tape:=rfl;have hwos: ((w.setCell (stA s.bW) (.int .u64 KK)).at d).os=w.os:=rfl;have hwout: ((w.setCell (stA s.bW) (.int .u64 KK)).at d).output=w.output:=rfl;generalize(w.setCell (stA s.bW) (.int .u64 KK)).at d=w2 at hws hwo hwW hwt hwos hwout⊢;have hM2:s.Mem (w2.at d2) KK:=⟨o1,o2,o3,o4,by show s.bW<w2.heap.size;omega,(hwo _ om).trans hM.mg,(hwo _ om).trans hM.m6,(hwo _ om).trans hM.mb,(hwo _ om).trans hM.m7,hwW⟩;have hW2: (w2.at d2).heap.size=w.heap.size:=hws;have hRlt:∀b,s.R b->b<w.heap.size:=by
  rintro b (rfl|rfl|rfl|rfl|rfl)<;>omega
 have inb:∀O2:Nat->Prop,(∀b,O2 b->¬Sh b)->∀l,InB O2 l->¬Shun l:=by
  intro O2 h2 l hl hsh;obtain⟨a2,rfl,h3⟩:=hS l hsh;exact h2 _ hl h3
 have hSl':∀l,InB s.R l->¬Shun l:=inb _ hSF;have hO':∀l,InB (fun b=>O b/\¬s.R b) l->¬Shun l:=inb _ fun b hb=>(hc.own b hb.1).2
 have hrW: @Rel ⟨s.R⟩ (LI s X) (fun b=>O b/\¬s.R b) φ (wH H) (w2.at d2):=SX hs hA.at5 hr fun b hb=>hwo b hb
 have hdm:=Lq hA.at5;have d294:dom (wH H) 294:=(hdm 294).2 (Pc hA.at5.e4);have d298:dom (wH H) 298:=(hdm 298).2 (Pc hA.at5.e8);have hn:=hA.hn;have hargs:BZ φ (dom (wH H)) [.pointer (some ⟨298,0,none⟩),.pointer (some ⟨299,0,none⟩),.pointer (some ⟨n,0,none⟩),.pointer (some ⟨295,0,none⟩),.pointer (some ⟨297,0,none⟩)] (#[.pointer (some ⟨s.bW,0,none⟩),.pointer (some s.p9),v11,.pointer (some ⟨s.b6,0,none⟩),.pointer (some ⟨s.b7,0,none⟩)]:Array Value).toList:=by
  have mono:∀{v v':Value},vrel φ (dom H) v v'->vrel φ (dom (wH H)) v v':=fun h=>CB (fun a ha=>⟨(hdm a).2 ha,Bs φ a⟩) _ _ h
  simp only[BZ];exact⟨_,_,rfl,mono r8,_,_,rfl,mono r9,_,_,rfl,mono r11,_,_,rfl,mono r6,_,_,rfl,mono r7,rfl⟩
 have hfr:Fr (wH H) (n+1):=fun a ha=>by rw[EO om];exact hA.fr a ha
 have hsend:=Zb (s:=s) (X:=LI s X) (O1:=fun b=>O b/\¬s.R b) (φ:=φ) (H1:=wH H) (n:=n) (w:=w2.at d2) d294 hs.bg.symm d298 hs.bW.symm s8 hfr hn (fun a h1 h2 h3 h4 h5=>by rw[EO om];exact hA.free a h1 h2 h3 h4 h5) (by rw[EO om];exact hA.f2) (by rw[EO om];exact hA.f3) rfl rfl (by rw[EO om];exact hA.e9) (by rw[EO om];exact hA.en) hrW hargs;have hborn:Own Tryz.prog false s.R (fun O' b w=>∃v zz,HH (LI s X) (fun b=>O b/\¬s.R b) φ (wH H) s v zz O' b w) (fun b=>O b/\¬s.R b) (born Tryz.prog (WW s v11)) (w2.at d2):=by
  refine Own.ctl rfl (fun _=>TO _ _ _) ?_;have e:Frame.enter Tryz.prog 167 #[.pointer (some ⟨s.bW,0,none⟩),.pointer (some s.p9),v11,.pointer (some ⟨s.b6,0,none⟩),.pointer (some ⟨s.b7,0,none⟩)] .deferred=(baseD 167).at ⟨#[.pointer (some ⟨s.bW,0,none⟩),.pointer (some s.p9),v11,.pointer (some ⟨s.b6,0,none⟩),.pointer (some ⟨s.b7,0,none⟩),undef,undef,undef,undef,undef],[]⟩ [.code cm]:=by
   have h1:Tryz.prog.funcs[167]? =some Tryz.f167:=Tryz.func167;have h2:Tryz.f167.ntmps=10:=rfl;have h3:Tryz.f167.body=some cm:=rfl;rw[enter_atD _ h1 h3,h2];rfl
  rw[<-e];exact hsend
 refine XS (P:=Tryz.prog) (Post:=Post) (Shun:=Shun) (Sh:=Sh) (n:=gs.size) (N:=0) (X:=GM) (W:=W) hS (Zn hke om) (Yy hk hS o1 o2 o3 o4 hSF hKs)
  hborn gs2 q2 (w2.at d2) GM _ (w2.at d2) sl2 t2 hBig (Keeps.refl _ _) (fU hke hSl cs (w2.at d2) hM2) (Keeps.refl _ _) ⟨fun b hb=>hb.elim,fun b hb=>⟨?_,hb.2⟩,fun b hb=>by rw[hW2];exact hRlt b hb,fun b hb=>hb.elim,fun b hb=>(hc.own b hb.1).2,fun b hb=>by rw[hW2];exact hc.shun b hb,hM2.mg,hM2.mb,fun b hb=>hb.elim,fun b hb hlt=>absurd hlt (Aj b),?_⟩ (by rw[hW2];exact hPh _ _ hO' hSl')
 ·rw[hW2];exact(hc.own b hb.1).1
 ·exact⟨fun b hb=>absurd hb (Aj b),Nat.zero_le _,hwt.trans hc.far.tape,hwos.trans hc.far.os,hwout.trans hc.far.output⟩
theorem lW(Post:Value->World->Prop)(W:World):letI:=KL Post W;Ee Tryz.prog 136 m136.args (fun u H'=>u=m136.v/\H'=IP) m136.mem.get:=by
 letI:=KL Post W
 intro main K hK X O φ w args' kind cs hq hr hargs hk;obtain⟨rfl,rfl⟩:=hK.ok;intro Shun Sh gs sl tr q hS hc;have hkd:kind= .normal\/kind= .deferred:=hq.imp id (·.1);classical
 let X':Nat->Option Obj:=fun b=>if O b/\∀a x,m136.mem.get a=some x->x.mine=true->φ.f a≠b then w.heap[b]? else none
 have hXX:∀b o,X b=some o->X' b=some o:=fun b o hb=>by
  obtain⟨h1,h2⟩:=hr.frame b o hb;have h3:O b/\∀a x,m136.mem.get a=some x->x.mine=true->φ.f a≠b:=⟨h1.elim id (fun h=>h.elim),fun a x ha hx e=>by
   have:=(hr.own a x ha hx).2.1;rw[e,hb]at this;cases this⟩
  show(if _ then _ else _)=_
  rw[if_pos h3];exact h2
 have hr':Rel X' O φ m136.mem.get w:=by
  refine⟨hr.fin,fun b o hb=> ?_,fun a x ha hx=> ?_,fun a c ha=> ?_,hr.inj⟩
  ·have hb': (if O b/\∀a x,m136.mem.get a=some x->x.mine=true->φ.f a≠b then w.heap[b]? else none)=some o:=hb;split at hb'
   ·rename_i h;exact⟨.inl h.1,hb'⟩
   ·cases hb'
  ·obtain⟨h1,h2,h3⟩:=hr.own a x ha hx;refine⟨h1,?_,h3⟩;show(if _ then _ else _)=_
   rw[if_neg (fun h=>h.2 a x ha hx rfl)]
  ·obtain⟨c2,e,_⟩:=Bv ha;cases e
 have hkc:KC ⟨Tryz.prog,true,KM Tryz.prog Post W,X',O,φ,m136.mem.get,136,kind,cs⟩ [.code Ef] (AF.enter 80 m136.args) m136.mem.get:=by
  refine mS hK hq fun t H n hn t1 t6 t7 t8 t9 t11 t22 t23 hf hx e4 e5 e6 e7 e8 e9 e310 e323 e333 en hfree=> ?_
  intro O2 φ2 w2 T ds hO2 hg2 hr2 har2;obtain rfl:ds=[]:=har2.2;have hA:At136 t H n:=⟨hn,t1,t6,t7,t8,t9,t11,t22,t23,hf,hx,⟨e4,e5,e6,e7,e8⟩,e9,e323,e333,en,hfree⟩;refine eI hkd hA hr2 har2 fun s hs=> ?_
  have hnR:∀b,O b->¬s.R b:=fun b hb hR=>by
   have h1:=(cU hs hA.at5 hr2 hR).2;have h1': (if O b/\∀a x,m136.mem.get a=some x->x.mine=true->φ.f a≠b then w.heap[b]? else none)=none:=h1;by_cases h2:∀a x,m136.mem.get a=some x->x.mine=true->φ.f a≠b
   ·rw[if_pos ⟨hb,h2⟩]at h1';have h3:=(hc.own b hb).1;rw[AK h3]at h1';cases h1'
   ·refine h2 fun a x ha hx e=> ?_
    have hlt:=FZ (a:=a) (by rw[ha];simp);refine lC hs hA.at5 hr2 (hA.ext a x ha) hx om ?_;rw[(hg2 a (Pc ha)).2.1,e];exact hR
  intro R0 φ3 H3 O3 ca bl bw w0 w' T' td Shun2 Sh2 gs2 sl2 t2 q2 hS2 hO3 hgr hrel hext m421 m558 hvr hca hsame hbl h4 h5 hc2;have hx1:∀b o,X b=some o->LI s X' b=some o/\O3 b:=fun b o hb=>by
   have hOb:O b:=(hr.frame b o hb).1.elim id (fun h=>h.elim);have hn2:=hnR b hOb;refine⟨?_,hO3 b ⟨hO2 b hOb,hn2⟩⟩;unfold LI;rw[if_neg (fun e=>hn2 (by simp[Sol.R,e])),if_neg (fun e=>hn2 (by simp[Sol.R,e]))];exact hXX b o hb
  have hlow:∀a x,m136.mem.get a=some x->H3 a=some x:=fun a x ha=>by
   have hlt:=FZ (a:=a) (by rw[ha];simp);exact hext a x ((EO om).trans (hA.ext a x ha))
  have hback:=bm (bw:=bw) hrel m421 m558 hvr hca hsame hbl hlow hx1 hr.sc;refine hk m136.v IP _ (M6 φ3 bl) w' {(bq kind).at ⟨T',[]⟩ td with mode:= .returning} ⟨rfl,rfl⟩ (fun a ha=> ?_) (fun b hb=> .inl (.inl (hO3 b ⟨hO2 b hb,hnR b hb⟩))) hback ⟨rfl,rfl,rfl,rfl,Tryz.f136,Tryz.func136,fun w₁ k1=>⟨_,mG h4 h5 w₁,?_⟩⟩ Shun2 Sh2 gs2 sl2 t2 q2 hS2 hc2
  ·have hlt:=FZ ha;obtain⟨g1,g2⟩:=hg2 a ha;obtain⟨k1,k2⟩:=hgr a ((Lq hA.at5 a).2 g1);have k3:=IF φ3 bl hlt;exact⟨WK ha,k3.1.trans (k2.1.trans g2.1),k3.2.1.trans (k2.2.1.trans g2.2.1),k3.2.2.trans (k2.2.2.trans g2.2.2)⟩
  ·show vrel _ _ (.tuple #[.slice (some ⟨552,0,none⟩) 1 1,.int .u16 0]) _
   simp only[vrel];refine⟨_,rfl,?_⟩;rw[Bj];simp only[BZ];refine⟨_,_,rfl,?_,_,_,rfl,Bb.2 rfl,rfl⟩;simp only[vrel];exact⟨Pc a7,trivial,_,_,rfl,rfl,.inl rfl,AH 1,fun _=>rfl,fun h=>absurd h (by unfold CJ;omega)⟩
 have h:=KC.start (c:=Ef) (args:=m136.args) (S:=⟨Tryz.prog,true,KM Tryz.prog Post W,X',O,φ,m136.mem.get,136,kind,cs⟩) Tryz.func136 rfl hkc hr' hargs;exact h Shun Sh gs sl tr q hS hc
end
end
section
open Go.Conc Go.Proofs
variable[Md]
def XV:Mm:=⟨[.agg #[.slice (some ⟨591,0,none⟩) 2 18446744073709551617,.slice (some ⟨601,0,none⟩) 2 18446744073709551621],.agg #[.int .i64 (.ofNat 1),.slice (some ⟨410,0,none⟩) 2 2,.slice (some ⟨547,0,none⟩) 2 2,.slice none 0 0,.slice none 0 0]],[(410,[.int .i64 (.ofNat 1),.int .i64 (.ofNat 1)]),(547,[.int .i64 (.ofNat 2),.int .i64 (.ofNat 0)]),(591,[.int .i64 (.ofNat 2),.int .i64 (.negSucc 1)]),(601,[.int .i64 (.ofNat 0),.int .i64 (.ofNat 1),.int .i64 (.ofNat 0),.int .i64 (.ofNat 1),.int .i64 (.ofNat 2),.int .i64 (.ofNat 0),.int .i64 (.ofNat 1),.int .i64 (.ofNat 1),.int .i64 (.ofNat 3),.int .i64 (.ofNat 3)])],603,.int .u16 (.ofNat 0),[]⟩
theorem Zt:ET XV ((ev Ge 400).F 14 XV.args ⟨XV.mem,XV.n,[]⟩)=true:=kr
theorem fw:SG Tryz.prog 14 (Ck XV):=Dz Ey 400 Zt
def XU:Mm:=⟨[.agg #[.slice (some ⟨0,0,none⟩) 3 3,.slice (some ⟨1,0,none⟩) 3 3],.agg #[.int .i64 (.ofNat 1),.slice (some ⟨856,0,none⟩) 3 3,.slice (some ⟨858,0,none⟩) 3 3,.slice none 0 0,.slice none 0 0]],[(0,[.int .i64 (.ofNat 2),.int .i64 (.ofNat 0),.int .i64 (.negSucc 1)]),(1,[.int .i64 (.ofNat 0),.int .i64 (.ofNat 1),.int .i64 (.ofNat 0),.int .i64 (.ofNat 3),.int .i64 (.ofNat 1),.int .i64 (.ofNat 1),.int .i64 (.ofNat 2),.int .i64 (.ofNat 1),.int .i64 (.ofNat 3),.int .i64 (.ofNat 2),.int .i64 (.ofNat 0),.int .i64 (.ofNat 2),.int .i64 (.ofNat 0),.int .i64 (.ofNat 1),.int .i64 (.ofNat 2)]),(856,[.int .i64 (.ofNat 1),.int .i64 (.ofNat 1),.int .i64 (.ofNat 1)]),(858,[.int .i64 (.ofNat 2),.int .i64 (.ofNat 1),.int .i64 (.ofNat 0)])],861,.int .i64 (.ofNat 0),[]⟩
theorem Zs:ET XU ((ev Ge 400).F 15 XU.args ⟨XU.mem,XU.n,[]⟩)=true:=kr
theorem fv:SG Tryz.prog 15 (Ck XU):=Dz Ey 400 Zs
end
section
open Go.Conc Go.Proofs
theorem f4(Post:Value->World->Prop)(W:World):letI:=KL Post W;SG Tryz.prog 136 (Ck m136):=letI:=KL Post W;Q6 (lW Post W) kr
noncomputable def ao:Env:=QR fun g=>bif Nat.beq g 136 then some (Ck m136)else bif Nat.beq g 14 then some (Ck XV)else none
theorem Xl(Post:Value->World->Prop)(W:World):letI:=KL Post W;EnvOk Tryz.prog ao:=by
 letI:=KL Post W
 refine F5 fun g o h=> ?_
 cases hb:Nat.beq g 136 with
 |true=>
  rw[hb]at h;cases h
  rw[AE hb];exact f4 Post W
 |false=>
 rw[hb]at h;simp only[cond_false]at h;cases hb:Nat.beq g 14 with
 |true=>
  rw[hb]at h;cases h
  rw[AE hb];exact fw
 |false=>
 rw[hb]at h;simp only[cond_false]at h;cases h
def XZ:Mm:=⟨[.agg #[.slice (some ⟨192,0,none⟩) 2 18446744073709551617,.slice (some ⟨206,0,none⟩) 2 18446744073709551621]],[(192,[.int .i64 (.ofNat 2),.int .i64 (.negSucc 1)]),(206,[.int .i64 (.ofNat 0),.int .i64 (.ofNat 1),.int .i64 (.ofNat 0),.int .i64 (.ofNat 1),.int .i64 (.ofNat 2),.int .i64 (.ofNat 0),.int .i64 (.ofNat 1),.int .i64 (.ofNat 1),.int .i64 (.ofNat 3),.int .i64 (.ofNat 3)])],279,.tuple #[.agg #[.int .i64 (.ofNat 1),.slice (some ⟨605,0,none⟩) 2 2,.slice (some ⟨603,0,none⟩) 2 2,.slice none 0 0,.slice none 0 0],.int .u16 (.ofNat 0)],[(603,[.int .i64 (.ofNat 2),.int .i64 (.ofNat 0)]),(605,[.int .i64 (.ofNat 1),.int .i64 (.ofNat 1)])]⟩
theorem Zy:ET XZ ((ev ao 400).F 100 XZ.args ⟨XZ.mem,XZ.n,[]⟩)=true:=kr
theorem f8(Post:Value->World->Prop)(W:World):letI:=KL Post W;SG Tryz.prog 100 (Ck XZ):=letI:=KL Post W;Dz (Xl Post W) 400 Zy
end
section
open Go.Conc
variable[Md]
section
variable{P:Program}{E:Env}{C:RC}{F:RF}
def E7(ex:List Nat)(b:List Nat)(sz:Nat)(L:List Did)(mask:Nat->List Nat)(i:Nat):List Nat:=match(L[i]?).map (·.q)with
 |some true=>ex++In b sz L i
 |_=>mask i
variable{L:List Did}
theorem Xo(hE:EnvOk P E){ops:Array Oper}{mask:Nat->List Nat}{h:EH}(hh:EHok P h){A0:AF}{b:List Nat}(hO:Order ops (anc b) A0.n)(sp:Nat->Bool)(ex:List Nat)
  (hfact:∀i,i<ops.size->sp i=false->YB P E.ty ops b mask h.m.get A0 L i)(hsp:∀i,i<ops.size->sp i=true->∃(o:Oper) (d:Did),ops[i]? =some o/\L[i]? =some d/\d.q=true/\d.δ=[])(hok:fW b ops.size L=true):
  (∀i (o:Oper),ops[i]? =some o->sp i=false->if Region.wanted o (yiel ops (slotsAt ops (anc b) (vv L) A0 i).t)then WOp P o (fun u H'=>u=vv L i/\H'=app (memAt (anc b) (dd L) (E7 ex b ops.size L mask) ops.size h.m.get i) (dlf (dd L i))) (slotsAt ops (anc b) (vv L) A0 i).ev (memAt (anc b) (dd L) (E7 ex b ops.size L mask) ops.size h.m.get i)else vv L i=undef/\dd L i=[])/\
  (∀i j,i<ops.size->j<ops.size->i≠j->anc b i j=false->anc b j i=false->∀a,dlf (dd L j) a≠none->¬Live (memAt (anc b) (dd L) (E7 ex b ops.size L mask) ops.size h.m.get i) a/\dlf (dd L i) a=none)/\
  (∀i,i<ops.size->∀a,dlf (dd L i) a≠none->Live (memAt (anc b) (dd L) (E7 ex b ops.size L mask) ops.size h.m.get i) a\/hs (anc b i) (dd L) h.m.get ops.size a=none)/\
  (∀i,i<ops.size->∀a c,dlf (dd L i) a≠some (.ro c))/\
  (∀i (o:Oper),ops[i]? =some o->Region.wanted o (yiel ops (slotsAt ops (anc b) (vv L) A0 i).t)=Region.wanted o (yiel ops (A0.with (ts (fun _=>true) (dstOf ops) (vv L) A0.t i)).t))/\
  (∀i (o:Oper),ops[i]? =some o->∀x∈o.op.operands,(A0.with (ts (fun _=>true) (dstOf ops) (vv L) A0.t i)).ev x=(slotsAt ops (anc b) (vv L) A0 i).ev x):=by
 have low:∀i,i<ops.size->∃(o:Oper) (d:Did),ops[i]? =some o/\L[i]? =some d/\((d.q=true/\d.δ=[])\/(d.q=false/\d.see.m.get=mk (mask i) (hs (anc b i) (dd L) h.m.get i))):=fun i hi=>by
  cases hs:sp i with
  |true=>
   obtain⟨o,d,h1,h2,h3,h4⟩:=hsp i hi hs;exact⟨o,d,h1,h2,.inl ⟨h3,h4⟩⟩
  |false=>
   obtain⟨o,d,h1,h2,_,hc⟩:=hfact i hi hs;refine⟨o,d,h1,h2,?_⟩;rcases hc with⟨_,hq,_,hδ⟩|⟨_,hq,hδ,_⟩|⟨_,hq,hs1,_⟩
   ·exact .inl ⟨hq,hδ⟩
   ·exact .inl ⟨hq,hδ⟩
   ·exact .inr ⟨hq,hs1⟩
 have sees:∀i (o:Oper),ops[i]? =some o->∀d,d∈o.looksAt ops->ts (fun _=>true) (dstOf ops) (vv L) A0.t i d=ts (anc b i) (dstOf ops) (vv L) A0.t ops.size d:=by
  intro i o ho d hd;have hi:i<ops.size:=(AR.1 ho).1;refine Nj hO.dst fun j hj=> ?_
  by_cases e:j=i
  ·subst e;have:anc b j j=false:=by
    cases h:anc b j j with
    |false=>rfl
    |true=>have:=(hO.lt j j h).1;omega
   rw[this];simp
  ·rcases hO.names i o j d ho (fun e2=>e e2.symm) hj hd with h|h
   ·have:=(hO.lt i j h).1;rw[h];simp only[and_true];omega
   ·have h1:=(hO.lt j i h).1;have h2:anc b i j=false:=by
     cases h3:anc b i j with
     |false=>rfl
     |true=>have:=(hO.lt i j h3).1;omega
    rw[h2];simp only[and_true,AP,and_false,iff_false];omega
 have hwant:∀i (o:Oper),ops[i]? =some o->Region.wanted o (yiel ops (slotsAt ops (anc b) (vv L) A0 i).t)=Region.wanted o (yiel ops (A0.with (ts (fun _=>true) (dstOf ops) (vv L) A0.t i)).t):=by
  intro i o ho;unfold Region.wanted;cases hg:o.guard with
  |none=>rfl
  |some p=>
   obtain⟨g,want⟩:=p;dsimp only;have:yiel ops (slotsAt ops (anc b) (vv L) A0 i).t g=yiel ops (A0.with (ts (fun _=>true) (dstOf ops) (vv L) A0.t i)).t g:=by
    unfold yiel;cases hd: (ops[g]?).bind (·.dst)with
    |none=>rfl
    |some d=>
     simp only[AU];have h1:=sees i o ho d (by unfold Oper.looksAt;rw[hg];simp[hd]);show(match some (ts (anc b i) (dstOf ops) (vv L) A0.t ops.size d)with|some (.bool b)=>some b|_=>none)=(match some (ts (fun _=>true) (dstOf ops) (vv L) A0.t i d)with|some (.bool b)=>some b|_=>none)
     rw[h1]
   rw[this]
 have hev:∀i (o:Oper),ops[i]? =some o->∀x∈o.op.operands,(A0.with (ts (fun _=>true) (dstOf ops) (vv L) A0.t i)).ev x=(slotsAt ops (anc b) (vv L) A0 i).ev x:=by
  intro i o ho x hxm;cases x with
  |tmp d=>
   refine sees i o ho d ?_;unfold Oper.looksAt;refine List.mem_append_left _ (List.mem_filterMap.2 ⟨.tmp d,by simpa using hxm,rfl⟩)
  |_=>rfl
 have hsee:∀i d,L[i]? =some d->d.q=false->d.see.m.get=mk (mask i) (hs (anc b i) (dd L) h.m.get i)->i<ops.size->memAt (anc b) (dd L) (E7 ex b ops.size L mask) ops.size h.m.get i=d.see.m.get:=by
  intro i d hd hq hs1 hi;unfold memAt;have:E7 ex b ops.size L mask i=mask i:=by unfold E7;rw[hd];simp[hq]
  rw[this,hs1];congr 1;funext a;exact LV i ops.size a om fun j h1 h2 h3=>by have:=(hO.lt i j h3).1;omega
 have hquiet:∀i d,L[i]? =some d->d.q=true->E7 ex b ops.size L mask i=ex++In b ops.size L i:=by
  intro i d hd hq;unfold E7;rw[hd];simp[hq]
 have okAt:∀j p,j<ops.size->L[j]? =some p->(∀x∈p.δ,nF x.2=false/\MT p.see x.1=false)/\∀i r,i<ops.size->L[i]? =some r->Ni b i j=true->∀x∈p.δ,(r.q=true\/ML r.see x.1=false)/\x.1 ∉ OC r.δ:=by
  intro j p hj hp;unfold fW at hok;have h1:=AS.1 hok j (An.2 hj);rw[hp]at h1;simp only[AA,A6]at h1;refine⟨fun x hx=> ?_,fun i r hi hr hu x hx=> ?_⟩
  ·have:=AS.1 h1.1 x hx;simpa using this
  ·rcases h1.2 with h2|h2
   ·cases hδ:p.δ with
    |nil=>rw[hδ]at hx;simp at hx
    |cons y l=>rw[hδ]at h2;cases h2
   ·have h3:=AS.1 h2 i (An.2 hi);rw[hr,hu]at h3;simp only[Bool.not_true,Bool.false_or]at h3;have:=AS.1 h3 x hx;simp only[AA,A6,A7]at this;refine⟨this.1,fun hm=> ?_⟩;have h4:=this.2;rw[List.contains_iff_mem.2 hm]at h4;cases h4
 have hmem:∀{l:List (Nat×AB)} {a:Nat},dlf l a≠none->∃x,(a,x)∈l:=fun{l a} hn=>by
  cases hx:dlf l a with
  |none=>exact absurd hx hn
  |some x=>exact⟨x,CD hx⟩
 refine⟨fun i o ho hspi=> ?_,fun i j hi hj hij h1 h2 a ha=> ?_,fun i hi a ha=> ?_,fun i hi a c hc=> ?_,hwant,hev⟩
 ·have hi:i<ops.size:=(AR.1 ho).1;obtain⟨o',d,ho',hd,_,hcase⟩:=hfact i hi hspi;have hoo:o'=o:=by rw[ho]at ho';exact(AC ho').symm
  subst hoo;rw[hwant i o' ho,iY hd,Fq hd];rcases hcase with⟨hw,_,hv,hδ⟩|⟨hw,hq,hδ,hhop⟩|⟨hw,hq,hs1,hop⟩
  ·rw[hw,hv,hδ];exact⟨rfl,rfl⟩
  ·rw[hw,if_pos rfl,hδ];obtain⟨n,hn⟩:=PV (S:=anc b i) (dl:=dd L) ops.size ⟨h.n,hh.fin⟩;have hfresh:memAt (anc b) (dd L) (E7 ex b ops.size L mask) ops.size h.m.get i n=none:=by
    cases hx:memAt (anc b) (dd L) (E7 ex b ops.size L mask) ops.size h.m.get i n with
    |none=>rfl
    |some x=>
     have:dom (memAt (anc b) (dd L) (E7 ex b ops.size L mask) ops.size h.m.get i) n:=by unfold dom;rw[hx];simp
     exact absurd (hn n (AH _)) (Il.1 this)
   refine WOp.congr ?_ (hev i o' ho);refine WOp.hop hE.ty hE.fo hfresh (δ:=[]) (v:=d.v) (hhop _ _) ⟨rfl,?_⟩;funext a;rfl
  ·rw[hw,if_pos rfl,hsee i d hd hq hs1 hi];exact WOp.congr hop (hev i o' ho)
 ·obtain⟨o,d,ho,hd,hcase⟩:=low i hi;obtain⟨o2,p,ho2,hp,_⟩:=low j hj;rw[Fq hp]at ha;obtain⟨x,hx⟩:=hmem ha;have hu:=QL hij h1 h2;obtain⟨k1,k2⟩:=(okAt j p hj hp).2 i d hi hd hu (a,x) hx;refine⟨fun hl=> ?_,?_⟩
  ·have hql:d.q=true->False:=fun hq=>by
    obtain⟨y,hy,hyd⟩:=hl;have hm:a∈E7 ex b ops.size L mask i:=by
     rw[hquiet i d hd hq];unfold In;refine List.mem_append_right _ (List.mem_flatMap.2 ⟨j,An.2 hj,?_⟩);rw[hu,hp];exact List.mem_map.2 ⟨(a,x),hx,rfl⟩
    unfold memAt mk at hy;rw[if_pos hm]at hy;obtain⟨z,_,hz⟩:=AZ.1 hy;exact hyd hz.symm
   rcases hcase with⟨hq,_⟩|⟨hq,hs1⟩
   ·exact hql hq
   ·rw[hsee i d hd hq hs1 hi]at hl;obtain⟨y,hy,hyd⟩:=hl;rcases k1 with k1|k1
    ·rw[hq]at k1;cases k1
    ·unfold ML at k1;rw[hy]at k1;cases y<;>first|exact hyd rfl|cases k1
  ·rw[Fq hd];cases hx2:dlf d.δ a with
   |none=>rfl
   |some y=>exact absurd (List.mem_map.2 ⟨(a,y),CD hx2,rfl⟩) k2
 ·obtain⟨o,d,ho,hd,hcase⟩:=low i hi;rw[Fq hd]at ha;obtain⟨x,hx⟩:=hmem ha;rcases hcase with⟨_,hδ⟩|⟨hq,hs1⟩
  ·rw[hδ]at hx;simp at hx
  ·have h3:=((okAt i d hi hd).1 (a,x) hx).2;have hm:=hsee i d hd hq hs1 hi;unfold MT at h3;cases hy:d.see.m.get a with
   |none=>
    right;rw[<-hm]at hy;cases hz:hs (anc b i) (dd L) h.m.get ops.size a with
    |none=>rfl
    |some z=>
     have:dom (memAt (anc b) (dd L) (E7 ex b ops.size L mask) ops.size h.m.get i) a:=Il.2 (by unfold dom;rw[hz];simp);exact absurd hy this
   |some y=>
    left;rw[hy]at h3;refine⟨y,by rw[hm];exact hy,fun e=> ?_⟩;rw[e]at h3;cases h3
 ·obtain⟨o,d,ho,hd,_⟩:=low i hi;rw[Fq hd]at hc;have:=((okAt i d hi hd).1 (a,.ro c) (CD hc)).1;cases this
def Dr(p q:Nat):Nat->List Did->List Did
 |_,[]=>[]
 |i,d::l=>(match Nat.beq i p||Nat.beq i q with
  |true=>⟨true,d.v,d.see,[]⟩
  |false=>d)::Dr p q (i+1) l
theorem I7(p q:Nat):∀(L:List Did) (i j:Nat),(Dr p q i L)[j]? =(L[j]?).map fun d=>match Nat.beq (i+j) p||Nat.beq (i+j) q with
  |true=>⟨true,d.v,d.see,[]⟩
  |false=>d
 |[],i,j=>by simp[Dr]
 |d::l,i,0=>by simp[Dr]
 |d::l,i,j+1=>by
  simp only[Dr,Am];rw[I7 p q l (i+1) j,show i+1+j=i+(j+1) from om]
theorem No(p q:Nat):∀(L:List Did) (i:Nat),(Dr p q i L).length=L.length
 |[],i=>rfl
 |d::l,i=>by simp[Dr,No p q l]
variable{j:Nat}
theorem W0{p q:Nat}{d:Did}(h:L[j]? =some d)(hj:j=p\/j=q): (Dr p q 0 L)[j]? =some ⟨true,d.v,d.see,[]⟩:=by
 rw[I7,h,AW];have: (Nat.beq j p||Nat.beq j q)=true:=by
  rcases hj with rfl|rfl<;>simp[Nat.beq_refl]
 simp[this]
theorem SR{p q:Nat}(h1:j≠p)(h2:j≠q): (Dr p q 0 L)[j]? =L[j]? :=by
 rw[I7,AW];have: (Nat.beq j p||Nat.beq j q)=false:=by
  rw[Bool.or_eq_false_iff];exact⟨Xw h1,Xw h2⟩
 rw[this];cases L[j]? <;>rfl
theorem Yr(p q:Nat)(L:List Did):vv (Dr p q 0 L)=vv L:=by
 funext i;unfold vv;rw[I7];cases L[i]? with
 |none=>rfl
 |some d=>
  simp only[AU];split<;>rfl
noncomputable def YS(b:List Nat)(sz:Nat)(h:EH)(L:List Did)(p q z m:Nat):Bool:=
 !(Nat.beq p q)&&Nat.blt p sz&&Nat.blt q sz&&Nat.blt z sz&& !(Nat.beq z p)&& !(Nat.beq z q)&&anc b p z&&anc b q z&&(match h.m.get m with
  |none=>true
  |some _=>false)&&
 (List.range sz).all fun i=>Nat.beq i p||Nat.beq i q||match L[i]? with
  |none=>false
  |some d=>(Nat.beq i z|| !(OC d.δ).contains m)&&(d.q||(!anc b i p&& !anc b i q&& !anc b i z)||Nat.beq i z&& !anc b i p&& !anc b i q)
theorem GK{S:Array Bool}{i:Nat}(h:i≠j): (S.setIfInBounds i true).getD j false=S.getD j false:=by
 rw[AL,AL,Array.getElem?_setIfInBounds,if_neg h]
def FM(m:Nat)(c:AB):Hp:=fun a=>if a=m then some c else none
theorem NY(hE:EnvOk P E)(hC:SC P C)(hF:SF P F){top:Bool}{id:Nat}{ops:Array Oper}{mask:Nat->List Nat}{f f1:EF}{h:EH}(hr:Region.ok P.types ops true=true)(hop: (IT ops&&IZ ops.toList 0)=true)(hn:Nat.ble (Dx ops.toList 0) f.n=true)(hh:EHok P h)
  (he:Xi E C F ops (CheckFast.beforeF ops).toList mask h (List.range ops.size) f [] h.n=some (L,f1)){p q z m:Nat}{c0 cp cq cpq cqp:AB}(hok:fW (CheckFast.beforeF ops).toList ops.size (Dr p q 0 L)=true)(h2:YS (CheckFast.beforeF ops).toList ops.size h L p q z m=true)(hz:∃d,L[z]? =some d/\d.δ=[(m,c0)])
  {op oq:Oper}(hp:ops[p]? =some op)(hq:ops[q]? =some oq)(gp:op.guard=none)(gq:oq.guard=none)(vp:vv L p=undef)(vq:vv L q=undef)
  (ip0:∀(G:Hp) a,G m=some c0->_root_.Go.Proofs.YtjlallgaadmeaaaGreatDoor.hop E.ty G a (f.A.with (ts (fun _=>true) (dstOf ops) (vv L) f.A.t p)).ev op.op=some (undef,[(m,cp)]))
  (iq0:∀(G:Hp) a,G m=some c0->_root_.Go.Proofs.YtjlallgaadmeaaaGreatDoor.hop E.ty G a (f.A.with (ts (fun _=>true) (dstOf ops) (vv L) f.A.t q)).ev oq.op=some (undef,[(m,cq)]))
  (iqp:∀(G:Hp) a,G m=some cp->_root_.Go.Proofs.YtjlallgaadmeaaaGreatDoor.hop E.ty G a (f.A.with (ts (fun _=>true) (dstOf ops) (vv L) f.A.t q)).ev oq.op=some (undef,[(m,cpq)]))
  (ipq:∀(G:Hp) a,G m=some cq->_root_.Go.Proofs.YtjlallgaadmeaaaGreatDoor.hop E.ty G a (f.A.with (ts (fun _=>true) (dstOf ops) (vv L) f.A.t p)).ev op.op=some (undef,[(m,cqp)])):
  WC P top (.region id ops true) (fun e A H=>e= .norm/\A=f1.A/\∃c,(c=cpq\/c=cqp)/\H=upd ((Dr p q 0 L).foldl (fun h d=>h.app d.δ) h).m.get m (some c)) f.A h.m.get/\EHok P ((Dr p q 0 L).foldl (fun h d=>h.app d.δ) h)/\Lg h ((Dr p q 0 L).foldl (fun h d=>h.app d.δ) h):=by
 simp only[AA]at hop;have hO:=Hd (n:=f.A.n) hr hop.1 hop.2 (Nat.le_of_ble_eq_true hn);rw[List.range_eq_range']at he;obtain⟨g1,g2⟩:=KX hE hC hF (A0:=f.A) hh hO.slot ops.size f [] h.n he rfl (AH _) (by simp);simp only[As,AW,Nat.zero_le,true_implies]at g1 g2;have hlen:L.length=ops.size:=by have:=(Fo _ _ _ _ _ _ he).1;simpa using this
 generalize hb: (CheckFast.beforeF ops).toList=b at*;unfold YS at h2;simp only[AA]at h2;obtain⟨⟨⟨⟨⟨⟨⟨⟨⟨t1,t2⟩,t3⟩,t4⟩,t5⟩,t6⟩,t7⟩,t8⟩,t9⟩,t10⟩:=h2;have hpq:p≠q:=fun e=>by rw[e,Nat.beq_refl]at t1;cases t1
 have hzp:z≠p:=fun e=>by rw[e,Nat.beq_refl]at t5;cases t5
 have hzq:z≠q:=fun e=>by rw[e,Nat.beq_refl]at t6;cases t6
 have lp:p<ops.size:=(AR.1 hp).1;have lq:q<ops.size:=(AR.1 hq).1;have lz:z<ops.size:=by
  obtain⟨d,hd,_⟩:=hz;have:=(Ah.1 hd).1;omega
 have hm0:h.m.get m=none:=by
  cases hx:h.m.get m with
  |none=>rfl
  |some x=>rw[hx]at t9;cases t9
 have each:∀i d,i<ops.size->i≠p->i≠q->L[i]? =some d->(i≠z->m ∉ OC d.δ)/\(d.q=false->anc b i p=false/\anc b i q=false/\(i≠z->anc b i z=false)):=by
  intro i d hi h1 h2 hd;have h3:=AS.1 t10 i (An.2 hi);rw[hd]at h3;have e1:Nat.beq i p=false:=Xw h1;have e2:Nat.beq i q=false:=Xw h2;rw[e1,e2]at h3;simp only[Bool.false_or,AA,A6,A7]at h3;obtain⟨h4,h5⟩:=h3;refine⟨fun hz2 hm=> ?_,fun hq2=> ?_⟩
  ·rcases h4 with h4|h4
   ·exact hz2 (AE h4)
   ·rw[List.contains_iff_mem.2 hm]at h4;cases h4
  ·rcases h5 with(h5|h5)|h5
   ·rw[hq2]at h5;cases h5
   ·exact⟨h5.1.1,h5.1.2,fun _=>h5.2⟩
   ·exact⟨h5.1.2,h5.2,fun hz2=>absurd (AE h5.1.1) hz2⟩
 generalize hL:Dr p q 0 L=L' at*;have hlen':L'.length=ops.size:=by rw[<-hL,No,hlen]
 have hvv:vv L'=vv L:=by rw[<-hL,Yr]
 have same:∀i,i≠p->i≠q->L'[i]? =L[i]? :=fun i h1 h2=>by rw[<-hL];exact SR h1 h2
 have lst:∀i,i<ops.size->∃d,L[i]? =some d:=fun i hi=>⟨L[i]' om,AD _⟩
 have hit:∀i,i=p\/i=q->∃d:Did,L'[i]? =some d/\d.q=true/\d.δ=[]:=fun i hi=>by
  obtain⟨d,hd⟩:=lst i (by rcases hi with rfl|rfl<;>omega);exact⟨⟨true,d.v,d.see,[]⟩,by rw[<-hL];exact W0 hd hi,rfl,rfl⟩
 have hddne:∀i,i≠p->i≠q->dd L' i=dd L i:=fun i h1 h2=>by unfold dd;rw[same i h1 h2]
 have hdd0:∀i,i=p\/i=q->dd L' i=[]:=fun i hi=>by
  obtain⟨d,h1,_,h3⟩:=hit i hi;rw[Fq h1,h3]
 have hddz:dd L' z=[(m,c0)]:=by
  obtain⟨d,h1,h3⟩:=hz;rw[hddne z hzp hzq,Fq h1,h3]
 have nom:∀i,i<ops.size->i≠z->dlf (dd L' i) m=none:=fun i hi hz2=>by
  by_cases h1:i=p\/i=q
  ·rw[hdd0 i h1];rfl
  ·obtain⟨d,hd⟩:=lst i hi;have h3:=(each i d hi (fun e=>h1 (.inl e)) (fun e=>h1 (.inr e)) hd).1 hz2;rw[hddne i (fun e=>h1 (.inl e)) (fun e=>h1 (.inr e)),Fq hd];cases hx:dlf d.δ m with
   |none=>rfl
   |some y=>exact absurd (List.mem_map.2 ⟨(m,y),CD hx,rfl⟩) h3
 let sp:Nat->Bool:=fun i=>decide (i=p\/i=q)
 have hsp1:∀i,sp i=true->i=p\/i=q:=fun i h=>BA h
 have hsp0:∀i,sp i=false->i≠p/\i≠q:=fun i h=>by have:=BL h;omega
 have hfact:∀i,i<ops.size->sp i=false->YB P E.ty ops b mask h.m.get f.A L' i:=by
  intro i hi hsi;obtain⟨n1,n2⟩:=hsp0 i hsi;obtain⟨o,d,h1,h3,h4,h5⟩:=g2 i hi;refine⟨o,d,h1,by rw[same i n1 n2];exact h3,h4,?_⟩;rw[hvv];rcases h5 with h5|h5|⟨h5,h6,h7,h8⟩
  ·exact .inl h5
  ·exact .inr (.inl h5)
  ·refine .inr (.inr ⟨h5,h6,?_,h8⟩);rw[h7];obtain⟨k1,k2,k3⟩:=(each i d hi n1 n2 h3).2 h6;congr 1;funext a;have key:∀n,hs (anc b i) (dd L) h.m.get n a=hs (anc b i) (dd L') h.m.get n a:=by
    intro n;induction n with
    |zero=>rfl
    |succ n ih=>
     simp only[hs];cases ha:anc b i n with
     |false=>simpa using ih
     |true=>
      have n3:n≠p:=fun e=>by rw[e,k1]at ha;cases ha
      have n4:n≠q:=fun e=>by rw[e,k2]at ha;cases ha
      rw[hddne n n3 n4];simp only[Ag];unfold app;rw[ih]
   exact key i
 obtain⟨r1,r2,r3,r4,r5,r6⟩:=Xo hE hh hO sp [m] hfact (fun i hi hsi=>by
  obtain⟨d,k1,k2,k3⟩:=hit i (hsp1 i hsi);exact⟨ops[i],d,AK hi,k1,k2,k3⟩) hok
 obtain⟨k1,l1⟩:=Is L' hh (fun d hd x hx l hl=>by
  obtain⟨i,hi,rfl⟩:=List.mem_iff_getElem.1 hd;have hi2:i<ops.size:=om;by_cases hpq2:i=p\/i=q
  ·obtain⟨d',e1,_,e3⟩:=hit i hpq2;rw[AD hi]at e1;cases e1
   rw[e3]at hx;cases hx
  ·obtain⟨o,d',ho,hd',hg,_⟩:=g2 i hi2;rw[<-same i (fun e=>hpq2 (.inl e)) (fun e=>hpq2 (.inr e)),AD hi]at hd';cases hd'
   exact hg x hx l hl)
 refine⟨?_,k1,l1⟩;let C2:Array Bool->Hp->Prop:=fun S u=>S.size=ops.size/\((u=(fun _=>none)/\S.getD p false=false/\S.getD q false=false)\/(S.getD z false=true/\((u=FM m cp/\S.getD p false=true/\S.getD q false=false)\/(u=FM m cq/\S.getD p false=false/\S.getD q false=true)\/((u=FM m cpq\/u=FM m cqp)/\S.getD p false=true/\S.getD q false=true))))
 have hone:∀(c:AB) a,FM m c a≠none->a=m:=fun c a ha=>by
  unfold FM at ha;by_cases e:a=m
  ·exact e
  ·rw[if_neg e]at ha;exact absurd rfl ha
 have only:∀S u a,C2 S u->u a≠none->a=m/\S.getD z false=true:=by
  rintro S u a ⟨_,h1⟩ ha;rcases h1 with⟨rfl,_⟩|⟨hz2,h1|h1|⟨h1|h1,_⟩⟩
  ·exact absurd rfl ha
  ·exact⟨hone _ a (h1.1▸ha),hz2⟩
  ·exact⟨hone _ a (h1.1▸ha),hz2⟩
  ·exact⟨hone _ a (h1▸ha),hz2⟩
  ·exact⟨hone _ a (h1▸ha),hz2⟩
 have hsm:∀S:Array Bool,S.getD z false=true->hs (fun k=>S.getD k false) (dd L') h.m.get ops.size m=some c0:=by
  intro S hSz;have hd:dom (hs (fun k=>S.getD k false) (dd L') h.m.get ops.size) m:=GU _ _ (.inr ⟨z,lz,hSz,by rw[hddz];simp[dlf]⟩);obtain⟨x,hx⟩:=Option.ne_none_iff_exists'.1 hd;rcases Mb _ _ _ hx with⟨e,_⟩|⟨j,j1,j2,j3,_⟩
  ·rw[hm0]at e;cases e
  ·by_cases hj:j=z
   ·subst hj;rw[hddz]at j3;simp[dlf]at j3;rw[hx,j3]
   ·rw[nom j j1 hj]at j3;cases j3
 refine OZ (v:=vv L') (dl:=dd L') (anc:=anc b) (mask:=E7 [m] b ops.size L' mask) sp C2 hE.mix hO r1 r2 r3 r4 ⟨?_,fun S u i hCu hi hsi hSi hup=> ?_,fun S u i o hCu ho hsi hSi hup=> ?_⟩ fun S u hCu hall=> ?_
 ·refine⟨by simp,.inl ⟨rfl,?_,?_⟩⟩<;>rw[AL,Array.getElem?_replicate]<;>split<;>rfl
 ·obtain⟨n1,n2⟩:=hsp0 i hsi;refine⟨?_,fun a ha=> ?_⟩
  ·obtain⟨hsz,h1⟩:=hCu;refine⟨by simpa using hsz,?_⟩;have hz3:S.getD z false=true->(S.setIfInBounds i true).getD z false=true:=fun h3=>by
    by_cases e:i=z
    ·subst e;rw[h3]at hSi;cases hSi
    ·rw[GK e];exact h3
   rw[GK n1,GK n2];exact h1.imp _root_.id fun h3=>⟨hz3 h3.1,h3.2⟩
  ·obtain⟨rfl,hSz⟩:=only S u a hCu ha;have hiz:i≠z:=fun e=>by rw[e,hSz]at hSi;cases hSi
   refine⟨fun hl=> ?_,nom i hi hiz,GU _ _ (.inr ⟨z,lz,hSz,by rw[hddz];simp[dlf]⟩)⟩;obtain⟨y,hy,hyd⟩:=hl;obtain⟨d,hd⟩:=lst i hi;have hd2:L'[i]? =some d:=by rw[same i n1 n2];exact hd
   cases hqd:d.q with
   |true=>
    have hmm:a∈E7 [a] b ops.size L' mask i:=by
     unfold E7;rw[hd2];simp[hqd]
    unfold memAt mk at hy;rw[if_pos hmm]at hy;obtain⟨w,_,hw⟩:=AZ.1 hy;exact hyd hw.symm
   |false=>
    have hni:=((each i d hi n1 n2 hd).2 hqd).2.2 hiz;have h3:=LO hy hyd;rcases Mb _ _ _ h3 with⟨e,_⟩|⟨j,j1,j2,j3,_⟩
    ·rw[hm0]at e;cases e
    ·by_cases hj:j=z
     ·subst hj;rw[hni]at j2;cases j2
     ·rw[nom j j1 hj]at j3;cases j3
 ·have hi:=hsp1 i hsi;have hiS:i<ops.size:=(AR.1 ho).1;have hva:vv L' i=undef:=by rw[hvv];rcases hi with rfl|rfl<;>assumption
  have hg:o.guard=none:=by
   rcases hi with rfl|rfl
   ·rw[hp]at ho;cases ho;exact gp
   ·rw[hq]at ho;cases ho;exact gq
  have hSz:S.getD z false=true:=by
   rcases hi with rfl|rfl
   ·exact hup z t7
   ·exact hup z t8
  refine⟨hdd0 i hi,by rw[hva];rfl,by unfold Region.wanted;rw[hg],?_⟩;obtain⟨n,hnn⟩:=PV (S:=fun k=>S.getD k false) (dl:=dd L') ops.size ⟨h.n,hh.fin⟩;have hfresh:app (hs (fun k=>S.getD k false) (dd L') h.m.get ops.size) u (n+m+1)=none:=by
   rw[Be]
   ·exact hnn _ om
   ·exact Classical.byContradiction fun hc=>by have:=(only S u _ hCu hc).1;omega
  obtain⟨hsz,h1⟩:=hCu;have hself: (S.setIfInBounds i true).getD i false=true:=by rw[Da om,if_pos rfl]
  have hz3: (S.setIfInBounds i true).getD z false=true:=by rw[GK (by rcases hi with rfl|rfl<;>omega)];exact hSz
  have run:∀(c c':AB),app (hs (fun k=>S.getD k false) (dd L') h.m.get ops.size) u m=some c->(∀(G:Hp) a,G m=some c->_root_.Go.Proofs.YtjlallgaadmeaaaGreatDoor.hop E.ty G a (f.A.with (ts (fun _=>true) (dstOf ops) (vv L) f.A.t i)).ev o.op=some (undef,[(m,c')]))->(∀a,u a≠none->a=m)->C2 (S.setIfInBounds i true) (FM m c')->
    WOp P o (fun w G=>w=vv L' i/\∃u',C2 (S.setIfInBounds i true) u'/\G=app (hs (fun k=>S.getD k false) (dd L') h.m.get ops.size) u') (slotsAt ops (anc b) (vv L') f.A i).ev (app (hs (fun k=>S.getD k false) (dd L') h.m.get ops.size) u):=by
   intro c c' hc hop2 hu hC3;refine WOp.congr ?_ (r6 i o ho);rw[hvv];refine WOp.hop hE.ty hE.fo hfresh (hop2 _ _ hc) ⟨by rw[<-hvv,hva],FM m c',hC3,?_⟩;funext a;rw[E3];by_cases e:a=m
   ·subst e;rw[Bl (x:=c') (by simp[dlf]),Bl (x:=c') (by simp[FM])]
   ·have q1:dlf [(m,c')] a=none:=by
     cases hx:dlf [(m,c')] a with
     |none=>rfl
     |some y=>
      have:=CD hx;simp at this;exact absurd this.1 e
    have q2:u a=none:=Classical.byContradiction fun hc2=>e (hu a hc2)
    have q3:FM m c' a=none:=by unfold FM;rw[if_neg e]
    rw[Be q1,Be q2,Be q3]
  rcases hi with rfl|rfl
  ·rw[hp]at ho;cases ho
   rcases h1 with⟨rfl,e1,e2⟩|⟨_,⟨rfl,e1,e2⟩|⟨rfl,e1,e2⟩|⟨_,e1,e2⟩⟩
   ·exact run c0 cp ((Be rfl).trans (hsm S hSz)) ip0 (fun a ha=>absurd rfl ha) ⟨by simpa using hsz,.inr ⟨hz3,.inl ⟨rfl,hself,by rw[GK hpq];exact e2⟩⟩⟩
   ·rw[hSi]at e1;cases e1
   ·exact run cq cqp (Bl (by simp[FM])) ipq (hone cq) ⟨by simpa using hsz,.inr ⟨hz3,.inr (.inr ⟨.inr rfl,hself,by rw[GK hpq];exact e2⟩)⟩⟩
   ·rw[hSi]at e1;cases e1
  ·rw[hq]at ho;cases ho
   rcases h1 with⟨rfl,e1,e2⟩|⟨_,⟨rfl,e1,e2⟩|⟨rfl,e1,e2⟩|⟨_,e1,e2⟩⟩
   ·exact run c0 cq ((Be rfl).trans (hsm S hSz)) iq0 (fun a ha=>absurd rfl ha) ⟨by simpa using hsz,.inr ⟨hz3,.inr (.inl ⟨rfl,by rw[GK hpq.symm];exact e1,hself⟩)⟩⟩
   ·exact run cp cpq (Bl (by simp[FM])) iqp (hone cp) ⟨by simpa using hsz,.inr ⟨hz3,.inr (.inr ⟨.inl rfl,by rw[GK hpq.symm];exact e1,hself⟩)⟩⟩
   ·rw[hSi]at e2;cases e2
   ·rw[hSi]at e2;cases e2
 ·refine⟨rfl,by rw[hvv];exact g1.symm,?_⟩;have hget:=Hh (dd L') h.m.get L' h 0 rfl (fun k d hk=>by rw[AW];exact Fq hk);have fin:∀c,app (hs (fun _=>true) (dd L') h.m.get ops.size) (FM m c)=upd (L'.foldl (fun h d=>h.app d.δ) h).m.get m (some c):=fun c=>by
   rw[hget,AW,hlen'];funext a;unfold upd;by_cases e:a=m
   ·rw[if_pos e,Bl (x:=c) (by simp[FM,e])]
   ·rw[if_neg e,Be (by unfold FM;rw[if_neg e])]
  obtain⟨_,h1⟩:=hCu;have a1:=hall p lp;have a2:=hall q lq;rcases h1 with⟨rfl,e1,e2⟩|⟨_,⟨rfl,e1,e2⟩|⟨rfl,e1,e2⟩|⟨rfl|rfl,e1,e2⟩⟩
  ·rw[a1]at e1;cases e1
  ·rw[a2]at e2;cases e2
  ·rw[a1]at e1;cases e1
  ·exact⟨_,.inl rfl,fin _⟩
  ·exact⟨_,.inr rfl,fin _⟩
end
section
variable{P:Program}{o:Oper}{Q:Value->Hp->Prop}{ev:Operand->Value}{H:Hp}{X:Nat->Option Obj}{O:Nat->Prop}{φ:Ph}{w:World}
theorem NC (hnd:∀c,o.op≠ .defer c) (h:∀(X:Nat->Option Obj) (O:Nat->Prop) (φ:Ph) (w:World) (ev':Operand->Value),Rel X O φ H w->(∀x∈o.op.operands,vrel φ (dom H) (ev x) (ev' x))->∃v H',Q v H'/\Fw P (execOp ev' o) X O φ H w v H'):WOp P o Q ev H:=by
 intro main K hK X O φ w fr cs ops i rest k hm ht ho hw hqu hr hv hk;refine hK.step O fr cs w fun w₁ hk1=> ?_
 obtain⟨v,H',hq,n,v',φ',w',h1,h2,h3,h4,h5,h6⟩:=h X O φ w₁ _ (hr.keep hk1) hv;refine⟨fr.finish v',cs,w',_,?_,CY (P:=P) h3 h2.ev fr.fn,hk _ _ _ _ _ _ hq h4 (fun b hb=> .inl hb) h5 h6⟩;rw[Dq hm ht ho hw hnd,Df (CV hqu) h1 h2.run]
theorem Zm(hr:Rel X O φ H w){a:Nat}(ha:H a=none){s:Sem Value}{x:AB}(hx:x.mine=true){ob:Obj}(hb:∀φ' D,(∀b,dom H b->D b/\φ.same φ' b)->φ'.sh a=0->brel φ' D a x ob)(hs:Ran P s w (.pointer (some ⟨w.heap.size,0,none⟩)) {w with heap:=w.heap.push ob} (EvO (grow O w {w with heap:=w.heap.push ob}) RD)):
  Fw P (do pure (Next.value (<-s))) X O φ H w (.pointer (some ⟨a,0,none⟩)) (upd H a (some x)):=by
 obtain⟨k1,k2⟩:=Rel.new (w':={w with heap:=w.heap.push ob}) (O':=grow O w {w with heap:=w.heap.push ob}) hr ha (x:=x) hx (o:=ob) (s:=0) (z:=0) rfl (.inr ⟨AH _,by simp⟩) (fun b hb=> .inl hb) (hb _ _ (fun b hb2=>⟨Bx hb2,EK (fun e=>hb2 (e▸ha))⟩) (BU _ _ _));refine⟨_,.pointer (some ⟨w.heap.size,0,none⟩),_,_,.inl rfl,DJ hs,⟨fun b hb hO=> ?_,by simp,rfl,rfl,rfl⟩,k2,k1,?_⟩
 ·show(w.heap.push _)[b]? =_
  rw[Array.getElem?_push_lt hb,AK hb]
 ·simp only[vrel];refine⟨C9,trivial,?_⟩;unfold Ph.ad;rw[show(φ.put a w.heap.size 0 0).f a=w.heap.size from BU ..,show(φ.put a w.heap.size 0 0).sh a=0 from BU ..]
theorem Sn{ob:Obj}(hn:ob.isChan=false){E:Event->Prop}:Ran P (newObj ob) w w.heap.size {w with heap:=w.heap.push ob} E:=⟨rfl,fun e he=>by
 have h0: (newObj ob).events P w #[]= #[]:=rfl;rw[h0]at he;simp at he⟩
variable{es l l':List MapEntry}
theorem TT{t kt vt:TypeId}{x:Operand}(hop:o.op= .range t x)(hu:P.underlying t=some (.map kt vt)){a:Nat}(ha:H a=none){m k:Nat}(hx:ev x= .map (some m))(hm:H m=some (.mp es k))(hq:Q (.pointer (some ⟨a,0,none⟩)) (upd H a (some (.it (some m) k #[] k)))):WOp P o Q ev H:=by
 refine NC (fun c e=>by rw[hop]at e;cases e) fun X O φ w ev' hr hv=>⟨_,_,hq,?_⟩
 have h1:=hv x (by rw[hop];simp[Op.operands]);rw[hx]at h1;simp only[vrel]at h1;obtain⟨hd,h1⟩:=h1;unfold execOp;rw[hop];dsimp only;rw[h1];obtain⟨ho,_,ob,hob,hb⟩:=hr.own m _ hm rfl;obtain⟨es',rfl,hes⟩:=hb;refine Zm hr ha rfl (ob:= .mapIter (some (φ.f m)) k #[] k) (fun φ' D hD hsh=>⟨hsh,(fun r e=>by cases e;exact(hD m hd).1),by rw[AU,(hD m hd).2.1]⟩) ?_;unfold Instr.range;refine Ran.bind (Ran.underlying hu) ?_;dsimp only;refine Ran.bind (DZ hob (fun _ _ _ e=>by cases e) rfl (.inl ho)) ?_;dsimp only;exact Ran.bind (Ran.pure _) (Ran.bind (Sn rfl) (Ran.pure _))
theorem WOp.entry{x:Operand}(hop:o.op= .entry x){r m since k st:Nat}{seen:Array Nat}{e:MapEntry}(hx:ev x= .pointer (some ⟨r,0,none⟩))(hi:H r=some (.it (some m) since seen k))(hm:H m=some (.mp es k))(hs:seen.back?=some st)(he:es.find? (·.born==st)=some e)(hq:Q (.tuple #[e.key,e.val]) H):WOp P o Q ev H:=by
 refine NC (fun c e=>by rw[hop]at e;cases e) fun X O φ w ev' hr hv=>⟨_,_,hq,?_⟩
 have h1:=hv x (by rw[hop];simp[Op.operands]);rw[hx]at h1;simp only[vrel]at h1;obtain⟨hd,_,h1⟩:=h1;obtain⟨ho,_,ob,hob,hsh,_,rfl⟩:=hr.own r _ hi rfl;obtain⟨ho2,_,ob2,hob2,hb2⟩:=hr.own m _ hm rfl;obtain⟨es',rfl,hes⟩:=hb2;obtain⟨e',hf,hr1,hr2,hr3⟩:∃e',es'.find? (·.born==st)=some e'/\S7 φ (dom H) e e':=by
  obtain⟨l'⟩:=es';simp only[List.find?_toArray];obtain⟨hlen,hall⟩:=hes;clear hob2 hm;simp only at hlen hall;induction es generalizing l' with
  |nil=>cases he
  |cons y ys ih=>
   cases l' with
   |nil=>cases hlen
   |cons y' ys'=>
    obtain⟨z,hz,q1,q2,q3⟩:=hall 0 y rfl;cases hz
    rw[List.find?_cons]at he⊢;rw[q3];cases hb: (y.born==st)with
    |true=>rw[hb]at he;cases he;exact⟨_,rfl,q1,q2,q3⟩
    |false=>
     rw[hb]at he;exact ih he ys' (by simpa using hlen) fun i e h=>hall (i+1) e h
 unfold execOp;rw[hop];dsimp only;rw[h1];refine .still (v':= .tuple #[e'.key,e'.val]) hr (DJ ?_) ?_
 ·unfold Instr.entry Ph.ad;rw[hsh];refine Ran.bind (DZ hob (fun _ _ _ e=>by cases e) rfl ho) ?_;dsimp only[Option.map_some];rw[hs];dsimp only;refine Ran.bind (DZ hob2 (fun _ _ _ e=>by cases e) rfl ho2) ?_;dsimp only;simp only[bne_self_eq_false,AP,Ab];rw[hf];exact Ran.pure _
 ·simp only[vrel];refine⟨_,rfl,Bj.2 ?_⟩;simp only[BZ];exact⟨_,_,rfl,hr1,_,_,rfl,hr2,rfl⟩
theorem KQ{w w':World}(h:w'.heap.size=w.heap.size):grow O w w'=O:=by
 funext b;refine propext ⟨fun h1=>h1.elim id fun h2=>absurd h2.1 (by have:=h2.2;omega),.inl⟩
theorem OR{D:Nat->Prop}(h:Fp φ D l l'){e':MapEntry}(he:e'∈l'):∃e∈l,S7 φ D e e':=by
 obtain⟨i,hi,rfl⟩:=List.mem_iff_getElem.1 he;have h1:i<l.length:=by rw[<-h.1];exact hi
 obtain⟨e2,h2,h3⟩:=h.2 i l[i] (AD h1);rw[AD hi]at h2;cases h2
 exact⟨_,AM h1,h3⟩
theorem S6{D:Nat->Prop}(h:Fp φ D l l'){e:MapEntry}(he:e∈l):∃e'∈l',S7 φ D e e':=by
 obtain⟨i,hi,rfl⟩:=List.mem_iff_getElem.1 he;obtain⟨e2,h2,h3⟩:=h.2 i l[i] (AD hi);exact⟨e2,Ao h2,h3⟩
theorem X5{x:Operand}(hop:o.op= .next x false){r m since last k:Nat}{seen:Array Nat}(hx:ev x= .pointer (some ⟨r,0,none⟩))(hi:H r=some (.it (some m) since seen last))(hm:H m=some (.mp es k))(hb:∀e∈es,e.born<since/\e.born<last)
  (hq:∀e∈es,seen.contains e.born=false->Q (.tuple #[.bool true,e.key,e.val]) (upd H r (some (.it (some m) since (seen.push e.born) k))))(hq0: (∀e∈es,seen.contains e.born=true)->Q (.tuple #[.bool false]) H):WOp P o Q ev H:=by
 refine NC (fun c e=>by rw[hop]at e;cases e) fun X O φ w ev' hr hv=> ?_
 have h1:=hv x (by rw[hop];simp[Op.operands]);rw[hx]at h1;simp only[vrel]at h1;obtain⟨hd,_,h1⟩:=h1;obtain⟨ho,_,ob,hob,hsh,hdm,rfl⟩:=hr.own r _ hi rfl;obtain⟨ho2,_,ob2,hob2,hb2⟩:=hr.own m _ hm rfl;obtain⟨es',rfl,hes⟩:=hb2;have hborn:∀e'∈es',e'.born<since/\e'.born<last:=fun e' he'=>by
  obtain⟨e,h2,_,_,h3⟩:=OR hes (by simpa using he');rw[h3];exact hb e h2
 have hold: (es'.filter fun e:MapEntry=> !seen.contains e.born).filter (·.born<since)=es'.filter fun e:MapEntry=> !seen.contains e.born:=by
  rw[Array.filter_eq_self];intro e he;simpa using(hborn e (Array.mem_filter.1 he).1).1
 have hnew: (es'.filter fun e:MapEntry=> !seen.contains e.born).filter (·.born >= since)= #[]:=by
  rw[Array.filter_eq_empty_iff];intro e he;have:=(hborn e (Array.mem_filter.1 he).1).1;simp;omega
 have hno: (!seen.isEmpty&& !es'.isEmpty&&es'.all (·.born >= last))=false:=by
  cases hz:es'.isEmpty with
  |true=>simp
  |false=>
   have:es'.all (·.born >= last)=false:=by
    obtain⟨l'⟩:=es';cases l' with
    |nil=>simp at hz
    |cons y ys=>
     have:=(hborn y (by simp)).2;simp[Nat.not_le.2 this]
   rw[this];simp
 unfold execOp;rw[hop];dsimp only;rw[h1];have hpre:∀{v':Value} {w':World},Ran P (do
   let candidates:Array (Option MapEntry):=(if(es'.filter fun e:MapEntry=> !seen.contains e.born).isEmpty then #[none]else #[])++((es'.filter fun e:MapEntry=> !seen.contains e.born)++ #[]).map some
   match candidates[<-choose (.mapNext candidates.size)]? with
   |some (some e)=>do
    setObj (φ.f r) (.mapIter (some (φ.f m)) since (seen.push e.born) k)
    pure (.tuple #[.bool true,e.key,e.val])
   |some none=>pure (.tuple #[.bool false])
   |none=>stuck "Next: no such candidate") w v' w' (EvO O RD)->Ran P (Instr.next (.pointer (some (φ.ad ⟨r,0,none⟩))) false o.type) w v' w' (EvO O RD):=by
  intro v' w' h;unfold Instr.next Ph.ad;rw[hsh];refine Ran.bind (DZ hob (fun _ _ _ e=>by cases e) rfl ho) ?_;dsimp only[Option.map_some];refine Ran.bind (DZ hob2 (fun _ _ _ e=>by cases e) rfl ho2) ?_;dsimp only;rw[hno,hold,hnew];exact h
 generalize hleft:es'.filter (fun e:MapEntry=> !seen.contains e.born)=left at hpre;obtain⟨n,d,hc1,hc2⟩:=Ran.choose (P:=P) (w:=w) (E:=EvO O RD) (.mapNext ((if left.isEmpty then #[none]else #[])++(left++ #[]).map some:Array (Option MapEntry)).size);have hk:Keeps (Uni O RD) w (w.at d):=⟨fun _ _=>rfl,AH _,rfl,rfl,rfl⟩;have hr2:=hr.keep hk;have hmv:Mv O w (w.at d):=Mv.at O w d;by_cases hl:left= #[]
 ·subst hl;have hn:n=0:=by
   rw[hc2];simp[Question.forced]
  subst hn;refine⟨_,_,hq0 fun e he=> ?_,.value (.tuple #[.bool false]),.tuple #[.bool false],φ,w.at d,.inl rfl,?_,hmv,Gr.refl _ _,?_,(Bi _ _ rfl).2 rfl⟩
  ·obtain⟨e',h2,_,_,h3⟩:=S6 hes he;rw[<-h3];cases hcn:seen.contains e'.born with
   |true=>rfl
   |false=>
    have:e'∈es'.filter fun e:MapEntry=> !seen.contains e.born:=Array.mem_filter.2 ⟨by simpa using h2,by rw[hcn];rfl⟩
    rw[hleft]at this;simp at this
  ·rw[KQ (w:=w) (w':=w.at d) rfl];refine DJ (hpre (Ran.bind hc1 ?_));simp;exact Ran.pure _
  ·rw[KQ (w:=w) (w':=w.at d) rfl];exact hr2
 ·have hemp:left.isEmpty=false:=by simpa using hl
  have hcand: (if left.isEmpty then #[none]else #[])++(left++ #[]).map some=left.map some:=by rw[hemp];simp
  rw[hcand]at hc1 hc2;have hsz:0<left.size:=by
   refine Nat.pos_of_ne_zero fun h=>hl (Array.eq_empty_of_size_eq_zero h)
  have hn:n<left.size:=by
   rw[hc2];split
   ·exact hsz
   ·show _%_<_
    rw[Array.size_map];exact Nat.mod_lt _ hsz
  have hel:left[n]∈es'.filter fun e:MapEntry=> !seen.contains e.born:=by rw[hleft];exact Array.getElem_mem hn
  obtain⟨hel1,hel2⟩:=Array.mem_filter.1 hel;obtain⟨e,he,hr3,hr4,hr5⟩:=OR hes (e':=left[n]) (by simpa using hel1);have hset:∀b:Nat,({w.at d with heap:=(w.at d).heap.setIfInBounds (φ.f r) (.mapIter (some (φ.f m)) since (seen.push left[n].born) k)}:World).heap[b]? =if b=φ.f r then some (.mapIter (some (φ.f m)) since (seen.push left[n].born) k)else(w.at d).heap[b]? :=by
   intro b;show((w.at d).heap.setIfInBounds _ _)[b]? =_
   rw[Array.getElem?_setIfInBounds];by_cases hbr:b=φ.f r
   ·subst hbr;rw[if_pos rfl,if_pos rfl,if_pos (show φ.f r<(w.at d).heap.size from(AR.1 hob).1)]
   ·rw[if_neg (Ne.symm hbr),if_neg hbr]
  obtain⟨g1,g2⟩:=Rel.set hr2 hi rfl (y:= .it (some m) since (seen.push e.born) k) rfl hset ⟨hsh,(fun r2 e2=>Bx (hdm r2 e2)),by rw[hr5];rfl⟩;have hgrow:grow O w {w.at d with heap:=(w.at d).heap.setIfInBounds (φ.f r) (.mapIter (some (φ.f m)) since (seen.push left[n].born) k)}=O:=KQ (by simp[World.at]);refine⟨_,_,hq e he (by rw[<-hr5];simpa using hel2),.value (.tuple #[.bool true,left[n].key,left[n].val]),.tuple #[.bool true,left[n].key,left[n].val],φ,{w.at d with heap:=(w.at d).heap.setIfInBounds (φ.f r) (.mapIter (some (φ.f m)) since (seen.push left[n].born) k)},.inl rfl,?_,⟨fun b hb2 hO=> ?_,by simp[World.at],rfl,rfl,rfl⟩,g2,by rw[hgrow];exact g1,?_⟩
  ·rw[hgrow];refine DJ (hpre ?_);dsimp only;rw[hcand];refine Ran.bind hc1 ?_;rw[Al,AK hn];dsimp only[Option.map_some];exact Ran.bind (Lz (w:=w.at d) (o:= .mapIter (some (φ.f m)) since seen last) hob (fun _ _ _ e=>by cases e) rfl ho) (Ran.pure _)
  ·rw[hset,if_neg (fun e2:b=φ.f r=>hO (by rw[e2];exact ho))];rfl
  ·simp only[vrel];refine⟨_,rfl,Bj.2 ?_⟩;simp only[BZ];have mono:∀{a a':Value},vrel φ (dom H) a a'->vrel φ (dom (upd H r (some (.it (some m) since (seen.push e.born) k)))) a a':=fun h=>CB (fun b hb2=>⟨Bx hb2,Bs φ b⟩) _ _ h
   exact⟨_,_,rfl,by simp only[vrel],_,_,rfl,mono hr3,_,_,rfl,mono hr4,rfl⟩
end
end
section
open Go.Conc Go.Proofs
variable[Md]
section
def lA:Code->Code
 | .seq a _=>a
 |c=>c
def lB:Code->Code
 | .seq _ b=>b
 |c=>c
noncomputable def NJ:Code:=(Tryz.f180.body).getD .skip
noncomputable def tp:Code:=lB (lA (lB (lB (lB NJ))))
theorem WB{α:Type}{p q:α->Bool}(h:∀x,q x=true->p x=true){e:α}:∀{es:List α},e∈es->p e=true->q e=false->(es.filter q).length<(es.filter p).length
 |x::xs,he,hp,hq=>by
  have le:∀ys:List α,(ys.filter q).length<=(ys.filter p).length:=fun ys=>by
   induction ys with
   |nil=>exact AH _
   |cons y ys ih=>
    rw[List.filter_cons,List.filter_cons];cases hy:q y with
    |true=>rw[h y hy];simpa using ih
    |false=>
     simp only[AP,Ab];split
     ·simp only[AY];omega
     ·exact ih
  rw[List.filter_cons,List.filter_cons];rcases AV.1 he with rfl|he
  ·rw[hp,hq];simp only[AP,Ab,Ag,AY];have:=le xs;omega
  ·have ih:=WB h he hp hq;cases hy:q x with
   |true=>rw[h x hy];simpa using ih
   |false=>
    simp only[AP,Ab];split
    ·simp only[AY];omega
    ·exact ih
variable{t:Nat->Value}
theorem JN{n:Nat}{ds:List Deferred}{d:Nat}{v:Value}(hn:Nat.blt d n=true):AF.put ⟨n,t,ds⟩ (some d) v=⟨n,st t d v,ds⟩:=CT hn v
theorem ZJ{H:Hp}{nf l it m s s0 k n:Nat}{es:List MapEntry}{f:Nat->Int}{Q:QT}(hf:Fr H nf)(h5:t 5= .slice (some ⟨l,0,none⟩) n n)(h43:t 43= .pointer (some ⟨it,0,none⟩))(hl:H l=some (.own (ar n f)))(hi:H it=some (.it (some m) s #[] s0))(hm:H m=some (.mp es k))(n1:l≠it)(n2:m≠it)(n3:m≠l)
  (hb:∀e∈es,e.born<s/\e.born<s0/\e.born<k)(hd:∀e∈es,es.find? (·.born==e.born)=some e)(hkey:∀e∈es,∃(i:Nat) (x:Int),e.key= .int .i64 (i:Int)/\e.val= .int .i64 x/\i<n)
  (hq:∀(t':Nat->Value) (H':Hp) (g:Nat->Int),Fr H' nf->t' 5=t 5->H' l=some (.own (ar n g))->(∀a,a≠l->a≠it->H' a=H a)->(∀i:Nat,(∃e∈es,e.key= .int .i64 (i:Int)/\e.val= .int .i64 (g i))\/(g i=f i/\∀e∈es,e.key≠ .int .i64 (i:Int)))->Q .norm ⟨54,t',[]⟩ H'):WC Tryz.prog true tp Q ⟨54,t,[]⟩ H:=by
 refine BS ?_;refine Pr (fun M Af G=>∃(seen:Array Nat) (last:Nat) (t:Nat->Value) (g:Nat->Int),M=(es.filter fun e=> !seen.contains e.born).length/\Af=⟨54,t,[]⟩/\t 5= .slice (some ⟨l,0,none⟩) n n/\t 43= .pointer (some ⟨it,0,none⟩)/\Fr G nf/\G l=some (.own (ar n g))/\G it=some (.it (some m) s seen last)/\(∀e∈es,e.born<last)/\(∀a,a≠l->a≠it->G a=H a)/\(∀i:Nat,(∃e∈es,seen.contains e.born=true/\e.key= .int .i64 (i:Int)/\e.val= .int .i64 (g i))\/(g i=f i/\∀e∈es,seen.contains e.born=true->e.key≠ .int .i64 (i:Int)))) (m:=(es.filter fun e=> !(#[]:Array Nat).contains e.born).length)
  ⟨#[],s0,t,f,rfl,rfl,h5,h43,hf,hl,hi,fun e he=>(hb e he).2.1,fun _ _ _=>rfl,fun i=> .inr ⟨rfl,fun e _ h=>by simp at h⟩⟩ ?_
 rintro M Af G ⟨seen,last,t1,g,rfl,rfl,h5',h43',hf,hlG,hiG,hlast,hsame,hinv⟩;have hmG:G m=some (.mp es k):=(hsame m n3 n2).trans hm;refine BO (BQ ?_);refine CL rfl rfl (X5 (x:= .tmp 43) rfl (by show t1 43=_;exact h43') hiG hmG (fun e he=>⟨(hb e he).1,hlast e he⟩) (fun e he hs=> ?_) fun hall=> ?_)
 ·obtain⟨i,x,ek,ev,hin⟩:=hkey e he;rw[JN rfl,ek,ev];have hlt:it<nf:=hf.lt hiG;have hf:Fr (upd G it (some (.it (some m) s (seen.push e.born) k))) nf:=hf.old hiG _;have hl2:upd G it (some (.it (some m) s (seen.push e.born) k)) l=some (.own (ar n g)):=(upd_ne n1).trans hlG;have hm2:upd G it (some (.it (some m) s (seen.push e.born) k)) m=some (.mp es k):=(upd_ne n2).trans hmG;have hi2:upd G it (some (.it (some m) s (seen.push e.born) k)) it=some (.it (some m) s (seen.push e.born) k):=BU _ _ _;generalize hG2:upd G it (some (.it (some m) s (seen.push e.born) k))=G2 at*;have fz:=ai h43' (ai h5' hl2);refine xq (BP (BO ?_));refine xT ?_;refine BR ?_;refine BS (BO (BQ ?_));refine CL rfl rfl (WOp.entry (x:= .tmp 43) rfl (by show st _ _ _ _=_;exact xv) hi2 hm2 (Array.back?_push ..) (hd e he) ?_);rw[JN rfl,ek,ev];iterate 4 refine xq ?_
  refine BP (BQ ?_);have fz:=ai @Of (ai hin fz);iterate 4 refine xq ?_
  refine xs fun hf=> ?_
  refine BP ?_;have hlast2:∀e∈es,e.born<k:=fun e he=>(hb e he).2.2
  have hpush:∀b:Nat,(seen.push e.born).contains b=(seen.contains b||b==e.born):=fun b=>by
   rw[Bool.eq_iff_iff];simp[Array.mem_push]
  have hlt2: (es.filter fun x=> !(seen.push e.born).contains x.born).length<(es.filter fun x=> !seen.contains x.born).length:=WB (fun x hx=>by
   rw[hpush]at hx;simp only[Bool.not_or,AA]at hx;exact hx.1) he (by rw[hs];rfl) (by rw[hpush];simp)
  refine⟨_,hlt2,seen.push e.born,k,_,up g i x,rfl,rfl,xv,xv,hf,BU _ _ _,(upd_ne n1.symm).trans hi2,hlast2,fun a ha hb2=> ?_,fun j=> ?_⟩
  ·rw[upd_ne ha,<-hG2,upd_ne hb2];exact hsame a ha hb2
  ·by_cases hj:j=i
   ·subst hj;exact .inl ⟨e,he,by rw[hpush];simp,ek,by rw[ev];unfold up;simp⟩
   ·have hup:up g i x j=g j:=by unfold up;rw[if_neg hj]
    rw[hup];rcases hinv j with⟨e2,k1,k2,k3,k4⟩|⟨k1,k2⟩
    ·exact .inl ⟨e2,k1,by rw[hpush,k2];rfl,k3,k4⟩
    ·refine .inr ⟨k1,fun e2 he2 hc=> ?_⟩;rw[hpush,A6]at hc;rcases hc with hc|hc
     ·exact k2 e2 he2 hc
     ·have h1:=hd e he;have h2:=hd e2 he2;rw[eq_of_beq hc,h1]at h2;cases h2
      rw[ek];intro h3;injection h3 with _ h4;omega
 ·rw[JN rfl];have fz:=ai h43' h5';refine xq (BP (BO ?_));refine xF ?_;refine Ps ?_;repeat first|refine nW ?_|refine aa (i:=2) rfl ?_
  refine ab ?_;refine hq _ G g hf ?_ hlG hsame fun i=> ?_
  ·rw[h5];simp(disch:=omega)only[wx,fz]<;>rfl
  ·rcases hinv i with⟨e,k1,_,k3,k4⟩|⟨k1,k2⟩
   ·exact .inl ⟨e,k1,k3,k4⟩
   ·exact .inr ⟨k1,fun e he=>k2 e he (hall e he)⟩
end
end
section
open Go.Conc Go.Proofs
section
variable[Md]
noncomputable def MB(args:List Value)(h:EH):Option (EF×EH):=
 match(ev Ge 400).C true (lA NJ) (EF.enter 54 args) h with
 |some (.norm,f1,h1)=>match(ev Ge 400).C true (lA (lB NJ)) f1 h1 with
  |some (.norm,f2,h2)=>match(ev Ge 400).C true (lA (lB (lB NJ))) f2 h2 with
   |some (.norm,f3,h3)=>some (f3,h3)
   |_=>none
  |_=>none
 |_=>none
noncomputable def tj:Code:=lB (lB (lB NJ))
theorem iV:NJ= .seq (lA NJ) (.seq (lA (lB NJ)) (.seq (lA (lB (lB NJ))) tj)):=rfl
variable{args:List Value}
theorem Gz{h0 h3:EH}{f3:EF}(h:MB args h0=some (f3,h3))(hh:EHok Tryz.prog h0){Q:QT}: (EHok Tryz.prog h3/\Lg h0 h3)/\(WC Tryz.prog true tj Q f3.A h3.m.get->WC Tryz.prog true NJ Q (AF.enter 54 args) h0.m.get):=by
 have hC:=(EX Ey 400).1;unfold MB at h;split at h
 ·rename_i f1 h1 e1;split at h
  ·rename_i f2 h2 e2;split at h
   ·rename_i f3' h3' e3;cases h
    obtain⟨k1,hh1,g1⟩:=hC _ _ _ _ _ _ _ e1 (by show GoodC _ (.region _ _ false);simp[GoodC]) hh;obtain⟨k2,hh2,g2⟩:=hC _ _ _ _ _ _ _ e2 (by show GoodC _ (.region _ _ false);simp[GoodC]) hh1;obtain⟨k3,hh3,g3⟩:=hC _ _ _ _ _ _ _ e3 (by show GoodC _ (.seq (.region _ _ false) (.block _ (.loop (.seq (.region _ _ false) (.seq (.cond _ .skip (.exit _)) (.seq (.block _ (.seq (.region _ _ false) (.region _ _ false))) (.region _ _ false)))))));simp[GoodC]) hh2;refine⟨⟨hh3,(g1.trans g2).trans g3⟩,fun k=> ?_⟩;rw[iV,<-I1];refine BO (k1.mono ?_);rintro ex A H ⟨rfl,rfl,rfl⟩;refine BO (k2.mono ?_);rintro ex A H ⟨rfl,rfl,rfl⟩;refine BO (k3.mono ?_);rintro ex A H ⟨rfl,rfl,rfl⟩;exact k
   ·cases h
  ·cases h
 ·cases h
theorem gZ(p:Addr):DW tz 263 1 (.pointer (some p))=some (.pointer (some (p.add 1))):=kr
theorem ga(p:Addr):DW tz 199 3 (.pointer (some p))=some (.pointer (some (p.add 3))):=kr
theorem rM(H:Hp)(p:Addr):EC tz H 194 (.pointer (some p))=rJ H p:=kr
theorem lF:Tryz.prog.underlying 290=some (.map 3 2):=kr
theorem YJ{P:Program}{g:FuncId}{us bs:List Value}{Q:Value->Hp->Prop}{H:Hp}(e:us=bs)(h:Ee P g bs Q H):Ee P g us Q H:=e▸h
theorem oY{n:Nat}{f:Nat->Int}{v:Value}(h:v∈ar n f):∃x,v= .int .i64 x:=by
 unfold ar at h;obtain⟨i,_,h2⟩:=List.mem_flatMap.1 h;exact⟨f i,by simpa[Cel.c]using h2⟩
theorem fk{n:Nat}{f:Nat->Int}{D:Nat->Prop}:NU D (.own (ar n f)):=by
 refine⟨fun φ D' a o hb=> ?_,fun c e=>by cases e⟩;obtain⟨C,e,rfl,k1,k2,k3⟩:=hb;refine⟨C,e,rfl,k1,k2,fun i v hi=> ?_⟩;obtain⟨v',h1,h2⟩:=k3 i v hi;obtain⟨x,rfl⟩:=oY (Ao hi);exact⟨v',h1,Bb.2 (Bb.1 h2)⟩
def oo(l n:Nat)(f fin:Nat->Int)(M:Hp)(v:Value)(H:Hp):Prop:=∃(r k nf:Nat) (es:List MapEntry),v= .map (some r)/\Fr H nf/\H r=some (.mp es k)/\H l=some (.own (ar n f))/\r≠l/\(∀e∈es,e.born<k)/\(∀e∈es,es.find? (·.born==e.born)=some e)/\(∀e∈es,∃(i:Nat) (x:Int),e.key= .int .i64 (i:Int)/\e.val= .int .i64 x/\i<n)/\
 (∀g:Nat->Int,(∀i:Nat,(∃e∈es,e.key= .int .i64 (i:Int)/\e.val= .int .i64 (g i))\/(g i=f i/\∀e∈es,e.key≠ .int .i64 (i:Int)))->ar n g=ar n fin)/\∀a x,M a=some x->H a=some x/\a≠l
theorem OJ{h0 h3:EH}{f3:EF}(hh:EHok Tryz.prog h0)(hpre:MB args h0=some (f3,h3))(hlen:max args.length 54=54){t:Nat->Value}(hA:f3.A=⟨54,t,[]⟩){p l n:Nat}{sl:Value}{f fin:Nat->Int}(t0:t 0= .pointer (some ⟨p,0,none⟩))(t1:t 1=sl)(t5:t 5= .slice (some ⟨l,0,none⟩) n n){x0 x1 x2 x3:Value}{xs:List Value}{g:FuncId}
  (hp:h3.m.get p=some (.own (x0::x1::x2::x3:: .func (.func g) #[] #[]::xs))){fn:Func}{c:Code}(hg:Tryz.prog.funcs[g]? =some fn)(hgb:fn.body=some c)(hgn: (fn.name=="runtime.NumGoroutine")=false)
  (hcall:Ee Tryz.prog g [.pointer (some ⟨p,0,none⟩),sl] (oo l n f fin h0.m.get) h3.m.get)(hsc:Sc h0.m.get):
  Ee Tryz.prog 180 args (fun u H'=>u= .slice (some ⟨l,0,none⟩) n n/\H'=upd h0.m.get l (some (.own (ar n fin)))) h0.m.get:=by
 have hw:Ee Tryz.prog 180 args (fun u H'=>u= .slice (some ⟨l,0,none⟩) n n/\H' l=some (.own (ar n fin))/\∀a x,h0.m.get a=some x->a≠l->H' a=some x) h0.m.get:=by
  refine Ml Tryz.func180 (c:=NJ) rfl hlen fun nf hf hsc=> ?_
  obtain⟨⟨hh3,_⟩,hk⟩:=Gz (Q:=GQ Tryz.f180 (fun u H'=>u= .slice (some ⟨l,0,none⟩) n n/\H' l=some (.own (ar n fin))/\∀a x,h0.m.get a=some x->a≠l->H' a=some x)) hpre hh;refine hk ?_;rw[hA];have hf:Fr h3.m.get h3.n:=hh3.fin;refine BO (BO (BQ ?_));have fz:=ai @gZ (ai @ga (ai @rM (ai hp (ai t5 (ai t1 t0)))));iterate 7 refine xq ?_
  refine CL rfl rfl (WOp.call (x:= .tmp 39) rfl (by show st _ _ _ _= .func (.func g) #[] #[];exact xv) hg hgb hgn ?_);refine YJ (bs:=[.pointer (some ⟨p,0,none⟩),sl]) xv (hcall.mono fun v H' q=> ?_);obtain⟨r,k,nf2,es,rfl,hfr,hr,hl,hrl,hb,hu,hkey,hfin,hM⟩:=q;rw[JN rfl];refine CL rfl rfl (TT (x:= .tmp 42) (t:=290) rfl lF (hfr nf2 (AH _)) (by show st _ _ _ _= .map (some r);exact xv) hr ?_);rw[JN rfl];refine BP ?_;have ll:=hfr.lt hl;have lr:=hfr.lt hr;refine(ZJ (l:=l) (it:=nf2) (m:=r) (s:=k) (s0:=k) (k:=k) (n:=n) (es:=es) (f:=f) (hfr.new _) ?_ ?_ ((upd_ne om).trans hl) (BU _ _ _) ((upd_ne om).trans hr) om om hrl (fun e he=>⟨hb e he,hb e he,hb e he⟩) hu hkey fun t' G g hfG h5 hlG hsame hres=> ?_:WC Tryz.prog true tp _ _ _)
  ·simp(disch:=omega)only[wx,fz]<;>rfl
  ·simp(disch:=omega)only[wx,fz]<;>rfl
  have h5':t' 5= .slice (some ⟨l,0,none⟩) n n:=h5.trans xv;refine BO (BQ ?_);have hf:=hfG;have fz:=ai h5' trivial;iterate 2 refine xq ?_
  refine BP (BT ?_);repeat first|refine qN ?_|refine qO ?_
  refine BW rfl ⟨xv,by rw[hlG,hfin g hres],fun a x ha hal=> ?_⟩;have h1:=hM a x ha;rw[hsame a hal (fun e=>by have:=hfr.lt h1.1;omega),upd_ne (fun e=>by have:=hfr.lt h1.1;omega)];exact h1.1
 refine Ee.dropQ hw fun v H1 q=>⟨upd h0.m.get l (some (.own (ar n fin))),⟨q.1,rfl⟩,?_,fun a ha=>Bx ha,fun a x ha=> ?_,fun a x ha=> ?_,?_⟩
 ·rw[q.1];intro ψ E u k;simp only[vrel]at k⊢;exact⟨C9,k.2⟩
 ·by_cases e:a=l
  ·subst e;rw[BU]at ha;rw[<-ha];exact q.2.1
  ·rw[upd_ne e]at ha;exact q.2.2 a x ha e
 ·by_cases e:a=l
  ·subst e;rw[BU]at ha;cases ha
   exact fk
  ·rw[upd_ne e]at ha;exact KI (fun b hb=>Bx hb) (hsc a x ha)
 ·exact⟨h0.n+l+1,fun a ha=>by rw[upd_ne om];exact hh.fin a om⟩
end
end
end Go.Proofs.YtjlallgaadmeaaaGreatDoor
