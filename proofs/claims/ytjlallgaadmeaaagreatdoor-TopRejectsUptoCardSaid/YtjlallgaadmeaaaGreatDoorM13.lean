/- The tied card of TopRejects, second form (topRejects_card): the call returns true and leaves its input as it was; with the last parts of its proof (LT LU LV LW LX LY). Conditions: none. -/
import Derived.Test.YtjlallgaadmeaaaGreatDoorM12
import Derived.Test.YtjlallgaadmeaaaGreatDoorRows
import Derived.Test.YtjlallgaadmeaaaGreatDoorLeaving
import Derived.Test.YtjlallgaadmeaaaGreatDoorCards
import Derived.Test.YtjlallgaadmeaaaGreatDoorTie
import Derived.Conc.LeavingOf
import Derived.JoinedCond
import Derived.ProofKit
import Derived.OpenShut
import Derived.Deep.DeepHandedRow
import Derived.LaidLaws
import Derived.Lay
import Derived.SizedLaws
import Derived.LaidHandle
import Derived.SevenTiedAt
set_option linter.unusedVariables false
set_option linter.unusedSimpArgs false
set_option linter.unusedSectionVars false
set_option maxRecDepth 100000
namespace Go.Proofs.YtjlallgaadmeaaaGreatDoor
section
section
set_option maxRecDepth 4000
open Go.Conc Go.Proofs Go.WideShapes
theorem wB:Tryz.prog.cellTypes Tryz.prog.depth 25=some [22,23]:=kr
theorem wA:Tryz.prog.cellTypes Tryz.prog.depth 29=some [3,22,22,26,27]:=kr
theorem ug:∃fs,Tryz.prog.underlying 25=some (.struct fs):=by
 have h:=sJ;unfold FC at h;split at h
 ·exact⟨_,by assumption⟩
 ·cases h
theorem uf:∃fs,Tryz.prog.underlying 29=some (.struct fs):=by
 have h:=sI;unfold FC at h;split at h
 ·exact⟨_,by assumption⟩
 ·cases h
section
variable{H:Type}{enc:TypeId×Value->H}{W:World}{v:Value}{d:DataW H}{ps:List MemPlace}{b0:Nat}
theorem Nt {t:TypeId} {ts:List TypeId} {n:Nat} (hs:∃fs,Tryz.prog.underlying t=some (.struct fs)) (hct:Tryz.prog.cellTypes Tryz.prog.depth t=some ts) (hco:Tryz.prog.cellsOf t=n) (hn:ts.length=n) (hval:Value.okWide Tryz.prog W .any b0 t v):
  ∃l:List Value,v= .agg l.toArray/\l.length=n/\∀(i:Nat) c u,l[i]? =some c->ts[i]? =some u->Cell.okWide Tryz.prog W .any b0 u c:=by
 obtain⟨fs,hs⟩:=hs;unfold Value.okWide at hval;rw[hs]at hval;obtain⟨⟨l⟩,rfl,hsz,ts',h1, -,h2⟩:=hval;rw[hct]at h1;cases h1
 have hll:l.length=n:=by rw[<-hco];simpa using hsz
 refine⟨l,rfl,hll,fun i c u hi hu=> ?_⟩;obtain⟨u',h3,h4⟩:=h2 i c (by simpa using hi);have hlt:i<n:=by rw[<-hll];exact(Ah.1 hi).1
 rw[hn,Nat.mod_eq_of_lt hlt,hu]at h3;cases h3
 exact h4
theorem gO(hval:Value.okWide Tryz.prog W .any b0 25 v)(h:DataW.Trod enc Tryz.prog W 0 (fun _=>true) true 25 v d ps):∃(v0 v1:Value) (S:List Int) (L:List Ar),v= .agg #[v0,v1]/\(InS.mk v0 S.length (S.flatMap intC)).Ok W/\(∀n∈S,R64 n)/\(InS.mk v1 L.length (L.flatMap Ar.c)).Ok W/\(∀a∈L,R64 a.lo/\R64 a.ca/\R64 a.co)/\∃d0 d1,d= .agg [d0,d1]/\Fu d0 S.length/\Fu d1 L.length:=by
 obtain⟨l,rfl,hl,hcell⟩:=Nt ug wB wF rfl hval;obtain⟨v0,v1,rfl⟩:=jV hl;obtain⟨fuel,hf⟩:=h;obtain⟨-,n,xs,hx,hxl,hfld⟩:=KO sJ hf;obtain⟨z0,z1,rfl⟩:=jV hxl;obtain⟨y0,q0,k0⟩:=hfld 0 22 rfl;obtain⟨y1,q1,k1⟩:=hfld 1 23 rfl;cases q0
 cases q1
 obtain⟨E,u1,u2,u3⟩:=pZ;obtain⟨S,hS,rS,nS⟩:=JS u1 u2 u3 (hcell 0 v0 22 rfl rfl) (by simpa[Value.cells]using k0);obtain⟨L,hL,rL,nL⟩:=gQ (hcell 1 v1 23 rfl rfl) (by simpa[Value.cells]using k1);exact⟨v0,v1,S,L,rfl,hS,fun n hn=>J0 (rS n hn),hL,rL,_,_,hx,nS,nL⟩
theorem Vt(hval:Value.okWide Tryz.prog W .any b0 29 v)(h:DataW.Trod enc Tryz.prog W 0 (fun _=>true) true 29 v d ps):∃(k:Int) (v1 v2 v3 v4:Value) (x p:List Int) (s:List Bool) (l:List Int),v= .agg #[.int .i64 k,v1,v2,v3,v4]/\(InS.mk v1 x.length (x.flatMap intC)).Ok W/\(∀n∈x,R64 n)/\(InS.mk v2 p.length (p.flatMap intC)).Ok W/\(∀n∈p,R64 n)/\
  (InS.mk v3 s.length (s.flatMap boolC)).Ok W/\(InS.mk v4 l.length (l.flatMap intC)).Ok W/\∃d0 d1 d2 d3 d4,d= .agg [d0,d1,d2,d3,d4]/\Fu d1 x.length/\Fu d2 p.length/\Fu d3 s.length/\Fu d4 l.length:=by
 obtain⟨l,rfl,hl,hcell⟩:=Nt uf wA wE rfl hval;obtain⟨v0,v1,v2,v3,v4,rfl⟩:=Z4 hl;obtain⟨fuel,hf⟩:=h;obtain⟨-,n,xs,hx0,hxl,hfld⟩:=KO sI hf;obtain⟨z0,z1,z2,z3,z4,rfl⟩:=Z4 hxl;obtain⟨y0,q0,k0⟩:=hfld 0 3 rfl;obtain⟨y1,q1,k1⟩:=hfld 1 22 rfl;obtain⟨y2,q2,k2⟩:=hfld 2 22 rfl;obtain⟨y3,q3,k3⟩:=hfld 3 26 rfl;obtain⟨y4,q4,k4⟩:=hfld 4 27 rfl;cases q0
 cases q1
 cases q2
 cases q3
 cases q4
 obtain⟨E,u1,u2,u3⟩:=pZ;obtain⟨E',w1,w2,w3⟩:=uc;obtain⟨z,e0,_,_⟩:=DataW.trod_int xE k0;have e0':v0= .int .i64 z:=by simpa[Value.cells]using e0
 subst e0';obtain⟨x,hx,rx,nx⟩:=JS u1 u2 u3 (hcell 1 v1 22 rfl rfl) (by simpa[Value.cells]using k1);obtain⟨p,hp,rp,np⟩:=JS u1 u2 u3 (hcell 2 v2 22 rfl rfl) (by simpa[Value.cells]using k2);obtain⟨s,hs,ns⟩:=aF (hcell 3 v3 26 rfl rfl) (by simpa[Value.cells]using k3);obtain⟨l,hl,rl,nl⟩:=JS w1 w2 w3 (hcell 4 v4 27 rfl rfl) (by simpa[Value.cells]using k4);exact⟨z,v1,v2,v3,v4,x,p,s,l,rfl,hx,fun n hn=>J0 (rx n hn),hp,fun n hn=>J0 (rp n hn),hs,hl,_,_,_,_,_,hx0,nx,np,ns,nl⟩
theorem QH{t:TypeId}{T:TypeDesc}(hu:Tryz.prog.underlying t=some T)(h1:∀fs,T≠ .struct fs)(h2:∀n e,T≠ .array n e)(hval:Value.okWide Tryz.prog W .any b0 t v):Cell.okWide Tryz.prog W .any b0 t v:=by
 unfold Value.okWide at hval;rw[hu]at hval;split at hval
 ·rename_i fs e;cases e;exact absurd rfl (h1 _)
 ·rename_i n e' e;cases e;exact absurd rfl (h2 _ _)
 ·exact hval
theorem MX(hval:Value.okWide Tryz.prog W .any b0 30 v)(h:DataW.Trod enc Tryz.prog W 0 (fun _=>true) true 30 v d ps):∃l:List Int,(InS.mk v l.length (l.flatMap fun n=>[.int .u8 n])).Ok W/\(∀n∈l,0<=n/\n<256)/\Fu d l.length:=by
 have hc:=QH dS.1 (fun _ e=>by cases e) (fun _ _ e=>by cases e) hval;obtain⟨a,n,c,rfl⟩:=okWide_slice dS.1 hval;obtain⟨fuel,hf⟩:=h;obtain⟨l,hl,rl,nl⟩:=JS dS.1 tw dS.2 hc (by simpa[Value.cells]using hf);exact⟨l,hl,fun n hn=>pS (rl n hn),nl⟩
theorem je(h:DataW.Trod enc Tryz.prog W 0 (fun _=>true) true 5 v d ps)(hval:Value.okWide Tryz.prog W .any b0 5 v):∃z:Int,v= .int .u8 z/\0<=z/\z<256:=by
 have hc:=QH tw (fun _ e=>by cases e) (fun _ _ e=>by cases e) hval;unfold Cell.okWide at hc;rw[tw]at hc;have hc2:Cell.ok Tryz.prog W .any b0 5 v:=by
  cases v<;>first|exact hc|exact hc.elim
 unfold Cell.ok at hc2;rw[tw]at hc2;cases v<;>simp only at hc2
 obtain⟨rfl,h1,h2⟩:=hc2;have m1:IntKind.u8.min=0:=dZ;have m2:IntKind.u8.max=255:=dZ;rw[m1]at h1;rw[m2]at h2;exact⟨_,rfl,h1,om⟩
end
end
end
section
section
set_option maxRecDepth 4000
open Go.Conc Go.Proofs
theorem um:∃fn,Tryz.prog.funcs[3]? =some fn/\fn.results= #[.tmp 16]:=⟨_,Tryz.func3,rfl⟩
theorem vY:Tryz.prog.inits.idxOf? 3=none:=kr
theorem fC{W:World}{a0 a1 b1 b2 b3 b4 c1 c2 c3 c4 e1 e2 e3:Value}{S:List Int}{L:List Ar}{k1 k2 kn at_:Int}{x1 p1 l1 x2 p2 l2 m1 m2 m3:List Int}{s1 s2:List Bool}
  (hS: (InS.mk a0 S.length (S.flatMap intC)).Ok W)(rS:∀n∈S,R64 n)(hL: (InS.mk a1 L.length (L.flatMap Ar.c)).Ok W)(rL:∀a∈L,R64 a.lo/\R64 a.ca/\R64 a.co)
  (hb1: (InS.mk b1 x1.length (x1.flatMap intC)).Ok W)(rx1:∀n∈x1,R64 n)(hb2: (InS.mk b2 p1.length (p1.flatMap intC)).Ok W)(rp1:∀n∈p1,R64 n)(hb3: (InS.mk b3 s1.length (s1.flatMap boolC)).Ok W)(hb4: (InS.mk b4 l1.length (l1.flatMap intC)).Ok W)
  (hc1: (InS.mk c1 x2.length (x2.flatMap intC)).Ok W)(rx2:∀n∈x2,R64 n)(hc2: (InS.mk c2 p2.length (p2.flatMap intC)).Ok W)(rp2:∀n∈p2,R64 n)(hc3: (InS.mk c3 s2.length (s2.flatMap boolC)).Ok W)(hc4: (InS.mk c4 l2.length (l2.flatMap intC)).Ok W)
  (he1: (InS.mk e1 m1.length (m1.flatMap fun n=>[.int .u8 n])).Ok W)(r1:∀n∈m1,0<=n/\n<256)(he2: (InS.mk e2 m2.length (m2.flatMap fun n=>[.int .u8 n])).Ok W)(r2:∀n∈m2,0<=n/\n<256)(he3: (InS.mk e3 m3.length (m3.flatMap fun n=>[.int .u8 n])).Ok W)(r3:∀n∈m3,0<=n/\n<256)
  (hkn:0<=kn/\kn<256)(hat_:0<=at_/\at_<256)(N:Nat)(hN:N=1152921504606846976)(bS:S.length<N/\L.length<N)(bb:x1.length<N/\p1.length<N/\s1.length<N/\l1.length<N)(bc:x2.length<N/\p2.length<N/\s2.length<N/\l2.length<N)(be:m1.length<N/\m2.length<N/\m3.length<N):
  Fin Tryz.prog (Ib W) (crowd #[G (Frame.enter Tryz.prog 3 #[.agg #[a0,a1],.agg #[.int .i64 k1,b1,b2,b3,b4],.agg #[.int .i64 k2,c1,c2,c3,c4],e1,e2,e3,.int .u8 kn,.int .u8 at_] .normal) []] W none) #[]:=by
 subst hN;obtain⟨fn,hf,hres⟩:=um;let LL:List InS:=[⟨a0,S.length,S.flatMap intC⟩,⟨a1,L.length,L.flatMap Ar.c⟩,⟨b1,x1.length,x1.flatMap intC⟩,⟨b2,p1.length,p1.flatMap intC⟩,⟨b3,s1.length,s1.flatMap boolC⟩,⟨b4,l1.length,l1.flatMap intC⟩,⟨c1,x2.length,x2.flatMap intC⟩,⟨c2,p2.length,p2.flatMap intC⟩,⟨c3,s2.length,s2.flatMap boolC⟩,⟨c4,l2.length,l2.flatMap intC⟩,
  ⟨e1,m1.length,m1.flatMap fun n=>[.int .u8 n]⟩,⟨e2,m2.length,m2.flatMap fun n=>[.int .u8 n]⟩,⟨e3,m3.length,m3.flatMap fun n=>[.int .u8 n]⟩]
 have hall:∀x∈LL,x.Ok W:=by
  intro x hx;simp only[LL,AV,Ai,or_false]at hx;rcases hx with rfl|rfl|rfl|rfl|rfl|rfl|rfl|rfl|rfl|rfl|rfl|rfl|rfl<;>assumption
 letI:=KL (Ib W) W
 have hrej:=XH (gE (Ib W) W) (H:=aH LL) (kd1:=k1) (kd2:=k2) (c:=(InS.mk a0 S.length (S.flatMap intC)).c) (d:=(InS.mk a1 L.length (L.flatMap Ar.c)).c)
  (cf1:=(InS.mk b1 x1.length (x1.flatMap intC)).c) (cp1:=(InS.mk b2 p1.length (p1.flatMap intC)).c) (cs1:=(InS.mk b3 s1.length (s1.flatMap boolC)).c) (cy1:=(InS.mk b4 l1.length (l1.flatMap intC)).c)
  (cf2:=(InS.mk c1 x2.length (x2.flatMap intC)).c) (cp2:=(InS.mk c2 p2.length (p2.flatMap intC)).c) (cs2:=(InS.mk c3 s2.length (s2.flatMap boolC)).c) (cy2:=(InS.mk c4 l2.length (l2.flatMap intC)).c)
  (cc:=(InS.mk e1 m1.length (m1.flatMap fun n=>[.int .u8 n])).c) (cd:=(InS.mk e2 m2.length (m2.flatMap fun n=>[.int .u8 n])).c) (ce:=(InS.mk e3 m3.length (m3.flatMap fun n=>[.int .u8 n])).c)
  (Gf (j:=0) (L:=LL) rfl hS rfl rfl fun _=>rfl) (Gf (j:=1) (L:=LL) rfl hL rfl rfl fun _=>rfl) rS rL bS
  (Gf (j:=2) (L:=LL) rfl hb1 rfl rfl fun _=>rfl) (Gf (j:=3) (L:=LL) rfl hb2 rfl rfl fun _=>rfl) (Gf (j:=4) (L:=LL) rfl hb3 rfl rfl fun _=>rfl) (Gf (j:=5) (L:=LL) rfl hb4 rfl rfl fun _=>rfl) rx1 rp1 bb
  (Gf (j:=6) (L:=LL) rfl hc1 rfl rfl fun _=>rfl) (Gf (j:=7) (L:=LL) rfl hc2 rfl rfl fun _=>rfl) (Gf (j:=8) (L:=LL) rfl hc3 rfl rfl fun _=>rfl) (Gf (j:=9) (L:=LL) rfl hc4 rfl rfl fun _=>rfl) rx2 rp2 bc
  (Gf (j:=10) (L:=LL) rfl he1 rfl rfl fun _=>rfl) r1 be.1 (Gf (j:=11) (L:=LL) rfl he2 rfl rfl fun _=>rfl) r2 be.2.1 (Gf (j:=12) (L:=LL) rfl he3 rfl rfl fun _=>rfl) r3 be.2.2 hkn hat_
 refine dJ W (hrej.2.mono fun v H' q=>q.1) (nH hall) ?_ hf hres vY;have vr:∀(j:Nat) (x:InS),LL[j]? =some x->vrel (jf LL) (dom (aH LL)) (.slice (x.A j) x.n x.c) x.v:=fun j x h=>gM h (hall x (Ao h))
 simp only[BZ];refine⟨_,_,rfl,?_,_,_,rfl,?_,_,_,rfl,?_,_,_,rfl,vr 10 _ rfl,_,_,rfl,vr 11 _ rfl,_,_,rfl,vr 12 _ rfl,_,_,rfl,Bb.2 rfl,_,_,rfl,Bb.2 rfl,rfl⟩
 ·simp only[vrel];refine⟨_,rfl,Bj.2 ?_⟩;simp only[BZ];exact⟨_,_,rfl,vr 0 _ rfl,_,_,rfl,vr 1 _ rfl,rfl⟩
 ·simp only[vrel];refine⟨_,rfl,Bj.2 ?_⟩;simp only[BZ];exact⟨_,_,rfl,Bb.2 rfl,_,_,rfl,vr 2 _ rfl,_,_,rfl,vr 3 _ rfl,_,_,rfl,vr 4 _ rfl,_,_,rfl,vr 5 _ rfl,rfl⟩
 ·simp only[vrel];refine⟨_,rfl,Bj.2 ?_⟩;simp only[BZ];exact⟨_,_,rfl,Bb.2 rfl,_,_,rfl,vr 6 _ rfl,_,_,rfl,vr 7 _ rfl,_,_,rfl,vr 8 _ rfl,_,_,rfl,vr 9 _ rfl,rfl⟩
end
end
section
section
set_option maxRecDepth 4000
open Go.Conc Go.Proofs
section
variable{H:Type}{enc:TypeId×Value->H}{P:Program}{W:World}{b0:Nat}
variable{ps:List MemPlace}
theorem Bt {t:TypeId} {ts:List TypeId} {vs:List Value} {ds:List (DataW H)}  {b:Nat} {sp:Nat->Bool} {hd:Bool} (h:DataW.TrodAll enc P W b sp hd (t::ts) vs ds ps):∃v vs' d ds' p q,vs=v::vs'/\ds=d::ds'/\ps=p++q/\DataW.Trod enc P W b sp hd t v d p/\DataW.TrodAll enc P W b sp hd ts vs' ds' q:=by
 match vs,ds,h with
 |v::vs,d::ds,h=>
  obtain⟨p,q,h1,h2,rfl⟩:=h;exact⟨v,vs,d,ds,p,q,rfl,rfl,rfl,h1,h2⟩
 |[],_,h=>exact h.elim
 |_::_,[],h=>exact h.elim
theorem Kg{vs:List Value}{ds:List (DataW H)}{b:Nat}{sp:Nat->Bool}{hd:Bool}(h:DataW.TrodAll enc P W b sp hd [] vs ds ps):vs=[]/\ds=[]/\ps=[]:=by
 match vs,ds,h with
 |[],[],h=>exact⟨rfl,rfl,h⟩
 |[],_::_,h=>exact h.elim
 |_::_,_,h=>exact h.elim
def Pu(N:Nat):DataW H->Prop
 | .slice es _=>es.length<N
 | .agg l=>∀es sp,DataW.slice es sp∈l->es.length<N
 |_=>True
theorem Fu.lt{d:DataW H}{n N:Nat}(hN:0<N)(h:Fu d n)(k:Pu N d):n<N:=by
 rcases h with⟨rfl,rfl⟩|⟨es,sp,rfl,rfl⟩
 ·exact hN
 ·exact k
theorem Fu.ltm{d:DataW H}{l:List (DataW H)}{n N:Nat}(hN:0<N)(h:Fu d n)(hd:d∈l)(k:Pu N (.agg l)):n<N:=by
 rcases h with⟨rfl,rfl⟩|⟨es,sp,rfl,rfl⟩
 ·exact hN
 ·exact k es sp hd
theorem fB{args:Array Value}{ds:List (DataW H)}(hval:∀(j:Nat) t v,([25,29,29,30,30,30,5,5]:List TypeId)[j]? =some t->args[j]? =some v->Value.okWide Tryz.prog W .any b0 t v)
  (h:DataW.TrodAll enc Tryz.prog W 0 (fun _=>true) true [25,29,29,30,30,30,5,5] args.toList ds ps)(hs:∀d∈ds,Pu 1152921504606846976 d):
  Fin Tryz.prog (Ib W) (crowd #[G (Frame.enter Tryz.prog 3 args .normal) []] W none) #[]:=by
 obtain⟨args⟩:=args;have hval':∀(j:Nat) t v,([25,29,29,30,30,30,5,5]:List TypeId)[j]? =some t->args[j]? =some v->Value.okWide Tryz.prog W .any b0 t v:=fun j t v h1 h2=>hval j t v h1 (by simpa using h2)
 obtain⟨v0,_,d0,_,_,_,rfl,rfl,rfl,t0,h⟩:=Bt h;obtain⟨v1,_,d1,_,_,_,rfl,rfl,rfl,t1,h⟩:=Bt h;obtain⟨v2,_,d2,_,_,_,rfl,rfl,rfl,t2,h⟩:=Bt h;obtain⟨v3,_,d3,_,_,_,rfl,rfl,rfl,t3,h⟩:=Bt h;obtain⟨v4,_,d4,_,_,_,rfl,rfl,rfl,t4,h⟩:=Bt h;obtain⟨v5,_,d5,_,_,_,rfl,rfl,rfl,t5,h⟩:=Bt h;obtain⟨v6,_,d6,_,_,_,rfl,rfl,rfl,t6,h⟩:=Bt h;obtain⟨v7,_,d7,_,_,_,rfl,rfl,rfl,t7,h⟩:=Bt h;obtain⟨rfl,rfl,rfl⟩:=Kg h;have p0:0<1152921504606846976:=dZ;obtain⟨a0,a1,S,L,rfl,hS,rS,hL,rL,x0,x1,rfl,nS,nL⟩:=gO (hval' 0 25 v0 rfl rfl) t0;obtain⟨k1,b1,b2,b3,b4,X1,P1,S1,L1,rfl,hb1,rx1,hb2,rp1,hb3,hb4,y0,y1,y2,y3,y4,rfl,m1,m2,m3,m4⟩:=Vt (hval' 1 29 v1 rfl rfl) t1;obtain⟨k2,c1,c2,c3,c4,X2,P2,S2,L2,rfl,hc1,rx2,hc2,rp2,hc3,hc4,z0,z1,z2,z3,z4,rfl,n1,n2,n3,n4⟩:=Vt (hval' 2 29 v2 rfl rfl) t2;obtain⟨M1,he1,r1,q1⟩:=MX (hval' 3 30 v3 rfl rfl) t3;obtain⟨M2,he2,r2,q2⟩:=MX (hval' 4 30 v4 rfl rfl) t4;obtain⟨M3,he3,r3,q3⟩:=MX (hval' 5 30 v5 rfl rfl) t5;obtain⟨kn,rfl,hkn⟩:=je t6 (hval' 6 5 v6 rfl rfl);obtain⟨at_,rfl,hat_⟩:=je t7 (hval' 7 5 v7 rfl rfl);have s0:=hs _ (List.mem_cons_self ..);have s1:=hs (.agg [y0,y1,y2,y3,y4]) (by simp);have s2:=hs (.agg [z0,z1,z2,z3,z4]) (by simp);exact fC hS rS hL rL hb1 rx1 hb2 rp1 hb3 hb4 hc1 rx2 hc2 rp2 hc3 hc4 he1 r1 he2 r2 he3 r3 hkn hat_ _ rfl ⟨nS.ltm p0 (by simp) s0,nL.ltm p0 (by simp) s0⟩ ⟨m1.ltm p0 (by simp) s1,m2.ltm p0 (by simp) s1,m3.ltm p0 (by simp) s1,m4.ltm p0 (by simp) s1⟩ ⟨n1.ltm p0 (by simp) s2,n2.ltm p0 (by simp) s2,n3.ltm p0 (by simp) s2,n4.ltm p0 (by simp) s2⟩ ⟨q1.lt p0 (hs _ (by simp)),q2.lt p0 (hs _ (by simp)),q3.lt p0 (hs _ (by simp))⟩
end
end
end
section
section
set_option maxRecDepth 4000
open Go.Conc Go.Proofs Go.RowKit
section
open Go.ChangeShapes Go.WideShapes Go.ChangeAt
variable{H:Type}{enc:TypeId×Value->H}{P:Program}
theorem NT {f:Func} {s:ChangeSpec} {apart fresh handsOn again:Bool} {W W':World} {args:Array Value} {v:Value} {ds gs:List (DataW H)} {before pa pv:List MemPlace}
  (hW:DataW.Whole enc P f.params.toList s.vars apart W args.toList ds gs before)
  (hres:∀(b:Nat) (sp:Nat->Bool) (hd:Bool),DataW.TrodAll enc P W' b sp hd f.resultTypes.toList (v.resultList f.resultTypes.size) (s.fn H (ds++gs)).results [])
  (hargs:∀sp:Nat->Bool,(∀p∈before,sp p.block=true)->DataW.TrodAll enc P W' 0 sp true f.params.toList args.toList (s.fn H (ds++gs)).args pa)
  (hvars:∀sp:Nat->Bool,(∀p∈before,sp p.block=true)->DataW.TrodVars enc P W' sp s.vars (s.fn H (ds++gs)).vars pv)
  (hps:before=pa++pv) (hb:Below W.heap.size W W')
  (hok:∀(j:Nat) (t:TypeId) (r:Value),f.resultTypes[j]? =some t->(v.resultList f.resultTypes.size)[j]? =some r->Value.okWide P W' .any 0 t r):
  s.post enc P f apart fresh handsOn again W args v W':=by
 have hlt:∀p∈before,p.block<W.heap.size:=fun p hp=>hW.lt p hp
 have hold:∀p∈before,(fun b=>decide (b<W.heap.size)) p.block=true:=fun p hp=>by simpa using hlt p hp
 refine⟨ds,gs,before,[],pa,pv,hW,hres _ _ _,hargs _ hold,hvars _ hold,World.keptBut_mono (fun p hp=>⟨hp,?_⟩) (hb.frame (· ∈before)),fun _=> ?_⟩
 ·rw[hps,Ax]at hp;exact Or.inr hp
 ·obtain⟨_,_,_,_,_,hz,hn⟩:=hW;refine⟨hok,_,_,([]++pa)++pv,⟨[]++pa,pv,trodAll_append (hargs _ (fun _ _=>rfl)) (hres _ _ _),hvars _ (fun _ _=>rfl),rfl,?_,?_⟩,?_⟩
  ·intro b off hp;have hin:MemPlace.cell b off∈before:=by rw[hps];simpa using hp
   rw[hb.frozen (hlt _ hin)];exact hz b off hin
  ·intro ha;have:=hn ha;rw[hps]at this;simpa using this
  ·intro p hp _;rw[hps];simpa using hp
theorem I4(hl:laidOutB P=true){W W':World}(hb:Below W.heap.size W W'){sp:Nat->Bool}:∀{ts:List TypeId} {vs:List Value} {ds:List (DataW H)} {ps:List MemPlace},(∀t∈ts,P.readableRec t=true/\t<P.types.size)->
  DataW.TrodAll enc P W 0 (fun _=>true) true ts vs ds ps->(∀p∈ps,p.block<W.heap.size)->(∀p∈ps,sp p.block=true)->DataW.TrodAll enc P W' 0 sp true ts vs ds ps
 |[],[],[],_,_,h,_,_=>h
 |t::ts,v::vs,d::ds,ps,ht,h,hlt,hsp=>by
  obtain⟨p,q,h1,h2,rfl⟩:=h;refine⟨p,q,WideElems.Trod_stays hl (ht t (by simp)).1 (ht t (by simp)).2 h1 (fun x hx=>hb.same (hlt x (List.mem_append_left _ hx))) (fun x hx=>hsp x (List.mem_append_left _ hx)),?_,rfl⟩;exact I4 hl hb (fun t' ht'=>ht t' (by simp[ht'])) h2 (fun x hx=>hlt x (List.mem_append_right _ hx)) (fun x hx=>hsp x (List.mem_append_right _ hx))
 |[],_::_,_,_,_,h,_,_=>h.elim
 |[],[],_::_,_,_,h,_,_=>h.elim
 |_::_,[],_,_,_,h,_,_=>h.elim
 |_::_,_::_,[],_,_,h,_,_=>h.elim
end
theorem bU{H:Type}(d:DataW H):1<=Rows.uptoBulk d:=by
 cases d with
 |lit l=>cases l<;>simp[Rows.uptoBulk]
 |_=>simp[Rows.uptoBulk]
theorem M5{H:Type}:∀es:List (DataW H),es.length<=Rows.uptoBulkAll es
 |[]=>Nat.zero_le _
 |d::r=>by
  have h1:=bU d;have h2:=M5 r;simp only[Rows.uptoBulkAll,AY];omega
theorem M4{H:Type}{d:DataW H}:∀{es:List (DataW H)},d∈es->Rows.uptoBulk d<=Rows.uptoBulkAll es
 |e::r,h=>by
  simp only[Rows.uptoBulkAll];rcases AV.1 h with rfl|h
  ·omega
  ·have:=M4 h;omega
theorem TM{H:Type}{ds:List (DataW H)}(h:Rows.uptoBulkAll ds<=1048576):∀d∈ds,Pu 1152921504606846976 d:=fun d hd=>by
 have h1:=M4 hd;cases d with
 |slice es sp=>
  have h2:=M5 es;simp only[Rows.uptoBulk]at h1;show es.length<_
  omega
 |agg l=>
  intro es sp he;have h2:=M4 he;have h3:=M5 es;simp only[Rows.uptoBulk]at h1 h2;omega
 |_=>trivial
theorem bj{W w:World}{v:Value}(h:Ib W v w):v= .bool true/\Below W.heap.size W w:=by
 obtain⟨h1,h2,h3,h4,h5,h6⟩:=h;exact⟨h1,⟨h5,h4,h6,h3,h2⟩⟩
end
end
section
open Go.Conc Go.Proofs Go.RowKit Go.ChangeShapes Go.WideShapes Go.ChangeAt
theorem gB:laidOutB Tryz.prog=true:=kr
theorem par3:Tryz.f3.params.toList=[25,29,29,30,30,30,5,5]:=rfl
noncomputable abbrev th:Array Value:= #[.agg #[.slice none 0 0,.slice none 0 0],.agg #[.int .i64 0,.slice none 0 0,.slice none 0 0,.slice none 0 0,.slice none 0 0],.agg #[.int .i64 0,.slice none 0 0,.slice none 0 0,.slice none 0 0,.slice none 0 0],.slice none 0 0,.slice none 0 0,.slice none 0 0,.int .u8 0,.int .u8 0]
noncomputable def wR(os:Os):World:=
 let w0:=World.holding Tryz.prog os ⟨#[],#[],[]⟩
 {w0 with heap:=w0.heap.modify 0 fun
   | .cells _ t frozen=> .cells #[.iface 397 (.agg #[.pointer (some ⟨1,304,none⟩)])] t frozen
   |o=>o}
theorem dy(os:Os): ((wR os).forCall (fun _ _=>0) ⟨#[],th,[]⟩).Shaped Tryz.prog:=
 World.shaped_of_ZipB kr kr
theorem vJ(os:Os):laidMetH Tryz.prog Rows.topRejectsUptoRow.laid ((wR os).forCall (fun _ _=>0) ⟨#[],th,[]⟩).memory:=
 laidMetH_of_parts (laidMet_nil _ _) kr
theorem lifted(os:Os)(started:os.Started)(H:Type)(enc:TypeId×Value->H)(F:Stop.Interp):
  ReturnsInLeavingWide {} Tryz.checked os 3 .any ((Rows.OpenSpec.upto Rows.topRejectsSpec).preRow enc Tryz.prog Tryz.f3 Rows.topRejectsUptoRow.domain false Rows.topRejectsUptoRow.laid) (((Rows.OpenSpec.upto Rows.topRejectsSpec).at F).post enc Tryz.prog Tryz.f3 false true false false):=by
 have hx:DataW.whole enc Tryz.prog ((wR os).forCall (fun _ _=>0) ⟨#[],th,[]⟩).memory Tryz.f3.params.toList Rows.topRejectsSpec.vars false th.toList 8=some ([.agg [.nil,.nil],.agg [.lit (.int .i64 0),.nil,.nil,.nil,.nil],.agg [.lit (.int .i64 0),.nil,.nil,.nil,.nil],.nil,.nil,.nil,.lit (.int .u8 0),.lit (.int .u8 0)],[],[]):=kr;refine returnsInLeavingWide_of_good (C:=Tryz.checked) kr started ⟨wR os,fun _ _=>0,⟨#[],th,[]⟩,rfl,dy os,rfl,(Input.okWide_of_okWideB (base:=0) kr).2,OpenSpec.preRow_of_cond 8 hx kr (fun k hk=>by cases hk;rfl) kr (vJ os),by
  simp only[Assume.holds];exact⟨by simp,by simp,by simp,by simp,by simp⟩⟩ ?_
 intro w tape i _ hsh _ hok hpre hholds;obtain⟨_,_,_,fn',hfn',_,_,_,_,hval⟩:=hok;have e:fn'=Tryz.f3:=AC (hfn'.symm.trans Tryz.func3);subst e;obtain⟨⟨hp,hl⟩,hz⟩:=hpre;obtain⟨ds,gs,before,hw,hc,hk⟩:=OpenSpec.pre_parts hp;have hw':DataW.Whole enc Tryz.prog Tryz.f3.params.toList Rows.topRejectsSpec.vars false (w.forCall tape i) i.args.toList ds gs before:=DataW.Whole.of_heap (w':=w.forCall tape i) (by rfl) hw;have hbulk:=hk Rows.uptoSmall rfl;have hlt:∀p∈before,p.block<(w.forCall tape i).heap.size:=fun p hp=>hw'.lt p hp
 obtain⟨p,q,hA,hV,rfl,_,_⟩:=id hw';obtain⟨rfl,rfl⟩:=trodVars_none hV;simp only[List.append_nil]at hbulk hw' hlt;have hb2:Rows.uptoBulkAll ds<=1048576:=BA hbulk;rw[par3]at hA;obtain⟨N,last,o,w',t',h1,h2,h3,h4⟩:=fB (args:=i.args) (fun j t v hj hv=>hval j t v (by rw[<-Ae,par3];exact hj) hv) hA (TM hb2);refine⟨N,last,o,w',t',h1,h2,h3,h4.mono fun v hp=>ChangeSpec.post_blind ?_⟩;obtain⟨rfl,hb⟩:=bj hp;have hA2:=hA;obtain⟨v0,_,d0,_,_,_,_,rfl,_,_,h⟩:=Bt hA2;obtain⟨v1,_,d1,_,_,_,_,rfl,_,_,h⟩:=Bt h;obtain⟨v2,_,d2,_,_,_,_,rfl,_,_,h⟩:=Bt h;obtain⟨v3,_,d3,_,_,_,_,rfl,_,_,h⟩:=Bt h;obtain⟨v4,_,d4,_,_,_,_,rfl,_,_,h⟩:=Bt h;obtain⟨v5,_,d5,_,_,_,_,rfl,_,_,h⟩:=Bt h;obtain⟨v6,_,d6,_,_,_,_,rfl,_,_,h⟩:=Bt h;obtain⟨v7,_,d7,_,_,_,_,rfl,_,_,h⟩:=Bt h;obtain⟨_,rfl,_⟩:=Kg h;exact NT (s:=Rows.topRejectsSpec) (pa:=p) (pv:=[]) hw' (fun _ _ _=>trodAll_mk1 (shut_bool Tryz.underlying4 true)) (fun sp hsp=>I4 gB hb (by decide+kernel) hA (fun p hp=>hlt p (by simpa using hp)) (fun p hp=>hsp p (by simpa using hp))) (fun _ _=>rfl) (by simp) hb (ok_one kr rfl (okWide_bool_mk Tryz.underlying4 true))
end
section
open Go.Conc Go.Proofs Go.RowKit
set_option maxHeartbeats 8000000 in
theorem J7:joinedFacts Tryz.pinned.checked.prog 3 Tryz.f3 (Rows.OpenSpec.upto Rows.topRejectsSpec).bare Rows.topRejectsUptoRow=true:=by
 unfold joinedFacts;simp only[AA];and_intros<;>as_aux_lemma=>kernel_rfl
theorem K7:Rows.TopRejectsUptoSaid:=
 leaving.holds_of_cond_leaving 3 Tryz.f3 rfl rfl rfl rfl rfl rfl rfl ⟨rfl,rfl,rfl,rfl,rfl⟩ rfl rfl rfl rfl rfl kr Tryz.func3 J7
  (BA kr) (by unfold Func.isWrapper;first|(rw[if_pos (by decide+kernel)];kernel_rfl)|(rw[if_neg (by decide+kernel)];exact⟨rfl,rfl⟩))
  (fun os started H enc _ F=>by rw[OpenClaim.pre_eq_preRow];exact lifted os started H enc F)
theorem J6(f:FuncId)(fn:Func)(hf:Tryz.pinned.checked.prog.funcNamed "quittance/quittancetop.TopRejects"=some f)(hfn:Tryz.pinned.checked.prog.funcs[f]? =some fn):
  true=Tryz.pinned.checked.prog.looks []/\∀(j:Nat) t,fn.params[j]? =some t->Tryz.pinned.checked.prog.wantsStandIn t=false:=by
 obtain rfl:f=3:=AC ((show Tryz.prog.funcNamed "quittance/quittancetop.TopRejects"=some 3 from kr).symm.trans hf)|>.symm;obtain rfl:fn=Tryz.f3:=(AC (Tryz.func3.symm.trans hfn)).symm;refine⟨kr,fun j t ht=> ?_⟩;have hm:t∈[25,29,29,30,30,30,5,5]:=by rw[<-par3];exact Array.mem_toList_iff.2 (Array.mem_of_getElem? ht)
 have hall: ([25,29,29,30,30,30,5,5].all fun u=> !Tryz.prog.wantsStandIn u)=true:=kr;exact(show Tryz.prog.wantsStandIn t=false by simpa using AS.1 hall t hm)
theorem K8:Tryz.pinned.checked.prog.mainIs=some (Rows.topRejectsUptoCard.stood.harness.1,Rows.topRejectsUptoCard.stood.harness.2.toList):=kr
theorem K9:true=Rows.topRejectsUptoRow.goesBy Tryz.pinned.checked.prog:=kr
theorem NN:Rows.topRejectsUptoRow.wfByText (Rows.OpenSpec.upto Rows.topRejectsSpec)=true:=kr
theorem topRejects_card:Rows.TopRejectsUptoCardSaid:=
 ⟨Claim7.tied_new_at .later [.handle] true (Claim7.new_of_sixth K7 Rows.topRejectsUptoCard.stood.harness true rfl ⟨rfl,rfl⟩ K8 rfl J6) NN,(fun _ h=>by cases h),topRejectsUpto_row_tie,(fun h=>by cases h),K9⟩
end
end Go.Proofs.YtjlallgaadmeaaaGreatDoor
