/- Parts of the proof, joined: HM HN HO HP HQ HR HS HT HU HV HW HX HY IB IC ID IE IF IG. Conditions: none. -/
import Derived.Test.YtjlallgaadmeaaaGreatDoorM06
set_option linter.unusedVariables false
set_option linter.unusedSimpArgs false
set_option linter.unusedSectionVars false
set_option maxRecDepth 100000
namespace Go.Proofs.YtjlallgaadmeaaaGreatDoor
section
open Go.Conc Go.Proofs
variable[Md]
section
variable{ops:Array Oper}{n nf:Nat}{ds:List Deferred}{t:Nat->Value}{H G:Hp}{cls l:List Nat}{Rf:Nat->Hp->Value->Hp->Prop}{B:Hp}{n0:Nat}{Q:AF->Hp->Prop}{i:Nat}{o:Oper}
noncomputable def n6(ops:Array Oper)(cls:List Nat)(i:Nat):Option (Oper×Nat):=match LE ops.toList i with
 |some o=>match o.dst,o.guard with
  |some d,none=>bif Nat.beq (Bm cls i) 1 then some (o,d)else none
  |_,_=>none
 |none=>none
theorem gv{d:Nat}(h:n6 ops cls i=some (o,d)):ops[i]? =some o/\Bm cls i=1/\o.dst=some d/\o.guard=none:=by
 unfold n6 at h;split at h
 ·rename_i o' ho;split at h
  ·rename_i d' h1 h2;cases hb:Nat.beq (Bm cls i) 1 with
   |false=>rw[hb]at h;cases h
   |true=>rw[hb]at h;cases h;exact⟨GE ho,AE hb,h1,h2⟩
  ·cases h
 ·cases h
theorem xk{d:Nat}{x:Operand}{g:FuncId}{first cap:Array Value}{args:List Operand}{ats:Array TypeId}{vs:List Value}{v:Value}(hk:n6 ops cls i=some (o,d))(hop:o.op= .call {callee:= .value x,args:=⟨args⟩,argTypes:=ats})(hx:eT t x= .func (.func g) first cap)(hv:first.toList++args.map (eT t)++cap.toList=vs)(h:∀G,Ext H G->Pure g vs v G)(k:WD ops (Bm cls) n ds Rf B n0 Q l (st t d v) H G nf):WD ops (Bm cls) n ds Rf B n0 Q (i::l) t H G nf:=by
 obtain⟨ho,hc,hd,hg⟩:=gv hk;refine⟨o,ho,?_⟩;rw[hc];refine⟨v,?_,by unfold pt;rw[hd];exact k⟩;unfold Rv;rw[if_pos (BY hg _)];intro G a hG _;obtain⟨⟨fn,c,hf,hb⟩,h⟩:=h G hG;refine WOp.call hop hx hf hb (C4 hf) ?_;dsimp only;rw[hv];exact h
theorem vx{d dj:Nat}{w c:Bool}{x:Operand}{g:FuncId}{first cap:Array Value}{args:List Operand}{ats:Array TypeId}{vs:List Value}{v:Value}(hk:TE ops cls 1 i=some (o,d,dj,w))(hop:o.op= .call {callee:= .value x,args:=⟨args⟩,argTypes:=ats})(hg: (ob (t dj)==some w)=c)(hx:c=true->eT t x= .func (.func g) first cap)(hv:c=true->first.toList++args.map (eT t)++cap.toList=vs)(h:c=true->∀G,Ext H G->Pure g vs v G)(k:WD ops (Bm cls) n ds Rf B n0 Q l (st t d (gw c v)) H G nf):WD ops (Bm cls) n ds Rf B n0 Q (i::l) t H G nf:=by
 obtain⟨ho,hc,hd,hw⟩:=Pf (t:=t) hk;rw[hg]at hw;refine⟨o,ho,?_⟩;rw[hc];refine⟨gw c v,?_,by unfold pt;rw[hd];exact k⟩;unfold Rv;rw[hw];cases c with
 |true=>
  rw[if_pos rfl];intro G a hG _;obtain⟨⟨fn,c,hf,hb⟩,h⟩:=h rfl G hG;refine WOp.call hop (hx rfl) hf hb (C4 hf) ?_;dsimp only;rw[hv rfl];exact h
 |false=>rw[if_neg (by simp)];rfl
end
def GD(n:Nat)(x:List Bool)(a:Ar):Bool:=CG n a&& !(Ij x a.f==Ij x a.t)
theorem ja{H:Hp}{b N c:Nat}{A:Option Addr}{u:Value}(hb:H b=some (.own [.slice A N c,u]))(a:Int):Pure 185 [.int .i64 a,.pointer (some ⟨b,0,none⟩)] (.bool (DS N a)) H:=by
 refine Pure.of rfl (BV Tryz.func185 rfl 13 rfl fun nf t hf _ ht=> ?_);have hf0:=hf;have lb:=hf.lt hb;refine BO (BQ ?_);have fz:=ai hb (ai (ht 1 _ rfl) (ht 0 _ rfl));refine xq (BP (BO (BQ ?_)));iterate 10 first|refine xq ?_|refine xg ?_
 refine BP (BT (rt ?_));exact BW rfl ⟨by(unfold DS;exact xv),xx⟩
theorem mX{H:Hp}(S:List Int)(L:List Ar)(x:List Bool)(A B X:Option Addr)(c d e:Nat):Ct 149 [.agg #[.slice A S.length c,.slice B L.length d],.slice X x.length e] (fun v H'=>Ext H H'/\∃b1 b2 b3,v= .func (.func 186) #[] #[.pointer (some ⟨b1,0,none⟩),.pointer (some ⟨b2,0,none⟩),.pointer (some ⟨b3,0,none⟩)]/\H' b1=some (.own [.slice A S.length c,.slice B L.length d])/\H' b2=some (.own [.func (.func 185) #[] #[.pointer (some ⟨b1,0,none⟩)]])/\H' b3=some (.own [.slice X x.length e])/\H b1=none/\H b2=none/\H b3=none) H:=by
 refine BV Tryz.func149 rfl 8 rfl fun nf t hf hsc ht=> ?_
 have hf0:=hf;refine BO (BQ ?_);have fz:=ai (ht 1 _ rfl) (ht 0 _ rfl);refine xa fun hf=> ?_
 refine xa fun hf=> ?_
 refine xq (BP (BO (BQ ?_)));refine xq ?_;refine xa fun hf=> ?_
 refine xs fun hf=> ?_
 refine BP (BO (BQ (Ba (BP (BT (rt ?_))))));exact BW rfl ⟨by(repeat refine Ext.up (hf0 _ om) ?_);exact Ext.refl _,nf,nf+2,nf+1,xv,xy,xv,xy,hf0 _ om,hf0 _ om,hf0 _ om⟩
def NP(x:List Bool)(a:Ar):Int:=if Ij x a.f=true then 1 else -1
set_option maxHeartbeats 1600000 in
theorem fV{K H:Hp}{I:Nat->Hp->Prop}{J:Hp->Prop}{y b1 b2 b3:Nat}{S:List Int}{L:List Ar}{x:List Bool}{A B X:Option Addr}{c d e:Nat}(hI:Rds K I)(k1:K b1=some (.own [.slice A S.length c,.slice B L.length d]))(k2:K b2=some (.own [.func (.func 185) #[] #[.pointer (some ⟨b1,0,none⟩)]]))(k3:K b3=some (.own [.slice X x.length e]))(hB:Rd 5 Ar.c K B L)(hX:Rd 1 boolC K X x)(hL:L.length<1000000)(i0:I 0 H)(skp:∀k G (hk:k<L.length),I k G->GD S.length x L[k]=false->I (k+1) G)(step:∀k G (hk:k<L.length),I k G->GD S.length x L[k]=true->Oa y [L[k].v,.int .i64 (NP x L[k])] (fun v G'=>v= .bool true/\I (k+1) G'\/v= .bool false/\J G'/\∃nf,Fr G' nf) G):Ct 186 [.func (.yield y) #[] #[],.pointer (some ⟨b1,0,none⟩),.pointer (some ⟨b2,0,none⟩),.pointer (some ⟨b3,0,none⟩)] (fun _ H'=>I L.length H'\/J H') H:=by
 refine BV Tryz.func186 rfl 48 rfl fun nf t hf hsc ht=> ?_
 have hf0:=hf;have h1:=ht 1 _ rfl;have h2:=ht 2 _ rfl;have he:=hI.ext _ _ i0;have p1:=he _ _ k1;have p2:=he _ _ k2;have p3:=he _ _ k3;refine BO (BQ ?_);have fz:=ai p3 (ai p2 (ai p1 (ai (ht 3 _ rfl) (ai h2 (ai h1 (ht 0 _ rfl))))));refine Dv (BP (BS ?_));refine By fun T1 hT=> ?_
 have gz:=ai (xt (hT 11)) (ai (xt (hT 10)) (ai (xt (hT 9)) (ai (xt (hT 3)) (ai (xt (hT 2)) (ai (xt (hT 0)) trivial)))));clear hT;refine xl L.length nf K hf (fun k t nf1 G=>I k G/\(t 0=T1 0/\t 2=T1 2/\t 3=T1 3/\t 9=T1 9/\t 10=T1 10)/\t 11= .int .i64 (k:Int)) ⟨i0,xh⟩ ?_;rintro k t nf1 G hk1 hn1 hf he ⟨hk,uz,h11⟩;have hfl:=hf;have p1:=he _ _ k1;have p2:=he _ _ k2;have p3:=he _ _ k3;refine BO (BQ ?_);have fz:=ai p3 (ai p2 (ai p1 (ai h11 (ai uz gz))));refine xq (BP (BO ?_));refine C8 (fun c1=> ?_) fun c1=> ?_
 ·refine BR (BO (BS (BO (BQ ?_))));obtain⟨b,o,eB,ho⟩:=(hB.ext he) k om;have lb:=Bd hf ho;have fz:=ai ho (ai eB (ai c1 fz));refine Ba ?_;refine xa fun hf=> ?_
  refine xs fun hf=> ?_
  refine BP (BO (BO ?_));refine Px fun G1 hG1=> ?_
  have hk1:I k G1:=by rw[hG1,Oj];exact hI.up _ _ _ _ hk (hfl _ (AH _))
  have he:=hI.ext _ _ hk1;have hf:=hG1▸hf;have q1:=he _ _ k1;have q2:=he _ _ k2;have q3:=he _ _ k3;have s5:=(congrFun hG1 nf1).trans (BU _ _ _);clear hG1;refine Bh [1,0,1,1,0,0,1,0,1,1,0,0,0,1,0,1,1,1,0,1,1,0,0] [0,1,2,3,4,5,6,7,8,9,10,11,12,13,14,15,16,17,18,19,20,21,22] kr hf ?_;have fz:=ai s5 (ai q3 (ai q2 (ai q1 fz)));iterate 3 first|refine CA ?_|refine Cq ?_
  refine xk rfl rfl xv xv (fun G hG=>ja (hG _ _ q1) _) ?_;iterate 5 first|refine CA ?_|refine EM ?_|refine FG ?_
  refine vx rfl rfl xv (fun hgd=>(by(try simp only[AA,A7]at hgd);simp(disch:=omega)only[wx,fz,hgd]<;>rfl)) (fun hgd=>(by(try simp only[AA,A7]at hgd);simp(disch:=omega)only[wx,fz,hgd]<;>rfl)) (fun hgd G hG=>ja (hG _ _ q1) _) ?_;iterate 6 first|refine CA ?_|refine EM ?_|refine FG ?_
  refine HN (h:=fun hgd G hG=>(by first|exact Sk ((hX.ext he).ext hG) _|exact Sk (hX.ext he) _)) (k:= ?_);iterate 3 first|refine EM ?_|refine FG ?_
  refine HN (h:=fun hgd G hG=>(by first|exact Sk ((hX.ext he).ext hG) _|exact Sk (hX.ext he) _)) (k:= ?_);iterate 2 first|refine CA ?_|refine EM ?_
  refine BX (xi (fun c2=> ?_) fun c2=> ?_)
  ·have ov:GD S.length x L[k]=false:=by unfold GD CG;cases h1:DS S.length L[k].f<;>cases h2:DS S.length L[k].t<;>simp_all
   refine xo (BQ ?_);have fz:=ai c2 fz;refine Ba (BP ?_);exact xe hf ⟨(by first|exact q|exact skp k G1 om hk1 ov),xz⟩
  ·have ov:GD S.length x L[k]=true:=by unfold GD CG;cases h1:DS S.length L[k].f<;>cases h2:DS S.length L[k].t<;>simp_all
   refine BR (BO (BQ ?_));have fz:=ai c2 fz;refine xq (BP (BO (BO (BQ ?_))));refine B0 ?_;refine xp (h:=(by first|exact Sk ((hX.ext he).ext hG) _|exact Sk (hX.ext he) _)) (k:=(BP ?_));refine xi (fun c3=> ?_) fun c3=> ?_
   ·have sgk:NP x L[k]=1:=if_pos c3;refine BQ ?_;have fz:=ai sgk (ai c3 fz);refine xq (BP (BO (BQ ?_)));refine B0 ?_;refine ur rfl xv xv (step k G1 _ hk1 ov) fun v G2 q=> ?_
    rcases q with⟨rfl,q⟩|⟨rfl,q,nfj,hf⟩;rotate_left
    ·refine oq hf rfl xv (BP (R4 rfl xv (BT ?_)));refine rt ?_;exact HQ rfl (.inr q)
    obtain⟨nf2,hf⟩:=hI.fr _ _ q;have hf:=hf.up (Nat.le_max_left nf2 nf);have he:=hI.ext _ _ q;refine xq (BP ?_);refine xF (BR (BQ ?_));refine Ba (BP ?_);exact xe hf ⟨(by first|exact q|exact skp k G1 om hk1 ov),xz⟩
   ·have sgk:NP x L[k]= -1:=if_neg (by rw[c3];exact Aq);refine BR (BO (BQ ?_));have fz:=ai sgk (ai c3 fz);refine B0 ?_;refine ur rfl xv xv (step k G1 _ hk1 ov) fun v G2 q=> ?_
    rcases q with⟨rfl,q⟩|⟨rfl,q,nfj,hf⟩;rotate_left
    ·refine oq hf rfl xv (BP (R4 rfl xv (BT ?_)));refine rt ?_;exact HQ rfl (.inr q)
    obtain⟨nf2,hf⟩:=hI.fr _ _ q;have hf:=hf.up (Nat.le_max_left nf2 nf);have he:=hI.ext _ _ q;refine xq (BP ?_);refine xF (BR (BQ ?_));refine Ba (BP ?_);exact xe hf ⟨(by first|exact q|exact skp k G1 om hk1 ov),xz⟩
 ·refine xo ?_;refine Ji ?_ rfl;refine rt ?_;have fz:=ai c1 fz;exact HQ rfl (.inl (by obtain rfl:k=L.length:=om;exact hk))
theorem wj{fn:Func}{Q:Value->Hp->Prop}{n:Nat}{t:Nat->Value}{H:Hp}{k ty j ty2:Nat}(hr:fn.results= #[.cell k ty,.cell j ty2]){u w:Value}(hl:EC tz H ty (t k)=some u)(hl2:EC tz H ty2 (t j)=some w)(h:Q (.tuple #[u,w]) H):GQ fn Q .ret ⟨n,t,[]⟩ H:=Iq (v:= .tuple #[u,w]) (by simp) (by rw[hr];simp[Dn,NR,hl,hl2]) h
theorem bk{H M:Hp}{nf:Nat}(P:Nat->Prop)[DecidablePred P](he:Ext H M)(hP:∀c,P c->H c=none)(hf:Fr M nf):∃K,Ext H K/\Ext K M/\(∀c,P c->K c=none)/\Fr K nf/\∀c,¬P c->K c=M c:=by
 refine⟨fun c=>if P c then none else M c,fun c x hc=> ?_,fun c x hc=> ?_,fun c hc=>if_pos hc,fun c hc=> ?_,fun c hc=>if_neg hc⟩
 ·dsimp only;rw[if_neg fun h=>by rw[hP c h]at hc;cases hc];exact he c x hc
 ·dsimp only at hc;split at hc
  ·cases hc
  ·exact hc
 ·dsimp only;split
  ·rfl
  ·exact hf c hc
def DV(n:Nat)(L:List Ar)(x:List Bool):Nat->Int
 |0=>0
 |k+1=>if GD n x (arcD L k)=true then(if NP x (arcD L k)= -1 then DV n L x k - (arcD L k).lo else DV n L x k+(arcD L k).ca)else DV n L x k
def He(n:Nat)(x:List Bool)(a:Ar):Bool:=GD n x a&&(!decide (NP x a= -1)&&decide (a.ca=4611686018427387904))
open Classical in
noncomputable def IR(n:Nat)(L:List Ar)(x:List Bool):Value:=if∃k,k<L.length/\He n x (arcD L k)=true then .tuple #[W 0,.bool false]else .tuple #[W (DV n L x L.length),.bool true]
theorem Qm(n:Nat)(L:List Ar)(x:List Bool):plainV (IR n L x)=true:=by unfold IR;split<;>rfl
def Wm(K:Hp)(l s1 s2 s3:Nat)(lp:ALoop)(r n:Nat)(L:List Ar)(x:List Bool)(k:Nat)(G:Hp):Prop:=∃nf,Fr G nf/\Ext K G/\G l=some (.lp lp)/\G r=some (.df true)/\G s1=some (.own [.int .i64 0,.int .u64 0])/\G s2=some (.own [.bool false])/\G s3=some (.own [.int .i64 (GI (DV n L x k)),.int .u64 (EG (DV n L x k))])/\∀j,j<k->He n x (arcD L j)=false
theorem X7(K:Hp)(l s1 s2 s3:Nat)(lp:ALoop)(r n:Nat)(L:List Ar)(x:List Bool):Rds K (Wm K l s1 s2 s3 lp r n L x):= .of (fun k G b y ⟨nf,h1,h2,h3,h4,h5,h6,h7,h8⟩ hb=>⟨_,h1.any b y 0,h2.trans (EL hb y),Ea hb y h3,Ea hb y h4,Ea hb y h5,Ea hb y h6,Ea hb y h7,h8⟩) fun k G ⟨nf,h1,h2,_⟩=>⟨h2,nf,h1⟩
set_option maxHeartbeats 1600000 in
theorem mB{S:List Int}{L:List Ar}{x:List Bool}{A B X:Option Addr}{c d e:Nat}{H:Hp}(hB:Rd 5 Ar.c H B L)(hX:Rd 1 boolC H X x)(hL:L.length<1000000)(hc:∀a∈L,R64 a.lo/\R64 a.ca):Ct 122 [.agg #[.slice A S.length c,.slice B L.length d],.slice X x.length e] (fun v H'=>v=IR S.length L x/\Ext H H') H:=by
 refine JX Tryz.func122 rfl 33 rfl fun nf t hf hsc ht=> ?_
 have hf0:=hf;have h1:=ht 1 _ rfl;refine BO (BQ ?_);have fz:=ai h1 (ht 0 _ rfl);refine xa fun hf=> ?_
 refine xa fun hf=> ?_
 refine xa fun hf=> ?_
 refine BP (BO (BQ (xa fun hf=> ?_)));refine BP (BO (BO (BQ (Ba ?_))));refine xc (h:=mX S L x A B X c d e) (k:=fun v1 H1 nf2 hl2 q1 hf=> ?_);refine BP (BS ?_);obtain⟨x1,b1,b2,b3,rfl,k1,k2,k3,z1,z2,z3⟩:=q1;have e0:=x1 nf _ (by rw[upd_ne om,upd_ne om,upd_ne om,BU]);have e1:=x1 (nf+1) _ (by rw[upd_ne om,upd_ne om,BU]);have e2:=x1 (nf+2) _ (by rw[upd_ne om,BU]);have e3:=x1 (nf+3) _ (BU _ _ _);have l3:=hf.lt e3;obtain⟨K,kH,kM,k0,hf0,kk⟩:=bk (fun c=>nf+1<=c/\c<=nf+3) (Ext.trans (by(repeat refine Ext.up (by first|exact hf0 _ om|exact k0 _ om) ?_);exact Ext.refl H) x1) (fun c hc=>hf0 c om) hf;have kq:∀cc y,H1 cc=some y->(upd (upd (upd (upd H nf (some (.own [.slice A S.length c,.slice B L.length d]))) (nf+1) (some (.own [.int .i64 0,.int .u64 0]))) (nf+2) (some (.own [.bool false]))) (nf+3) (some (.own [.int .i64 0,.int .u64 0]))) cc=none->K cc=some y:=fun cc y h n=>by
  rw[kk cc fun hc=> ?_];exact h;have h3:cc≠nf+3:=fun e=>by rw[e,BU]at n;cases n
  rw[upd_ne h3]at n;have h2:cc≠nf+2:=fun e=>by rw[e,BU]at n;cases n
  rw[upd_ne h2]at n;have h1:cc≠nf+1:=fun e=>by rw[e,BU]at n;cases n
  omega
 refine By fun T hT=> ?_
 have u4:=(hT 4).trans xv;have u5:=(hT 5).trans xv;have u6:=(hT 6).trans xv;have u11:=(hT 11).trans xv;have h4:=u4;have h5:=u5;have h6:=u6;have h11:=u11;clear hT;have fz:=ai e3 (ai e2 (ai e1 (ai e0 (ai h11 (ai h6 (ai h5 (ai h4 (ai @Eb @DO))))))));refine Pw hf rfl xv rfl (fun lp elp=>fV (S:=S) (A:=A) (c:=c) (d:=d) (e:=e) (I:=Wm K (nf2+1) (nf+1) (nf+2) (nf+3) lp nf2 S.length L x) (J:=fun G=>Ext K G/\G (nf2+1)=some (.lp {lp with state:= .done,pending:=some .ret})/\G nf2=some (.df true)/\G (nf+1)=some (.own [.int .i64 0,.int .u64 0])/\G (nf+2)=some (.own [.bool false])/\∃k,k<L.length/\He S.length x (arcD L k)=true) (X7 _ _ _ _ _ _ _ _ _ _) (kq _ _ k1 z1) (kq _ _ k2 z2) (kq _ _ k3 z3) (hB.ext kH) (hX.ext kH) hL ?_ (fun k G hk hI ov=> ?_) (fun k G hk hI ov=> ?_)) ?_
 ·exact⟨nf2+2,(hf.new _).new _,by(repeat refine Ext.up (by first|exact hf0 _ om|exact k0 _ om) ?_);exact kM,BU _ _ _,by rw[upd_ne om,BU],by rw[upd_ne om,upd_ne om];exact e1,by rw[upd_ne om,upd_ne om];exact e2,by rw[upd_ne om,upd_ne om];exact e3,fun j h=>absurd h (Aj j)⟩
 ·obtain⟨nf3,h1,h2,h3,h4,h5,h6,h7,h8⟩:=hI;have ea:=Bk hk;exact⟨nf3,h1,h2,h3,h4,h5,h6,by rw[DV,ea,if_neg (by rw[ov];exact Aq)];exact h7,fun j h=>by rcases AT.1 h with h|rfl;exact h8 j h;rw[He,ea,ov];rfl⟩
 ·obtain⟨nf3,hf,he,hl,hr2,hs1,hs2,hs3,hi⟩:=hI;have m1:=hf.lt hl;subst elp;have r1:=(hc _ (AM hk)).1;have r2:=(hc _ (AM hk)).2;have ea:=Bk hk;refine Wn hl dZ dZ (BO (BQ ?_));have fz:=ai hr2 (ai hs3 (ai hs2 (ai hs1 (ai e3 (ai e2 (ai e1 (ai e0 (ai h11 (ai h6 (ai h5 (ai h4 (ai @Eb @DO))))))))))));refine xa fun hf=> ?_
  refine xs fun hf=> ?_
  refine BP (BQ (xq (BP ?_)));refine⟨rfl,(by rw[upd_ne om,upd_ne om];exact hl),Le hf (by rw[upd_ne om,upd_ne om];exact hl) fun hf=> ?_⟩;refine BS (BS (BO (BQ ?_)));have fz:=ai hr2 (ai hs3 (ai hs2 (ai hs1 (ai e3 (ai e2 (ai e1 (ai e0 (ai h11 (ai h6 (ai h5 (ai h4 (ai @Eb @DO))))))))))));refine B0 (BP ?_);refine HR (fun c1=> ?_) fun c1=> ?_
  ·refine Bh [1,0,1,1,1,2] [0,1,2,3,4,5] kr hf ?_;have fz:=ai c1 fz;iterate 3 first|refine CA ?_|refine Cq ?_
   refine EB (h:=fun G hG=>LD (by first|exact r1|exact r2) _) (k:= ?_);refine EB (h:=fun G hG=>LP _ _ _) (k:= ?_);refine Fx fun nf3 hl3 hf=> ?_
   refine BX ?_;exact⟨_,_,by rw[upd_ne om,BU],.inl ⟨rfl,_,hf.old (by rw[upd_ne om,BU]) _,by(repeat refine Ext.up (by first|exact hf0 _ om|exact k0 _ om) ?_);exact he,BU _ _ _,xy,xy,xy,by simp(disch:=omega)only[wx,fz];first|rw[DV,ea,if_pos ov,if_pos c1]|rw[DV,ea,if_pos ov,if_neg c1],fun j h=>by rcases AT.1 h with h|rfl;exact hi j h;rw[He,ea,ov];first|simp[c1,c2]|simp[c1]⟩⟩
  ·refine BO (BQ ?_);have fz:=ai c1 fz;refine Dv (BP ?_);refine HR (fun c2=> ?_) fun c2=> ?_
   ·refine BO (BQ ?_);have fz:=ai c2 fz;refine xq ?_;refine xs fun hf=> ?_
    refine xs fun hf=> ?_
    refine BP (BT (rt ?_));exact⟨_,_,by rw[upd_ne om,upd_ne om,BU],.inr ⟨rfl,⟨by(repeat refine Ext.up (by first|exact hf0 _ om|exact k0 _ om) ?_);exact he,BU _ _ _,xy,xy,xy,k,om,by rw[He,ea,ov];simp[c1,c2]⟩,_,hf.old (by rw[upd_ne om,upd_ne om,BU]) _⟩⟩
   ·refine Bh [1,0,1,1,1,2] [0,1,2,3,4,5] kr hf ?_;have fz:=ai c2 fz;iterate 3 first|refine CA ?_|refine Cq ?_
    refine EB (h:=fun G hG=>LD (by first|exact r1|exact r2) _) (k:= ?_);refine EB (h:=fun G hG=>KG _ _ _) (k:= ?_);refine Fx fun nf4 hl4 hf=> ?_
    refine BX ?_;exact⟨_,_,by rw[upd_ne om,BU],.inl ⟨rfl,_,hf.old (by rw[upd_ne om,BU]) _,by(repeat refine Ext.up (by first|exact hf0 _ om|exact k0 _ om) ?_);exact he,BU _ _ _,xy,xy,xy,by simp(disch:=omega)only[wx,fz];first|rw[DV,ea,if_pos ov,if_pos c1]|rw[DV,ea,if_pos ov,if_neg c1],fun j h=>by rcases AT.1 h with h|rfl;exact hi j h;rw[He,ea,ov];first|simp[c1,c2]|simp[c1]⟩⟩
 ·intro lp elp vz Hz nf5 hl5 q hf;rcases q with⟨nf3,hf2,he,hl,hr2,hs1,hs2,hs3,hi⟩|⟨he,hl,hr2,hs1,hs2,hi⟩;rotate_left
  ·subst elp;refine⟨_,_,hl,dZ,jC hf hl fun hf=> ?_⟩;refine rt ?_;refine Xd (r:=nf2) (by rw[upd_ne om];exact hr2) ?_;exact wj rfl (by simp(disch:=omega)only[wy,u4,hs1]<;>rfl) (by simp(disch:=omega)only[wy,u5,hs2]<;>rfl) ⟨by rw[IR,if_pos hi];rfl,kH.trans (by(repeat refine Ext.up (by first|exact hf0 _ om|exact k0 _ om) ?_);exact he)⟩
  subst elp;refine⟨_,_,hl,dZ,Uy hf hl fun hf=> ?_⟩;refine BO (BQ ?_);have fz:=ai hr2 (ai hs3 (ai hs2 (ai hs1 (ai e3 (ai e2 (ai e1 (ai e0 (ai h11 (ai h6 (ai h5 (ai h4 (ai @Eb @DO))))))))))));refine xq ?_;refine xs fun hf=> ?_
  refine xs fun hf=> ?_
  refine BP (BT (rt (Xd xv ?_)));exact wj rfl xv xv ⟨by rw[IR,if_neg (fun⟨j,h,e⟩=>by rw[hi j h]at e;cases e)];rfl,kH.trans (by(repeat refine Ext.up (by first|exact hf0 _ om|exact k0 _ om) ?_);exact he)⟩
section
open Classical in
noncomputable def Ig(n:Nat)(L:List Ar)(x:List Bool):Bool:=decide (¬∃k,k<L.length/\He n x (arcD L k)=true)
noncomputable def JD(n:Nat)(L:List Ar)(x:List Bool):Int:=bif Ig n L x then DV n L x L.length else 0
theorem Qn(n:Nat)(L:List Ar)(x:List Bool):IR n L x= .tuple #[W (JD n L x),.bool (Ig n L x)]:=by
 unfold IR JD Ig;split
 ·rename_i h;simp[h]
 ·rename_i h;rw[BH h];rfl
variable{S:List Int}{L:List Ar}{x:List Bool}{B X:Option Addr}
theorem eU{A:Option Addr}{c d e:Nat}{H:Hp}(hB:Rd 5 Ar.c H B L)(hX:Rd 1 boolC H X x)(hL:L.length<1000000)(hc:∀a∈L,R64 a.lo/\R64 a.ca):Pure 122 [.agg #[.slice A S.length c,.slice B L.length d],.slice X x.length e] (.tuple #[W (JD S.length L x),.bool (Ig S.length L x)]) H:=Pure.of rfl (Qn S.length L x▸mB hB hX hL hc)
theorem So(h:∀n∈S,R64 n)(x:List Bool):∀k:Nat, -(9223372036854775808*(k:Int))<=DX S x k/\DX S x k<=9223372036854775808*(k:Int)
 |0=>by rw[DX];omega
 |k+1=>by
  have h1:=So h x k;have h2:R64 (alongI S k):=CZ h _;unfold R64 at h2;rw[DX];split<;>omega
theorem ZH(h:∀a∈L,R64 a.lo/\R64 a.ca)(n:Nat)(x:List Bool):∀k:Nat,k<=L.length-> -(9223372036854775808*(k:Int))<=DV n L x k/\DV n L x k<=9223372036854775808*(k:Int)
 |0,_=>by rw[DV];omega
 |k+1,hk=>by
  have h1:=ZH h n x k om;have h2:=h _ (AM (show k<L.length from om));unfold R64 at h2;rw[DV,Bk om];split
  ·split<;>omega
  ·omega
theorem Up(h:∀a∈L,R64 a.lo/\R64 a.ca)(n:Nat)(x:List Bool): -(9223372036854775808*(L.length:Int))<=JD n L x/\JD n L x<=9223372036854775808*(L.length:Int):=by
 unfold JD;cases Ig n L x with
 |true=>exact ZH h n x _ (AH _)
 |false=>exact⟨by show -(9223372036854775808*(L.length:Int))<=0;omega,by show(0:Int)<=_;omega⟩
noncomputable def Ca(S:List Int)(L:List Ar)(x:List Bool):Int:=if rightI S L≠0 then rightI S L else if x.length≠S.length then 30 else if(!Ig S.length L x||decide (sg (DX S x S.length) (JD S.length L x)<=0))=true then 34 else 0
set_option maxHeartbeats 1600000 in
theorem ZR{A:Option Addr}{c d e:Nat}{H:Hp}(hA:Rd 1 intC H A S)(hB:Rd 5 Ar.c H B L)(hX:Rd 1 boolC H X x)(hS:∀n∈S,R64 n)(hc:∀a∈L,R64 a.lo/\R64 a.ca):Pure 80 [.agg #[.slice A S.length c,.slice B L.length d],.slice X x.length e] (.int .u16 (Ca S L x)) H:=by
 refine Pure.of rfl (BV Tryz.func80 rfl 35 rfl fun nf t hf _ ht=> ?_);have hf0:=hf;refine BO (BQ ?_);have fz:=ai @DO (ai (ht 1 _ rfl) (ht 0 _ rfl));refine xa fun hf=> ?_
 refine xq (BP (BO (BO (BQ ?_))));refine xq ?_;refine xp (h:=JE (hA.ext (by(repeat refine Ext.up (hf0 _ om) ?_);exact Ext.refl _)) (hB.ext (by(repeat refine Ext.up (hf0 _ om) ?_);exact Ext.refl _))) (k:= ?_);refine xq (BP (BO (BQ ?_)));refine Ba (BP ?_);refine xi (fun c1=> ?_) fun c1=> ?_
 ·refine BO (BQ ?_);have fz:=ai c1 fz;refine Ba (BP (BT (rt ?_)));exact BW rfl ⟨by(simp(disch:=omega)only[wx,fz];rw[Ca,if_pos (by simpa using c1)]),xx⟩
 ·have hr:rightI S L=0:=by simpa using c1
  have hb:=CW hr;have w1:=So hS x S.length;have w2:=Up hc S.length x;refine BR (BO (BO (BQ ?_)));have fz:=ai c1 fz;refine Dk (BP ?_);refine Kf (fun c2=> ?_) fun c2=> ?_
  ·refine BO (BQ ?_);have fz:=ai c2 fz;refine xq (BP (BT (rt ?_)));exact BW rfl ⟨by(simp(disch:=omega)only[wx,fz];rw[Ca,if_neg (fun h=>h hr),if_pos om]),xx⟩
  ·refine BR (BO (BQ ?_));have fz:=ai c2 fz;refine Ba ?_;refine xp (h:=eU (hB.ext (by(repeat refine Ext.up (hf0 _ om) ?_);exact Ext.refl _)) (hX.ext (by(repeat refine Ext.up (hf0 _ om) ?_);exact Ext.refl _)) om hc) (k:= ?_);refine B0 ?_;refine xa fun hf=> ?_
   refine xs fun hf=> ?_
   refine xq (BP (BO (BO ?_)));refine TZ H xx fun hE=> ?_
   refine Bh [0,0,0,1,0,1,1,1,0,0] [0,1,2,3,4,5,6,7,8,9] kr hf ?_;iterate 5 first|refine CA ?_|refine EM ?_|refine FG ?_
   refine HN (h:=fun hgd G hG=>mZ (L:=L) (B:=B) (d:=d) (hA.ext (hE.trans hG)) (hX.ext (hE.trans hG)) hS om) (k:= ?_);refine FG ?_;refine HN (h:=fun hgd G hG=>Gj om om _) (k:= ?_);iterate 2 first|refine CA ?_|refine EM ?_
   refine BX (xi (fun c3=> ?_) fun c3=> ?_)
   ·refine BO (BQ ?_);have fz:=ai c3 fz;refine xq (BP (BT (rt ?_)));exact BW rfl ⟨by(simp(disch:=omega)only[wx,fz];rw[Ca,if_neg (fun h=>h hr),if_neg om,if_pos c3]),xx⟩
   ·refine BR (BO (BQ ?_));have fz:=ai c3 fz;refine xq (BP (BT (rt ?_)));exact BW rfl ⟨by(simp(disch:=omega)only[wx,fz];rw[Ca,if_neg (fun h=>h hr),if_neg om,if_neg (by rw[c3];exact Aq)]),xx⟩
end
section
def Fy(n:Nat)(p:Nat->Bool):Bool:=decide (∀k,k<n->p k=true)
variable{bi bl d e k n:Nat}
theorem Hm{p:Nat->Bool}(h:k<n)(e:p k=false):Fy n p=false:=BI fun h'=>by rw[h' k h]at e;cases e
theorem FL{p:Nat->Bool}(h:∀k,k<n->p k=true):Fy n p=true:=BH h
theorem CO{p:Nat->Bool}(h:Fy n p=true)(hk:k<n):p k=true:=BA h k hk
def Ec(L:List Ar)(l:List Int)(k:Nat):Bool:=decide (alongI l k >= 0)&&decide (alongI l k<L.length)
def De(L:List Ar)(l:List Int)(k:Nat):Ar:=arcD L (alongI l k).toNat
variable{L:List Ar}
theorem SK(h:∀a∈L,R64 a.co)(l:List Int):∀k:Nat, -(9223372036854775808*(k:Int))<=Ej L l k/\Ej L l k<=9223372036854775808*(k:Int)
 |0=>by rw[Ej];omega
 |k+1=>by
  have h1:=SK h l k;rw[Ej];split
  ·rename_i hr;have hr:0<=alongI l k/\alongI l k<L.length:=by simp at hr;omega
   have h2:=h _ (AM (show(alongI l k).toNat<L.length from om));unfold R64 at h2;rw[Bk om];omega
  ·omega
variable{S l:List Int}{B Z:Option Addr}
theorem oU{A:Option Addr}{c:Nat}{H:Hp}(hl:H bl=some (.own [.slice Z l.length e]))(hi:H bi=some (.own [.slice A S.length c,.slice B L.length d]))(hZ:Rd 1 intC H Z l)(hn:l.length<4611686018427387904):Pure 151 [.pointer (some ⟨bl,0,none⟩),.pointer (some ⟨bi,0,none⟩)] (.bool (Fy l.length (Ec L l))) H:=by
 refine Pure.of rfl (BV Tryz.func151 rfl 16 rfl fun nf t hf _ ht=> ?_);have hf0:=hf;have lbl:=hf.lt hl;have lbi:=hf.lt hi;refine BO (BQ ?_);have fz:=ai hi (ai hl (ai (ht 1 _ rfl) (ht 0 _ rfl)));refine xq (BP (BO (BO (BQ ?_))));refine B0 (BP (BS ?_));refine By fun T1 hT=> ?_
 have gz:=ai (xt (hT 7)) (ai (xt (hT 6)) (ai (xt (hT 5)) (ai (xt (hT 1)) trivial)));clear hT;refine xl l.length nf H hf (fun k t nf1 G=>(∀j,j<k->Ec L l j=true)/\(t 1=T1 1/\t 5=T1 5/\t 6=T1 6)/\t 7= .int .i64 (k:Int)) ⟨(fun j h=>absurd h (Aj j)),xh⟩ ?_;rintro k t nf1 G hk1 hn1 hf he ⟨i1,uz,h7⟩;have hfl:=hf;have p1:=he _ _ hl;have p2:=he _ _ hi;refine BO (BQ ?_);have fz:=ai p2 (ai p1 (ai h7 (ai uz gz)));refine xq (BP (BO ?_));refine C8 (fun c1=> ?_) fun c1=> ?_
 ·refine BR (BO (BS (BO (BQ ?_))));obtain⟨b,o,eX,hoX⟩:=(hZ.ext he) k om;have lb:=Bd hf hoX;have ek:=Bc l (show k<l.length from om);have fz:=ai hoX (ai eX (ai c1 fz));refine B0 (BP (BO (BQ ?_)));refine Ba ?_;refine xp (h:=Vq l[k]) (k:= ?_);refine xq (BP ?_);refine xi (fun c2=> ?_) fun c2=> ?_
  ·refine BO (BQ ?_);have fz:=ai c2 fz;refine xq (BP (BT (rt ?_)));exact BW rfl ⟨by(rw[Hm (show k<l.length from om) (by rw[Ec,ek];simp at c2⊢;intro _;omega)];exact xv),xx⟩
  ·refine BR (BQ ?_);have fz:=ai c2 fz;refine Ba (BP ?_);exact xe hf ⟨(fun j h=>by rcases AT.1 h with h|rfl;exact i1 j h;rw[Ec,ek];simpa using c2),xz⟩
 ·refine xo (BO (BQ ?_));have fz:=ai c1 fz;refine xq (BP (BT (rt ?_)));exact BW rfl ⟨by(rw[FL (fun j h=>i1 j om)];exact xv),xx⟩
theorem oR{A:Option Addr}{N c:Nat}{H:Hp}(hl:H bl=some (.own [.slice Z l.length e]))(hi:H bi=some (.own [.slice A N c,.slice B L.length d]))(hZ:Rd 1 intC H Z l)(hB:Rd 5 Ar.c H B L)(hn:l.length<4611686018427387904)(hok:Fy l.length (Ec L l)=true):Pure 155 [.pointer (some ⟨bl,0,none⟩),.pointer (some ⟨bi,0,none⟩)] (.bool (Fy l.length fun k=>decide ((De L l k).ca=4611686018427387904))) H:=by
 refine Pure.of rfl (BV Tryz.func155 rfl 19 rfl fun nf t hf _ ht=> ?_);have hf0:=hf;have lbl:=hf.lt hl;have lbi:=hf.lt hi;refine BO (BQ ?_);have fz:=ai hi (ai hl (ai (ht 1 _ rfl) (ht 0 _ rfl)));refine xq (BP (BO (BO (BQ ?_))));refine B0 (BP (BS ?_));refine By fun T1 hT=> ?_
 have gz:=ai (xt (hT 7)) (ai (xt (hT 6)) (ai (xt (hT 5)) (ai (xt (hT 1)) trivial)));clear hT;refine xl l.length nf H hf (fun k t nf1 G=>(∀j,j<k->(fun k=>decide ((De L l k).ca=4611686018427387904)) j=true)/\(t 1=T1 1/\t 5=T1 5/\t 6=T1 6)/\t 7= .int .i64 (k:Int)) ⟨(fun j h=>absurd h (Aj j)),xh⟩ ?_;rintro k t nf1 G hk1 hn1 hf he ⟨i1,uz,h7⟩;have hfl:=hf;have p1:=he _ _ hl;have p2:=he _ _ hi;refine BO (BQ ?_);have fz:=ai p2 (ai p1 (ai h7 (ai uz gz)));refine xq (BP (BO ?_));refine C8 (fun c1=> ?_) fun c1=> ?_
 ·refine BR (BO (BS (BO (BQ ?_))));obtain⟨b,o,eX,hoX⟩:=(hZ.ext he) k om;have lb:=Bd hf hoX;have ek:=Bc l (show k<l.length from om);have fz:=ai hoX (ai eX (ai c1 fz));refine B0 (BP (BO (BQ ?_)));have hr:0<=l[k]/\l[k]<L.length:=by have:=CO hok (show k<l.length from om);rw[Ec,ek]at this;simp at this;omega
  obtain⟨j,ej⟩:=AI hr.1;obtain⟨b3,o3,eB,hoB⟩:=(hB.ext he) j om;have lb3:=Bd hf hoB;have ho4:Cs (G b3) (o3+j*5+3) 1=some [.int .i64 L[j].ca]:=Cn hoB dZ;have ea:De L l k=L[j]:=by rw[De,ek,ej,Aa,Bk om]
  have fz:=ai ho4 (ai eB (ai ej fz));refine Dk ?_;refine xq (BP ?_);refine Kf (fun c2=> ?_) fun c2=> ?_
  ·refine BO (BQ ?_);have fz:=ai c2 fz;refine xq (BP (BT (rt ?_)));exact BW rfl ⟨by(rw[Hm (show k<l.length from om) (by rw[ea];exact BI c2)];exact xv),xx⟩
  ·refine BR (BQ ?_);have fz:=ai c2 fz;refine Ba (BP ?_);exact xe hf ⟨(fun j h=>by rcases AT.1 h with h|rfl;exact i1 j h;exact BH (by rw[ea];exact c2)),xz⟩
 ·refine xo (BO (BQ ?_));have fz:=ai c1 fz;refine xq (BP (BT (rt ?_)));exact BW rfl ⟨by(rw[FL (fun j h=>i1 j om)];exact xv),xx⟩
theorem oQ{A:Option Addr}{c:Nat}{H:Hp}(hl:H bl=some (.own [.slice Z l.length e]))(hi:H bi=some (.own [.slice A S.length c,.slice B L.length d]))(hZ:Rd 1 intC H Z l)(hB:Rd 5 Ar.c H B L)(hn:l.length<1000000)(hc:∀a∈L,R64 a.co):Pure 156 [.pointer (some ⟨bi,0,none⟩),.pointer (some ⟨bl,0,none⟩)] (.bool (decide (sg (Ej L l l.length) 0<0))) H:=by
 refine Pure.of rfl (BV Tryz.func156 rfl 9 rfl fun nf t hf _ ht=> ?_);have hf0:=hf;have lbl:=hf.lt hl;have lbi:=hf.lt hi;have w1:=SK hc l l.length;refine BO (BQ ?_);have fz:=ai hi (ai hl (ai (ht 1 _ rfl) (ht 0 _ rfl)));refine xq (BP (BO (BQ ?_)));refine Ba ?_;refine xp (h:=pk hB hZ hc om) (k:= ?_);refine xp (h:=LD (a:=0) dZ _) (k:= ?_);refine xp (h:=Gj om dZ _) (k:= ?_);refine Ba (BP (BT (rt ?_)));exact BW rfl ⟨by(simp(disch:=omega)only[wx,fz]<;>rfl),xx⟩
end
theorem bo{t:TypeId}{k:IntKind}{a b:Int}(h:b≠0):Cr tz .rem t (.int k a) (.int k b)=some (.int k (a.tmod b)):=by unfold Cr;simp[h]
def FJ(L:List Ar)(l:List Int)(k:Nat):Bool:=decide ((De L l k).t=(De L l ((k+1)%l.length)).f)
set_option maxHeartbeats 1600000 in
theorem oS{L:List Ar}{l:List Int}{A B Z:Option Addr}{N c d e bl bi:Nat}{H:Hp}(hl:H bl=some (.own [.slice Z l.length e]))(hi:H bi=some (.own [.slice A N c,.slice B L.length d]))(hZ:Rd 1 intC H Z l)(hB:Rd 5 Ar.c H B L)(hn:l.length<1000000)(hok:Fy l.length (Ec L l)=true):Pure 154 [.pointer (some ⟨bl,0,none⟩),.pointer (some ⟨bi,0,none⟩)] (.bool (Fy l.length (FJ L l))) H:=by
 refine Pure.of rfl (BV Tryz.func154 rfl 35 rfl fun nf t hf _ ht=> ?_);have hf0:=hf;have lbl:=hf.lt hl;have lbi:=hf.lt hi;refine BO (BQ ?_);have fz:=ai hi (ai hl (ai (ht 1 _ rfl) (ht 0 _ rfl)));refine xq (BP (BO (BO (BQ ?_))));refine B0 (BP (BS ?_));refine By fun T1 hT=> ?_
 have gz:=ai (xt (hT 8)) (ai (xt (hT 7)) (ai (xt (hT 6)) (ai (xt (hT 1)) (ai (xt (hT 0)) trivial))));clear hT;refine xl l.length nf H hf (fun k t nf1 G=>(∀j,j<k->FJ L l j=true)/\(t 0=T1 0/\t 1=T1 1/\t 6=T1 6/\t 7=T1 7)/\t 8= .int .i64 (k:Int)) ⟨(fun j h=>absurd h (Aj j)),xh⟩ ?_;rintro k t nf1 G hk1 hn1 hf he ⟨i1,uz,h8⟩;have hfl:=hf;have p1:=he _ _ hl;have p2:=he _ _ hi;refine BO (BQ ?_);have fz:=ai p2 (ai p1 (ai h8 (ai uz gz)));refine xq (BP (BO ?_));refine C8 (fun c1=> ?_) fun c1=> ?_
 ·refine BR (BO (BS (BO (BQ ?_))));obtain⟨b,o,eX,hoX⟩:=(hZ.ext he) k om;have lb:=Bd hf hoX;have ek:=Bc l (show k<l.length from om);have fz:=ai hoX (ai eX (ai c1 fz));refine Eg (BP (BO ?_));have hm: (k+1)%l.length<l.length:=Nat.mod_lt _ om;obtain⟨q,eq⟩:∃q,q=(k+1)%l.length:=⟨_,rfl⟩;rw[<-eq]at hm;obtain⟨b2,o2,j6,hoX2⟩:=(hZ.ext he) q hm;have eo:b2=b/\o2=o:=by rw[eX]at j6;cases j6;exact⟨rfl,rfl⟩
  obtain⟨rfl,rfl⟩:=eo;have em: ((k:Int)+1).tmod (l.length:Int)=(q:Int):=by rw[eq];exact(congrArg (fun x=>Int.tmod x (l.length:Int)) (Int.natCast_succ k)).symm.trans (Int.ofNat_tmod _ _)
  refine Bh [1,0,0,1,0,0,0,1,0] [0,1,2,3,4,5,6,7,8] kr hf ?_;have fz:=ai @bo (ai em (ai hoX2 fz));iterate 9 first|refine CA ?_|refine Cq ?_
  refine BX (BO ?_);have hr:0<=l[k]/\l[k]<L.length:=by have:=CO hok (show k<l.length from om);rw[Ec,ek]at this;simp at this;omega
  obtain⟨j,ej⟩:=AI hr.1;have ek2:=Bc l hm;have hr2:0<=l[q]/\l[q]<L.length:=by have:=CO hok hm;rw[Ec,ek2]at this;simp at this;omega
  obtain⟨j2,ej2⟩:=AI hr2.1;obtain⟨b3,o3,eB,hoB⟩:=(hB.ext he) j om;obtain⟨b4,o4,eB2,hoB2⟩:=(hB.ext he) j2 om;have eo:b4=b3/\o4=o3:=by rw[eB]at eB2;cases eB2;exact⟨rfl,rfl⟩
  obtain⟨rfl,rfl⟩:=eo;have lb3:=Bd hf hoB;have ht:Cs (G b4) (o4+j*5+1) 1=some [.int .i64 L[j].t]:=Cn hoB dZ;have hh:Cs (G b4) (o4+j2*5+0) 1=some [.int .i64 L[j2].f]:=Cn hoB2 dZ;have ea:De L l k=L[j]:=by rw[De,ek,ej,Aa,Bk om]
  have eb:De L l ((k+1)%l.length)=L[j2]:=by rw[<-eq,De,ek2,ej2,Aa,Bk om]
  refine Bh [0,1,0,0,0,1,0,1,0,0,0,1,0] [0,1,2,3,4,5,6,7,8,9,10,11,12] kr hf ?_;have fz:=ai hh (ai ht (ai eB (ai ej2 (ai ej fz))));iterate 13 first|refine CA ?_|refine Cq ?_
  refine BX (Kf (fun c2=> ?_) fun c2=> ?_)
  ·refine BO (BQ ?_);have fz:=ai c2 fz;refine xq (BP (BT (rt ?_)));exact BW rfl ⟨by(rw[Hm (show k<l.length from om) (by rw[FJ,ea,eb];exact BI c2)];exact xv),xx⟩
  ·refine BR (BQ ?_);have fz:=ai c2 fz;refine Ba (BP ?_);exact xe hf ⟨(fun j h=>by rcases AT.1 h with h|rfl;exact i1 j h;rw[FJ,ea,eb];exact BH c2),xz⟩
 ·refine xo (BO (BQ ?_));have fz:=ai c1 fz;refine xq (BP (BT (rt ?_)));exact BW rfl ⟨by(rw[FL (fun j h=>i1 j om)];exact xv),xx⟩
section
theorem vK(a b:Int):mj tz 3 (.int .i64 a) (.int .i64 b)=some (a==b):=kr
theorem gC(a:Int):P6 tz 3 (.int .i64 a)=true:=kr
theorem si:Iv tz 223= .map 3 4:=kr
def Q3(l:List Int)(k:Nat):List MapEntry:=(List.range k).map fun j:Nat=>{key:= .int .i64 (alongI l j),val:= .bool true,born:=j}
theorem XR(l:List Int)(k:Nat):Q3 l (k+1)=Q3 l k++[{key:= .int .i64 (alongI l k),val:= .bool true,born:=k}]:=by unfold Q3;rw[List.range_succ,List.map_append];rfl
def aI(a:Int):List MapEntry->Bool
 |[]=>false
 |e::es=>(match e.key with| .int _ x=>a==x|_=>false)||aI a es
def qd(es:List MapEntry):Prop:=∀e∈es,∃x,e.key= .int .i64 x/\e.val= .bool true
theorem KH(a:Int):∀(es:List MapEntry) (i:Nat),qd es->(aI a es=true->∃j,Cy tz 3 (.int .i64 a) es i=some (some (j,.bool true)))/\(aI a es=false->Cy tz 3 (.int .i64 a) es i=some none)
 |[],i,_=>⟨fun h=>(by cases h),fun _=>rfl⟩
 |e::es,i,h=>by
  obtain⟨x,h1,h2⟩:=h e (by simp);have ih:=KH a es (i+1) fun e he=>h e (by simp[he])
  unfold aI Cy;rw[h1,h2,vK];dsimp only;cases hx: (a==x)with
  |true=>exact⟨fun _=>⟨i,rfl⟩,fun h=>(by cases h)⟩
  |false=>exact⟨fun h=>ih.1 h,fun h=>ih.2 h⟩
theorem PI(l:List Int)(k:Nat):qd (Q3 l k):=fun e he=>by
 unfold Q3 at he;obtain⟨j,_,rfl⟩:=List.mem_map.1 he;exact⟨_,rfl,rfl⟩
theorem gS(l:List Int)(a:Int):∀k,aI a (Q3 l k)= !decide (∀j,j<k->alongI l j≠a):=fun k=>by
 have key:∀es:List MapEntry,qd es->(aI a es=true↔∃e∈es,e.key= .int .i64 a):=by
  intro es;induction es with
  |nil=>intro _;simp[aI]
  |cons e es ih=>
   intro h;obtain⟨x,h1,h2⟩:=h e (by simp);have ih:=ih fun e he=>h e (by simp[he])
   unfold aI;rw[h1];simp only[A6,ih,AV,exists_eq_or_imp,h1,beq_iff_eq,Value.int.injEq,true_and];exact or_congr eq_comm Iff.rfl
 rw[Bool.eq_iff_iff,key _ (PI l k)];simp only[A7,decide_eq_false_iff_not];unfold Q3;constructor
 ·rintro⟨e,he,h⟩ hn;obtain⟨j,hj,rfl⟩:=List.mem_map.1 he;exact hn j (An.1 hj) (by injection h)
 ·intro h;apply Classical.byContradiction;intro hc;exact h fun j hj e=>hc ⟨_,List.mem_map.2 ⟨j,An.2 hj,rfl⟩,by rw[e]⟩
variable{es:List MapEntry}
theorem Z1{H:Hp}{b n:Nat}{a:Int}(hb:H b=some (.mp es n))(h:qd es):F0 tz H 223 (.map (some b)) (.int .i64 a) false=some (.bool (aI a es)):=by
 have z4: (tz 4).map (·.zero)=some (.bool false):=kr;obtain⟨q,hq,hz⟩:=PH z4;unfold F0;simp only[si,gC,Ag,hb];have m:=KH a es 0 h;cases hi:aI a es with
 |true=>obtain⟨j,e⟩:=m.1 hi;rw[e,hq];rfl
 |false=>rw[m.2 hi,hq];simp[hz]
theorem fH{H:Hp}{b n:Nat}{a:Int}(hb:H b=some (.mp es n))(h:qd es)(hi:aI a es=false):HS tz H 223 (.map (some b)) (.int .i64 a) (.bool true)=some [(b,.mp (es++[{key:= .int .i64 a,val:= .bool true,born:=n}]) (n+1))]:=by
 unfold HS;simp only[si,gC,Ag,hb];rw[(KH a es 0 h).2 hi]
theorem aN{H:Hp}{a:Nat}{ev:Operand->Value}(t:TypeId)(m k:Operand)(ok:Bool):hop tz H a ev (.lookup t m k ok)=(F0 tz H t (ev m) (ev k) ok).map fun v=>(v,[]):=rfl
theorem ru{H:Hp}{a:Nat}{ev:Operand->Value}(t:TypeId)(m k v:Operand):hop tz H a ev (.mapUpdate t m k v)=(HS tz H t (ev m) (ev k) (ev v)).map fun δ=>(undef,δ):=rfl
theorem rv{H:Hp}{a:Nat}{ev:Operand->Value}(t:TypeId):hop tz H a ev (.makeMap t none)=some (.map (some a),[(a,.mp [] 0)]):=rfl
def JL(l:List Int)(k:Nat):Bool:=decide (∀j,j<k->alongI l j≠alongI l k)
theorem oT{l:List Int}{Z:Option Addr}{e bl:Nat}{H:Hp}(hl:H bl=some (.own [.slice Z l.length e]))(hZ:Rd 1 intC H Z l)(hn:l.length<1000000):Pure 153 [.pointer (some ⟨bl,0,none⟩)] (.bool (Fy l.length (JL l))) H:=by
 refine Pure.of rfl (BV Tryz.func153 rfl 18 rfl fun nf t hf _ ht=> ?_);have hf0:=hf;have lbl:=hf.lt hl;refine BO (BQ ?_);have fz:=ai @rv (ai hl (ht 0 _ rfl));refine xq (BP (BO (BQ ?_)));refine xa fun hf=> ?_
 refine xq (BP (BO (BO (BQ ?_))));refine B0 (BP (BS ?_));refine By fun T1 hT=> ?_
 have gz:=ai (xt (hT 8)) (ai (xt (hT 7)) (ai (xt (hT 6)) (ai (xt (hT 2)) trivial)));clear hT;refine xl l.length nf H hf (fun k t nf1 G=>G nf=some (.mp (Q3 l k) k)/\(∀j,j<k->JL l j=true)/\(t 2=T1 2/\t 6=T1 6/\t 7=T1 7)/\t 8= .int .i64 (k:Int)) ⟨(by simp(disch:=omega)only[wx,fz];rfl),(fun j h=>absurd h (Aj j)),xh⟩ ?_;rintro k t nf1 G hk1 hn1 hf he ⟨bs,i1,uz,h8⟩;have hfl:=hf;have p1:=he _ _ hl;have lm:=hf.lt bs;refine BO (BQ ?_);have fz:=ai @ru (ai @aN (ai bs (ai p1 (ai h8 (ai uz gz)))));refine xq (BP (BO ?_));refine C8 (fun c1=> ?_) fun c1=> ?_
 ·refine BR (BO (BS (BO (BQ ?_))));obtain⟨b,o,eX,hoX⟩:=(hZ.ext he) k om;have lb:=Bd hf hoX;have ek:=Bc l (show k<l.length from om);have im:=gS l l[k] k;have lk:=Z1 (a:=l[k]) bs (PI l k);have fz:=ai lk (ai hoX (ai eX (ai c1 fz)));refine B0 (BP (BO (BO (BQ ?_))));refine B0 (BP ?_);refine xi (fun c2=> ?_) fun c2=> ?_
  ·rw[c2]at im;refine BO (BQ ?_);have fz:=ai c2 fz;refine xq (BP (BT (rt ?_)));exact BW rfl ⟨by(rw[Hm (show k<l.length from om) (by rw[JL,ek];simpa using im)];exact xv),xx⟩
  ·rw[c2]at im;have pm:=fH bs (PI l k) c2;refine BR (BQ ?_);have fz:=ai pm (ai c2 fz);refine Ba ?_;refine xs fun hf=> ?_
   refine BP (BQ (Ba (BP ?_)));exact xe hf ⟨(by simp(disch:=omega)only[wx,fz];rw[XR,ek]),(fun j h=>by rcases AT.1 h with h|rfl;exact i1 j h;rw[JL,ek];simpa using im),xz⟩
 ·refine xo (BO (BQ ?_));have fz:=ai c1 fz;refine xq (BP (BT (rt ?_)));exact BW rfl ⟨by(rw[FL (fun j h=>i1 j om)];exact xv),xx⟩
end
section
def KU(bl bi:Nat):Nat->Value
 |0=> .func (.func 151) #[] #[.pointer (some ⟨bl,0,none⟩),.pointer (some ⟨bi,0,none⟩)]
 |1=> .func (.func 153) #[] #[.pointer (some ⟨bl,0,none⟩)]
 |2=> .func (.func 154) #[] #[.pointer (some ⟨bl,0,none⟩),.pointer (some ⟨bi,0,none⟩)]
 |3=> .func (.func 155) #[] #[.pointer (some ⟨bl,0,none⟩),.pointer (some ⟨bi,0,none⟩)]
 |_=> .func (.func 156) #[] #[.pointer (some ⟨bi,0,none⟩),.pointer (some ⟨bl,0,none⟩)]
def Xy(L:List Ar)(l:List Int):Nat->Bool
 |0=>Fy l.length (Ec L l)
 |1=>Fy l.length (JL l)
 |2=>Fy l.length (FJ L l)
 |3=>Fy l.length fun k=>decide ((De L l k).ca=4611686018427387904)
 |_=>decide (sg (Ej L l l.length) 0<0)
theorem tK(a bl bi:Nat):D0 tz a 187 5 [(0,KU bl bi 0),(1,KU bl bi 1),(2,KU bl bi 2),(3,KU bl bi 3),(4,KU bl bi 4)]=some (.slice (some ⟨a,0,none⟩) 5 5,[(a,.own [KU bl bi 0,KU bl bi 1,KU bl bi 2,KU bl bi 3,KU bl bi 4])]):=kr
theorem sK(bl bi:Nat){k:Nat}(h:k<5):Cs (some (.own [KU bl bi 0,KU bl bi 1,KU bl bi 2,KU bl bi 3,KU bl bi 4])) (0+k*1) 1=some [KU bl bi k]:=by
 match k,h with
 |0,_=>rfl
 |1,_=>rfl
 |2,_=>rfl
 |3,_=>rfl
 |4,_=>rfl
variable{S l:List Int}{B Z:Option Addr}
theorem oP{L:List Ar}{A:Option Addr}{c d e bl bi:Nat}{H:Hp}(hl:H bl=some (.own [.slice Z l.length e]))(hi:H bi=some (.own [.slice A S.length c,.slice B L.length d]))(hZ:Rd 1 intC H Z l)(hB:Rd 5 Ar.c H B L)(hn:l.length<1000000)(hc:∀a∈L,R64 a.co){k:Nat}(h:k<5)(hp:∀j,j<k->Xy L l j=true):∃g cap,KU bl bi k= .func (.func g) #[] cap/\Pure g cap.toList (.bool (Xy L l k)) H:=by
 match k,h with
 |0,_=>exact⟨_,_,rfl,oU hl hi hZ om⟩
 |1,_=>exact⟨_,_,rfl,oT hl hZ hn⟩
 |2,_=>exact⟨_,_,rfl,oS hl hi hZ hB hn (hp 0 dZ)⟩
 |3,_=>exact⟨_,_,rfl,oR hl hi hZ hB om (hp 0 dZ)⟩
 |4,_=>exact⟨_,_,rfl,oQ hl hi hZ hB hn hc⟩
noncomputable def DK(S:List Int)(L:List Ar)(l:List Int):Int:=if rightI S L≠0 then rightI S L else if l.length=0\/l.length>L.length then 30 else if Fy 5 (Xy L l)=true then 0 else 35
theorem iI{H:Hp}(S:List Int)(L:List Ar)(l:List Int)(A B Z:Option Addr)(c d e:Nat):Ct 124 [.agg #[.slice A S.length c,.slice B L.length d],.slice Z l.length e] (fun v H'=>Ext H H'/\∃b bl bi,v= .slice (some ⟨b,0,none⟩) 5 5/\H' b=some (.own [KU bl bi 0,KU bl bi 1,KU bl bi 2,KU bl bi 3,KU bl bi 4])/\H' bl=some (.own [.slice Z l.length e])/\H' bi=some (.own [.slice A S.length c,.slice B L.length d])) H:=by
 refine BV Tryz.func124 rfl 11 rfl fun nf t hf hsc ht=> ?_
 have hf0:=hf;refine BO (BQ ?_);have fz:=ai (ht 1 _ rfl) (ht 0 _ rfl);refine xa fun hf=> ?_
 refine xa fun hf=> ?_
 refine xq (BP (BO (BQ ?_)));refine Eg ?_;refine oa hf rfl (by simp(disch:=omega)only[wx,fz];exact tK _ (nf+1) nf) fun hf=> ?_
 refine xq (BP (BT (rt ?_)));exact BW rfl ⟨by(repeat refine Ext.up (hf0 _ om) ?_);exact Ext.refl _,nf+2,nf+1,nf,xv,xy,xy,xy⟩
set_option maxHeartbeats 1600000 in
theorem dT{L:List Ar}{A:Option Addr}{c d e:Nat}{H:Hp}(hA:Rd 1 intC H A S)(hB:Rd 5 Ar.c H B L)(hZ:Rd 1 intC H Z l)(hc:∀a∈L,R64 a.co):Pure 82 [.agg #[.slice A S.length c,.slice B L.length d],.slice Z l.length e] (.int .u16 (DK S L l)) H:=by
 refine Pure.of rfl (BV Tryz.func82 rfl 36 rfl fun nf t hf _ ht=> ?_);have hf0:=hf;refine BO (BQ ?_);have fz:=ai (ht 1 _ rfl) (ht 0 _ rfl);refine xa fun hf=> ?_
 refine xq (BP (BO (BO (BQ ?_))));refine xq ?_;refine xp (h:=JE (hA.ext (by(repeat refine Ext.up (hf0 _ om) ?_);exact Ext.refl _)) (hB.ext (by(repeat refine Ext.up (hf0 _ om) ?_);exact Ext.refl _))) (k:= ?_);refine xq (BP (BO (BQ ?_)));refine Ba (BP ?_);refine xi (fun c1=> ?_) fun c1=> ?_
 ·refine BO (BQ ?_);have fz:=ai c1 fz;refine Ba (BP (BT (rt ?_)));exact BW rfl ⟨by(simp(disch:=omega)only[wx,fz];rw[DK,if_pos (by simpa using c1)]),xx⟩
 ·have hr:rightI S L=0:=by simpa using c1
  have hb:=CW hr;refine BR (BO (BO (BQ ?_)));have fz:=ai c1 fz;iterate 11 first|refine xq ?_|refine xg ?_
  refine BP (xi (fun c2=> ?_) fun c2=> ?_)
  ·refine BO (BQ ?_);have fz:=ai c2 fz;refine xq (BP (BT (rt ?_)));exact BW rfl ⟨by(simp(disch:=omega)only[wx,fz];rw[DK,if_neg (fun h=>h hr),if_pos (by simp only[Bool.or_eq_false_iff,beq_eq_false_iff_ne,decide_eq_false_iff_not,A6,beq_iff_eq,BE,ne_eq]at c2;omega)]),xx⟩
  ·have hlen:¬(l.length=0\/l.length>L.length):=by simp only[Bool.or_eq_false_iff,beq_eq_false_iff_ne,decide_eq_false_iff_not,A6,beq_iff_eq,BE,ne_eq]at c2;omega
   refine BR (BO (BO (BQ ?_)));have fz:=ai c2 fz;refine Ba ?_;refine xc (h:=iI S L l A B Z c d e) (k:=fun v1 H1 nf2 hl2 q1 hf=> ?_);obtain⟨eN,b,bl,bi,rfl,q5,q6,q7⟩:=q1;have he:=Ext.trans (by(repeat refine Ext.up (hf0 _ om) ?_);exact Ext.refl H) eN;have fz:=ai q7 (ai q6 (ai q5 fz));refine Ba (BP (BS ?_));refine By fun T1 hT=> ?_
   have gz:=ai (xt (hT 28)) (ai (xt (hT 27)) (ai (xt (hT 26)) trivial));clear hT;refine xl 5 nf H hf (fun k t nf1 G=>(∀j,j<k->Xy L l j=true)/\(t 26=T1 26/\t 27=T1 27)/\t 28= .int .i64 (k:Int)/\G b=some (.own [KU bl bi 0,KU bl bi 1,KU bl bi 2,KU bl bi 3,KU bl bi 4])/\G bl=some (.own [.slice Z l.length e])/\G bi=some (.own [.slice A S.length c,.slice B L.length d])) ⟨(fun j h=>absurd h (Aj j)),xh⟩ ?_;rintro k t nf1 G hk1 hn1 hf he ⟨i1,uz,h28,b0,b1,b2⟩;have hfl:=hf;have l0:=hf.lt b0;have l1:=hf.lt b1;have l2:=hf.lt b2;refine BO (BQ ?_);have fz:=ai b2 (ai b1 (ai b0 (ai h28 (ai uz gz))));refine xq (BP (BO ?_));refine C8 (fun c3=> ?_) fun c3=> ?_
   ·refine BR (BO (BS (BO (BQ ?_))));obtain⟨g,cap,ef,hpu⟩:=oP b1 b2 (hZ.ext he) (hB.ext he) om hc (show k<5 from om) i1;have fz:=ai ef (ai @sK (ai c3 fz));refine B0 (BP (BO (BQ ?_)));refine xq ?_;refine qa rfl xv xv (hpu) ?_;refine xq (BP ?_);refine xi (fun c4=> ?_) fun c4=> ?_
    ·refine BO (BQ ?_);have fz:=ai c4 fz;refine xq (BP (BT (rt ?_)));exact BW rfl ⟨by(simp(disch:=omega)only[wx,fz];rw[DK,if_neg (fun h=>h hr),if_neg hlen,if_neg (by rw[Hm (show k<5 from om) (by simpa using c4)];exact Aq)]),xx⟩
    ·refine BR (BQ ?_);have fz:=ai c4 fz;refine Ba (BP ?_);exact xe hf ⟨(fun j h=>by rcases AT.1 h with h|rfl;exact i1 j h;simpa using c4),xz⟩
   ·refine xo (BO (BQ ?_));have fz:=ai c3 fz;refine xq (BP (BT (rt ?_)));exact BW rfl ⟨by(simp(disch:=omega)only[wx,fz];rw[DK,if_neg (fun h=>h hr),if_neg hlen,if_pos (FL fun j h=>i1 j om)]),xx⟩
end
section
structure CIn(H:Hp)(S:List Int)(L:List Ar)(x p:List Int)(s:List Bool)(l:List Int)(A B F P D Y:Option Addr):Prop where
 a:Rd 1 intC H A S
 b:Rd 5 Ar.c H B L
 f:Rd 1 intC H F x
 p:Rd 1 intC H P p
 d:Rd 1 boolC H D s
 y:Rd 1 intC H Y l
variable{H:Hp}{S l x:List Int}{L:List Ar}{B D F P Y:Option Addr}
theorem CIn.ext{G:Hp}{p:List Int}{s:List Bool}{A:Option Addr}(h:CIn H S L x p s l A B F P D Y)(e:Ext H G):CIn G S L x p s l A B F P D Y:=⟨h.a.ext e,h.b.ext e,h.f.ext e,h.p.ext e,h.d.ext e,h.y.ext e⟩
structure CR(S:List Int)(L:List Ar)(x p:List Int):Prop where
 rs:∀n∈S,R64 n
 rl:∀a∈L,R64 a.lo/\R64 a.ca/\R64 a.co
 rx:∀n∈x,R64 n
 rp:∀n∈p,R64 n
 rn:x.length<4611686018427387904
noncomputable def Oz(S:List Int)(L:List Ar)(x l:List Int):Int:=if Cb S L x≠0 then Cb S L x else DK S L l
noncomputable def C6(S:List Int)(L:List Ar)(kd:Int)(x p:List Int)(s:List Bool)(l:List Int):Int:=if rightI S L≠0 then rightI S L else if D6 kd x.length p.length s.length l.length=false then 36 else if kd=1 then CP S L x p else if kd=2 then Ca S L s else Oz S L x l
variable{kd:Int}{cf cp cs cy d:Nat}
theorem gJ{p:List Int}{s:List Bool}{A:Option Addr}{c:Nat}(hc:CIn H S L x p s l A B F P D Y)(hr:CR S L x p):Pure 77 [.agg #[.slice A S.length c,.slice B L.length d],.agg #[.int .i64 kd,.slice F x.length cf,.slice P p.length cp,.slice D s.length cs,.slice Y l.length cy]] (.int .u16 (CP S L x p)) H:=by
 refine Pure.of rfl (BV Tryz.func77 rfl 11 rfl fun nf t hf _ ht=> ?_);have hf0:=hf;refine BO (BQ ?_);have fz:=ai (ht 1 _ rfl) (ht 0 _ rfl);refine xa fun hf=> ?_
 refine xa fun hf=> ?_
 refine xq (BP (BO (BQ ?_)));refine Eg ?_;refine xp (h:=Yp (hc.ext (by(repeat refine Ext.up (hf0 _ om) ?_);exact Ext.refl _)).a (hc.ext (by(repeat refine Ext.up (hf0 _ om) ?_);exact Ext.refl _)).b (hc.ext (by(repeat refine Ext.up (hf0 _ om) ?_);exact Ext.refl _)).f (hc.ext (by(repeat refine Ext.up (hf0 _ om) ?_);exact Ext.refl _)).p hr.rs hr.rx hr.rp (fun a h=>(hr.rl a h).2.2) hr.rn) (k:= ?_);refine xq (BP (BT (rt ?_)));exact BW rfl ⟨by(simp(disch:=omega)only[wx,fz]<;>rfl),xx⟩
theorem gI{p:List Int}{s:List Bool}{A:Option Addr}{c:Nat}(hc:CIn H S L x p s l A B F P D Y)(hr:CR S L x p):Pure 79 [.agg #[.slice A S.length c,.slice B L.length d],.agg #[.int .i64 kd,.slice F x.length cf,.slice P p.length cp,.slice D s.length cs,.slice Y l.length cy]] (.int .u16 (Ca S L s)) H:=by
 refine Pure.of rfl (BV Tryz.func79 rfl 9 rfl fun nf t hf _ ht=> ?_);have hf0:=hf;refine BO (BQ ?_);have fz:=ai (ht 1 _ rfl) (ht 0 _ rfl);refine xa fun hf=> ?_
 refine xa fun hf=> ?_
 refine xq (BP (BO (BQ ?_)));refine B0 ?_;refine xp (h:=ZR (hc.ext (by(repeat refine Ext.up (hf0 _ om) ?_);exact Ext.refl _)).a (hc.ext (by(repeat refine Ext.up (hf0 _ om) ?_);exact Ext.refl _)).b (hc.ext (by(repeat refine Ext.up (hf0 _ om) ?_);exact Ext.refl _)).d hr.rs (fun a h=>⟨(hr.rl a h).1,(hr.rl a h).2.1⟩)) (k:= ?_);refine xq (BP (BT (rt ?_)));exact BW rfl ⟨by(simp(disch:=omega)only[wx,fz]<;>rfl),xx⟩
theorem gH{p:List Int}{s:List Bool}{A:Option Addr}{c:Nat}(hc:CIn H S L x p s l A B F P D Y)(hr:CR S L x p):Pure 81 [.agg #[.slice A S.length c,.slice B L.length d],.agg #[.int .i64 kd,.slice F x.length cf,.slice P p.length cp,.slice D s.length cs,.slice Y l.length cy]] (.int .u16 (Oz S L x l)) H:=by
 refine Pure.of rfl (BV Tryz.func81 rfl 17 rfl fun nf t hf _ ht=> ?_);have hf0:=hf;refine BO (BQ ?_);have fz:=ai (ht 1 _ rfl) (ht 0 _ rfl);refine xa fun hf=> ?_
 refine xa fun hf=> ?_
 refine xq (BP (BO (BO (BQ ?_))));refine B0 ?_;refine xp (h:=PZ (hc.ext (by(repeat refine Ext.up (hf0 _ om) ?_);exact Ext.refl _)).a (hc.ext (by(repeat refine Ext.up (hf0 _ om) ?_);exact Ext.refl _)).b (hc.ext (by(repeat refine Ext.up (hf0 _ om) ?_);exact Ext.refl _)).f hr.rs hr.rx hr.rn) (k:= ?_);refine xq (BP (BO (BQ ?_)));refine Ba (BP ?_);refine xi (fun c1=> ?_) fun c1=> ?_
 ·refine BO (BQ ?_);have fz:=ai c1 fz;refine Ba (BP (BT (rt ?_)));exact BW rfl ⟨by(simp(disch:=omega)only[wx,fz];rw[Oz,if_pos (by simpa using c1)]),xx⟩
 ·refine BR (BO (BQ ?_));have fz:=ai c1 fz;refine B0 ?_;refine xp (h:=dT (hc.ext (by(repeat refine Ext.up (hf0 _ om) ?_);exact Ext.refl _)).a (hc.ext (by(repeat refine Ext.up (hf0 _ om) ?_);exact Ext.refl _)).b (hc.ext (by(repeat refine Ext.up (hf0 _ om) ?_);exact Ext.refl _)).y (fun a h=>(hr.rl a h).2.2)) (k:= ?_);refine xq (BP (BT (rt ?_)));exact BW rfl ⟨by(simp(disch:=omega)only[wx,fz];rw[Oz,if_neg (by simpa using c1)]),xx⟩
end
section
noncomputable def aC(x:Option AB)(r:Nat)(k v:Value):Option (List (Nat×AB)):=match x with
 |some (.mp es n)=>match Cy tz 3 k es 0 with
  |some (some (i,_))=>some [(r,.mp (es.modify i fun e=>{e with key:=k,val:=v}) n)]
  |some none=>some [(r,.mp (es++[{key:=k,val:=v,born:=n}]) (n+1))]
  |none=>none
 |_=>none
theorem sd:Iv tz 82= .map 3 43:=kr
theorem vT(H:Hp)(r:Nat)(k:Int)(v:Value):HS tz H 82 (.map (some r)) (.int .i64 k) v=aC (H r) r (.int .i64 k) v:=by
 unfold HS aC;simp only[sd,gC,Ag];cases H r with
 |none=>rfl
 |some x=>cases x<;>rfl
theorem vX(r:Nat)(v:Value):aC (some (.mp [] 0)) r (.int .i64 1) v=some [(r,.mp [⟨.int .i64 1,v,0⟩] 1)]:=kr
theorem vW(r:Nat)(u v:Value):aC (some (.mp [⟨.int .i64 1,u,0⟩] 1)) r (.int .i64 2) v=some [(r,.mp [⟨.int .i64 1,u,0⟩,⟨.int .i64 2,v,1⟩] 2)]:=kr
theorem vV(r:Nat)(u v w:Value):aC (some (.mp [⟨.int .i64 1,u,0⟩,⟨.int .i64 2,v,1⟩] 2)) r (.int .i64 3) w=some [(r,.mp [⟨.int .i64 1,u,0⟩,⟨.int .i64 2,v,1⟩,⟨.int .i64 3,w,2⟩] 3)]:=kr
theorem sB{H:Hp}{a:Nat}{ev:Operand->Value}(t:TypeId)(m k v:Operand):hop tz H a ev (.insert t m k v)=(HS tz H t (ev m) (ev k) (ev v)).map fun δ=>(undef,δ):=rfl
theorem sY(t:Nat->Value)(g:FuncId):eT t (.func g)= .func (.func g) #[] #[]:=rfl
def uK:List MapEntry:=[⟨.int .i64 1,.func (.func 77) #[] #[],0⟩,⟨.int .i64 2,.func (.func 79) #[] #[],1⟩,⟨.int .i64 3,.func (.func 81) #[] #[],2⟩]
variable{H:Hp}
theorem gF:Ct 34 [] (fun v H'=>Ext H H'/\∃r,v= .map (some r)/\H' r=some (.mp uK 3)) H:=by
 refine BV Tryz.func34 rfl 3 rfl fun nf t hf hsc ht=> ?_
 have hf0:=hf;refine BO (BQ ?_);have fz:=ai @sY (ai @vV (ai @vW (ai @vX (ai @vT (ai @sB @rv)))));refine xq (BP (BO (BQ ?_)));refine xa fun hf=> ?_
 refine xs fun hf=> ?_
 refine xs fun hf=> ?_
 refine xs fun hf=> ?_
 refine Ba (BP (BT (rt ?_)));exact BW rfl ⟨by(repeat refine Ext.up (hf0 _ om) ?_);exact Ext.refl _,nf,xv,xv⟩
noncomputable def rN(S:List Int)(L:List Ar)(kd:Int)(x p:List Int)(s:List Bool)(l:List Int):Int:=if kd=1 then CP S L x p else if kd=2 then Ca S L s else Oz S L x l
variable{kd:Int}{cf cp cs cy d r:Nat}
theorem Qq{a b c:Nat}(h:D6 kd a b c d=true):kd=1\/kd=2\/kd=3:=by
 unfold D6 at h;split at h
 ·exact .inl ‹_›
 ·split at h
  ·exact .inr (.inl ‹_›)
  ·split at h
   ·exact .inr (.inr ‹_›)
   ·cases h
theorem Su(h:H r=some (.mp uK 3))(kd:Int){g:FuncId}(hg:∃i,Cy tz 3 (.int .i64 kd) uK 0=some (some (i,.func (.func g) #[] #[]))):F0 tz H 82 (.map (some r)) (.int .i64 kd) true=some (.tuple #[.func (.func g) #[] #[],.bool true]):=by
 obtain⟨i,hi⟩:=hg;have z: (tz 43).isSome=true:=kr;obtain⟨q,hq⟩:=Option.isSome_iff_exists.1 z;unfold F0;simp only[sd,gC,Ag,h];rw[hi,hq]
variable{S l x:List Int}{B D F P Y:Option Addr}
theorem oC{L:List Ar}{p:List Int}{s:List Bool}{A:Option Addr}{c:Nat}(hc:CIn H S L x p s l A B F P D Y)(hr:CR S L x p)(hk:kd=1\/kd=2\/kd=3)(h:H r=some (.mp uK 3)):∃g,F0 tz H 82 (.map (some r)) (.int .i64 kd) true=some (.tuple #[.func (.func g) #[] #[],.bool true])/\∀G,Ext H G->Pure g [.agg #[.slice A S.length c,.slice B L.length d],.agg #[.int .i64 kd,.slice F x.length cf,.slice P p.length cp,.slice D s.length cs,.slice Y l.length cy]] (.int .u16 (rN S L kd x p s l)) G:=by
 rcases hk with rfl|rfl|rfl
 ·exact⟨77,Su h 1 ⟨0,kr⟩,fun G e=>gJ (hc.ext e) hr⟩
 ·exact⟨79,Su h 2 ⟨1,kr⟩,fun G e=>gI (hc.ext e) hr⟩
 ·exact⟨81,Su h 3 ⟨2,kr⟩,fun G e=>gH (hc.ext e) hr⟩
set_option maxHeartbeats 1600000 in
theorem WS{L:List Ar}{p:List Int}{s:List Bool}{A:Option Addr}{c:Nat}(hc:CIn H S L x p s l A B F P D Y)(hr:CR S L x p):Pure 14 [.agg #[.slice A S.length c,.slice B L.length d],.agg #[.int .i64 kd,.slice F x.length cf,.slice P p.length cp,.slice D s.length cs,.slice Y l.length cy]] (.int .u16 (C6 S L kd x p s l)) H:=by
 refine Pure.of rfl (BV Tryz.func14 rfl 29 rfl fun nf t hf _ ht=> ?_);have hf0:=hf;refine BO (BQ ?_);have fz:=ai (ht 1 _ rfl) (ht 0 _ rfl);refine xa fun hf=> ?_
 refine xa fun hf=> ?_
 refine xq (BP (BO (BO (BQ ?_))));refine xq ?_;refine xp (h:=JE (hc.ext (by(repeat refine Ext.up (hf0 _ om) ?_);exact Ext.refl _)).a (hc.ext (by(repeat refine Ext.up (hf0 _ om) ?_);exact Ext.refl _)).b) (k:= ?_);refine xq (BP (BO (BQ ?_)));refine Ba (BP ?_);refine xi (fun c1=> ?_) fun c1=> ?_
 ·refine BO (BQ ?_);have fz:=ai c1 fz;refine Ba (BP (BT (rt ?_)));exact BW rfl ⟨by(simp(disch:=omega)only[wx,fz];rw[C6,if_pos (by simpa using c1)]),xx⟩
 ·have hr0:rightI S L=0:=by simpa using c1
  refine BR (BO (BO (BQ ?_)));have fz:=ai c1 fz;refine xq ?_;refine xp (h:=fL) (k:= ?_);refine xq (BP ?_);refine xi (fun c2=> ?_) fun c2=> ?_
  ·refine BO (BQ ?_);have fz:=ai c2 fz;refine xq (BP (BT (rt ?_)));exact BW rfl ⟨by(simp(disch:=omega)only[wx,fz];rw[C6,if_neg (fun h=>h hr0),if_pos (by simpa using c2)]),xx⟩
  ·have hp:D6 kd x.length p.length s.length l.length=true:=by simpa using c2
   refine BR (BO (Bh [3,0,1,1,0,0,0,0,0] [1,2,0,3,4,5,6,7,8] kr hf ?_));have fz:=ai c2 fz;iterate 2 first|refine CA ?_|refine Cq ?_
   refine dm rfl (by(repeat refine Ext.up (hf _ om) ?_);exact Ext.refl _) xv (gF) (fun _ _ q=>q.1) fun v1 H1 nf2 hl2 q1 hf=> ?_
   obtain⟨q1,r,rfl,hm⟩:=q1;have he:Ext H H1:=Ext.trans (by(repeat refine Ext.up (hf0 _ om) ?_);exact Ext.refl _) q1;have m0:=q1 nf _ (by rw[upd_ne om,BU]);have m1:=q1 (nf+1) _ (BU _ _ _);obtain⟨g,hlk,hpu⟩:=oC (c:=c) (d:=d) (cf:=cf) (cp:=cp) (cs:=cs) (cy:=cy) (hc.ext he) hr (Qq hp) hm;have fz:=ai @aN (ai hlk (ai m1 (ai m0 fz)));iterate 6 first|refine CA ?_|refine Cq ?_
   refine BX (BO (BO (BQ (Ba (BP ?_)))));refine xF (BR (BO (BQ ?_)));refine B0 ?_;refine qa rfl xv xv (hpu _ (by(repeat refine Ext.up (hf0 _ om) ?_);exact Ext.refl _)) ?_;refine xq (BP (BT (rt ?_)));exact BW rfl ⟨by(simp(disch:=omega)only[wx,fz];rw[C6,if_neg (fun h=>h hr0),if_neg (by rw[hp];simp)];rfl),xx⟩
end
section
theorem wt(b:Int):B9 tz 52 [(1,.int .u64 b)]=some (.agg #[.int .i64 0,.int .u64 b]):=kr
theorem ws(a b:Int):B9 tz 52 [(0,.int .i64 a),(1,.int .u64 b)]=some (.agg #[.int .i64 a,.int .u64 b]):=kr
variable{H:Hp}
theorem HL{a:Int}(ha: -9223372036854775808<=a/\a<9223372036854775808):Pure 91 [.int .i64 a] (W a) H:=by
 refine Pure.of rfl (BV Tryz.func91 rfl 11 rfl fun nf t hf _ ht=> ?_);have hf0:=hf;refine BO (BQ ?_);have fz:=ai @Nat.add_zero (ai @wt (ht 0 _ rfl));refine xa fun hf=> ?_
 refine BP (BO (BQ (B0 ?_)));refine xa fun hf=> ?_
 refine xs fun hf=> ?_
 refine BP (BO (BO (BQ (Ba (BP ?_)))));refine C8 (fun c1=> ?_) fun c1=> ?_
 ·refine BQ ?_;have fz:=ai c1 fz;refine xq ?_;refine xs fun hf=> ?_
  refine BP (BO (BQ (xq ?_)));refine xs fun hf=> ?_
  refine BP (BT (rt ?_));exact Ch rfl xv ⟨by(rw[<-uw ha,show a/9223372036854775808= -1 from om];try(simp(disch:=omega)only[wx,fz]<;>rfl)),xx⟩
 ·refine BR (BO (BQ ?_));have fz:=ai c1 fz;refine xq ?_;refine xs fun hf=> ?_
  refine BP (BT (rt ?_));exact Ch rfl xv ⟨by(rw[<-uw ha,show a/9223372036854775808=0 from om];try(simp(disch:=omega)only[wx,fz]<;>rfl)),xx⟩
variable{b:Int}
theorem ln{a:Int}(h:IntKind.wrap .u64 (EG a+EG b)<EG a):Value.agg #[.int .i64 (IntKind.wrap .i64 (IntKind.wrap .i64 (GI a+GI b)+1)),.int .u64 (IntKind.wrap .u64 (EG a+EG b))]=W (a+b):=by
 refine X0 ?_ ?_
 ·revert h;unfold GI EG;simp only[Cd,EN];omega
 ·unfold EG;rw[EN];omega
theorem li{a:Int}(h:¬IntKind.wrap .u64 (EG a+EG b)<EG a):Value.agg #[.int .i64 (IntKind.wrap .i64 (GI a+GI b)),.int .u64 (IntKind.wrap .u64 (EG a+EG b))]=W (a+b):=by
 refine X0 ?_ ?_
 ·revert h;unfold GI EG;simp only[Cd,EN];omega
 ·unfold EG;rw[EN];omega
theorem Gw{a:Int}:Pure 128 [W a,W b] (W (a+b)) H:=by
 refine Pure.of rfl (BV Tryz.func128 rfl 27 rfl fun nf t hf _ ht=> ?_);have hf0:=hf;refine BO (BQ ?_);have fz:=ai @Nat.add_zero (ai @DO (ai @ws (ai (ht 1 _ rfl) (ht 0 _ rfl))));refine xa fun hf=> ?_
 refine xa fun hf=> ?_
 refine xa fun hf=> ?_
 refine BP (BO (BQ (Dk ?_)));refine Eg ?_;refine xa fun hf=> ?_
 refine xs fun hf=> ?_
 refine BP (BO (BO (BQ (Eg (BP ?_)))));refine C8 (fun c1=> ?_) fun c1=> ?_
 ·refine BQ ?_;have fz:=ai c1 fz;refine Dv ?_;refine xs fun hf=> ?_
  refine BP (BO (BQ (xq ?_)));refine xs fun hf=> ?_
  refine BP (BT (rt ?_));exact Ch rfl xv ⟨by(rw[<-ln c1];try(simp(disch:=omega)only[wx,fz]<;>rfl)),xx⟩
 ·refine BR (BO (BQ ?_));have fz:=ai c1 fz;refine xq ?_;refine xs fun hf=> ?_
  refine BP (BT (rt ?_));exact Ch rfl xv ⟨by(rw[<-li c1];try(simp(disch:=omega)only[wx,fz]<;>rfl)),xx⟩
theorem Td(n:Int): (((BitVec.allOnes 64)^^^BitVec.ofInt 64 n).toNat:Int)=18446744073709551615 - n%18446744073709551616:=by
 rw[BitVec.allOnes_xor,BitVec.toNat_not,BitVec.toNat_ofInt];omega
theorem pP(n:Int):fD .xor (.int .i64 n)=some (.int .i64 (IntKind.wrap .i64 (18446744073709551615 - n%18446744073709551616))):=by
 rw[<-Td];rfl
theorem pO(n:Int):fD .xor (.int .u64 n)=some (.int .u64 (IntKind.wrap .u64 (18446744073709551615 - n%18446744073709551616))):=by
 rw[<-Td];rfl
theorem rI(a:Int):Value.agg #[.int .i64 (IntKind.wrap .i64 (18446744073709551615 - GI a%18446744073709551616)),.int .u64 (IntKind.wrap .u64 (18446744073709551615 - EG a%18446744073709551616))]=W (-a - 1):=by
 refine X0 ?_ ?_
 ·unfold GI;simp only[Cd];omega
 ·unfold EG;rw[EN];omega
theorem W1:Value.agg #[.int .i64 0,.int .u64 1]=W 1:=rfl
theorem ez{a:Int}:Pure 159 [W a] (W (-a)) H:=by
 refine Pure.of rfl (BV Tryz.func159 rfl 12 rfl fun nf t hf _ ht=> ?_);have hf0:=hf;refine BO (BQ ?_);have fz:=ai @Nat.add_zero (ai @pO (ai @pP (ai @DO (ai @ws (ai @wt (ht 0 _ rfl))))));refine xa fun hf=> ?_
 refine xa fun hf=> ?_
 refine BP (BO (BQ (Dk ?_)));refine Ba ?_;refine op rfl (by simp(disch:=omega)only[wx,fz,rI]<;>rfl) (Gw (a:= -a - 1) (b:=1)) ?_;refine xs fun hf=> ?_
 refine BP (BT (rt ?_));exact Ch rfl xv ⟨by(have e: -a - 1+1= -a:=om;simp(disch:=omega)only[wx,fz,e]<;>rfl),xx⟩
theorem HX{a:Int}:Pure 126 [W a,W b] (W (a - b)) H:=by
 refine Pure.of rfl (BV Tryz.func126 rfl 9 rfl fun nf t hf _ ht=> ?_);have hf0:=hf;refine BO (BQ ?_);have fz:=ai @DO (ai (ht 1 _ rfl) (ht 0 _ rfl));refine xa fun hf=> ?_
 refine xa fun hf=> ?_
 refine xa fun hf=> ?_
 refine BP (BO (Bh [1,1,1,1,2] [0,1,2,3,4] kr hf ?_));iterate 2 refine Cq ?_
 refine EB (h:=fun G hG=>ez) (k:= ?_);refine EB (h:=fun G hG=>Gw) (k:= ?_);refine Fx fun nf2 hl2 hf=> ?_
 refine BX (BT (rt ?_));exact Ch rfl xv ⟨by(have e:a+ -b=a - b:=om;simp(disch:=omega)only[wx,fz,e]<;>rfl),xx⟩
theorem Sa{a:Int}(ha: -170141183460469231731687303715884105728<=a/\a<170141183460469231731687303715884105728)(hb: -170141183460469231731687303715884105728<=b/\b<170141183460469231731687303715884105728):Pure 85 [W a,W b] (.int .i64 (sg a b)) H:=by
 refine Pure.of rfl (BV Tryz.func85 rfl 25 rfl fun nf t hf _ ht=> ?_);have hf0:=hf;refine BO (BQ ?_);have fz:=ai @Nat.add_zero (ai @DO (ai (ht 1 _ rfl) (ht 0 _ rfl)));refine xa fun hf=> ?_
 refine xa fun hf=> ?_
 refine xq (BP (BO (BO (BQ ?_))));refine Eg (BP ?_);refine Kf (fun c1=> ?_) fun c1=> ?_
 ·refine BO (BO (BQ ?_));have fz:=ai c1 fz;refine Eg (BP ?_);refine C8 (fun c2=> ?_) fun c2=> ?_
  ·refine BO (BQ ?_);have fz:=ai c2 fz;refine xq (BP (BT (rt ?_)));exact BW rfl ⟨by(rw[<-(dz ha hb).1 c1,if_pos c2];exact xv),xx⟩
  ·refine BR (BO (BQ ?_));have fz:=ai c2 fz;refine xq (BP (BT (rt ?_)));exact BW rfl ⟨by(rw[<-(dz ha hb).1 c1,if_neg c2,if_pos om];exact xv),xx⟩
 ·refine BR (BO (BO (BQ ?_)));have fz:=ai c1 fz;refine Eg (BP ?_);refine Kf (fun c3=> ?_) fun c3=> ?_
  ·refine BO (BO (BQ ?_));have fz:=ai c3 fz;refine Eg (BP ?_);refine C8 (fun c4=> ?_) fun c4=> ?_
   ·refine BO (BQ ?_);have fz:=ai c4 fz;refine xq (BP (BT (rt ?_)));exact BW rfl ⟨by(rw[<-(dz ha hb).2 c1,if_pos c4];exact xv),xx⟩
   ·refine BR (BO (BQ ?_));have fz:=ai c4 fz;refine xq (BP (BT (rt ?_)));exact BW rfl ⟨by(rw[<-(dz ha hb).2 c1,if_neg c4,if_pos om];exact xv),xx⟩
  ·refine BR (BO (BQ ?_));have fz:=ai c3 fz;refine xq (BP (BT (rt ?_)));exact BW rfl ⟨by(rw[<-(dz ha hb).2 c1,if_neg om,if_neg om];exact xv),xx⟩
end
section
def pI(x:Int):Bool:=decide (x >= -4398046511104)&&decide (x<=4398046511104)
variable{n:Int}
theorem xI{a:Ar}(h: (((decide (a.f<0)||decide (a.f >= n))||decide (a.t<0))||decide (a.t >= n))=true):Cp a n=21:=by
 unfold Cp;rw[if_pos (by simp at h⊢;omega)]
theorem xH{a:Ar}(h: (((decide (a.f<0)||decide (a.f >= n))||decide (a.t<0))||decide (a.t >= n))=false)(k: ((decide (a.lo<0)||decide (a.lo>4398046511104))||(a.ca !=4611686018427387904&&(decide (a.ca<a.lo)||decide (a.ca>4398046511104))))=true):Cp a n=22:=by
 unfold Cp;rw[if_neg (by simp at h⊢;omega)];rw[A6]at k;by_cases k1: (decide (a.lo<0)||decide (a.lo>4398046511104))=true
 ·rw[if_pos k1]
 ·rw[if_neg k1,if_pos (k.resolve_left k1)]
theorem wX{a:Ar}(h: (((decide (a.f<0)||decide (a.f >= n))||decide (a.t<0))||decide (a.t >= n))=false)(k: ((decide (a.lo<0)||decide (a.lo>4398046511104))||(a.ca !=4611686018427387904&&(decide (a.ca<a.lo)||decide (a.ca>4398046511104))))=false):Cp a n=if pI a.co=true then 0 else 23:=by
 unfold Cp;rw[Bool.or_eq_false_iff]at k;rw[if_neg (by simp at h⊢;omega),if_neg (by rw[k.1];exact Aq),if_neg (by rw[k.2];exact Aq)];unfold pI;by_cases c: -4398046511104<=a.co/\a.co<=4398046511104
 ·rw[if_neg (by simp;omega),if_pos (by simp;omega)]
 ·rw[if_pos (by simp;omega),if_neg (by simp;omega)]
theorem jA{a:Int}{H:Hp}:Pure 84 [.int .i64 a] (.bool (pI a)) H:=by
 refine Pure.of rfl (BV Tryz.func84 rfl 9 rfl fun nf t hf _ ht=> ?_);have hf0:=hf;refine BO (BQ ?_);have fz:=(ht 0 _ rfl);refine xq (BP (BO (BQ ?_)));iterate 7 first|refine xq ?_|refine xg ?_
 refine BP (BT (rt ?_));exact BW rfl ⟨by(unfold pI;exact xv),xx⟩
set_option maxHeartbeats 800000 in
theorem mK{a:Ar}{H:Hp}:Pure 83 [a.v,.int .i64 n] (.int .i64 (Cp a n)) H:=by
 refine Pure.of rfl (BV Tryz.func83 rfl 57 rfl fun nf t hf _ ht=> ?_);have hf0:=hf;refine BO (BQ ?_);have fz:=ai (ht 1 _ rfl) (ht 0 _ rfl);refine xa fun hf=> ?_
 refine xq (BP (BO (BS (BO (BQ ?_)))));iterate 21 first|refine xq ?_|refine xg ?_
 refine BP (xi (fun c1=> ?_) fun c1=> ?_)
 ·refine BO (BQ ?_);have fz:=ai c1 fz;refine xq (BP (BT (rt ?_)));exact BW rfl ⟨by(rw[xI c1];exact xv),xx⟩
 ·refine BO (BQ ?_);have fz:=ai c1 fz;iterate 26 first|refine xq ?_|refine xg ?_
  refine BP (xi (fun c2=> ?_) fun c2=> ?_)
  ·refine BO (BQ ?_);have fz:=ai c2 fz;refine xq (BP (BT (rt ?_)));exact BW rfl ⟨by(rw[xH c1 c2];exact xv),xx⟩
  ·refine BO (BQ ?_);have fz:=ai c2 fz;refine Ba ?_;refine xp (h:=jA) (k:= ?_);refine Ba (BP ?_);refine xi (fun c3=> ?_) fun c3=> ?_
   ·refine BO (BQ ?_);have fz:=ai c3 fz;refine xq (BP (BT (rt ?_)));exact BW rfl ⟨by(rw[wX c1 c2,if_neg (by simpa using c3)];exact xv),xx⟩
   ·refine BR (BO (BQ ?_));have fz:=ai c3 fz;refine xq (BP (BT (rt ?_)));exact BW rfl ⟨by(rw[wX c1 c2,if_pos (by simpa using c3)];exact xv),xx⟩
set_option maxHeartbeats 800000 in
theorem JA{S:List Int}{L:List Ar}{A B:Option Addr}{c d:Nat}{H:Hp}(hA:Rd 1 intC H A S)(hB:Rd 5 Ar.c H B L):Pure 35 [.agg #[.slice A S.length c,.slice B L.length d]] (.int .i64 (rightI S L)) H:=by
 refine Pure.of rfl (BV Tryz.func35 rfl 59 rfl fun nf t hf _ ht=> ?_);have hf0:=hf;refine BO (BQ ?_);have fz:=(ht 0 _ rfl);refine xa fun hf=> ?_
 refine xq (BP (BO (BO (BQ ?_))));iterate 10 first|refine xq ?_|refine xg ?_
 refine BP (xi (fun c1=> ?_) fun c1=> ?_)
 ·refine BO (BQ ?_);have fz:=ai c1 fz;refine xq (BP (BT (rt ?_)));exact BW rfl ⟨by(simp(disch:=omega)only[wx,fz];rw[rightI,if_pos (by simp at c1;omega)]),xx⟩
 ·have hl:S.length<=64/\L.length<=256:=by simp at c1;omega
  refine BR (BO (BO (BQ ?_)));have fz:=ai c1 fz;refine xq (BP (BS ?_));refine By fun T1 hT=> ?_
  have gz:=ai (xt (hT 3)) (ai (xt (hT 1)) trivial);clear hT;refine xl L.length nf H hf (fun k t nf1 G=>C7 S.length L=C7 S.length (L.drop k)/\t 1=T1 1/\t 3= .int .i64 (k:Int)/\G nf=some (.own [.slice A S.length c,.slice B L.length d])) ⟨rfl,xh⟩ ?_;rintro k t nf1 G hk1 hn1 hf he ⟨i1,uz,h3,b0⟩;have hfl:=hf;have l0:=hf.lt b0;refine BO (BO (BQ ?_));have fz:=ai b0 (ai h3 (ai uz gz));refine Eg (BP ?_);refine C8 (fun c2=> ?_) fun c2=> ?_
  ·refine BR (BO (BS (BO (Bh [0,1,0,0,1,0,1,0,1,0] [0,1,2,3,4,5,6,7,8,9] kr hf ?_))));obtain⟨b,o,eB,ho⟩:=(hB.ext he) k om;have lb:=Bd hf ho;have fz:=ai ho (ai eB (ai c2 fz));iterate 8 first|refine CA ?_|refine Cq ?_
   refine EB (h:=fun G hG=>mK (a:=L[k])) (k:= ?_);refine CA (BX (BO (BQ ?_)));refine Ba (BP ?_);refine Kf (fun c3=> ?_) fun c3=> ?_
   ·refine BO (BQ ?_);have fz:=ai c3 fz;refine Ba (BP (BT (rt ?_)));exact BW rfl ⟨by(simp(disch:=omega)only[wx,fz];rw[rightI,if_neg om];have e:=FX (S.length) L (k:=k) om;rw[if_neg (by simpa using c3),<-i1]at e;rw[if_neg (by rw[e];simpa using c3),e]),xx⟩
   ·refine BR (BQ ?_);have fz:=ai c3 fz;refine B0 (BP ?_);exact xe hf ⟨(by rw[i1,FX _ _ om,if_pos (by simpa using c3)]),xz⟩
  ·have e1:C7 S.length L=0:=by rw[i1,Az om];rfl
   refine xo (BO (BQ ?_));have fz:=ai c2 fz;refine xq (BP (BO (BO (BQ ?_))));refine xq (BP (BS ?_));refine By fun T2 hT=> ?_
   have g5:=xt (hT 5);have gz:=ai g5 (ai (xt (hT 6)) (ai (xt (hT 1)) gz));clear hT;refine xl S.length nf H hf (fun k t nf1 G=>∃(a:Int),Dm S 0=Dm (S.drop k) a/\(-4398046511104*(k:Int)<=a/\a<=4398046511104*(k:Int))/\t 5= .int .i64 a/\t 1=T2 1/\t 6= .int .i64 (k:Int)/\G nf=some (.own [.slice A S.length c,.slice B L.length d])) ⟨0,rfl,om,by rw[g5]<;>rfl,xh⟩ ?_;rintro k t nf1 G hk2 hn2 hf he ⟨a,i2,i3,h5,uz,h6,b0⟩;have hfl:=hf;have l0:=hf.lt b0;refine BO (BO (BQ ?_));have fz:=ai b0 (ai h5 (ai h6 (ai uz gz)));refine Eg (BP ?_);refine C8 (fun c4=> ?_) fun c4=> ?_
   ·refine BR (BO (BS (BO (BO (BQ ?_)))));obtain⟨b,o,eA,ho⟩:=(hA.ext he) k om;have lb:=Bd hf ho;have fz:=ai ho (ai eA (ai c4 fz));refine Eg ?_;refine xp (h:=jA) (k:= ?_);refine xq (BP ?_);refine xi (fun c5=> ?_) fun c5=> ?_
    ·have hq:¬(-4398046511104<=S[k]/\S[k]<=4398046511104):=by unfold pI at c5;simp at c5;omega
     refine BO (BQ ?_);have fz:=ai c5 fz;refine xq (BP (BT (rt ?_)));exact BW rfl ⟨by(simp(disch:=omega)only[wx,fz];rw[rightI,if_neg om,if_pos e1,i2,F6 _ _ om,if_pos om]),xx⟩
    ·have hr: -4398046511104<=S[k]/\S[k]<=4398046511104:=by unfold pI at c5;simp at c5;omega
     refine BR (BQ ?_);have fz:=ai c5 fz;refine Dk ?_;refine Ba (BP (BQ ?_));refine B0 (BP ?_);exact xe hf ⟨a+S[k],(by rw[i2,F6 _ _ om,if_neg om]),om,(by simp(disch:=omega)only[wx,fz,uZ]<;>rfl),xz⟩
   ·have e2:Dm S 0=if a=0 then 0 else 25:=by rw[i2,Az om];rfl
    refine xo (BO (BO (BQ ?_)));have fz:=ai c4 fz;refine Ba (BP ?_);refine Kf (fun c6=> ?_) fun c6=> ?_
    ·refine BO (BQ ?_);have fz:=ai c6 fz;refine xq (BP (BT (rt ?_)));exact BW rfl ⟨by(simp(disch:=omega)only[wx,fz];rw[rightI,if_neg om,if_pos e1,e2,if_neg c6]),xx⟩
    ·refine BR (BO (BQ ?_));have fz:=ai c6 fz;refine xq (BP (BT (rt ?_)));exact BW rfl ⟨by(simp(disch:=omega)only[wx,fz];rw[rightI,if_neg om,if_pos e1,e2,if_pos c6]),xx⟩
end
section
def pL(x:List Int)(a:Int):Int:=if a<0 then 0 else alongI x a
variable{H:Hp}
theorem Qp{x:List Int}{A:Option Addr}{c:Nat}(hA:Rd 1 intC H A x){a:Int}:Pure 127 [.slice A x.length c,.int .i64 a] (.int .i64 (pL x a)) H:=by
 refine Pure.of rfl (BV Tryz.func127 rfl 17 rfl fun nf t hf _ ht=> ?_);have hf0:=hf;refine BO (BQ ?_);have fz:=ai (ht 1 _ rfl) (ht 0 _ rfl);refine xq (BP (BO (BO (BQ ?_))));iterate 8 first|refine xq ?_|refine xg ?_
 refine BP (xi (fun c1=> ?_) fun c1=> ?_)
 ·refine BO (BQ ?_);have fz:=ai c1 fz;refine xq (BP (BT (rt ?_)));exact BW rfl ⟨by(simp(disch:=omega)only[wx,fz];have h:a<0\/a >= x.length:=(by simp at c1;omega);unfold pL alongI;split;rfl;rw[if_pos om]),xx⟩
 ·have hr:0<=a/\a<x.length:=by simp at c1;omega
  obtain⟨k,rfl⟩:=AI hr.1;obtain⟨b,o,eA,ho⟩:=hA k om;have lb:=Bd hf0 ho;refine BR (BO (BQ ?_));have fz:=ai ho (ai eA (ai c1 fz));refine Eg (BP (BT (rt ?_)));exact BW rfl ⟨by(simp(disch:=omega)only[wx,fz];rw[pL,if_neg om,Bc _ om]),xx⟩
theorem mE{a:Ar}{x:Int}:Pure 89 [a.v,.int .i64 x] (.bool (fitB a x)) H:=by
 refine Pure.of rfl (BV Tryz.func89 rfl 20 rfl fun nf t hf _ ht=> ?_);have hf0:=hf;refine BO (BQ ?_);have fz:=ai (ht 1 _ rfl) (ht 0 _ rfl);refine xa fun hf=> ?_
 refine xq (BP (BO (BQ ?_)));iterate 16 first|refine xq ?_|refine xg ?_
 refine BP (BT (rt ?_));exact BW rfl ⟨by(unfold fitB;exact xv),xx⟩
def NW(n:Nat)(L:List Ar)(a:Int):Bool:=if a<0\/a >= L.length then false else CG n (arcD L a.toNat)
theorem sX(n:Nat)(a:Ar):CG n a=(decide (a.f >= 0)&&decide (a.f<n)&&decide (a.t >= 0)&&decide (a.t<n)):=by unfold CG DS;rw[Bool.and_assoc (_&&_)]
variable{L:List Ar}{B:Option Addr}
theorem fA{S:List Int}{A:Option Addr}{c d:Nat}{a:Int}(hB:Rd 5 Ar.c H B L):Pure 158 [.agg #[.slice A S.length c,.slice B L.length d],.int .i64 a] (.bool (NW S.length L a)) H:=by
 refine Pure.of rfl (BV Tryz.func158 rfl 44 rfl fun nf t hf _ ht=> ?_);have hf0:=hf;refine BO (BQ ?_);have fz:=ai (ht 1 _ rfl) (ht 0 _ rfl);refine xa fun hf=> ?_
 refine xq (BP (BO (BO (BQ ?_))));iterate 9 first|refine xq ?_|refine xg ?_
 refine BP (xi (fun c1=> ?_) fun c1=> ?_)
 ·refine BO (BQ ?_);have fz:=ai c1 fz;refine xq (BP (BT (rt ?_)));exact BW rfl ⟨by(simp(disch:=omega)only[wx,fz];rw[NW,if_pos (by simp at c1;omega)]),xx⟩
 ·have hr:0<=a/\a<L.length:=by simp at c1;omega
  obtain⟨k,rfl⟩:=AI hr.1;obtain⟨b,o,eB,ho⟩:=hB k om;have lb:=Bd hf0 ho;refine BR (BO (BQ ?_));have fz:=ai ho (ai eB (ai c1 fz));refine Eg ?_;refine xa fun hf=> ?_
  refine xs fun hf=> ?_
  refine BP (BO (BQ ?_));iterate 25 first|refine xq ?_|refine xg ?_
  refine BP (BT (rt ?_));exact BW rfl ⟨by(simp(disch:=omega)only[wx,fz];rw[NW,if_neg om,Aa,Bk om,sX]),xx⟩
def Pk(n:Nat)(L:List Ar)(a:Int):Value:=if NW n L a=true then .tuple #[(arcD L a.toNat).v,.bool true]else .tuple #[Ke,.bool false]
theorem nQ{n:Nat}{a:Int}(h:NW n L a=true):0<=a/\a<L.length:=by
 unfold NW at h;split at h
 ·cases h
 ·omega
theorem O4{S:List Int}{A:Option Addr}{c d:Nat}{a:Int}(hB:Rd 5 Ar.c H B L):Pure 125 [.agg #[.slice A S.length c,.slice B L.length d],.int .i64 a] (Pk S.length L a) H:=by
 refine Pure.of (by unfold Pk;split<;>rfl) (BV Tryz.func125 rfl 16 rfl fun nf t hf _ ht=> ?_);have hf0:=hf;refine BO (BQ ?_);have fz:=ai @su (ai (ht 1 _ rfl) (ht 0 _ rfl));refine xa fun hf=> ?_
 refine xa fun hf=> ?_
 refine xq (BP (BO (BO (BQ ?_))));refine Ba ?_;refine xp (h:=fA (hB.ext (by(repeat refine Ext.up (hf0 _ om) ?_);exact Ext.refl _))) (k:= ?_);refine xq (BP ?_);refine xi (fun c1=> ?_) fun c1=> ?_
 ·refine BO (BQ ?_);have fz:=ai c1 fz;refine xq ?_;refine xs fun hf=> ?_
  refine xq (BP (BT (rt ?_)));exact R8 rfl xv ⟨by(rw[Pk,if_neg (by simpa using c1)];exact xv),xx⟩
 ·have cf:NW S.length L a=true:=by simpa using c1
  have hr:=nQ cf;obtain⟨k,rfl⟩:=AI hr.1;obtain⟨b,o,eB,ho⟩:=hB k om;have lb:=Bd hf0 ho;refine BR (BO (BQ ?_));have fz:=ai ho (ai eB (ai c1 fz));refine Eg ?_;refine xs fun hf=> ?_
  refine xq (BP (BT (rt ?_)));exact R8 rfl xv ⟨by(rw[Pk,if_pos cf,Aa,Bk om];simp(disch:=omega)only[wx,fz,Ar.v]<;>rfl),xx⟩
end
theorem pe:Na 128 2 16:=by unfold Na;kernel_rfl
theorem WZ(a:Nat)(x y:Int):D0 tz a 128 1 [(0,.agg #[.int .i64 x,.int .u64 y])]=some (.slice (some ⟨a,0,none⟩) 1 1,[(a,.own [.int .i64 x,.int .u64 y])]):=kr
def refN(n:Nat)(L:List Ar)(x:List Int)(v:Nat):Nat->Int
 |0=>0
 |k+1=>refN n L x v k+(if CG n (arcD L k)=true/\(arcD L k).f=(v:Int)then alongI x k else 0) - (if CG n (arcD L k)=true/\(arcD L k).t=(v:Int)then alongI x k else 0)
theorem JF{n:Nat}{L:List Ar}(x:List Int)(v:Nat):∀k,(LA n L x k v).x=refN n L x v k
 |0=>rfl
 |k+1=>by
  rw[LA,refN,<-JF x v k];unfold TS;by_cases h:CG n (arcD L k)=true
  ·obtain⟨u1,u2,u3,u4⟩:=D9 h;obtain⟨f,ef⟩:=AI u1;obtain⟨t,et⟩:=AI u3;rw[if_pos h,ef,et,Aa,Aa];unfold up;by_cases h1:v=t
   ·subst h1;by_cases h2:v=f
    ·subst h2;simp[h]
    ·rw[if_pos rfl,if_neg h2,if_neg om,if_pos ⟨h,rfl⟩];simp
   ·rw[if_neg h1,if_neg (show¬(CG n (arcD L k)=true/\(t:Int)=v) from om)];by_cases h2:v=f
    ·subst h2;simp[h]
    ·rw[if_neg h2,if_neg om];simp
  ·simp[h]
def XI(n:Nat)(L:List Ar)(x:List Int)(v:Nat):Wd:=⟨refN n L x v L.length⟩
theorem Ja{n m:Nat}{L:List Ar}(h:m<L.length):NW n L (m:Int)=CG n (arcD L m):=by rw[NW,if_neg om,Aa]
theorem IH(x:List Int)(m:Nat):pL x (m:Int)=alongI x m:=if_neg om
theorem bu{x:List Int}(h:∀n∈x,R64 n)(m:Nat):R64 (pL x (m:Int)):=by rw[IH];exact CZ h _
set_option maxHeartbeats 1600000 in
theorem mD{S:List Int}{L:List Ar}{x:List Int}{A B X:Option Addr}{c d e:Nat}{H:Hp}(hB:Rd 5 Ar.c H B L)(hX:Rd 1 intC H X x)(hx:∀n∈x,R64 n)(hS:S.length<1000000)(hL:L.length<1000000):Ct 90 [.agg #[.slice A S.length c,.slice B L.length d],.slice X x.length e] (fun v H'=>Nw H H' 2 v (ar S.length (XI S.length L x)) S.length) H:=by
 refine BV Tryz.func90 rfl 63 rfl fun nf t hf hsc ht=> ?_
 have hf0:=hf;refine BO (BQ ?_);have fz:=ai @Eb (ai @WZ (ai (ht 1 _ rfl) (ht 0 _ rfl)));refine xa fun hf=> ?_
 refine xq (BP (BO (BQ ?_)));refine xq (BP (BO (BO (BQ ?_))));refine xq (BP (BS ?_));refine By fun T1 hT=> ?_
 have gz:=ai (xt (hT 5)) (ai (xt (hT 6)) (ai (xt (hT 2)) (ai (xt (hT 1)) trivial)));clear hT;refine xl S.length nf H hf (fun k t nf1 G=>∃(v:Value),GS G 2 v (ar k (XI S.length L x)) k/\(∀b,GSb v b->H b=none/\nf<b)/\(t 1=T1 1/\t 2=T1 2)/\t 6= .int .i64 (k:Int)/\t 5=v/\G nf=some (.own [.slice A S.length c,.slice B L.length d])) ⟨.slice none 0 0,GS.nil _ _,fun b h=>(Bo b h).elim,xh⟩ ?_;rintro k t nf1 G hk1 hn1 hf he ⟨v,gs,gn,uz,h6,h5,b0⟩;have hfl:=hf;have l0:=hf.lt b0;have gl:∀b,GSb v b->b<nf1:=fun b hb=>hf.lt (gs.live hb)
 refine BO (BO (BQ ?_));have fz:=ai b0 (ai h5 (ai h6 (ai uz (ai gz (ai @Eb (ai @WZ @DO))))));refine Eg (BP ?_);refine C8 (fun c1=> ?_) fun c1=> ?_
 ·refine BR (BO (BS (BO (BQ ?_))));have fz:=ai c1 fz;refine xq ?_;refine xa fun hf=> ?_
  refine xs fun hf=> ?_
  refine BP (BO (BO (BQ (xq (BP (BS ?_))))));refine By fun T2 hT=> ?_
  have gz:=ai (xt (hT 8)) (ai (xt (hT 7)) (ai (xt (hT 6)) (ai (xt (hT 5)) (ai (xt (hT 2)) (ai (xt (hT 1)) gz)))));clear hT;refine xl L.length nf H hf (fun j t nf2 G=>GS G 2 v (ar k (XI S.length L x)) k/\G nf1=some (.own [.int .i64 (GI (refN S.length L x k j)),.int .u64 (EG (refN S.length L x k j))])/\(t 1=T2 1/\t 2=T2 2/\t 5=T2 5/\t 6=T2 6/\t 7=T2 7)/\t 8= .int .i64 (j:Int)/\G nf=some (.own [.slice A S.length c,.slice B L.length d])) ⟨(gs.keep fun b hb=>by have:=gl b hb;simp(disch:=omega)only[Bn]),(by simp(disch:=omega)only[wx,fz];rfl),xh⟩ ?_;rintro j t nf2 G hk2 hn2 hf he ⟨gs,bs,uz,h8,b0⟩;have hfl:=hf;have l0:=hf.lt b0;have ls:=hf.lt bs;refine BO (BO (BQ ?_));have fz:=ai bs (ai b0 (ai h8 (ai uz (ai gz (ai @Eb (ai @WZ @DO))))));refine Eg (BP ?_);refine C8 (fun c2=> ?_) fun c2=> ?_
  ·refine BR (BO (BS (BO ?_)));rcases Bool.eq_false_or_eq_true (NW S.length L (j:Int))with cf|cf
   ·rw[Ja om]at cf;have ea:Pk S.length L j= .tuple #[(arcD L j).v,.bool true]:=by rw[Pk,if_pos (by rw[Ja om];exact cf)];rfl
    refine BQ ?_;have fz:=ai ea (ai cf (ai c2 fz));refine Ba ?_;refine xp (h:=O4 (hB.ext he)) (k:= ?_);refine B0 ?_;refine xa fun hf=> ?_
    refine xs fun hf=> ?_
    refine xq (BP (BO (BO (BQ ?_))));iterate 7 first|refine xq ?_|refine xg ?_
    refine BP (HR (fun c3=> ?_) fun c3=> ?_)
    ·have e1: (if CG S.length (arcD L j)=true/\(arcD L j).f=(k:Int)then alongI x j else 0)=alongI x j:=if_pos ⟨cf,c3⟩;refine Bh [1,0,0,1,1,1,2] [0,1,2,3,4,5,6] kr hf ?_;have fz:=ai c3 fz;iterate 3 first|refine CA ?_|refine Cq ?_
     refine EB (h:=fun G hG=>Qp ((hX.ext xx).ext hG)) (k:= ?_);refine EB (h:=fun G hG=>HL (bu hx j)) (k:= ?_);refine EB (h:=fun G hG=>Gw) (k:= ?_);refine Fx fun nf2 hl2 hf=> ?_
     refine BX (BO (BQ ?_));iterate 7 first|refine xq ?_|refine xg ?_
     refine BP (HR (fun c4=> ?_) fun c4=> ?_)
     ·have e2: (if CG S.length (arcD L j)=true/\(arcD L j).t=(k:Int)then alongI x j else 0)=alongI x j:=if_pos ⟨cf,c4⟩;refine Bh [1,0,0,1,1,1,2] [0,1,2,3,4,5,6] kr hf ?_;have fz:=ai c4 fz;iterate 3 first|refine CA ?_|refine Cq ?_
      refine EB (h:=fun G hG=>Qp ((hX.ext xx).ext hG)) (k:= ?_);refine EB (h:=fun G hG=>HL (bu hx j)) (k:= ?_);refine EB (h:=fun G hG=>HX) (k:= ?_);refine Fx fun nf3 hl3 hf=> ?_
      refine BX (BQ (B0 (BP ?_)));exact xe hf ⟨(gs.keep fun b hb=>by have:=gl b hb;simp(disch:=omega)only[Bn]),(by rw[refN,e1,e2];simp(disch:=omega)only[wx,fz,IH,Int.add_zero,Int.sub_zero]),xz⟩
     ·have e2: (if CG S.length (arcD L j)=true/\(arcD L j).t=(k:Int)then alongI x j else 0)=0:=if_neg fun h=>c4 h.2
      refine BR (BQ ?_);have fz:=ai c4 fz;refine B0 (BP ?_);exact xe hf ⟨(gs.keep fun b hb=>by have:=gl b hb;simp(disch:=omega)only[Bn]),(by rw[refN,e1,e2];simp(disch:=omega)only[wx,fz,IH,Int.add_zero,Int.sub_zero]),xz⟩
    ·have e1: (if CG S.length (arcD L j)=true/\(arcD L j).f=(k:Int)then alongI x j else 0)=0:=if_neg fun h=>c3 h.2
     refine BR (BO (BQ ?_));have fz:=ai c3 fz;iterate 7 first|refine xq ?_|refine xg ?_
     refine BP (HR (fun c5=> ?_) fun c5=> ?_)
     ·have e2: (if CG S.length (arcD L j)=true/\(arcD L j).t=(k:Int)then alongI x j else 0)=alongI x j:=if_pos ⟨cf,c5⟩;refine Bh [1,0,0,1,1,1,2] [0,1,2,3,4,5,6] kr hf ?_;have fz:=ai c5 fz;iterate 3 first|refine CA ?_|refine Cq ?_
      refine EB (h:=fun G hG=>Qp ((hX.ext xx).ext hG)) (k:= ?_);refine EB (h:=fun G hG=>HL (bu hx j)) (k:= ?_);refine EB (h:=fun G hG=>HX) (k:= ?_);refine Fx fun nf4 hl4 hf=> ?_
      refine BX (BQ (B0 (BP ?_)));exact xe hf ⟨(gs.keep fun b hb=>by have:=gl b hb;simp(disch:=omega)only[Bn]),(by rw[refN,e1,e2];simp(disch:=omega)only[wx,fz,IH,Int.add_zero,Int.sub_zero]),xz⟩
     ·have e2: (if CG S.length (arcD L j)=true/\(arcD L j).t=(k:Int)then alongI x j else 0)=0:=if_neg fun h=>c5 h.2
      refine BR (BQ ?_);have fz:=ai c5 fz;refine B0 (BP ?_);exact xe hf ⟨(gs.keep fun b hb=>by have:=gl b hb;simp(disch:=omega)only[Bn]),(by rw[refN,e1,e2];simp(disch:=omega)only[wx,fz,IH,Int.add_zero,Int.sub_zero]),xz⟩
   ·rw[Ja om]at cf;have ea:Pk S.length L j= .tuple #[Ke,.bool false]:=if_neg (by rw[Ja om,cf];decide);have e1: (if CG S.length (arcD L j)=true/\(arcD L j).f=(k:Int)then alongI x j else 0)=0:=if_neg fun h=>by rw[cf]at h;exact absurd h.1 dZ
    have e2: (if CG S.length (arcD L j)=true/\(arcD L j).t=(k:Int)then alongI x j else 0)=0:=if_neg fun h=>by rw[cf]at h;exact absurd h.1 dZ
    refine BQ ?_;have fz:=ai @Ke.eq_1 (ai ea (ai cf (ai c2 fz)));refine Ba ?_;refine xp (h:=O4 (hB.ext he)) (k:= ?_);refine B0 ?_;refine xa fun hf=> ?_
    refine xs fun hf=> ?_
    refine xq (BP (BO (BO (BQ ?_))));iterate 7 first|refine xq ?_|refine lE ?_
    refine BP (xF (BR (BO (BQ ?_))));iterate 7 first|refine xq ?_|refine lE ?_
    refine BP (xF (BR (BQ ?_)));refine B0 (BP ?_);exact xe hf ⟨(gs.keep fun b hb=>by have:=gl b hb;simp(disch:=omega)only[Bn]),(by rw[refN,e1,e2];simp(disch:=omega)only[wx,fz,IH,Int.add_zero,Int.sub_zero]),xz⟩
  ·obtain rfl:j=L.length:=om;refine xo (BQ ?_);have fz:=ai c2 fz;refine Ba ?_;refine xa fun hf=> ?_
   refine FU (ys:=Cel.c (XI S.length L x k)) hf rfl xv pe (gs.keep fun b hb=>by have:=hfl.lt (gs.live hb);simp(disch:=omega)only[Bn]) dZ (Bu xv rfl dZ) ⟨_,_,_,rfl,rfl⟩ rfl dZ rfl om om fun v2 G2 gs2 fr hf gb=> ?_
   have he:=Ext.fr xx (hf0 _ om) (fun b h=>(gn b h).1) fr;have b1:=(fr nf om (fun h=>by have:=(gn _ h).2;omega)).trans xv;have fz:=ai b1 fz;refine xq (BP (BQ ?_));refine B0 (BP ?_);exact xe hf ⟨v2,(by rw[DR];exact gs2),(fun b h=>⟨hf0 b (by have:=gb b h;omega),by have:=gb b h;omega⟩),xz⟩
 ·refine xo (BO (BQ ?_));have fz:=ai c1 (ai b0 (ai h5 (ai h6 (ai uz (ai gz (ai @Eb (ai @WZ @DO)))))));refine Ba (BP (BT (rt ?_)));exact BW rfl (by simp(disch:=omega)only[wx,fz];obtain rfl:k=S.length:=om;exact⟨he,gs,fun b h=>(gn b h).1⟩)
theorem GS.blk{H:Hp}{s:Nat}{v:Value}{xs:List Value}{n:Nat}(h:GS H s v xs n):∃A c,v= .slice A n c/\∀k,k<n->∃b,A=some ⟨b,0,none⟩/\H b=some (.own xs):=by
 obtain⟨_,⟨h2,rfl⟩|⟨b,rfl,h3⟩⟩:=h
 ·exact⟨none,0,by rw[h2],fun k hk=>om⟩
 ·exact⟨_,_,rfl,fun k _=>⟨b,rfl,h3⟩⟩
theorem ZM(n:Nat)(L:List Ar)(x:List Int)(v:Nat): (XI n L x v).x=(LA n L x L.length v).x:=(JF x v _).symm
set_option maxHeartbeats 1600000 in
theorem Ur{S:List Int}{L:List Ar}{x:List Int}{A B X:Option Addr}{c d e:Nat}{H:Hp}(hA:Rd 1 intC H A S)(hB:Rd 5 Ar.c H B L)(hX:Rd 1 intC H X x)(hS:∀n∈S,R64 n)(hx:∀n∈x,R64 n):Pure 39 [.agg #[.slice A S.length c,.slice B L.length d],.slice X x.length e] (.int .i64 (Cb S L x)) H:=by
 refine Pure.of rfl (BV Tryz.func39 rfl 57 rfl fun nf t hf _ ht=> ?_);have hf0:=hf;refine BO (BQ ?_);have fz:=ai (ht 1 _ rfl) (ht 0 _ rfl);refine xa fun hf=> ?_
 refine xq (BP (BO (BQ ?_)));refine xq ?_;refine xp (h:=JA (hA.ext xx) (hB.ext xx)) (k:= ?_);refine xq (BP (BO (BO (BQ ?_))));refine Ba (BP ?_);refine Kf (fun c1=> ?_) fun c1=> ?_
 ·refine BO (BQ ?_);have fz:=ai c1 fz;refine Ba (BP (BT (rt ?_)));exact BW rfl ⟨by simp(disch:=omega)only[wx,fz];rw[Cb,if_pos c1],xx⟩
 ·have hr:rightI S L=0:=c1;have hb:=CW hr;refine BR (BO (BO (BQ ?_)));have fz:=ai c1 fz;refine Dk (BP ?_);refine Kf (fun c2=> ?_) fun c2=> ?_
  ·refine BO (BQ ?_);have fz:=ai c2 fz;refine xq (BP (BT (rt ?_)));exact BW rfl ⟨by simp(disch:=omega)only[wx,fz];rw[Cb,if_neg (fun h=>h hr),if_pos om],xx⟩
  ·refine BR (BO (BO (BQ ?_)));have fz:=ai c2 fz;refine xq (BP (BS ?_));refine By fun T1 hT=> ?_
   have gz:=ai (xt (hT 6)) (ai (xt (hT 2)) (ai (xt (hT 1)) trivial));clear hT;refine xl x.length nf H hf (fun k t nf1 G=>(∀j,j<k->fitB (arcD L j) (alongI x j)=true)/\(t 1=T1 1/\t 2=T1 2)/\t 6= .int .i64 (k:Int)/\G nf=some (.own [.slice A S.length c,.slice B L.length d])) ⟨(fun j h=>absurd h (Aj j)),xh⟩ ?_;rintro k t nf1 G hk1 hn1 hf he ⟨i1,uz,h6,b0⟩;have hfl:=hf;have l0:=hf.lt b0;refine BO (BO (BQ ?_));have fz:=ai b0 (ai h6 (ai uz gz));refine Dv (BP ?_);refine C8 (fun c3=> ?_) fun c3=> ?_
   ·refine BR (BO (BS (BO (Bh [0,1,0,0,1,0,0,0,1,1,0] [0,1,2,3,4,5,6,7,8,9,10] kr hf ?_))));obtain⟨b5,o5,eB,hoB⟩:=(hB.ext he) k om;obtain⟨b6,o6,eX,hoX⟩:=(hX.ext he) k om;have l5:=Bd hf hoB;have l6:=Bd hf hoX;have fz:=ai hoX (ai eX (ai hoB (ai eB (ai c3 fz))));iterate 9 first|refine CA ?_|refine Cq ?_
    refine EB (h:=fun G hG=>mE (a:=L[k]) (x:=x[k])) (k:= ?_);refine CA (BX ?_);refine xi (fun c4=> ?_) fun c4=> ?_
    ·refine BO (BQ ?_);have fz:=ai c4 fz;refine xq (BP (BT (rt ?_)));exact BW rfl ⟨by simp(disch:=omega)only[wx,fz];rw[Cb,if_neg (fun h=>h hr),if_neg om,if_pos ⟨k,om,by rw[Bk om,Bc _ om];simpa using c4⟩],xx⟩
    ·refine BR (BQ ?_);have fz:=ai c4 fz;refine B0 (BP ?_);exact xe hf ⟨(fun j h=>by rcases AT.1 h with h|rfl;exact i1 j h;rw[Bk om,Bc _ om];simpa using c4),xz⟩
   ·obtain rfl:k=x.length:=om;refine xo (BO (BQ ?_));have fz:=ai c3 fz;refine Ba ?_;refine xc (h:=mD (hB.ext he) (hX.ext he) hx om om) (k:=fun v1 H1 nf2 hl2 q1 hf=> ?_);obtain⟨A1,c1,rfl,q2⟩:=q1.2.1.blk;have n0:=q1.1 _ _ b0;have he:=he.trans q1.1;have fz:=ai n0 fz;refine xq (BP (BO (BO (BQ ?_))));refine xq (BP (BS ?_));refine By fun T2 hT=> ?_
    have gz:=ai (xt (hT 8)) (ai (xt (hT 7)) (ai (xt (hT 2)) gz));clear hT;refine xl S.length nf H hf (fun k t nf1 G=>Ext H1 G/\(∀j,j<k->dC (XI S.length L x j).x (alongI S j)=true)/\(t 2=T2 2/\t 7=T2 7)/\t 8= .int .i64 (k:Int)/\G nf=some (.own [.slice A S.length c,.slice B L.length d])) ⟨Ext.refl _,(fun j h=>absurd h (Aj j)),xh⟩ ?_;rintro k t nf1 G hk2 hn2 hf he ⟨e1,i2,uz,h8,b0⟩;have hfl:=hf;have l0:=hf.lt b0;refine BO (BO (BQ ?_));have fz:=ai b0 (ai h8 (ai uz gz));refine Dv (BP ?_);refine C8 (fun c5=> ?_) fun c5=> ?_
    ·refine BR (BO (BS (BO (Bh [0,0,0,1,0,1,0,0,1,1,0] [0,1,2,3,4,5,6,7,8,9,10] kr hf ?_))));have hk:k<S.length:=om;obtain⟨b7,o7,eA,hoA⟩:=(hA.ext he) k om;have l7:=Bd hf hoA;obtain⟨bN,eN,hN⟩:=q2 k om;have hN:=e1 _ _ hN;have lN:=hf.lt hN;have fz:=ai @wZ (ai hN (ai eN (ai hoA (ai eA (ai c5 fz)))));iterate 9 first|refine CA ?_|refine Cq ?_
     refine EB (h:=fun G hG=>HL (a:=S[k]) (Ua hS hk)) (k:= ?_);refine CA (BX ?_);refine xi (fun c6=> ?_) fun c6=> ?_
     ·refine BO (BQ ?_);have fz:=ai c6 fz;refine xq (BP (BT (rt ?_)));exact BW rfl ⟨by simp(disch:=omega)only[wx,fz];rw[Cb,if_neg (fun h=>h hr),if_neg om,if_neg (fun⟨j,h,e⟩=>by rw[i1 j om]at e;cases e),if_pos ⟨k,om,by rw[Bc _ om,<-ZM];simpa using c6⟩],xx⟩
     ·refine BR (BQ ?_);have fz:=ai c6 fz;refine B0 (BP ?_);exact xe hf ⟨e1,(fun j h=>by rcases AT.1 h with h|rfl;exact i2 j h;rw[Bc _ om];simpa using c6),xz⟩
    ·refine xo (BO (BQ ?_));have fz:=ai c5 fz;refine xq (BP (BT (rt ?_)));exact BW rfl ⟨by simp(disch:=omega)only[wx,fz];rw[Cb,if_neg (fun h=>h hr),if_neg om,if_neg (fun⟨j,h,e⟩=>by rw[i1 j om]at e;cases e),if_neg (fun⟨j,h,e⟩=>by rw[<-ZM,i2 j om]at e;cases e)],xx⟩
section
variable{x:List Bool}{B X:Option Addr}{d e n:Nat}{H:Hp}
theorem ZI(hX:Rd 1 boolC H X x){k:Nat}(hk:k<x.length):Pure 160 [.slice X x.length e,.int .i64 (k:Int)] (.bool (Ij x k)) H:=by
 refine Pure.of rfl (BV Tryz.func160 rfl 15 rfl fun nf t hf _ ht=> ?_);have hf0:=hf;obtain⟨b,o,eX,ho⟩:=hX k hk;have lb:=Bd hf0 ho;refine BO (BQ ?_);have fz:=ai ho (ai eX (ai (ht 1 _ rfl) (ht 0 _ rfl)));refine xq (BP (BO (BQ ?_)));iterate 11 first|refine xq ?_|refine xg ?_
 refine BP (BT (rt ?_));exact BW rfl ⟨by(simp(disch:=omega)only[wx,fz];unfold Ij;simp[hk]),xx⟩
theorem Zf(hl:x.length=n){a:Int}(h:DS n a=false):Ij x a=false:=by unfold Ij DS at*;rw[hl,h];rfl
variable{S:List Int}{L:List Ar}
theorem Uq{A:Option Addr}{c:Nat}(hX:Rd 1 boolC H X x)(hl:x.length=S.length){a:Int}:Pure 129 [.agg #[.slice A S.length c,.slice B L.length d],.slice X x.length e,.int .i64 a] (.bool (Ij x a)) H:=by
 refine Pure.of rfl (BV Tryz.func129 rfl 21 rfl fun nf t hf _ ht=> ?_);have hf0:=hf;refine BO (BQ ?_);have fz:=ai (ht 2 _ rfl) (ai (ht 1 _ rfl) (ht 0 _ rfl));refine xa fun hf=> ?_
 refine xq (BP (BO ?_));rcases Bool.eq_false_or_eq_true (decide (a >= 0)&&decide (a<S.length))with cs|cs
 ·have hr:0<=a/\a<S.length:=by simp at cs;omega
  obtain⟨k,rfl⟩:=AI hr.1;refine BQ ?_;have fz:=ai cs fz;iterate 12 first|refine xq ?_|refine xg ?_
  refine Te (h:=fun hgd=>ZI (hX.ext xx) (k:=k) om) (k:= ?_);refine Ba (BP (BT (rt ?_)));exact BW rfl ⟨by(simp(disch:=omega)only[wx,fz];skip),xx⟩
 ·refine BQ ?_;have fz:=ai cs fz;iterate 15 first|refine xq ?_|refine xg ?_|refine lE ?_
  refine BP (BT (rt ?_));exact BW rfl ⟨by(simp(disch:=omega)only[wx,fz];rw[Zf hl cs]),xx⟩
theorem Ow{A:Option Addr}{c:Nat}(hX:Rd 1 boolC H X x)(hl:x.length=S.length){a:Int}:Pure 130 [.agg #[.slice A S.length c,.slice B L.length d],.slice X x.length e,.int .i64 a] (.bool (DS S.length a&& !Ij x a)) H:=by
 refine Pure.of rfl (BV Tryz.func130 rfl 22 rfl fun nf t hf _ ht=> ?_);have hf0:=hf;refine BO (BQ ?_);have fz:=ai (ht 2 _ rfl) (ai (ht 1 _ rfl) (ht 0 _ rfl));refine xa fun hf=> ?_
 refine xq (BP (BO ?_));rcases Bool.eq_false_or_eq_true (decide (a >= 0)&&decide (a<S.length))with cs|cs
 ·have hr:0<=a/\a<S.length:=by simp at cs;omega
  obtain⟨k,rfl⟩:=AI hr.1;refine BQ ?_;have fz:=ai cs fz;iterate 12 first|refine xq ?_|refine xg ?_
  refine Te (h:=fun hgd=>ZI (hX.ext xx) (k:=k) om) (k:= ?_);iterate 3 first|refine xq ?_|refine xg ?_
  refine BP (BT (rt ?_));exact BW rfl ⟨by(simp(disch:=omega)only[wx,fz];unfold DS;rw[cs];rfl),xx⟩
 ·refine BQ ?_;have fz:=ai cs fz;iterate 16 first|refine xq ?_|refine xg ?_|refine lE ?_
  refine BP (BT (rt ?_));exact BW rfl ⟨by(simp(disch:=omega)only[wx,fz];unfold DS;rw[cs];rfl),xx⟩
theorem eY{A:Option Addr}{c:Nat}(hA:Rd 1 intC H A S)(hX:Rd 1 boolC H X x)(hl:x.length=S.length)(hS:∀n∈S,R64 n)(hs:S.length<1000000):Pure 88 [.agg #[.slice A S.length c,.slice B L.length d],.slice X x.length e] (W (DX S x S.length)) H:=by
 refine Pure.of rfl (BV Tryz.func88 rfl 28 rfl fun nf t hf _ ht=> ?_);have hf0:=hf;refine BO (BQ ?_);have fz:=ai @Eb (ai (ht 1 _ rfl) (ht 0 _ rfl));refine xa fun hf=> ?_
 refine xa fun hf=> ?_
 refine BP (BO (BQ (xq ?_)));refine xa fun hf=> ?_
 refine xs fun hf=> ?_
 refine BP (BO (BO (BQ (xq (BP (BS ?_))))));refine By fun T1 hT=> ?_
 have gz:=ai (xt (hT 6)) (ai (xt (hT 5)) (ai (xt (hT 4)) (ai (xt (hT 2)) (ai (xt (hT 1)) trivial))));clear hT;refine xl S.length nf H hf (fun k t nf1 G=>G (nf+2)=some (.own [.int .i64 (GI (DX S x k)),.int .u64 (EG (DX S x k))])/\(t 1=T1 1/\t 2=T1 2/\t 4=T1 4/\t 5=T1 5)/\t 6= .int .i64 (k:Int)/\G nf=some (.own [.slice A S.length c,.slice B L.length d])/\G (nf+1)=some (.own [.int .i64 0,.int .u64 0])) ⟨(by simp(disch:=omega)only[wx,fz];rfl),xh⟩ ?_;rintro k t nf1 G hk1 hn1 hf he ⟨bs,uz,h6,b0,b1⟩;have hfl:=hf;have l0:=hf.lt b0;have l1:=hf.lt b1;have lS:=hf.lt bs;refine BO (BO (BQ ?_));have fz:=ai bs (ai b1 (ai b0 (ai h6 (ai uz (ai gz (ai @Eb @DO))))));refine Eg (BP ?_);refine C8 (fun c1=> ?_) fun c1=> ?_
 ·refine BR (BO (BS (BO (BQ ?_))));have hk:k<S.length:=om;obtain⟨b,o,eA,ho⟩:=(hA.ext he) k om;have lb:=Bd hf ho;have fz:=ai ho (ai eA (ai c1 fz));refine B0 ?_;refine xp (h:=Uq (hX.ext he) hl) (k:=(BP ?_));refine xi (fun c2=> ?_) fun c2=> ?_
  ·refine Bh [1,0,1,0,0,1,1,1,2] [0,1,2,3,4,5,6,7,8] kr hf ?_;have fz:=ai c2 fz;iterate 6 first|refine CA ?_|refine Cq ?_
   refine EB (h:=fun G hG=>HL (a:=S[k]) (Ua hS hk)) (k:= ?_);refine EB (h:=fun G hG=>Gw) (k:= ?_);refine Fx fun nf2 hl2 hf=> ?_
   refine BX (BQ (B0 (BP ?_)));exact xe hf ⟨(by first|(simp(disch:=omega)only[wx,fz];rw[DX,if_pos c2,Bc _ om])|(simp(disch:=omega)only[wx,fz];rw[DX,if_neg (by rw[c2];exact Aq)])),xz⟩
  ·refine BR (BQ ?_);have fz:=ai c2 fz;refine B0 (BP ?_);exact xe hf ⟨(by first|(simp(disch:=omega)only[wx,fz];rw[DX,if_pos c2,Bc _ om])|(simp(disch:=omega)only[wx,fz];rw[DX,if_neg (by rw[c2];exact Aq)])),xz⟩
 ·refine xo (BO (BQ ?_));have fz:=ai c1 fz;refine xq ?_;refine xs fun hf=> ?_
  refine BP (BT (rt ?_));exact Ch rfl xv ⟨by(obtain rfl:k=S.length:=om;exact xv),xx⟩
def PG(n:Nat)(x:List Bool)(a:Ar):Bool:=Ij x a.f&&(DS n a.t&& !Ij x a.t)
def Ks(n:Nat)(x:List Bool)(a:Ar):Bool:=Ij x a.t&&(DS n a.f&& !Ij x a.f)
def XC(n:Nat)(L:List Ar)(x:List Bool):Nat->Int
 |0=>0
 |k+1=>XC n L x k+(if PG n x (arcD L k)=true then(arcD L k).ca else 0) - (if Ks n x (arcD L k)=true then(arcD L k).lo else 0)
theorem LN(hl:x.length=n){a:Int}(h:Ij x a=true):DS n a=true:=by
 cases k:DS n a with
 |true=>rfl
 |false=>rw[Zf hl k]at h;cases h
theorem MV(hl:x.length=n)(a:Ar):He n x a=(PG n x a&&decide (a.ca=4611686018427387904)):=by
 unfold He GD PG CG NP;have h1:=LN hl (a:=a.f);have h2:=LN hl (a:=a.t);generalize Ij x a.f=p at*;generalize Ij x a.t=q at*;generalize DS n a.f=u at*;generalize DS n a.t=v at*;cases p<;>cases q<;>cases u<;>cases v<;>simp_all
theorem ZD(hl:x.length=n)(L:List Ar):∀k,XC n L x k=DV n L x k
 |0=>rfl
 |k+1=>by
  rw[XC,DV,ZD hl L k];unfold GD PG Ks CG NP;have h1:=LN hl (a:=(arcD L k).f);have h2:=LN hl (a:=(arcD L k).t);generalize Ij x (arcD L k).f=p at*;generalize Ij x (arcD L k).t=q at*;generalize DS n (arcD L k).f=u at*;generalize DS n (arcD L k).t=v at*;cases p<;>cases q<;>cases u<;>cases v<;>simp_all
set_option maxHeartbeats 800000 in
theorem eQ{A:Option Addr}{c:Nat}(hB:Rd 5 Ar.c H B L)(hX:Rd 1 boolC H X x)(hl:x.length=S.length)(hc:∀a∈L,R64 a.lo/\R64 a.ca)(hs:L.length<1000000):Pure 87 [.agg #[.slice A S.length c,.slice B L.length d],.slice X x.length e] (IR S.length L x) H:=by
 refine Pure.of (Qm _ _ _) (BV Tryz.func87 rfl 61 rfl fun nf t hf _ ht=> ?_);have hf0:=hf;refine BO (BQ ?_);have fz:=ai @Eb (ai (ht 1 _ rfl) (ht 0 _ rfl));refine xa fun hf=> ?_
 refine xa fun hf=> ?_
 refine xq (BP (BO (BQ ?_)));refine xq ?_;refine xa fun hf=> ?_
 refine xs fun hf=> ?_
 refine BP (BO (BO (BQ (xq (BP (BS ?_))))));refine By fun T1 hT=> ?_
 have gz:=ai (xt (hT 7)) (ai (xt (hT 6)) (ai (xt (hT 4)) (ai (xt (hT 2)) (ai (xt (hT 1)) trivial))));clear hT;refine xl L.length nf H hf (fun k t nf1 G=>G (nf+1)=some (.own [.int .i64 0,.int .u64 0])/\G (nf+2)=some (.own [.int .i64 (GI (XC S.length L x k)),.int .u64 (EG (XC S.length L x k))])/\(∀j,j<k->He S.length x (arcD L j)=false)/\(t 1=T1 1/\t 2=T1 2/\t 4=T1 4/\t 6=T1 6)/\t 7= .int .i64 (k:Int)/\G nf=some (.own [.slice A S.length c,.slice B L.length d])) ⟨xv,(by simp(disch:=omega)only[wx,fz];rfl),(fun j h=>absurd h (Aj j)),xh⟩ ?_;rintro k t nf1 G hk1 hn1 hf he ⟨bt,bs,i1,uz,h7,b0⟩;have hfl:=hf;have l0:=hf.lt b0;have lS:=hf.lt bs;refine BO (BO (BQ ?_));have fz:=ai bt (ai bs (ai b0 (ai h7 (ai uz (ai gz (ai @Eb @DO))))));refine Eg (BP ?_);refine C8 (fun c1=> ?_) fun c1=> ?_
 ·refine BR (BO (BS (BO (BQ ?_))));have hk:k<L.length:=om;obtain⟨b,o,eB,ho⟩:=(hB.ext he) k om;have lb:=Bd hf ho;have fz:=ai ho (ai eB (ai c1 fz));refine Eg ?_;refine xa fun hf=> ?_
  refine xs fun hf=> ?_
  refine BP (BO (BO (BQ (Dv ?_))));refine xp (h:=Uq (hX.ext xx) hl) (k:= ?_);iterate 5 first|refine xq ?_|refine xg ?_
  refine Te (h:=fun hgd=>Ow (hX.ext xx) hl) (k:= ?_);refine xq (BP ?_);refine xi (fun c2=> ?_) fun c2=> ?_
  ·have e1: (if PG S.length x (arcD L k)=true then(arcD L k).ca else 0)=(arcD L k).ca:=if_pos (by rw[Bk hk];exact c2);refine BO (BO (BQ ?_));have fz:=ai c2 fz;refine B0 (BP ?_);refine HR (fun c3=> ?_) fun c3=> ?_
   ·refine BO (BQ ?_);have fz:=ai c3 fz;refine xq ?_;refine xs fun hf=> ?_
    refine xq (BP (BT (rt ?_)));exact R8 rfl xv ⟨by(simp(disch:=omega)only[wx,fz];rw[IR,if_pos ⟨k,hk,by rw[MV hl,Bk hk,c3];unfold PG;rw[c2];rfl⟩];rfl),xx⟩
   ·have ei:He S.length x (arcD L k)=false:=by rw[MV hl,Bk hk,BI c3,Bool.and_false]
    refine BR (Bh [1,0,1,1,1,2] [0,1,2,3,4,5] kr hf ?_);have fz:=ai c3 fz;iterate 3 first|refine CA ?_|refine Cq ?_
    refine EB (h:=fun G hG=>HL (by first|exact(hc _ (AM hk)).2|exact(hc _ (AM hk)).1)) (k:= ?_);refine EB (h:=fun G hG=>Gw) (k:= ?_);refine Fx fun nf2 hl2 hf=> ?_
    refine BX (BO (BQ (Dv ?_)));refine xp (h:=Uq (hX.ext xx) hl) (k:= ?_);iterate 5 first|refine xq ?_|refine xg ?_
    refine Te (h:=fun hgd=>Ow (hX.ext xx) hl) (k:= ?_);refine xq (BP ?_);refine xi (fun c4=> ?_) fun c4=> ?_
    ·have e2: (if Ks S.length x (arcD L k)=true then(arcD L k).lo else 0)=(arcD L k).lo:=if_pos (by rw[Bk hk];exact c4);refine Bh [1,0,1,1,1,2] [0,1,2,3,4,5] kr hf ?_;have fz:=ai c4 fz;iterate 3 first|refine CA ?_|refine Cq ?_
     refine EB (h:=fun G hG=>HL (by first|exact(hc _ (AM hk)).2|exact(hc _ (AM hk)).1)) (k:= ?_);refine EB (h:=fun G hG=>HX) (k:= ?_);refine Fx fun nf3 hl3 hf=> ?_
     refine BX (BQ (B0 (BP ?_)));exact xe hf ⟨xy,(by(first|rw[XC,e1,e2,Bk hk]|rw[XC,e1,e2]);simp(disch:=omega)only[wx,fz,Int.add_zero,Int.sub_zero]),(fun j h=>by rcases AT.1 h with h|rfl;exact i1 j h;exact ei),xz⟩
    ·have e2: (if Ks S.length x (arcD L k)=true then(arcD L k).lo else 0)=0:=if_neg (by rw[Bk hk];unfold Ks;rw[c4];decide);refine BR (BQ ?_);have fz:=ai c4 fz;refine B0 (BP ?_);exact xe hf ⟨xy,(by(first|rw[XC,e1,e2,Bk hk]|rw[XC,e1,e2]);simp(disch:=omega)only[wx,fz,Int.add_zero,Int.sub_zero]),(fun j h=>by rcases AT.1 h with h|rfl;exact i1 j h;exact ei),xz⟩
  ·have e1: (if PG S.length x (arcD L k)=true then(arcD L k).ca else 0)=0:=if_neg (by rw[Bk hk];unfold PG;rw[c2];decide);have ei:He S.length x (arcD L k)=false:=by rw[MV hl,Bk hk];unfold PG;rw[c2];rfl
   refine BR (BO (BQ ?_));have fz:=ai c2 fz;refine Dv ?_;refine xp (h:=Uq (hX.ext xx) hl) (k:= ?_);iterate 5 first|refine xq ?_|refine xg ?_
   refine Te (h:=fun hgd=>Ow (hX.ext xx) hl) (k:= ?_);refine xq (BP ?_);refine xi (fun c5=> ?_) fun c5=> ?_
   ·have e2: (if Ks S.length x (arcD L k)=true then(arcD L k).lo else 0)=(arcD L k).lo:=if_pos (by rw[Bk hk];exact c5);refine Bh [1,0,1,1,1,2] [0,1,2,3,4,5] kr hf ?_;have fz:=ai c5 fz;iterate 3 first|refine CA ?_|refine Cq ?_
    refine EB (h:=fun G hG=>HL (by first|exact(hc _ (AM hk)).2|exact(hc _ (AM hk)).1)) (k:= ?_);refine EB (h:=fun G hG=>HX) (k:= ?_);refine Fx fun nf4 hl4 hf=> ?_
    refine BX (BQ (B0 (BP ?_)));exact xe hf ⟨xy,(by(first|rw[XC,e1,e2,Bk hk]|rw[XC,e1,e2]);simp(disch:=omega)only[wx,fz,Int.add_zero,Int.sub_zero]),(fun j h=>by rcases AT.1 h with h|rfl;exact i1 j h;exact ei),xz⟩
   ·have e2: (if Ks S.length x (arcD L k)=true then(arcD L k).lo else 0)=0:=if_neg (by rw[Bk hk];unfold Ks;rw[c5];decide);refine BR (BQ ?_);have fz:=ai c5 fz;refine B0 (BP ?_);exact xe hf ⟨xy,(by(first|rw[XC,e1,e2,Bk hk]|rw[XC,e1,e2]);simp(disch:=omega)only[wx,fz,Int.add_zero,Int.sub_zero]),(fun j h=>by rcases AT.1 h with h|rfl;exact i1 j h;exact ei),xz⟩
 ·refine xo (BO (BQ ?_));have fz:=ai c1 fz;refine xq ?_;refine xs fun hf=> ?_
  refine xq (BP (BT (rt ?_)));exact R8 rfl xv ⟨by(obtain rfl:k=L.length:=om;simp(disch:=omega)only[wx,fz];rw[IR,if_neg (fun⟨j,h,e⟩=>by rw[i1 j h]at e;cases e),<-ZD hl];rfl),xx⟩
set_option maxHeartbeats 1600000 in
theorem XD{A:Option Addr}{c:Nat}(hA:Rd 1 intC H A S)(hB:Rd 5 Ar.c H B L)(hX:Rd 1 boolC H X x)(hS:∀n∈S,R64 n)(hc:∀a∈L,R64 a.lo/\R64 a.ca):Pure 38 [.agg #[.slice A S.length c,.slice B L.length d],.slice X x.length e] (.int .i64 (Ca S L x)) H:=by
 refine Pure.of rfl (BV Tryz.func38 rfl 35 rfl fun nf t hf _ ht=> ?_);have hf0:=hf;refine BO (BQ ?_);have fz:=ai @Qn (ai @DO (ai (ht 1 _ rfl) (ht 0 _ rfl)));refine xa fun hf=> ?_
 refine xq (BP (BO (BQ ?_)));refine xq ?_;refine xp (h:=JA (hA.ext xx) (hB.ext xx)) (k:= ?_);refine xq (BP (BO (BO (BQ ?_))));refine Ba (BP ?_);refine Kf (fun c1=> ?_) fun c1=> ?_
 ·refine BO (BQ ?_);have fz:=ai c1 fz;refine Ba (BP (BT (rt ?_)));exact BW rfl ⟨by(simp(disch:=omega)only[wx,fz];rw[Ca,if_pos c1]),xx⟩
 ·have hr:rightI S L=0:=c1;have hb:=CW hr;have w1:=So hS x S.length;have w2:=Up hc S.length x;refine BR (BO (BO (BQ ?_)));have fz:=ai c1 fz;refine Dk (BP ?_);refine Kf (fun c2=> ?_) fun c2=> ?_
  ·refine BO (BQ ?_);have fz:=ai c2 fz;refine xq (BP (BT (rt ?_)));exact BW rfl ⟨by(simp(disch:=omega)only[wx,fz];rw[Ca,if_neg (fun h=>h hr),if_pos om]),xx⟩
  ·have hl:x.length=S.length:=om;refine BR (BO (BQ ?_));have fz:=ai c2 fz;refine Ba ?_;refine xp (h:=eQ (hB.ext xx) (hX.ext xx) hl hc om) (k:= ?_);refine B0 ?_;refine xa fun hf=> ?_
   refine xs fun hf=> ?_
   refine xq (BP (BO (BO ?_)));refine Bh [0,0,0,1,0,1,1,1,0,0] [0,1,2,3,4,5,6,7,8,9] kr hf ?_;iterate 5 first|refine CA ?_|refine EM ?_|refine FG ?_
   refine HN (h:=fun hgd G hG=>eY (L:=L) (B:=B) (d:=d) (hA.ext (Ext.trans xx hG)) (hX.ext (Ext.trans xx hG)) hl hS om) (k:= ?_);refine FG ?_;refine HN (h:=fun hgd G hG=>Sa om om) (k:= ?_);iterate 2 first|refine CA ?_|refine EM ?_
   refine BX (xi (fun c3=> ?_) fun c3=> ?_)
   ·refine BO (BQ ?_);have fz:=ai c3 fz;refine xq (BP (BT (rt ?_)));exact BW rfl ⟨by(simp(disch:=omega)only[wx,fz];rw[Ca,if_neg (fun h=>h hr),if_neg om,if_pos c3]),xx⟩
   ·refine BR (BO (BQ ?_));have fz:=ai c3 fz;refine xq (BP (BT (rt ?_)));exact BW rfl ⟨by(simp(disch:=omega)only[wx,fz];rw[Ca,if_neg (fun h=>h hr),if_neg om,if_neg (by rw[c3];exact Aq)]),xx⟩
end
section
def GP(a:Int):List Int->Nat->Int
 |[],_=> -1
 |y::l,k=>if y=a then k else GP a l (k+1)
theorem Kq(a:Int)(l:List Int){k:Nat}(hk:k<l.length):GP a (l.drop k) k=if l[k]=a then(k:Int)else GP a (l.drop (k+1)) (k+1):=by
 rw[A4 hk];rfl
theorem Nz(a:Int):∀(l:List Int) (k m:Nat),k+m<k+l.length->l[m]? =some a->(GP a l k<((k+m:Nat):Int)↔∃j,j<m/\l[j]? =some a)
 |[],_,_,h,_=>absurd h (by simp)
 |y::l,k,0,_,e=>by
  have e1:y=a:=by simpa using e
  rw[GP,if_pos e1];constructor
  ·intro h;omega
  ·rintro⟨j,h,_⟩;omega
 |y::l,k,m+1,h,e=>by
  rw[GP];by_cases h1:y=a
  ·rw[if_pos h1];exact⟨fun _=>⟨0,om,by simp[h1]⟩,fun _=>om⟩
  ·rw[if_neg h1,show k+(m+1)=k+1+m from om,Nz a l (k+1) m (by simp at h;omega) (by simpa using e)];constructor
   ·rintro⟨j,h,e⟩;exact⟨j+1,om,by simpa using e⟩
   ·rintro⟨j,h,e⟩;cases j with
    |zero=>exact absurd (by simpa using e) h1
    |succ j=>exact⟨j,om,by simpa using e⟩
variable{l:List Int}
theorem Sg{k:Nat}(hk:k<l.length):decide (GP l[k] l 0<(k:Int))= !JL l k:=by
 have h:=Nz l[k] l 0 k om (AD hk);rw[AW]at h;unfold JL;rw[Bool.eq_iff_iff];simp only[BE,A7,decide_eq_false_iff_not];rw[h];constructor
 ·rintro⟨j,h1,h2⟩ h3;refine h3 j h1 ?_;rw[AD (show j<l.length from om)]at h2;rw[Bc l (show j<l.length from om),Bc l hk];exact AC h2
 ·intro h3;refine Classical.byContradiction fun h4=>h3 fun j h1 h2=>h4 ⟨j,h1,?_⟩
  rw[Bc l (show j<l.length from om),Bc l hk]at h2;rw[AD (show j<l.length from om),h2]
theorem ZF{Z:Option Addr}{e:Nat}{H:Hp}(hZ:Rd 1 intC H Z l)(hl:l.length<1000000){a:Int}:Pure 131 [.slice Z l.length e,.int .i64 a] (.int .i64 (GP a l 0)) H:=by
 refine Pure.of rfl (BV Tryz.func131 rfl 19 rfl fun nf t hf _ ht=> ?_);have hf0:=hf;refine BO (BQ ?_);have fz:=ai (ht 1 _ rfl) (ht 0 _ rfl);refine xq (BP (BO (BO (BQ ?_))));refine xq (BP (BS ?_));refine By fun T1 hT=> ?_
 have gz:=ai (xt (hT 5)) (ai (xt (hT 1)) (ai (xt (hT 0)) trivial));clear hT;refine xl l.length nf H hf (fun k t nf1 G=>GP a l 0=GP a (l.drop k) k/\(t 0=T1 0/\t 1=T1 1)/\t 5= .int .i64 (k:Int)) ⟨rfl,xh⟩ ?_;rintro k t nf1 G hk1 hn1 hf he ⟨i1,uz,h5⟩;have hfl:=hf;refine BO (BO (BQ ?_));have fz:=ai h5 (ai uz gz);refine Dv (BP ?_);refine C8 (fun c1=> ?_) fun c1=> ?_
 ·refine BR (BO (BS (BO (BQ ?_))));have hk:k<l.length:=om;obtain⟨b,o,eZ,ho⟩:=(hZ.ext he) k hk;have lb:=Bd hf ho;have fz:=ai ho (ai eZ (ai c1 fz));refine Dk (BP ?_);refine HR (fun c2=> ?_) fun c2=> ?_
  ·refine BO (BQ ?_);have fz:=ai c2 fz;refine Ba (BP (BT (rt ?_)));exact BW rfl ⟨by(simp(disch:=omega)only[wx,fz];rw[i1,Kq _ _ hk,if_pos c2]),xx⟩
  ·refine BR (BQ ?_);have fz:=ai c2 fz;refine B0 (BP ?_);exact xe hf ⟨(by rw[i1,Kq _ _ hk,if_neg c2]),xz⟩
 ·refine xo (BO (BQ ?_));have fz:=ai c1 fz;refine xq (BP (BT (rt ?_)));exact BW rfl ⟨by(simp(disch:=omega)only[wx,fz];rw[i1,Az om];rfl),xx⟩
theorem lZ{S:List Int}{L:List Ar}{A B X:Option Addr}{c d e:Nat}{H:Hp}(hB:Rd 5 Ar.c H B L)(hX:Rd 1 intC H X l)(hc:∀a∈L,R64 a.co)(hl:l.length<1000000):Pure 93 [.agg #[.slice A S.length c,.slice B L.length d],.slice X l.length e] (W (Ej L l l.length)) H:=by
 refine Pure.of rfl (BV Tryz.func93 rfl 42 rfl fun nf t hf _ ht=> ?_);have hf0:=hf;refine BO (BQ ?_);have fz:=ai @Eb (ai (ht 1 _ rfl) (ht 0 _ rfl));refine xa fun hf=> ?_
 refine xa fun hf=> ?_
 refine BP (BO (BQ (xq ?_)));refine xa fun hf=> ?_
 refine xs fun hf=> ?_
 refine BP (BO (BO (BQ (xq (BP (BS ?_))))));refine By fun T1 hT=> ?_
 have gz:=ai (xt (hT 6)) (ai (xt (hT 5)) (ai (xt (hT 4)) (ai (xt (hT 2)) (ai (xt (hT 1)) trivial))));clear hT;refine xl l.length nf H hf (fun k t nf1 G=>G (nf+2)=some (.own [.int .i64 (GI (Ej L l k)),.int .u64 (EG (Ej L l k))])/\(t 1=T1 1/\t 2=T1 2/\t 4=T1 4/\t 5=T1 5)/\t 6= .int .i64 (k:Int)/\G nf=some (.own [.slice A S.length c,.slice B L.length d])/\G (nf+1)=some (.own [.int .i64 0,.int .u64 0])) ⟨(by simp(disch:=omega)only[wx,fz];rfl),xh⟩ ?_;rintro k t nf1 G hk1 hn1 hf he ⟨bs,uz,h6,b0,b1⟩;have hfl:=hf;have l0:=hf.lt b0;have l1:=hf.lt b1;have lS:=hf.lt bs;refine BO (BO (BQ ?_));have fz:=ai bs (ai b1 (ai b0 (ai h6 (ai uz (ai gz (ai @Eb @DO))))));refine Dv (BP ?_);refine C8 (fun c1=> ?_) fun c1=> ?_
 ·refine BR (BO (BS (BO (Bh [0,0,0,1,0,0,0,0,0,1,0,1,0,0,0] [0,1,2,3,4,5,6,7,8,9,10,11,12,13,14] kr hf ?_))));obtain⟨b,o,eX,hoX⟩:=(hX.ext he) k om;have lb:=Bd hf hoX;have ek:=Bc l (show k<l.length from om);have fz:=ai hoX (ai eX (ai c1 fz));iterate 15 first|refine CA ?_|refine EM ?_|refine Cq ?_|refine FG ?_
  refine BX (xi (fun c2=> ?_) fun c2=> ?_)
  ·have hr:0<=l[k]/\l[k]<L.length:=by simp at c2;omega
   obtain⟨j,ej⟩:=AI hr.1;have hj:j<L.length:=om;obtain⟨b3,o3,eB,hoB⟩:=(hB.ext he) j hj;have lb3:=Bd hf hoB;have ho4:Cs (G b3) (o3+j*5+4) 1=some [.int .i64 L[j].co]:=Cn hoB dZ;refine Bh [1,0,1,0,0,0,1,0,0,1,1,1,2] [0,1,2,3,4,5,6,7,8,9,10,11,12] kr hf ?_;have fz:=ai ho4 (ai eB (ai ej (ai c2 fz)));iterate 10 first|refine CA ?_|refine Cq ?_
   refine EB (h:=fun G hG=>HL (a:=L[j].co) (hc _ (AM _))) (k:= ?_);refine EB (h:=fun G hG=>Gw) (k:= ?_);refine Fx fun nf2 hl2 hf=> ?_
   refine BX (BQ (B0 (BP ?_)));exact xe hf ⟨(by first|(simp(disch:=omega)only[wx,fz];rw[Ej,ek,if_pos c2,ej,Aa,Bk om])|(simp(disch:=omega)only[wx,fz];rw[Ej,ek,if_neg (by rw[c2];exact Aq)])),xz⟩
  ·refine BR (BQ ?_);have fz:=ai c2 fz;refine B0 (BP ?_);exact xe hf ⟨(by first|(simp(disch:=omega)only[wx,fz];rw[Ej,ek,if_pos c2,ej,Aa,Bk om])|(simp(disch:=omega)only[wx,fz];rw[Ej,ek,if_neg (by rw[c2];exact Aq)])),xz⟩
 ·refine xo (BO (BQ ?_));have fz:=ai c1 fz;refine xq ?_;refine xs fun hf=> ?_
  refine BP (BT (rt ?_));exact Ch rfl xv ⟨by(obtain rfl:k=l.length:=om;exact xv),xx⟩
end
def Ix(L:List Ar)(l:List Int)(k:Nat):Bool:= !Ec L l k||(!JL l k||(De L l k).ca !=4611686018427387904)
def Qo(L:List Ar)(l:List Int):Bool:=Fy l.length (fun k=> !Ix L l k)&&Fy l.length (FJ L l)
set_option maxHeartbeats 1600000 in
theorem ZC{S:List Int}{L:List Ar}{l:List Int}{A B X:Option Addr}{c d e:Nat}{H:Hp}(hB:Rd 5 Ar.c H B L)(hX:Rd 1 intC H X l)(hl:l.length<1000000):Pure 92 [.agg #[.slice A S.length c,.slice B L.length d],.slice X l.length e] (.bool (Qo L l)) H:=by
 refine Pure.of rfl (BV Tryz.func92 rfl 79 rfl fun nf t hf _ ht=> ?_);have hf0:=hf;refine BO (BQ ?_);have fz:=ai (ht 1 _ rfl) (ht 0 _ rfl);refine xa fun hf=> ?_
 refine xq (BP (BO (BO (BQ ?_))));refine xq (BP (BS ?_));refine By fun T1 hT=> ?_
 have gz:=ai (xt (hT 5)) (ai (xt (hT 2)) (ai (xt (hT 1)) trivial));clear hT;refine xl l.length nf H hf (fun k t nf1 G=>(∀j,j<k->Ix L l j=false)/\(t 1=T1 1/\t 2=T1 2)/\t 5= .int .i64 (k:Int)/\G nf=some (.own [.slice A S.length c,.slice B L.length d])) ⟨(fun j h=>absurd h (Aj j)),xh⟩ ?_;rintro k t nf1 G hk1 hn1 hf he ⟨i1,uz,h5,b0⟩;have hfl:=hf;have l0:=hf.lt b0;refine BO (BO (BQ ?_));have fz:=ai b0 (ai h5 (ai uz gz));refine Dv (BP ?_);refine C8 (fun c1=> ?_) fun c1=> ?_
 ·refine BR (BO (BS (BO ?_)));rcases Bool.eq_false_or_eq_true (Ec L l k)with cs|cs
  ·have hk:k<l.length:=om;obtain⟨b,o,eX,hoX⟩:=(hX.ext he) k hk;have lb:=Bd hf hoX;have ek:=Bc l hk;have hr:0<=l[k]/\l[k]<L.length:=by rw[Ec,ek]at cs;simp at cs;omega
   obtain⟨j,ej⟩:=AI hr.1;have hj:j<L.length:=om;obtain⟨b3,o3,eB,hoB⟩:=(hB.ext he) j hj;have lb3:=Bd hf hoB;have ho4:Cs (G b3) (o3+j*5+3) 1=some [.int .i64 L[j].ca]:=Cn hoB dZ;have ct: (decide ((j:Int)<0)||decide ((j:Int) >= (L.length:Int)))=false:=by rw[BI (show¬(j:Int)<0 from om),BI (show¬(j:Int) >= L.length from om)];rfl
   have ea:De L l k=L[j]:=by rw[De,ek,ej,Aa,Bk hj]
   have ep:=Sg hk;rw[ej]at ep;refine Bh [0,0,0,1,0,0,0,0,0,1,0,1,0,0,0,0,0,0,0,0,1,1,0,0,0,0,0,1,0,0,0,1,0,0,1,0,0] [0,1,2,3,4,5,6,7,8,9,10,11,12,13,14,15,16,17,18,19,20,21,22,23,24,25,26,27,28,29,30,31,32,33,34,35,36] kr hf ?_;have fz:=ai ep (ai ct (ai ho4 (ai eB (ai ej (ai hoX (ai eX (ai cs (ai c1 fz))))))));iterate 21 first|refine CA ?_|refine EM ?_|refine Cq ?_|refine FG ?_
   refine HN (h:=fun hgd G hG=>by have h:=ZF ((hX.ext xx).ext hG) hl (a:=(j:Int)) (e:=e);rw[eX]at h;exact h) (k:= ?_);iterate 15 first|refine CA ?_|refine EM ?_|refine FG ?_
   refine BX (xi (fun c2=> ?_) fun c2=> ?_)
   ·have eb:Ix L l k=true:=by rw[Ix,cs,ea];simpa using c2
    refine BO (BQ ?_);have fz:=ai c2 fz;refine xq (BP (BT (rt ?_)));exact BW rfl ⟨by(simp(disch:=omega)only[wx,fz];rw[Qo,Hm hk (by rw[eb];rfl)];rfl),xx⟩
   ·have eb:Ix L l k=false:=by rw[Ix,cs,ea];simpa using c2
    refine BR (BQ ?_);have fz:=ai c2 fz;refine B0 (BP ?_);exact xe hf ⟨(fun j h=>by rcases AT.1 h with h|rfl;exact i1 j h;exact eb),xz⟩
  ·have hk:k<l.length:=om;obtain⟨b,o,eX,hoX⟩:=(hX.ext he) k hk;have lb:=Bd hf hoX;have ek:=Bc l hk;have ct: (decide (l[k]<0)||decide (l[k] >= (L.length:Int)))=true:=by rw[Ec,ek]at cs;simp at cs;simp;omega
   have eb:Ix L l k=true:=by rw[Ix,cs];rfl
   refine Bh [0,0,0,1,0,0,0,0,0,1,0,1,0,0,0,0,0,0,0,0,1,1,0,0,0,0,0,1,0,0,0,1,0,0,1,0,0] [0,1,2,3,4,5,6,7,8,9,10,11,12,13,14,15,16,17,18,19,20,21,22,23,24,25,26,27,28,29,30,31,32,33,34,35,36] kr hf ?_;have fz:=ai ct (ai hoX (ai eX (ai cs (ai c1 fz))));iterate 37 first|refine CA ?_|refine EM ?_|refine Cq ?_|refine FG ?_|refine xA ?_|refine w9 ?_|refine w8 ?_
   refine BX (xT (BO (BQ ?_)));refine xq (BP (BT (rt ?_)));exact BW rfl ⟨by(simp(disch:=omega)only[wx,fz];rw[Qo,Hm hk (by rw[eb];rfl)];rfl),xx⟩
 ·obtain rfl:k=l.length:=om;refine xo (BO (BO (BQ ?_)));have fz:=ai c1 fz;refine xq (BP (BS ?_));refine By fun T2 hT=> ?_
  have gz:=ai (xt (hT 6)) (ai (xt (hT 2)) (ai (xt (hT 1)) gz));clear hT;refine xl l.length nf H hf (fun k t nf1 G=>(∀j,j<k->FJ L l j=true)/\(t 1=T2 1/\t 2=T2 2)/\t 6= .int .i64 (k:Int)/\G nf=some (.own [.slice A S.length c,.slice B L.length d])) ⟨(fun j h=>absurd h (Aj j)),xh⟩ ?_;rintro k t nf1 G hk2 hn2 hf he ⟨i2,uz,h6,b0⟩;have hfl:=hf;have l0:=hf.lt b0;refine BO (BO (BQ ?_));have fz:=ai b0 (ai h6 (ai uz gz));refine Dv (BP ?_);refine C8 (fun c4=> ?_) fun c4=> ?_
  ·refine BR (BO (BS (BO (Bh [0,1,0,0,0,1,0,0,1,0,1,0,0,0,0,0,0,0,1,0,0,1,0] [0,1,2,3,4,5,6,7,8,9,10,11,12,13,14,15,16,17,18,19,20,21,22] kr hf ?_))));have hm: (k+1)%l.length<l.length:=Nat.mod_lt _ om;obtain⟨q,eq⟩:∃q,q=(k+1)%l.length:=⟨_,rfl⟩;rw[<-eq]at hm;obtain⟨b,o,eX,hoX⟩:=(hX.ext he) k om;have lb:=Bd hf hoX;have ek:=Bc l (show k<l.length from om);obtain⟨b2,o2,j6,hoX2⟩:=(hX.ext he) q hm;have eo:b2=b/\o2=o:=by rw[eX]at j6;cases j6;exact⟨rfl,rfl⟩
   obtain⟨rfl,rfl⟩:=eo;have em: ((k:Int)+1).tmod (l.length:Int)=(q:Int):=by rw[eq];exact(congrArg (fun x=>Int.tmod x (l.length:Int)) (Int.natCast_succ k)).symm.trans (Int.ofNat_tmod _ _)
   have hr:0<=l[k]/\l[k]<L.length:=by have:=i1 k om;simp[Ix,Ec,ek]at this;omega
   obtain⟨j,ej⟩:=AI hr.1;have ek2:=Bc l hm;have hr2:0<=l[q]/\l[q]<L.length:=by have:=i1 q hm;simp[Ix,Ec,ek2]at this;omega
   obtain⟨j2,ej2⟩:=AI hr2.1;obtain⟨b3,o3,eB,hoB⟩:=(hB.ext he) j om;obtain⟨b4,o4,eB2,hoB2⟩:=(hB.ext he) j2 om;have eo:b4=b3/\o4=o3:=by rw[eB]at eB2;cases eB2;exact⟨rfl,rfl⟩
   obtain⟨rfl,rfl⟩:=eo;have lb3:=Bd hf hoB;have ht:Cs (G b4) (o4+j*5+1) 1=some [.int .i64 L[j].t]:=Cn hoB dZ;have hh:Cs (G b4) (o4+j2*5+0) 1=some [.int .i64 L[j2].f]:=Cn hoB2 dZ;have ea:De L l k=L[j]:=by rw[De,ek,ej,Aa,Bk om]
   have eb:De L l ((k+1)%l.length)=L[j2]:=by rw[<-eq,De,ek2,ej2,Aa,Bk om]
   have fz:=ai @bo (ai em (ai hoX2 (ai hoX (ai eX (ai hh (ai ht (ai eB (ai ej2 (ai ej (ai c4 fz))))))))));iterate 23 first|refine CA ?_|refine Cq ?_
   refine BX (Kf (fun c5=> ?_) fun c5=> ?_)
   ·refine BO (BQ ?_);have fz:=ai c5 fz;refine xq (BP (BT (rt ?_)));exact BW rfl ⟨by(simp(disch:=omega)only[wx,fz];rw[Qo,Hm (show k<l.length from om) (p:=FJ L l) (by rw[FJ,ea,eb];exact BI c5),Bool.and_false]),xx⟩
   ·refine BR (BQ ?_);have fz:=ai c5 fz;refine B0 (BP ?_);exact xe hf ⟨(fun j h=>by rcases AT.1 h with h|rfl;exact i2 j h;rw[FJ,ea,eb];exact BH c5),xz⟩
  ·refine xo (BO (BQ ?_));have fz:=ai c4 fz;refine xq (BP (BT (rt ?_)));exact BW rfl ⟨by(simp(disch:=omega)only[wx,fz];rw[Qo,FL (p:=fun k=> !Ix L l k) (fun j h=>by rw[i1 j h];rfl),FL (p:=FJ L l) (fun j h=>i2 j om)];rfl),xx⟩
section
structure ArOk(n:Nat)(a:Ar):Prop where
 f:0<=a.f/\a.f<n
 t:0<=a.t/\a.t<n
 lo:0<=a.lo/\a.lo<=4398046511104
 ca:a.ca=4611686018427387904\/(a.lo<=a.ca/\a.ca<=4398046511104)
 co: -4398046511104<=a.co/\a.co<=4398046511104
theorem XF{a:Ar}{n:Nat}(h:Cp a n=0):ArOk n a:=by
 unfold Cp at h;split at h
 ·cases h
 ·split at h
  ·cases h
  ·split at h
   ·cases h
   ·split at h
    ·cases h
    ·rename_i h1 h2 h3 h4;simp at h1 h2 h3 h4;exact⟨om,om,om,om,om⟩
theorem M8{n:Nat}:∀{L:List Ar},C7 n L=0->∀a∈L,ArOk n a
 |[],_,a,h=>absurd h (by simp)
 |b::L,h,a,ha=>by
  unfold C7 at h;split at h
  ·rename_i h1;rcases AV.1 ha with rfl|ha
   ·exact XF h1
   ·exact M8 h a ha
  ·rename_i h1;exact absurd h h1
theorem Nm:∀{S:List Int} {a:Int},Dm S a=0->(∀s∈S, -4398046511104<=s/\s<=4398046511104)/\a+S.sum=0
 |[],a,h=>by
  unfold Dm at h;split at h
  ·rename_i e;exact⟨fun s h=>absurd h (by simp),by simpa using e⟩
  ·cases h
 |s::S,a,h=>by
  unfold Dm at h;split at h
  ·cases h
  ·rename_i e;obtain⟨h1,h2⟩:=Nm h;refine⟨fun x hx=> ?_,by rw[List.sum_cons];omega⟩;rcases AV.1 hx with rfl|hx
   ·omega
   ·exact h1 x hx
variable{S:List Int}{L:List Ar}
theorem HY(h:rightI S L=0): (∀a∈L,ArOk S.length a)/\(∀s∈S, -4398046511104<=s/\s<=4398046511104)/\S.sum=0:=by
 unfold rightI at h;split at h
 ·cases h
 ·split at h
  ·rename_i e;have:=Nm h;exact⟨M8 e,this.1,by simpa using this.2⟩
  ·rename_i e;exact absurd h e
theorem Nv(h:rightI S L=0){k:Nat}(hk:k<L.length):CG S.length L[k]=true:=by
 have:=(HY h).1 _ (AM hk);have h1:=this.f;have h2:=this.t;unfold CG DS;simp;omega
theorem eh(L:List Ar)(l:List Int): (Qo L l&&decide (sg (Ej L l l.length) 0<0))=Fy 5 (Xy L l):=by
 rw[Bool.eq_iff_iff];unfold Qo;simp only[AA];constructor
 ·rintro⟨⟨h1,h2⟩,h3⟩;refine FL fun k hk=> ?_
  match k,hk with
  |0,_=>exact FL fun j hj=>by have:=CO h1 hj;simp[Ix]at this;exact this.1
  |1,_=>exact FL fun j hj=>by have:=CO h1 hj;simp[Ix]at this;exact this.2.1
  |2,_=>exact h2
  |3,_=>exact FL fun j hj=>by have:=CO h1 hj;simp[Ix]at this;exact BH this.2.2
  |4,_=>exact h3
 ·intro h;have h0:Fy l.length (Ec L l)=true:=CO h (k:=0) dZ;have h1:Fy l.length (JL l)=true:=CO h (k:=1) dZ;have h3:=CO h (k:=3) dZ;exact⟨⟨FL fun j hj=>by have e3:=CO h3 hj;simp[Ix,CO h0 hj,CO h1 hj];exact BA e3,CO h (k:=2) dZ⟩,CO h (k:=4) dZ⟩
theorem qH(a:Int):decide (sg a 0 >= 0)= !decide (sg a 0<0):=by
 by_cases h:sg a 0<0
 ·rw[BH h,BI om];rfl
 ·rw[BI h,BH om];rfl
theorem eg(L:List Ar)(l:List Int): (!Qo L l||decide (sg (Ej L l l.length) 0 >= 0))= !Fy 5 (Xy L l):=by rw[qH,<-eh,Bool.not_and]
set_option maxHeartbeats 1600000 in
theorem Y9{l:List Int}{A B Z:Option Addr}{c d e:Nat}{H:Hp}(hA:Rd 1 intC H A S)(hB:Rd 5 Ar.c H B L)(hZ:Rd 1 intC H Z l)(hc:∀a∈L,R64 a.co):Pure 40 [.agg #[.slice A S.length c,.slice B L.length d],.slice Z l.length e] (.int .i64 (DK S L l)) H:=by
 refine Pure.of rfl (BV Tryz.func40 rfl 37 rfl fun nf t hf _ ht=> ?_);have hf0:=hf;refine BO (BQ ?_);have fz:=ai @eg (ai @DO (ai @Eb (ai (ht 1 _ rfl) (ht 0 _ rfl))));refine xa fun hf=> ?_
 refine xq (BP (BO (BQ ?_)));refine xq ?_;refine xp (h:=JA (hA.ext xx) (hB.ext xx)) (k:= ?_);refine xq (BP (BO (BS (BO (BQ ?_)))));refine B0 (BP ?_);refine Kf (fun c1=> ?_) fun c1=> ?_
 ·refine BO (BQ ?_);have fz:=ai c1 fz;refine Ba (BP (BT (rt ?_)));exact BW rfl ⟨by(simp(disch:=omega)only[wx,fz];rw[DK,if_pos c1]),xx⟩
 ·have hr:rightI S L=0:=c1;have hb:=CW hr;refine BO (BQ ?_);have fz:=ai c1 fz;iterate 12 first|refine xq ?_|refine xg ?_
  refine BP (xi (fun c2=> ?_) fun c2=> ?_)
  ·have hq:l.length=0\/l.length>L.length:=by simp only[A6,beq_iff_eq,BE]at c2;omega
   refine BO (BQ ?_);have fz:=ai c2 fz;refine xq (BP (BT (rt ?_)));exact BW rfl ⟨by(simp(disch:=omega)only[wx,fz];rw[DK,if_neg (fun h=>h hr),if_pos hq]),xx⟩
  ·have hq:¬(l.length=0\/l.length>L.length):=by simp only[Bool.or_eq_false_iff,beq_eq_false_iff_ne,ne_eq,decide_eq_false_iff_not]at c2;omega
   have hs:=SK hc l l.length;refine BO (BQ ?_);have fz:=ai c2 fz;refine Ba ?_;refine xp (h:=ZC (hB.ext xx) (hZ.ext xx) om) (k:= ?_);iterate 4 first|refine xq ?_|refine xg ?_
   refine Te (h:=fun hgd=>lZ (S:=S) (A:=A) (c:=c) (hB.ext xx) (hZ.ext xx) hc om) (k:= ?_);refine xg ?_;refine Te (h:=fun hgd=>Sa (b:=0) om om) (k:= ?_);iterate 3 first|refine xq ?_|refine xg ?_
   refine BP (xi (fun c3=> ?_) fun c3=> ?_)
   ·refine BO (BQ ?_);have fz:=ai c3 fz;refine xq (BP (BT (rt ?_)));exact BW rfl ⟨by(simp(disch:=omega)only[wx,fz];rw[DK,if_neg (fun h=>h hr),if_neg hq,if_neg (by simp at c3;rw[c3];decide)]),xx⟩
   ·refine BR (BO (BQ ?_));have fz:=ai c3 fz;refine xq (BP (BT (rt ?_)));exact BW rfl ⟨by(simp(disch:=omega)only[wx,fz];rw[DK,if_neg (fun h=>h hr),if_neg hq,if_pos (by simpa using c3)]),xx⟩
end
end
end Go.Proofs.YtjlallgaadmeaaaGreatDoor
