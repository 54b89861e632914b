/- Parts of the proof, joined: JN JO JP JQ JR JS JT JU JV JW JX JY LO LP LQ LR LS. Conditions: none. -/
import Derived.Test.YtjlallgaadmeaaaGreatDoorM11
import Derived.Deep.Slices
import Derived.WideShapes
import Derived.Deep.Fields
import Derived.ChangeArms
set_option linter.unusedVariables false
set_option linter.unusedSimpArgs false
set_option linter.unusedSectionVars false
set_option maxRecDepth 100000
namespace Go.Proofs.YtjlallgaadmeaaaGreatDoor
section
open Go.Conc Go.Proofs
variable[Md]
set_option maxHeartbeats 4000000 in
theorem Xs{w xb ob n:Nat}{L:List Ar}{T:Value}{H:Hp}{σ:Net}(hM:NwM H w xb ob n L T σ)(hA:∀a∈L,ArOk n a)(hn0:0<n)(hn:n<=64)(hLl:L.length<=256)(hσ:NetOk n L σ){T0:Int}(hB:Bnd n L T0 σ)(hT0:0<=T0/\T0<=1000000)(hbk:∀a,a<L.length->sRoom L σ.x ⟨a,true⟩=0)(ho_:∀v, -2048<=nth σ.ov v/\nth σ.ov v<=2048)(hc_:∀a∈L,a.ca=4611686018427387904\/(0<=a.ca/\a.ca<=2048))(hq_: (Bq L n (fun _=>true) (FI L)).last=none){Q:Net->Prop}(hQ:X8 n L Q)(hQσ:Q σ):Ct 27 [.pointer (some ⟨w,0,none⟩)] (fun _ H'=>Nb (PX xb ob) H H'/\∃(p:Nat) (τ:Net) (D:List (Option Int)),p<=11/\NwM H' w xb ob n L T τ/\Chp n L Q p T0 (p+1) τ D) H:=by
 refine BV Tryz.func27 rfl 38 rfl fun nf t hf hsc ht=> ?_
 have hf0:=hf;have hx:=hM.x;have ho:=hM.o;have lx:=hf.lt hx;have lo:=hf.lt ho;obtain⟨K,kE,hq,kX,kN⟩:=IY (PX xb ob) hf;have hf0:∀c,nf<=c\/c=xb\/c=ob->K c=none:=hq;have he:=kE;have hNK:=hM.a.drop kN;obtain⟨⟨Aw,cw,Bw,dw,cx,co,hw,hB5,hBn⟩,m1,m2,m3⟩:=hNK;have lw:w<nf:=hf.lt (kE _ _ hw);have okL:=Di hA;have hfl:=hf;have nX:∀c,nf<=c->¬PX xb ob c:=fun c h h2=>h2.elim (fun e=>om) (fun e=>om)
 refine BO (BQ ?_);have fz:=(ht 0 _ rfl);refine xa fun hf=> ?_
 refine BP (BO (BQ (B0 ?_)));refine xc (h:=I8 (n:=n) (fs:= #[]) (cs:= #[]) (fc:= #[.pointer (some ⟨w,0,none⟩)]) (cc:= #[]) (st:=fun _=>true) (cnt:=FI L) (xw hw) (hB5.ext xx) hA hn hLl (fun G hG v hv=>LY) (fun G hG s hs=>by have:=KY (b:=s.back) (xw hw (e:=Ext.trans xx hG)) ((hB5.ext xx).ext hG) hs;unfold FI;rw[Du L hs];exact this)) (k:=fun v1 H1 z hz q1 hf=> ?_);obtain⟨e1,db,bb,rfl,hd,hbm,n1,n2,n3⟩:=q1;have p0:=e1 nf _ xv;have ndx:db≠xb/\db≠ob:=⟨Sp (Ext.refl _) (Ext.none (by(repeat refine Ext.up (hfl _ om) ?_);exact Ext.refl _) n1) hx,Sp (Ext.refl _) (Ext.none (by(repeat refine Ext.up (hfl _ om) ?_);exact Ext.refl _) n1) ho⟩;have he:=Ext.trans xx e1;have mk:=hM.ext (Ext.trans (by(repeat refine Ext.up (hfl _ om) ?_);exact Ext.refl _) e1);have hfl:=hf;have ldd:=hf.lt hd;have fz:=ai hd (ai p0 fz);refine Dv ?_;refine xa fun hf=> ?_
 refine Ba ?_;refine xs fun hf=> ?_
 refine BP (BO (BQ (xq ?_)));refine xc (h:=gW (mk.ext (by(repeat refine Ext.up (hfl _ om) ?_);exact Ext.refl _)) hn hLl ho_ hc_) (k:=fun v2 H2 z2 hz2 q2 hf=> ?_);obtain⟨e2,p,hp11,rfl,hgp⟩:=q2;have p0b:=e2 nf _ xv;have hdb:=e2 db _ xv;have he:=Ext.trans xx e2;have mk:=mk.ext (Ext.trans (by(repeat refine Ext.up (hfl _ om) ?_);exact Ext.refl _) e2);have hfl:=hf;have fz:=ai hdb (ai p0b fz);refine xa fun hf=> ?_
 refine xs fun hf=> ?_
 refine BP (BS (By fun T1 hT=> ?_));have gz:=ai (xt (hT 5)) (ai (xt (hT 2)) (ai (xt (hT 1)) trivial));clear hT;refine xl ((p+1)) nf K hf (fun k t nf1 G=>∃(d5 c5:Nat) (τ:Net) (D:List (Option Int)),nf<=c5/\G c5=some (.own [.int .i64 (lv p k)])/\G d5=some (.own (ar n (at_ D)))/\(d5≠xb/\d5≠ob)/\NwM G w xb ob n L T τ/\Chp n L Q p T0 k τ D/\t 1=T1 1/\t 2= .slice (some ⟨d5,0,none⟩) n n/\t 5= .pointer (some ⟨c5,0,none⟩)/\G nf=some (.own [.pointer (some ⟨w,0,none⟩)])) ⟨db,z2,σ,(Bq L n (fun _=>true) (FI L)).dist,om,(by simp(disch:=omega)only[wx,fz];rfl),xy,ndx,(mk.ext (by(repeat refine Ext.up (hfl _ om) ?_);exact Ext.refl _)),(sq hA hLl hn0 hn hσ hB hbk hgp hq_ hQσ),xh⟩ ?_;rintro k t nf1 G hk1 hn1 hf he ⟨d5,c5,τ,D,hc5,hG5,hGd,hdn,mk,hc,uz,h2,h5,b0⟩;have hfl:=hf;have l0:=hf.lt b0;refine BO (BO (BQ ?_));have fz:=ai hGd (ai hG5 (ai b0 (ai h5 (ai h2 (ai uz (ai gz Dc))))));refine Ba (BP ?_);refine xi (fun c1=> ?_) fun c1=> ?_
 ·have c1:=BA c1;have hkp:=mw c1;obtain⟨u,hu⟩:∃u,lv p k=u:=⟨_,rfl⟩;have hu2:=mu hkp;have hu3:=f9 hkp;have hu4:=lI (k:=p - k) om;have hu1:0<u:=by rw[<-hu];exact c1
  have hul:u<=2048:=by rw[<-hu];unfold lv;split<;>omega
  have hfe:Feas L (fun s=>2*u<=sRoom L τ.x s) (valO D):=by have:=hc.feas;rw[<-hu2,hu]at this;exact this
  have huL:4*u*(L.length:Int)<=3000000:=by have:=Int.mul_le_mul (show 4*u<=8192 from om) (show(L.length:Int)<=256 from om) om dZ;omega
  have huL0:0<=4*u*(L.length:Int):=Int.mul_nonneg om om;have hk12: (k:Int)<=12:=om;have hdv:IntKind.i64.wrap (u.tdiv 2)=lv p (k+1):=by rw[hu3,hu,Int.tdiv_eq_ediv_of_nonneg om];exact Jy om om
  refine BR (BO (BS (BO (BQ ?_))));have fz:=ai hdv (ai hu (ai c1 fz));refine B0 ?_;refine xc (h:=qJ (mk.ext (by(repeat refine Ext.up (hfl _ om) ?_);exact Ext.refl _)) hA hLl hu1 (by unfold Gb;omega) hc.ok hc.bnd (by unfold BB;omega) hfe xv hdn hc.bd) (k:=fun v3 H3 z3 hz3 q3 hf=> ?_);refine BP (BO (BQ ?_));have p0c:=q3.1 nf _ (nX _ om) xv;have pcc:=q3.1 c5 _ (nX _ hc5) xv;have he:=q3.1.ext xx (fun c h=>hf0 c (.inr h));have mk:=q3.2;have hfl:=hf;obtain⟨hlu0,hbu0⟩:=lX okL hu1 (by unfold Gb;omega) hc.ok hc.bnd hfe;have hqu0:Q (Y5 L u D τ):=hQ.sat u D _ τ hc.ok.lx hc.ok.lo (fun s hs=>DY.1 hs) hc.q;have hbu0:=hbu0.mono (T':=T0+4000000*((k+1:Nat):Int)) om;generalize Y5 L u D τ=τ0 at mk hlu0 hbu0 hqu0;have hP0:=Cx (nth τ0.ov) n;obtain⟨P,hP⟩:∃P:Nat,psum (nth τ0.ov) n=(P:Int):=⟨_,(Int.toNat_of_nonneg hP0).symm⟩;have fz:=ai pcc (ai p0c fz);refine Ba (BP (BO (BS ?_)));refine By fun T2 hT=> ?_
  have gz:=ai (xt (hT 6)) (ai (xt (hT 5)) (ai (xt (hT 1)) gz));clear hT;refine xl P nf K hf (fun j t nf2 G=>∃(τ2:Net),NwM G w xb ob n L T τ2/\LumpOk n L u τ2/\Bnd n L (T0+4000000*((k+1:Nat):Int)) τ2/\psum (nth τ2.ov) n+(j:Int)<=(P:Int)/\Q τ2/\(t 1=T2 1/\t 5=T2 5/\t 6=T2 6)/\G nf=some (.own [.pointer (some ⟨w,0,none⟩)])/\G c5=some (.own [.int .i64 u])) ⟨τ0,(mk.ext (by(repeat refine Ext.up (hfl _ om) ?_);exact Ext.refl _)),hlu0,hbu0,om,hqu0,xh⟩ ?_;rintro j t nf2 G hk2 hn2 hf he ⟨τ2,mk,hlu,hbu,hps,hqu,uz,b0,b1⟩;have hfl:=hf;have l0:=hf.lt b0;have l1:=hf.lt b1;refine BO (BO (BQ ?_));have nbt:=N3 okL hlu.ok hbu;have fz:=ai b1 (ai b0 (ai uz (ai gz Dc)));refine B0 ?_;refine xc (h:=gA (fr:= #[]) (cr:= #[.pointer (some ⟨nf,0,none⟩),.pointer (some ⟨c5,0,none⟩)]) (mk.ext (by(repeat refine Ext.up (hfl _ om) ?_);exact Ext.refl _)) hlu (by unfold BB;omega) (nbt.mono om) hA hn hLl (fun G hG s hs=>Uo ((mk.ext (by(repeat refine Ext.up (hfl _ om) ?_);exact Ext.refl _)).ext hG) (nbt.mono (by unfold BB;omega)) (hG _ _ xv) (hG _ _ xv) hs (hA _ (AM hs)))) (k:=fun v4 H4 z4 hz4 q4 hf=> ?_);obtain⟨r,τ3,rfl,eX,mk3,hr1,hr0⟩:=q4;have p0d:=eX nf _ (nX _ om) xv;have pcd:=eX c5 _ (nX _ hc5) xv;have he:=eX.ext xx (fun c h=>hf0 c (.inr h));have mk:=mk3;have hfl:=hf;refine BP ?_;have fz:=ai pcd (ai p0d fz);refine xi (fun c2=> ?_) fun c2=> ?_
  ·obtain⟨hlu3,hbu3,hps3,hqu3⟩:=my hA hLl hn hQ hlu hbu (hr1 c2) hqu;have hps4:=Cx (nth τ3.ov) n;refine BR (BS (BR ?_));have fz:=ai c2 fz;exact xe hf ⟨τ3,(mk.ext (by(repeat refine Ext.up (hfl _ om) ?_);exact Ext.refl _)),hlu3,hbu3,om,hqu3,xz⟩
  ·obtain⟨e32,hno⟩:=hr0 c2;have e23:=e32.symm;subst e23;refine xo (BQ ?_);have fz:=ai c2 fz;refine Ba ?_;refine xc (h:=I8 (n:=n) (fs:= #[]) (cs:= #[]) (fc:= #[]) (cc:= #[.pointer (some ⟨nf,0,none⟩),.pointer (some ⟨c5,0,none⟩)]) (st:=fun _=>true) (cnt:=ES L u τ2) (xw hw) (hB5.ext xx) hA hn hLl (fun G hG v hv=>LY) (fun G hG s hs=>Uo ((mk.ext (by(repeat refine Ext.up (hfl _ om) ?_);exact Ext.refl _)).ext hG) (nbt.mono (by unfold BB;omega)) (hG _ _ xv) (hG _ _ xv) hs (hA _ (AM hs)))) (k:=fun v5 H5 z5 hz5 q5 hf=> ?_);refine xq ?_;obtain⟨e5,d6,b6,rfl,hd6,hbm6,n1,n2,n3⟩:=q5;have p0e:=e5 nf _ xv;have pce:=e5 c5 _ xv;have he:Ext K H5:=Ext.trans xx e5;have ndx6:d6≠xb/\d6≠ob:=⟨Sp (Ext.refl _) n1 mk.x,Sp (Ext.refl _) n1 mk.o⟩;have mk:=mk.ext (Ext.trans (by(repeat refine Ext.up (hfl _ om) ?_);exact Ext.refl _) e5);have hfl:=hf;have ldd:=hf.lt hd6;have fz:=ai hd6 (ai pce (ai p0e fz));refine Dv (BP (BO (BO (BQ ?_))));refine xq (BP (BQ ?_));refine xa fun hf=> ?_
   refine xs fun hf=> ?_
   refine BP (BQ (Ba ?_));refine xs fun hf=> ?_
   refine BP ?_;exact xe hf ⟨d6,z5,τ2,(Bq L n (fun _=>true) (ES L u τ2)).dist,om,(by simp(disch:=omega)only[wx,fz];exact congrArg (fun z=>some (AB.own [Value.int IntKind.i64 z])) hdv),xy,ndx6,(mk.ext (by(repeat refine Ext.up (hfl _ om) ?_);exact Ext.refl _)),(by have:=bP (Q:=Q) (τ:=τ2) hA hLl hn hkp (by rw[hu];exact hlu) hbu (by rw[hu];exact hno) hqu;rw[hu]at this;exact this),xz⟩
 ·have c1:=BL c1;obtain rfl:=rG c1 hk1;refine xo ?_;refine Ji ?_ rfl;refine rt ?_;have fz:=ai c1 (ai hGd (ai hG5 (ai b0 (ai h5 (ai h2 (ai uz (ai gz Dc)))))));exact HQ rfl ⟨kX _ xx,p,τ,D,hp11,mk.ext (by first|exact Ext.refl _|skip),hc⟩
def rj(n k:Nat):Int:=(n:Int) - 1 - (k:Int)
theorem ui(n k:Nat):rj n (k+1)=rj n k - 1:=by unfold rj;omega
theorem uj(n:Nat):rj n 0=(n:Int) - 1:=by unfold rj;omega
def ZG(f:Nat->Int)(n k j:Nat):Int:=if j<k\/n - 1 - j<k then f (n - 1 - j)else f j
theorem qM(f:Nat->Int)(n:Nat):ZG f n 0=f:=by funext j;unfold ZG;rw[if_neg om]
theorem qK(f:Nat->Int){n k:Nat}(h:2*k+1<n):ar n (up (up (ZG f n k) k (f (n - 1 - k))) (n - 1 - k) (f k))=ar n (ZG f n (k+1)):=CH fun j hj=>by
 unfold up ZG;by_cases e:j=n - 1 - k
 ·subst e;rw[if_pos rfl,if_pos om];congr 1;omega
 ·rw[if_neg e];by_cases e2:j=k
  ·subst e2;rw[if_pos rfl,if_pos om]
  ·rw[if_neg e2];by_cases h3:j<k\/n - 1 - j<k
   ·rw[if_pos h3,if_pos om]
   ·rw[if_neg h3,if_neg om]
theorem qL(f:Nat->Int){n k:Nat}(h:n<=2*k+1):ar n (ZG f n k)=ar n fun j=>f (n - 1 - j):=CH fun j hj=>by
 unfold ZG;split
 ·rfl
 ·congr 1;omega
theorem lu(f:Nat->Int){n k:Nat}(h:2*k+1<n):ZG f n k k=f k/\ZG f n k (n - 1 - k)=f (n - 1 - k):=by
 unfold ZG;rw[if_neg om,if_neg om];exact⟨rfl,rfl⟩
theorem XG{b n c:Nat}{f:Nat->Int}{H:Hp}(hb_:H b=some (.own (ar n f)))(hn:n<=64):Ct 62 [.slice (some ⟨b,0,none⟩) n c] (fun _ H'=>Nb (fun c=>c=b) H H'/\H' b=some (.own (ar n fun j=>f (n - 1 - j)))) H:=by
 refine BV Tryz.func62 rfl 28 rfl fun nf t hf hsc ht=> ?_
 have hf0:=hf;have lb:=hf.lt hb_;obtain⟨K,kE,hq,kX,kN⟩:=IY (fun c=>c=b) hf;have hf0:∀c,nf<=c\/c=b->K c=none:=hq;have he:=kE;refine BO (BQ ?_);have fz:=(ht 0 _ rfl);refine Eg (BP (BS ?_));refine By fun T1 hT=> ?_
 have g3:=xt (hT 3);have gz:=ai g3 (ai (xt (hT 2)) (ai (xt (hT 0)) trivial));clear hT;refine xl ((n/2)) nf K hf (fun k t nf1 G=>G b=some (.own (ar n (ZG f n k)))/\t 3= .int .i64 (rj n k)/\t 0=T1 0/\t 2= .int .i64 (k:Int)) ⟨(by rw[qM];exact hb_),(by rw[uj];first|rfl|(simp(disch:=omega)only[wx,fz,gz]<;>rfl)),xh⟩ ?_;rintro k t nf1 G hk1 hn1 hf he ⟨hr,h3,uz,h2⟩;have hfl:=hf;refine BO (BO (BQ ?_));have fz:=ai hr (ai h3 (ai h2 (ai uz gz)));refine B0 (BP ?_);refine xi (fun c1=> ?_) fun c1=> ?_
 ·have c1:=BA c1;unfold rj at c1;refine BR (BO (BS (Bh [0,0,0,0,0,0,0,1,0,0,0,1,0,2,0,2] [0,1,2,3,4,5,6,7,8,9,10,11,12,13,14,15] kr hf ?_)));obtain⟨i,hi⟩:∃i,i=n - 1 - k:=⟨_,rfl⟩;have hij:rj n k=(i:Int):=by unfold rj;omega
  obtain⟨ra,rb⟩:=lu f (n:=n) (k:=k) om;rw[<-hi]at rb;have fz:=ai rb (ai ra (ai hij (ai c1 fz)));iterate 13 first|refine CA ?_|refine Cq ?_
  refine Fx fun nf2 hl2 hf=> ?_
  refine CA ?_;refine Fx fun nf3 hl3 hf=> ?_
  refine BX (BQ (Dk (BP ?_)));exact xe hf ⟨(by rw[<-qK f om,<-hi];exact xy),(by rw[ui,hij];exact xy),xz⟩
 ·have c1:=BL c1;unfold rj at c1;refine xo ?_;refine Ji ?_ rfl;refine rt ?_;have fz:=ai c1 fz;exact HQ rfl ⟨kX _ xx,by rw[<-qL f (k:=k) om];exact hr⟩
theorem Si:∀(n:Nat) (f:Nat->Nat),(∀i,i<=n->f i<n)->∃i j,i<j/\j<=n/\f i=f j
 |0,f,h=>absurd (h 0 (AH _)) (Aj _)
 |n+1,f,h=>by
  by_cases hc:∃i,i<=n/\f i=f (n+1)
  ·obtain⟨i,h1,h2⟩:=hc;exact⟨i,n+1,om,AH _,h2⟩
  ·have hp:=h (n+1) (AH _);have hne:∀i,i<=n->f i≠f (n+1):=fun i hi e=>hc ⟨i,hi,e⟩
   obtain⟨i,j,h1,h2,h3⟩:=Si n (fun i=>if f (n+1)<f i then f i - 1 else f i) fun i hi=>by
    have h4:=h i om;have h5:=hne i hi;split<;>omega
   refine⟨i,j,h1,om,?_⟩;have h6:=hne i om;have h7:=hne j h2;split at h3<;>split at h3<;>omega
def IN(g:Nat->Nat):Nat->Nat->Nat
 |0,v=>v
 |k+1,v=>g (IN g k v)
theorem PR(g:Nat->Nat)(a b v:Nat):IN g (a+b) v=IN g a (IN g b v):=by
 induction a with
 |zero=>simp[IN]
 |succ a ih=>rw[show a+1+b=(a+b)+1 from om];unfold IN;rw[ih]
theorem MR{g:Nat->Nat}{n:Nat}(hg:∀v,v<n->g v<n):∀(k v:Nat),v<n->IN g k v<n
 |0,_,h=>h
 |k+1,v,h=>hg _ (MR hg k v h)
theorem Ql{g:Nat->Nat}{n v:Nat}(hg:∀v,v<n->g v<n)(hv:v<n):∃m,0<m/\m<=n/\IN g m (IN g n v)=IN g n v:=by
 obtain⟨i,j,h1,h2,h3⟩:=Si n (fun k=>IN g k v) fun i _=>MR hg i v hv
 refine⟨j - i,om,om,?_⟩;rw[<-PR];have e1:IN g (j - i+n) v=IN g (n - i) (IN g j v):=by rw[<-PR];congr 1;omega
 have e2:IN g n v=IN g (n - i) (IN g i v):=by rw[<-PR];congr 1;omega
 rw[e1,e2,h3]
def dY(L:List Ar)(D:List (Option Stp))(v:Nat):Stp:=(at_ D v).getD ⟨0,false⟩
def P7(L:List Ar)(D:List (Option Stp))(v:Nat):Nat:=sFrom L (dY L D v)
theorem lL{L:List Ar}{n:Nat}{K:Int}{σ:SP}(h:SPok n L K σ)(h0:0<L.length)(v:Nat): (dY L σ.by_ v).a<L.length:=by
 unfold dY;cases e:at_ σ.by_ v with
 |none=>exact h0
 |some s=>exact h.by1 v s e
set_option maxHeartbeats 4000000 in
theorem eR{w n:Nat}{L:List Ar}{A B:Option Addr}{c d:Nat}{X O T:Value}{H:Hp}(hw:H w=some (.own [.slice A n c,.slice B L.length d,X,O,T]))(hB:Rd 5 Ar.c H B L)(hA:∀a∈L,ArOk n a)(hn:n<=64)(hLl:L.length<=256):Ct 26 [.pointer (some ⟨w,0,none⟩)] (fun v H'=>Ext H H'/\∃(sl:Value) (r:Bool),v= .tuple #[sl,.bool r]/\(r=false->(Bq L n (fun _=>true) (FI L)).last=none)/\∃(m:Nat) (F:Nat->Int),m<=64/\(∀j,j<m->0<=F j/\F j<=256)/\GS H' 1 sl (ar m F) m/\∀b,GSb sl b->H b=none) H:=by
 refine BV Tryz.func26 rfl 66 rfl fun nf t hf hsc ht=> ?_
 have hf0:=hf;have lw:=hf.lt hw;have hsp:=Fd (cnt:=FI L) (fun _=>true) (FH hA) (Hy hA) hLl hn;refine BO (BQ ?_);have fz:=ai hw (ht 0 _ rfl);refine Ba (BP (BO (BQ ?_)));refine B0 ?_;refine xc (h:=I8 (n:=n) (fs:= #[]) (cs:= #[]) (fc:= #[.pointer (some ⟨w,0,none⟩)]) (cc:= #[]) (st:=fun _=>true) (cnt:=FI L) (xw hw) (hB.ext xx) hA hn hLl (fun G hG v hv=>LY) (fun G hG s hs=>by have:=KY (b:=s.back) (xw hw (e:=Ext.trans xx hG)) ((hB.ext xx).ext hG) hs;unfold FI;rw[Du L hs];exact this)) (k:=fun v1 H1 z hz q1 hf=> ?_);obtain⟨e1,db,bb,rfl,hd,hbm,n1,n2,n3⟩:=q1;have eH:Ext H H1:=Ext.trans xx e1;have hwH:=eH _ _ hw;have hB1:=hB.ext eH;have hfz:=hf0;have hf0:=hf;have he:=Ext.refl H1;have ldd:=hf.lt hbm;generalize hsg:Bq L n (fun _=>true) (FI L)=sg at hd hbm hsp⊢;obtain⟨by_,hby⟩:∃b,sg.by_=b:=⟨_,rfl⟩;rw[hby]at hbm;have fz:=ai hwH fz;refine Dv ?_;refine xa fun hf=> ?_
 refine Ba ?_;refine xs fun hf=> ?_
 refine BP (BO (BO (BQ (B0 (BP ?_)))));refine xi (fun c1=> ?_) fun c1=> ?_
 ·refine BO (BQ ?_);have fz:=ai c1 fz;refine Ba (BP (BT (rt ?_)));exact TA rfl (by simp(disch:=omega)only[wx,fz];exact⟨eH.trans xx,_,_,rfl,fun _=>by cases h:sg.last with|none=>rfl|some v=>(rw[h]at c1;simp at c1),0,fun _=>0,dZ,fun j h=>absurd h (Aj j),GS.nil _ _,fun b h=>(Bo b h).elim⟩)
 ·obtain⟨v0,hv0e⟩:∃v0,sg.last=some v0:=by cases h:sg.last with|none=>rw[h]at c1;exact absurd c1 dZ|some v=>exact⟨v,rfl⟩
  obtain⟨hv0,hL0⟩:=hsp.last v0 hv0e;have hst:∀v,(dY L by_ v).a<L.length:=fun v=>by rw[<-hby];exact lL hsp hL0 v
  have hgo:∀v,v<n->P7 L by_ v<n:=fun v _=>(FH hA).from_lt (hst v)
  refine BR (BO (BQ ?_));have fz:=ai hv0e (ai c1 fz);refine B0 (BP (BO (BO (BQ ?_))));refine Dk ?_;refine xq (BP (BS ?_));refine By fun T1 hT=> ?_
  have g7:=xt (hT 7);have gz:=ai g7 (ai (xt (hT 30)) (ai (xt (hT 29)) (ai (xt (hT 5)) (ai (xt (hT 0)) trivial))));clear hT;refine xl n nf H1 hf (fun k t nf1 G=>z<=nf1/\t 7= .int .i64 ((IN (P7 L by_) k v0:Nat):Int)/\(t 0=T1 0/\t 5=T1 5/\t 29=T1 29)/\t 30= .int .i64 (k:Int)) ⟨om,by rw[g7]<;>rfl,xh⟩ ?_;rintro k t nf1 G hk1 hn1 hf he ⟨hzn,h7,uz,h30⟩;have hfl:=hf;have hwG:=he _ _ hwH;have hbG:=he _ _ hbm;refine BO (BQ ?_);have fz:=ai h7 (ai h30 (ai uz (ai gz (ai DB (ai FN (ai @Z5 (ai hbG hwG)))))));refine xq (BP (BO ?_));refine C8 (fun c2=> ?_) fun c2=> ?_
  ·refine BR (BO (BS (BQ ?_)));have hvn:IN (P7 L by_) k v0<n:=MR hgo k v0 hv0;obtain⟨s,hs⟩:∃s,dY L by_ (IN (P7 L by_) k v0)=s:=⟨_,rfl⟩;have ha:s.a<L.length:=by rw[<-hs];exact hst _
   obtain⟨es1,es2,es3,es4⟩:=G9 ha (hA _ (AM ha));have hgs:P7 L by_ (IN (P7 L by_) k v0)=sFrom L s:=congrArg (sFrom L) hs;have hs2: (at_ by_ (IN (P7 L by_) k v0)).getD ⟨0,false⟩=s:=hs;have fz:=ai es2 (ai es1 (ai hs2 (ai c2 fz)));refine Dk ?_;refine xp (h:=Iu (xw hwH) (hB1.ext xx) ha (b:=s.back)) (k:= ?_);refine Dv (BP (BQ ?_));refine Ba (BP ?_);exact xe hf ⟨om,(by simp(disch:=omega)only[wx,fz];exact congrArg (fun z:Nat=>Value.int IntKind.i64 (z:Int)) hgs.symm),xz⟩
  ·obtain rfl:n=k:=om;obtain⟨mm,hm0,hmn,hmu⟩:=Ql hgo hv0;obtain⟨u,hu⟩:∃u,IN (P7 L by_) n v0=u:=⟨_,rfl⟩;rw[hu]at hmu;have hun:u<n:=by rw[<-hu];exact MR hgo _ _ hv0
   refine xo (BO (BQ ?_));have fz:=ai hu (ai c2 fz);refine xq (BP (BO (BO (BQ ?_))));refine Ba (BP (BS ?_));refine By fun T2 hT=> ?_
   have g9:=xt (hT 9);have gz:=ai (xt (hT 8)) (ai g9 (ai (xt (hT 7)) (ai (xt (hT 5)) (ai (xt (hT 0)) gz))));clear hT;refine xl mm nf H1 hf (fun k t nf1 G=>∃(v8:Value),z<=nf1/\k<mm/\GS G 1 v8 (ar k fun i=>(((dY L by_ (IN (P7 L by_) i u)).a:Nat):Int)) k/\(∀b,GSb v8 b->H1 b=none)/\t 9= .int .i64 ((IN (P7 L by_) k u:Nat):Int)/\(t 0=T2 0/\t 5=T2 5/\t 7=T2 7)/\t 8=v8) ⟨.slice none 0 0,om,hm0,GS.nil _ _,(fun b h=>(Bo b h).elim),by rw[g9]<;>rfl,xh⟩ ?_;rintro k t nf1 G hk2 hn2 hf he ⟨v8,hzn,hkm,gs,gn,h9,uz,h8⟩;have hfl:=hf;have hwG:=he _ _ hwH;have hbG:=he _ _ hbm;refine BS (BO (BQ ?_));have hvn:IN (P7 L by_) k u<n:=MR hgo k u hun;obtain⟨s,hs⟩:∃s,dY L by_ (IN (P7 L by_) k u)=s:=⟨_,rfl⟩;have ha:s.a<L.length:=by rw[<-hs];exact hst _
   obtain⟨es1,es2,es3,es4⟩:=G9 ha (hA _ (AM ha));have hgs:P7 L by_ (IN (P7 L by_) k u)=sFrom L s:=congrArg (sFrom L) hs;have hs2: (at_ by_ (IN (P7 L by_) k u)).getD ⟨0,false⟩=s:=hs;have fz:=ai es2 (ai es1 (ai hs2 (ai h8 (ai h9 (ai uz (ai gz (ai DB (ai FN (ai @Z5 (ai hbG hwG))))))))));refine Eg ?_;refine xa fun hf=> ?_
   refine xs fun hf=> ?_
   refine BP (BO (BQ (B0 ?_)));refine xa fun hf=> ?_
   refine FU (ys:=intC ((s.a:Nat):Int)) hf rfl xv QP (gs.keep fun b hb=>by have:=hfl.lt (gs.live hb);simp(disch:=omega)only[Bn]) dZ (Bu xv rfl dZ) ⟨_,_,_,rfl,rfl⟩ rfl dZ rfl om om fun v2 G2 gs2 fr hf gb=> ?_
   have he:=Ext.fr xx (hf0 _ om) gn fr;have w2:=(fr nf1 om (fun h=>by have:=hfl.lt (gs.live h);omega)).trans xv;have fz:=ai w2 fz;refine xq (BP (BO (BQ ?_)));refine Ba ?_;refine xp (h:=Iu (xw hwH) (hB1.ext xx) ha (b:=s.back)) (k:= ?_);refine Dv (BP (BO (BQ ?_)));refine B0 (BP ?_);refine HR (fun c3=> ?_) fun c3=> ?_
   ·skip
    refine xo (BO (BQ ?_));have gsA:GS G2 1 v2 (ar (k+1) fun i=>(((dY L by_ (IN (P7 L by_) i u)).a:Nat):Int)) (k+1):=by rw[DR,hs];exact gs2
    obtain⟨b,rfl,hbb⟩:∃b,v2= .slice (some ⟨b,0,none⟩) (k+1) (CJ+1)/\G2 b=some (.own (ar (k+1) fun i=>(((dY L by_ (IN (P7 L by_) i u)).a:Nat):Int))):=gsA.2.resolve_left (fun h=>absurd h.1 om);have hb1:H1 b=none:=hf0 b (by have:=gb b ⟨_,_,_,rfl⟩;omega);have fz:=ai hbb (ai c3 fz);refine xq ?_;refine xc (h:=XG hbb om) (k:=fun v6 H6 z6 hz6 q6 hf=> ?_);refine BP (BO (BQ ?_));have e6:Ext H1 H6:=q6.1.ext xx (fun c h=>by rw[h];exact hb1);refine B0 (BP (BT (rt ?_)));exact TA rfl (by simp(disch:=omega)only[wx,fz];exact⟨eH.trans e6,_,_,rfl,fun e=>(by cases e),k+1,_,om,fun j hj=>(by have:=hst (IN (P7 L by_) (k+1 - 1 - j) u);omega),⟨by rw[Fs],.inr ⟨b,rfl,q6.2⟩⟩,fun b2 h=>(by obtain⟨_,_,_,e⟩:=h;cases e;exact eH.none hb1)⟩)
   ·have hkn:k+1≠mm:=fun e=>by rw[<-e]at hmu;unfold IN at hmu;rw[hgs]at hmu;omega
    refine BR ?_;have fz:=ai c3 fz;exact xe hf ⟨v2,om,om,(by rw[DR,hs];exact gs2),(fun b h=>hf0 b (by have:=gb b h;omega)),(by simp(disch:=omega)only[wx,fz];exact congrArg (fun z:Nat=>Value.int IntKind.i64 (z:Int)) hgs.symm),xz⟩
section
instance:Cel Value 1:=⟨fun v=>[v],fun _=>rfl⟩
structure AtM(H:Hp)(T:Value)(xb ob n:Nat)(At:Nat->List Stp):Prop where
 ex:∃tb ct,T= .slice (some ⟨tb,0,none⟩) n ct/\¬PX xb ob tb/\∃V:Nat->Value,H tb=some (.own (ar n V))/\∀v,v<n->∃A c,V v= .slice A (At v).length c/\Rd 2 stC H A (At v)/\∀b o,A=some ⟨b,o,none⟩->¬PX xb ob b
variable{G H:Hp}{T:Value}{e j k n xb:Nat}{At:Nat->List Stp}
theorem AtM.exp{ob:Nat}(h:AtM H T xb ob n At)(e:Nb (PX xb ob) H G):AtM G T xb ob n At:=by
 obtain⟨tb,ct,h1,h2,V,h3,h4⟩:=h.ex;refine⟨tb,ct,h1,h2,V,e _ _ h2 h3,fun v hv=> ?_⟩;obtain⟨A,c,h5,h6,h7⟩:=h4 v hv;refine⟨A,c,h5,fun k hk=> ?_,h7⟩;obtain⟨b,o,eB,hb⟩:=h6 k hk;refine⟨b,o,eB,?_⟩;cases hx:H b with
 |none=>rw[hx]at hb;cases hb
 |some x=>rw[e b x (h7 b o eB) hx,<-hx];exact hb
theorem AtM.ext{ob:Nat}(h:AtM H T xb ob n At)(e:Ext H G):AtM G T xb ob n At:=h.exp e.p
theorem AtM.drop{K:Hp}{ob:Nat}(h:AtM H T xb ob n At)(kN:∀c,¬PX xb ob c->K c=H c):AtM K T xb ob n At:=by
 obtain⟨tb,ct,h1,h2,V,h3,h4⟩:=h.ex;exact⟨tb,ct,h1,h2,V,(kN tb h2).trans h3,fun v hv=>by obtain⟨A,c,h5,h6,h7⟩:=h4 v hv;exact⟨A,c,h5,h6.drop kN h7,h7⟩⟩
variable{L:List Ar}{σ:Net}
theorem pj{q:Srch}{s:Stp}(h:metB q.met (sTo L s)=true\/sRoom L σ.x s=0):J5 L σ q s=(q,none):=by unfold J5;rw[if_pos h]
theorem pi{q:Srch}{s:Stp}(h:¬(metB q.met (sTo L s)=true\/sRoom L σ.x s=0))(h2:nth σ.ov (sTo L s)<0):J5 L σ q s=(⟨q.met.set (sTo L s) true,q.by_.set (sTo L s) (some s),q.nxt⟩,some (sTo L s)):=by unfold J5;rw[if_neg h,if_pos h2]
theorem pg{q:Srch}{s:Stp}(h:¬(metB q.met (sTo L s)=true\/sRoom L σ.x s=0))(h2:¬nth σ.ov (sTo L s)<0):J5 L σ q s=(⟨q.met.set (sTo L s) true,q.by_.set (sTo L s) (some s),q.nxt++[sTo L s]⟩,none):=by unfold J5;rw[if_neg h,if_neg h2]
variable{q':Srch}
theorem Un{l:List Stp}{q:Srch}(hj:j<l.length)(h:J5 L σ q l[j]=(q',none)):F9 L σ (l.drop j) q=F9 L σ (l.drop (j+1)) q':=by
 rw[A4 hj];conv=>lhs;unfold F9
 rw[h]
theorem eJ{l:List Stp}{q:Srch}(hj:j<l.length)(h:J5 L σ q l[j]=(q',some e)):F9 L σ (l.drop j) q=(q',some e):=by
 rw[A4 hj];conv=>lhs;unfold F9
 rw[h]
variable{l:List Nat}
theorem eK{q:Srch}(hj:j<l.length)(h:F9 L σ (At l[j]) q=(q',none)):GA L σ At (l.drop j) q=GA L σ At (l.drop (j+1)) q':=by
 rw[A4 hj];conv=>lhs;unfold GA
 rw[h]
theorem eO{q:Srch}(hj:j<l.length)(h:F9 L σ (At l[j]) q=(q',some e)):GA L σ At (l.drop j) q=(q',some e):=by
 rw[A4 hj];conv=>lhs;unfold GA
 rw[h]
variable{m:List Bool}{b:List (Option Stp)}
theorem Z8{q:Srch}(hl:l≠[])(h:GA L σ At l ⟨m,b,[]⟩=(q,none)):DP L σ At (k+1) l m b=DP L σ At k q.nxt q.met q.by_:=by
 cases l with
 |nil=>exact absurd rfl hl
 |cons v l=>
  conv=>lhs;unfold DP
  rw[h]
theorem Z9{q:Srch}(hl:l≠[])(h:GA L σ At l ⟨m,b,[]⟩=(q,some e)):DP L σ At (k+1) l m b=((q.met,q.by_),some e):=by
 cases l with
 |nil=>exact absurd rfl hl
 |cons v l=>unfold DP;rw[h]
theorem aA:DP L σ At k [] m b=((m,b),none):=by cases k<;>rfl
theorem U3{x:Bool}(h:k<m.length):metB (m.set k x)=up (metB m) k x:=by
 funext v;rw[MH _ _ _ _ h];rfl
def Mg(σ:Net)(k v:Nat):Bool:=decide (v<k)&&decide (0<nth σ.ov v)
theorem nK(σ:Net):Mg σ 0=fun _=>false:=by funext v;simp[Mg]
theorem aR(h:0<nth σ.ov k):up (Mg σ k) k true=Mg σ (k+1):=by
 funext v;unfold up Mg;by_cases e:v=k
 ·subst e;rw[if_pos rfl];simp[h]
 ·rw[if_neg e];congr 1;simp only[decide_eq_decide];omega
theorem aT(h:¬0<nth σ.ov k):Mg σ k=Mg σ (k+1):=by
 funext v;unfold Mg;by_cases e:v=k
 ·subst e;simp[h]
 ·congr 1;simp only[decide_eq_decide];omega
theorem nJ:ar n (Mg σ n)=ar n (metB (G8 n σ)):=CH fun j hj=>by
 unfold Mg metB G8;rw[List.getElem?_map,List.getElem?_range hj];simp[hj]
theorem aW(h:0<nth σ.ov k):Cf (k+1) σ=Cf k σ++[k]:=by unfold Cf;rw[List.range_succ,List.filter_append];simp[h]
theorem aX(h:¬0<nth σ.ov k):Cf (k+1) σ=Cf k σ:=by unfold Cf;rw[List.range_succ,List.filter_append];simp[h]
theorem OM(σ:Net)(k:Nat): (Cf k σ).length<=k:=by
 unfold Cf;have:=List.length_filter_le (fun v=>decide (0<nth σ.ov v)) (List.range k);rwa [List.length_range]at this
theorem YQ(n:Nat)(m:List Bool):unmet n m<=n:=by
 unfold unmet;have:=List.length_filter_le (fun v=> !metB m v) (List.range n);rwa [List.length_range]at this
end
section
variable{ops:Array Oper}{n nf:Nat}{ds:List Deferred}{t:Nat->Value}{H G:Hp}{cls l:List Nat}{Rf:Nat->Hp->Value->Hp->Prop}{B:Hp}{n0:Nat}{Q:AF->Hp->Prop}{i:Nat}{o:Oper}
theorem nu {d dj:Nat} {w:Bool} {g:FuncId} {args:Array Operand} {ats:Array TypeId} {vs:List Value} {QF:Value->Hp->Prop} (hk:TE ops cls 3 i=some (o,d,dj,w)) (hop:o.op= .call {callee:= .value (.func g),args,argTypes:=ats}) (hg: (ob (t dj)==some w)=true) (he:Ext H G) (hv:args.toList.map (eT t)=vs) (h:Ct g vs QF G) (hx:∀v H',QF v H'->Ext G H') (k:∀v H' nf',nf<=nf'->QF v H'->Fr H' nf'->WD ops (Bm cls) n ds Rf B n0 Q l (st t d v) H' H' nf'):WD ops (Bm cls) n ds Rf B n0 Q (i::l) t H G nf:=by
 obtain⟨ho,hc,hd,hw⟩:=Pf (t:=t) hk;rw[hg]at hw;obtain⟨⟨fn,c,hf,hb⟩,h⟩:=h;refine⟨o,ho,?_⟩;rw[hc];refine⟨he,?_⟩;intro nf1 hl _;refine⟨hw,WOp.call (first:= #[]) (cap:= #[]) hop rfl hf hb (C4 hf) ?_⟩;have e: (#[]:Array Value).toList++args.toList.map (eT t)++(#[]:Array Value).toList=vs:=by simpa using hv
 rw[e];exact h.fin.mono fun v H' q=>by unfold pt;rw[hd];obtain⟨q,nf2,hf⟩:=q;exact⟨hx v H' q,max nf2 nf,hf.up om,k v H' _ om q (hf.up om)⟩
end
section
def IM(v:Nat):List Value:=intC (v:Int)
variable{n:Nat}
theorem Zl{l:List Nat}(h:l.Nodup)(hl:∀v∈l,v<n):l.length<=n:=by
 refine Classical.byContradiction fun hc=> ?_
 obtain⟨i,j,h1,h2,h3⟩:=Si n (fun i=>(l[i]?).getD 0) fun i hi=>by
  rw[AD om];exact hl _ (AM _)
 rw[AD om,AD om]at h3;have h4:=(List.getElem_inj h).1 (show l[i]' om=l[j]' om from h3);omega
theorem Uj(l:List Nat)(k:Nat): (l++[k]).flatMap IM=l.flatMap IM++IM k/\(l++[k]).length=l.length+1:=by
 rw[BF,AN];exact⟨by simp,rfl⟩
theorem JP{N k:Nat}{f:Nat->Value}(h:k<N):Cs (some (.own (ar N f))) (0+k*1) 1=some [f k]:=GG h
theorem MM{N k:Nat}{f:Nat->Value}(h:k<N):Cs (some (.own (ar N f))) (0+k) 1=some [f k]:=by have:=JP (f:=f) h;rwa [Nat.mul_one]at this
variable{At:Nat->List Stp}
theorem W7{L:List Ar}{σ:Net}(l:List Nat)(q:Srch):GA L σ At (l.drop l.length) q=(q,none):=by rw[List.drop_length];rfl
theorem W6{L:List Ar}{σ:Net}(l:List Stp)(q:Srch):F9 L σ (l.drop l.length) q=(q,none):=by rw[List.drop_length];rfl
theorem More.len{L:List Ar}{σ:Net}{mt:List Bool}{bt:List (Option Stp)}{q:Srch}(h:More n L σ ⟨mt,bt,[]⟩ (q,none)):q.nxt.length<=n:=by
 obtain⟨l,h1,h2,_⟩:=h.pre;have h3:q.nxt=l:=by simpa using h1
 exact Zl (h3▸h2) fun v hv=>(h.ok.nx v hv).1
theorem fY(n:Nat):at_ (List.replicate n (none:Option Stp))=fun _=>none:=funext (HE n)
theorem RN{σ:Net}{k:Nat}{G:Hp}{v:Value}: (0<nth σ.ov k->GS G 1 v ((Cf k σ).flatMap IM++IM k) ((Cf k σ).length+1)->GS G 1 v ((Cf (k+1) σ).flatMap IM) (Cf (k+1) σ).length)/\(¬0<nth σ.ov k->GS G 1 v ((Cf k σ).flatMap IM) (Cf k σ).length->GS G 1 v ((Cf (k+1) σ).flatMap IM) (Cf (k+1) σ).length):=
 ⟨fun h g=>by rw[aW h,(Uj _ _).1,(Uj _ _).2];exact g,fun h g=>by rw[aX h];exact g⟩
set_option maxHeartbeats 4000000 in
theorem Yz{w xb ob:Nat}{L:List Ar}{T:Value}{H:Hp}{σ:Net}(hM:NwM H w xb ob n L T σ)(hT:AtM H T xb ob n At)(hAt:Nf n L At)(hb:NB BB σ)(hA:∀a∈L,ArOk n a)(hn:n<=64)(hσ:NetOk n L σ)(hAl:∀v,v<n->(At v).length<=512):Ct 55 [.pointer (some ⟨w,0,none⟩)] (fun v H'=>Ext H H'/\∃mb bb:Nat,v= .tuple #[.slice (some ⟨mb,0,none⟩) n n,.slice (some ⟨bb,0,none⟩) n n,.agg #[.int .i64 ((((Bz L n σ At).2.getD 0:Nat)):Int),.bool (Bz L n σ At).2.isSome]]/\H' mb=some (.own (ar n (metB (Bz L n σ At).1.1)))/\H' bb=some (.own (ar n (at_ (Bz L n σ At).1.2)))/\H mb=none/\H bb=none) H:=by
 refine BV Tryz.func55 rfl 117 rfl fun nf t hf hsc ht=> ?_
 have hf0:=hf;obtain⟨⟨Aw,cw,Bw,dw,cx,co,hw,hB,hBn⟩,m1,m2,m3⟩:=hM.a;have lw:=hf.lt hw;have ho:=hM.o;have lo:=hf.lt ho;obtain⟨tb,ct,rfl,hnt,V,hV,hVv⟩:=hT.ex;have lt:=hf.lt hV;have hfH:=hf0;refine BO (BQ ?_);have fz:=ai mks (ai xP (ai hw (ht 0 _ rfl)));refine Ba ?_;refine xa fun hf=> ?_
 refine BP (Rw (BO (BQ (Dk ?_))));refine xa fun hf=> ?_
 refine xq (BP (BO (BQ ?_)));refine Dk ?_;refine xa fun hf=> ?_
 refine xq (BP (BO (BQ ?_)));refine xa fun hf=> ?_
 refine BP (BO (BQ (xq (BP (BO (BO (BQ ?_)))))));refine Dk (BP (BS ?_));refine By fun T1 hT=> ?_
 have gz:=ai (xt (hT 8)) (ai (xt (hT 37)) (ai (xt (hT 36)) (ai (xt (hT 35)) (ai (xt (hT 7)) (ai (xt (hT 6)) (ai (xt (hT 5)) (ai (xt (hT 4)) (ai (xt (hT 0)) trivial))))))));clear hT;refine xl n nf H hf (fun k t nf1 G=>∃(v8:Value),nf+4<=nf1/\G (nf+1)=some (.own (ar n (Mg σ k)))/\GS G 1 v8 ((Cf k σ).flatMap IM) (Cf k σ).length/\(∀b,GSb v8 b->nf+4<=b)/\(t 0=T1 0/\t 4=T1 4/\t 5=T1 5/\t 6=T1 6/\t 7=T1 7/\t 35=T1 35/\t 36=T1 36)/\t 37= .int .i64 (k:Int)/\t 8=v8/\G nf=some (.own [.int .i64 0,.bool false])/\G (nf+1+1)=some (.own (ar n fun _=>(none:Option Stp)))/\G (nf+1+1+1)=some (.own [.int .i64 0,.bool false])) ⟨.slice none 0 0,om,(by rw[nK];exact xy),GS.nil _ _,(fun b h=>(Bo b h).elim),xh⟩ ?_;rintro k t nf1 G hk1 hn1 hf he ⟨v8,hzn,hmet,gs,gn,uz,h37,h8,b0,b1,b2⟩;have hfl:=hf;have l0:=hf.lt b0;have l1:=hf.lt b1;have l2:=hf.lt b2;have hwG:=he _ _ hw;have hoG:=he _ _ ho;have hfk:=OM σ k;refine BO (BQ ?_);have fz:=ai hmet (ai b2 (ai b1 (ai b0 (ai h8 (ai h37 (ai uz (ai gz (ai @SA (ai Db (ai DB (ai EQ (ai FN (ai @JP (ai @MM (ai Dc (ai @Ws (ai @RA (ai @Sv (ai @LG (ai hoG hwG))))))))))))))))))));refine xq (BP (BO ?_));refine C8 (fun c1=> ?_) fun c1=> ?_
 ·refine BR (BO (BS (BO (BQ ?_))));have fz:=ai c1 fz;refine Eg (BP (BO (BQ ?_)));refine Ba (BP ?_);refine xi (fun c2=> ?_) fun c2=> ?_
  ·have c2:0<nth σ.ov k:=BA c2;refine BO (BQ ?_);have fz:=ai c2 fz;refine B0 ?_;refine xs fun hf=> ?_
   refine BP (BQ (Ba ?_));refine xa fun hf=> ?_
   refine FU (ys:=IM k) hf rfl xv QP (gs.keep fun b hb=>by have:=hfl.lt (gs.live hb);have:=gn b hb;simp(disch:=omega)only[Bn]) dZ (Bu xv rfl dZ) ⟨_,_,_,rfl,rfl⟩ rfl dZ rfl om om fun v9 G2 gs2 fr hf gb=> ?_
   have he:=Ext.fr xx (hf0 _ om) (fun b h=>hf0 b (by have:=gn b h;omega)) fr;have w0:=(fr nf om (fun h=>by have:=gn _ h;omega)).trans xv;have w1:=(fr (nf+1) om (fun h=>by have:=gn _ h;omega)).trans xv;have w2:=(fr (nf+1+1) om (fun h=>by have:=gn _ h;omega)).trans xv;have w3:=(fr (nf+1+1+1) om (fun h=>by have:=gn _ h;omega)).trans xv;have gs9:=RN.1 c2 gs2;have gn9:∀b,GSb v9 b->nf+4<=b:=fun b h=>by have:=gb b h;omega
   have fz:=ai w3 (ai w2 (ai w1 (ai w0 fz)));refine xq (BP (BQ ?_));refine Ba (BP ?_);exact xe hf ⟨v9,om,(by first|(rw[<-aR c2];exact xy)|(rw[<-aT c2];exact xy)),gs9,gn9,xz⟩
  ·have c2:¬0<nth σ.ov k:=BL c2;obtain⟨v9,hv9⟩:∃v9,v8=v9:=⟨_,rfl⟩;have gs9:=RN.2 c2 gs;rw[hv9]at gs9;have gn9:=gn;rw[hv9]at gn9;refine BR (BQ ?_);have fz:=ai hv9 (ai c2 fz);refine Ba (BP ?_);exact xe hf ⟨v9,om,(by first|(rw[<-aR c2];exact xy)|(rw[<-aT c2];exact xy)),gs9,gn9,xz⟩
 ·obtain rfl:n=k:=om;refine xo (BO (Rx (BO (BS (By fun T2 hT=> ?_)))));have fz:=ai c1 fz;have gz:=ai (xt (hT 8)) (ai (xt (hT 7)) (ai (xt (hT 6)) (ai (xt (hT 5)) (ai (xt (hT 4)) (ai (xt (hT 0)) gz)))));clear hT;refine xl ((n+1)) nf H hf (fun r t nf1 G=>∃(u8:Value) (l:List Nat) (mt:List Bool) (bt:List (Option Stp)),nf+4<=nf1/\G (nf+1)=some (.own (ar n (metB mt)))/\G (nf+1+1)=some (.own (ar n (at_ bt)))/\GS G 1 u8 (l.flatMap IM) l.length/\(∀b,GSb u8 b->nf+4<=b)/\SrchOk n L σ ⟨mt,bt,[]⟩/\(∀v∈l,v<n/\metB mt v=true)/\l.length<=n/\Bz L n σ At=DP L σ At (n+1 - r) l mt bt/\(l≠[]->unmet n mt+r<=n)/\(t 0=T2 0/\t 4=T2 4/\t 5=T2 5/\t 6=T2 6/\t 7=T2 7)/\t 8=u8/\G nf=some (.own [.int .i64 0,.bool false])/\G (nf+1+1+1)=some (.own [.int .i64 0,.bool false])) ⟨v8,Cf n σ,G8 n σ,List.replicate n none,om,(by rw[<-nJ];exact xy),(by rw[fY];exact xy),gs,gn,(Mn hσ).1,(Mn hσ).2,(OM σ n),rfl,(fun _=>YQ n _),xh⟩ ?_;rintro r t nf1 G hk2 hn2 hf he ⟨u8,l,mt,bt,hzn,hmt,hbt,gs,gn,hok,hlm,hll,hS,hun,uz,h8,b0,b1⟩;have hfl:=hf;have l0:=hf.lt b0;have l1:=hf.lt b1;have hwG:=he _ _ hw;have hoG:=he _ _ ho;obtain⟨A8,c8,eu8,hR8⟩:=GS.rd (f:=IM) (fun _=>rfl) gs;subst eu8;refine BO (BO (BQ ?_));have fz:=ai hbt (ai hmt (ai b1 (ai b0 (ai h8 (ai uz (ai gz (ai @SA (ai Db (ai DB (ai EQ (ai FN (ai @JP (ai @MM (ai Dc (ai @Ws (ai @RA (ai @Sv (ai @LG (ai hoG hwG)))))))))))))))))));refine B0 (BP ?_);refine xi (fun c3=> ?_) fun c3=> ?_
  ·have c3:=BA c3;have hl0:l≠[]:=fun e=>by rw[e]at c3;exact absurd c3 dZ
   have hun0:=hun hl0;obtain⟨z,hz⟩:∃z,z=nf1:=⟨_,rfl⟩;obtain⟨K2,kE2,hq2,kX2,kN2⟩:=IY (fun c=>nf<=c/\c<nf+4) hf;have hH2:Ext H K2:=fun c y hc=>(kN2 c (fun h=>by have:=hf0 c om;rw[this]at hc;cases hc)).trans (he c y hc)
   have hR8:=hR8.drop kN2 (fun b o e h=>by have:=gn b ⟨_,_,_,by rw[e]⟩;omega);have hfz:=hf0;have hf0:∀c,nf1<=c\/(nf<=c/\c<nf+4)->K2 c=none:=hq2;have he:=kE2;have hw2:=hH2 _ _ hw;have ho2:=hH2 _ _ ho;have hM2:=hM.ext hH2;have hB2:=hB.ext hH2;refine BR (BS (BO (BQ ?_)));have fz:=ai c3 fz;refine xq (BP (BO (BO (BQ ?_))));refine B0 (BP (BS ?_));refine By fun T3 hT=> ?_
   have gz:=ai (xt (hT 11)) (ai (xt (hT 57)) (ai (xt (hT 56)) (ai (xt (hT 55)) (ai (xt (hT 7)) (ai (xt (hT 6)) (ai (xt (hT 5)) (ai (xt (hT 4)) (ai (xt (hT 0)) gz))))))));clear hT;refine xl l.length nf K2 hf (fun i t nf3 G=>∃(x11:Value) (q:Srch),z<=nf3/\G (nf+1)=some (.own (ar n (metB q.met)))/\G (nf+1+1)=some (.own (ar n (at_ q.by_)))/\GS G 1 x11 (q.nxt.flatMap IM) q.nxt.length/\(∀b,GSb x11 b->z<=b)/\More n L σ ⟨mt,bt,[]⟩ (q,none)/\GA L σ At l ⟨mt,bt,[]⟩=GA L σ At (l.drop i) q/\(t 0=T3 0/\t 4=T3 4/\t 5=T3 5/\t 6=T3 6/\t 7=T3 7/\t 55=T3 55/\t 56=T3 56)/\t 57= .int .i64 (i:Int)/\t 11=x11/\G nf=some (.own [.int .i64 0,.bool false])/\G (nf+1+1+1)=some (.own [.int .i64 0,.bool false])) ⟨.slice none 0 0,⟨mt,bt,[]⟩,om,xy,xy,GS.nil _ _,(fun b h=>(Bo b h).elim),(More.refl hok),rfl,xh⟩ ?_;rintro i t nf3 G hk3 hn3 hf he ⟨x11,q,hz3,hmq1,hbq,gs11,gn11,hmq,hsl,uz,h57,h11,b0,b1⟩;have hfl:=hf;have l0:=hf.lt b0;have l1:=hf.lt b1;have hwG:=he _ _ hw2;have hoG:=he _ _ ho2;refine BO (BQ ?_);have fz:=ai hbq (ai hmq1 (ai b1 (ai b0 (ai h11 (ai h57 (ai uz (ai gz (ai @SA (ai Db (ai DB (ai EQ (ai FN (ai @JP (ai @MM (ai Dc (ai @Ws (ai @RA (ai @Sv (ai @LG (ai hoG hwG))))))))))))))))))));refine xq (BP (BO ?_));refine C8 (fun c4=> ?_) fun c4=> ?_
   ·refine BR (BO (BS (BO (BQ ?_))));have hi:i<l.length:=om;obtain⟨b8,o8,e8,h8l⟩:=(hR8.ext he) i hi;subst e8;have l8:=Bd hf h8l;obtain⟨v,hv⟩:∃v,l[i]=v:=⟨_,rfl⟩;rw[hv]at h8l;have hvm:=hlm v (by rw[<-hv];exact AM hi);have hvn:=hvm.1;have hAlv:=hAl v hvn;obtain⟨Av,cv,evV,hRv,hnv⟩:=hVv v hvn;have hRv:=hRv.ext hH2;have hVG:=he _ _ (hH2 _ _ hV);have fz:=ai hVG (ai evV (ai h8l (ai c4 fz)));refine B0 (BP (BO (BQ ?_)));refine Dk ?_;refine B0 (BP (BS ?_));refine By fun T4 hT=> ?_
    have gz:=ai (xt (hT 11)) (ai (xt (hT 69)) (ai (xt (hT 68)) (ai (xt (hT 67)) (ai (xt (hT 57)) (ai (xt (hT 56)) (ai (xt (hT 55)) (ai (xt (hT 7)) (ai (xt (hT 6)) (ai (xt (hT 5)) (ai (xt (hT 4)) (ai (xt (hT 0)) gz)))))))))));clear hT;refine xl ((At v).length) nf K2 hf (fun j t nf4 G=>∃(x12:Value) (p:Srch),z<=nf4/\G (nf+1)=some (.own (ar n (metB p.met)))/\G (nf+1+1)=some (.own (ar n (at_ p.by_)))/\GS G 1 x12 (p.nxt.flatMap IM) p.nxt.length/\(∀b,GSb x12 b->z<=b)/\More n L σ ⟨mt,bt,[]⟩ (p,none)/\F9 L σ (At v) q=F9 L σ ((At v).drop j) p/\(t 0=T4 0/\t 4=T4 4/\t 5=T4 5/\t 6=T4 6/\t 7=T4 7/\t 55=T4 55/\t 56=T4 56/\t 57=T4 57/\t 67=T4 67/\t 68=T4 68)/\t 69= .int .i64 (j:Int)/\t 11=x12/\G nf=some (.own [.int .i64 0,.bool false])/\G (nf+1+1+1)=some (.own [.int .i64 0,.bool false])) ⟨x11,q,om,xy,xy,gs11,gn11,hmq,rfl,xh⟩ ?_;rintro j t nf4 G hk4 hn4 hf he ⟨x12,p,hz4,hmp1,hbp,gs12,gn12,hmp,hsn,uz,h69,h11,b0,b1⟩;have hfl:=hf;have l0:=hf.lt b0;have l1:=hf.lt b1;have hwG:=he _ _ hw2;have hoG:=he _ _ ho2;refine BO (BQ ?_);have fz:=ai hbp (ai hmp1 (ai b1 (ai b0 (ai h11 (ai h69 (ai uz (ai gz (ai @SA (ai Db (ai DB (ai EQ (ai FN (ai @JP (ai @MM (ai Dc (ai @Ws (ai @RA (ai @Sv (ai @LG (ai hoG hwG))))))))))))))))))));refine xq (BP (BO ?_));refine C8 (fun c5=> ?_) fun c5=> ?_
    ·refine BR (BO (BS (BO (BQ ?_))));have hj:j<(At v).length:=om;obtain⟨b9,o9,e9,h9l⟩:=(hRv.ext he) j hj;have l9:=Bd hf h9l;obtain⟨s,hs⟩:∃s,(At v)[j]=s:=⟨_,rfl⟩;rw[hs]at h9l;obtain⟨ha,hsf⟩:=hAt v hvn s (by rw[<-hs];exact AM hj);obtain⟨es1,es2,es3,es4⟩:=G9 ha (hA _ (AM ha));have lmp:=hmp.ok.lm;have lbp:=hmp.ok.lb;have hlp:=hmp.len;have hmf:metB p.met (sFrom L s)=true:=by rw[hsf];exact hmp.le v hvm.2
     have hmo2:More n L σ ⟨mt,bt,[]⟩ (J5 L σ p s):=hmp.trans (QQ hmp.ok (FH hA) ha hmf);have fz:=ai es2 (ai es1 (ai h9l (ai e9 (ai c5 fz))));refine Ba ?_;refine xa fun hf=> ?_
     refine xs fun hf=> ?_
     refine BP (BO (BQ (Ba ?_)));refine xp (h:=Iu (xw hw2) (hB2.ext xx) ha (b:=s.back)) (k:= ?_);refine Eg (BP (BO (BO (BQ ?_))));iterate 7 first|refine xq ?_|refine xg ?_
     refine Te (h:=fun hgd=>L6 (hM2.ext xx) hb ha (hA _ (AM ha))) (k:= ?_);iterate 2 first|refine xq ?_|refine xg ?_
     refine BP (xi (fun c6=> ?_) fun c6=> ?_)
     ·have ht:=pj (L:=L) (σ:=σ) (q:=p) (s:=s) (by simpa using c6);rw[ht]at hmo2;obtain⟨p2,hp2⟩:∃p2,p=p2:=⟨_,rfl⟩;rw[hp2]at hmo2;have ht:J5 L σ p s=(p2,none):=by rw[ht,hp2]
      obtain⟨x13,hx13⟩:∃x13,x12=x13:=⟨_,rfl⟩;have em:metB p2.met=metB p.met:=by rw[hp2]
      have eb:at_ p2.by_=at_ p.by_:=by rw[hp2]
      have gs13b:=gs12;rw[hp2,hx13]at gs13b;have gn13:=gn12;rw[hx13]at gn13;have hsn2:=hsn.trans (Un hj (by rw[hs];exact ht));refine xo (BQ ?_);have fz:=ai hx13 (ai c6 fz);refine Ba (BP ?_);exact xe hf ⟨x13,p2,om,(by rw[em];exact xy),(by rw[eb];exact xy),(by first|exact gs13b|exact gs13b.keep fun b hb=>by have:=hfl.lt (gs13b.live hb);simp(disch:=omega)only[Bn]),gn13,hmo2,hsn2,xz⟩
     ·have c6b:¬(metB p.met (sTo L s)=true\/sRoom L σ.x s=0):=by simpa using c6
      refine BR (BO (BQ ?_));have fz:=ai c6 fz;refine B0 ?_;refine xs fun hf=> ?_
      refine BP (BO (BQ (B0 ?_)));refine xp (h:=Ug) (k:= ?_);refine xq ?_;refine xs fun hf=> ?_
      refine BP (BO (BO (BQ (Dk ?_))));refine Ba (BP ?_);refine xi (fun c7=> ?_) fun c7=> ?_
      ·have c7b:nth σ.ov (sTo L s)<0:=BA c7;have ht:=pi c6b c7b;have em:metB (p.met.set (sTo L s) true)=up (metB p.met) (sTo L s) true:=U3 (by rw[lmp];exact es4);have eb:at_ (p.by_.set (sTo L s) (some s))=up (at_ p.by_) (sTo L s) (some s):=Wb _ lbp es4;have hSe:Bz L n σ At=((p.met.set (sTo L s) true,p.by_.set (sTo L s) (some s)),some (sTo L s)):=by rw[hS,show n+1 - r=(n+1 - (r+1))+1 from om];exact Z9 hl0 (hsl.trans (eO hi (by rw[hv];exact hsn.trans (eJ hj (by rw[hs];exact ht)))))
       refine BO (BQ ?_);have fz:=ai c7 fz;refine xq ?_;refine xp (h:=Uh) (k:= ?_);refine xs fun hf=> ?_
       refine BP (xo (BO (Bh [0,0,1,0,0,2] [0,1,2,3,4,5] kr hf ?_)));iterate 5 first|refine CA ?_|refine Cq ?_
       refine Fx fun nf2 hl2 hf=> ?_
       refine BX (BT (rt ?_));exact nn rfl xv (by rw[hSe];dsimp only;rw[em,eb];exact⟨hH2.trans xx,nf+1,nf+1+1,xv,xy,xy,hfH _ om,hfH _ om⟩)
      ·have c7b:¬nth σ.ov (sTo L s)<0:=BL c7;have ht:=pg c6b c7b;rw[ht]at hmo2;obtain⟨p2,hp2⟩:∃p2,(⟨p.met.set (sTo L s) true,p.by_.set (sTo L s) (some s),p.nxt++[sTo L s]⟩:Srch)=p2:=⟨_,rfl⟩;rw[hp2]at hmo2 ht;have em:metB p2.met=up (metB p.met) (sTo L s) true:=by rw[<-hp2];exact U3 (by rw[lmp];exact es4)
       have eb:at_ p2.by_=up (at_ p.by_) (sTo L s) (some s):=by rw[<-hp2];exact Wb _ lbp es4
       have hsn2:=hsn.trans (Un hj (by rw[hs];exact ht));refine BR (BQ ?_);have fz:=ai c7 fz;refine Ba ?_;refine xa fun hf=> ?_
       refine FU (ys:=IM (sTo L s)) hf rfl xv QP (gs12.keep fun b hb=>by have:=hfl.lt (gs12.live hb);have:=gn12 b hb;simp(disch:=omega)only[Bn]) dZ (Bu xv rfl dZ) ⟨_,_,_,rfl,rfl⟩ rfl dZ rfl om om fun x13 G2 gs13 fr hf gb=> ?_
       have he:=Ext.fr xx (hf0 _ om) (fun b h=>hf0 b (by have:=gn12 b h;omega)) fr;have w0:=(fr nf om (fun h=>by have:=gn12 _ h;omega)).trans xv;have w1:=(fr (nf+1) om (fun h=>by have:=gn12 _ h;omega)).trans xv;have w2:=(fr (nf+1+1) om (fun h=>by have:=gn12 _ h;omega)).trans xv;have w3:=(fr (nf+1+1+1) om (fun h=>by have:=gn12 _ h;omega)).trans xv;have gn13:∀b,GSb x13 b->z<=b:=fun b h=>by have:=gb b h;omega
       have gs13b:GS G2 1 x13 (p2.nxt.flatMap IM) p2.nxt.length:=by rw[<-hp2];dsimp only;rw[(Uj _ _).1,(Uj _ _).2];exact gs13
       have fz:=ai w3 (ai w2 (ai w1 (ai w0 fz)));refine xq (BP (BQ ?_));refine Ba (BP ?_);exact xe hf ⟨x13,p2,om,(by rw[em];exact xy),(by rw[eb];exact xy),(by first|exact gs13b|exact gs13b.keep fun b hb=>by have:=hfl.lt (gs13b.live hb);simp(disch:=omega)only[Bn]),gn13,hmo2,hsn2,xz⟩
    ·obtain rfl:j=(At v).length:=om;rw[W6]at hsn;have hsl2:=hsl.trans (eK om (by rw[hv];exact hsn));refine xo (BQ ?_);have fz:=ai c5 fz;refine Ba (BP ?_);exact xe hf ⟨x12,p,om,xy,xy,gs12,gn12,hmp,hsl2,xz⟩
   ·obtain rfl:i=l.length:=om;rw[W7]at hsl;have hS2:Bz L n σ At=DP L σ At (n+1 - (r+1)) q.nxt q.met q.by_:=by rw[hS,show n+1 - r=(n+1 - (r+1))+1 from om];exact Z8 hl0 hsl
    have hmu:=hmq.unmet rfl;have he:=hH2.trans he;have hf0:=hfH;refine xo (BQ ?_);have fz:=ai c4 (ai hbq (ai hmq1 (ai b1 (ai b0 (ai h11 (ai h57 (ai uz (ai gz (ai @SA (ai Db (ai DB (ai EQ (ai FN (ai @JP (ai @MM (ai Dc (ai @Ws (ai @RA (ai @Sv (ai @LG (ai hoG hwG)))))))))))))))))))));refine Ba (BP ?_);exact xe hf ⟨x11,q.nxt,q.met,q.by_,om,xy,xy,gs11,(fun b h=>by have:=gn11 b h;omega),hmq.ok.nil,hmq.ok.nx,hmq.len,hS2,(fun h=>by have:=hmu.1 h;dsimp only at this;omega),xz⟩
  ·have c3:=BL c3;have hl0:l=[]:=by cases l with|nil=>rfl|cons a l=>(exfalso;simp at c3)
   have hSe:Bz L n σ At=((mt,bt),none):=by rw[hS,hl0];exact aA
   refine xo (BO (Bh [0,0,1,0,0,2] [0,1,2,3,4,5] kr hf ?_));have fz:=ai c3 (ai hbt (ai hmt (ai b1 (ai b0 (ai h8 (ai uz (ai gz (ai @SA (ai Db (ai DB (ai EQ (ai FN (ai @JP (ai @MM (ai Dc (ai @Ws (ai @RA (ai @Sv (ai @LG (ai hoG hwG))))))))))))))))))));iterate 5 first|refine CA ?_|refine Cq ?_
   refine Fx fun nf3 hl3 hf=> ?_
   refine BX (BT (rt ?_));exact nn rfl xv (by rw[hSe];exact⟨xx,nf+1,nf+1+1,xv,xy,xy,hfH _ om,hfH _ om⟩)
end
section
variable{n:Nat}{L:List Ar}{σ:Net}{At:Nat->List Stp}
theorem Sz(hE:Ends n L)(hAt:Nf n L At)(hσ:NetOk n L σ): (∀v s,at_ (Bz L n σ At).1.2 v=some s->s.a<L.length/\sRoom L σ.x s≠0)/\∀e,(Bz L n σ At).2=some e->e<n:=by
 have h:=Gv hE hAt hσ;exact⟨fun v s hv=>⟨(h.ok.by1 v s hv).1,(h.ok.by1 v s hv).2.2.2.2⟩,fun e he=>(h.e e he).1⟩
theorem aY{τ:Net}{T:Int}(hA:∀a∈L,ArOk n a)(hAt:Nf n L At)(hσ:NetOk n L σ)(hB:Bnd n L T σ)(h:Jd L n At σ=some τ):NetOk n L τ/\Bnd n L T τ/\psum (nth τ.ov) n+1<=psum (nth σ.ov) n:=by
 obtain⟨e,h1,h2,h3,_⟩:=Xh (Di hA) hAt hσ h;obtain⟨u,u1,u2,_⟩:=h3.u;exact⟨h3.ok,hB.along dZ h3,om⟩
theorem gX(hE:Ends n L)(hAt:Nf n L At)(hσ:NetOk n L σ):Ways n L σ 1 (at_ (Bz L n σ At).1.2):=by
 have h:=Gv hE hAt hσ;exact⟨fun v s hb=>(h.ok.by1 v s hb).2.1,fun v s hb=>⟨(h.ok.by1 v s hb).1,by have a:=(h.ok.by1 v s hb).2.2.2.2;have b:=hσ.room s (h.ok.by1 v s hb).1;omega⟩,h.ok.rank⟩
end
set_option maxHeartbeats 4000000 in
theorem nT{w xb ob n:Nat}{L:List Ar}{T:Value}{H:Hp}{σ:Net}{At:Nat->List Stp}(hM:NwM H w xb ob n L T σ)(hT:AtM H T xb ob n At)(hAt:Nf n L At)(hA:∀a∈L,ArOk n a)(hn:n<=64)(hLl:L.length<=256)(hσ:NetOk n L σ){T0:Int}(hB:Bnd n L T0 σ)(hT0:0<=T0/\T0<=1000000)(hAl:∀v,v<n->(At v).length<=512):Ct 25 [.pointer (some ⟨w,0,none⟩)] (fun v H'=>Nb (PX xb ob) H H'/\∃(τ:Net) (sl:Value) (r:Bool),v= .tuple #[sl,.bool r]/\NwM H' w xb ob n L T τ/\NetOk n L τ/\Bnd n L T0 τ/\(sl= .slice none 0 0\/∃(b:Nat) (f:Nat->Bool),sl= .slice (some ⟨b,0,none⟩) n n/\H' b=some (.own (ar n f)))) H:=by
 refine BV Tryz.func25 rfl 23 rfl fun nf t hf hsc ht=> ?_
 have hf0:=hf;have hx:=hM.x;have ho:=hM.o;have lx:=hf.lt hx;have lo:=hf.lt ho;obtain⟨K,kE,hq,kX,kN⟩:=IY (PX xb ob) hf;have hf0:∀c,nf<=c\/c=xb\/c=ob->K c=none:=hq;have he:=kE;have hTK:=hT.drop kN;have hfl:=hf;have hP0:=Cx (nth σ.ov) n;obtain⟨P,hP⟩:∃P:Nat,psum (nth σ.ov) n=(P:Int):=⟨_,(Int.toNat_of_nonneg hP0).symm⟩;refine BO (BQ ?_);have fz:=(ht 0 _ rfl);refine Ba (BP (BS ?_));refine By fun T1 hT=> ?_
 have gz:=ai (xt (hT 0)) trivial;clear hT;refine xl P nf K hf (fun k t nf1 G=>∃(τ:Net),NwM G w xb ob n L T τ/\NetOk n L τ/\Bnd n L T0 τ/\psum (nth τ.ov) n+(k:Int)<=(P:Int)/\t 0=T1 0) ⟨σ,(hM.ext (by(repeat refine Ext.up (hfl _ om) ?_);exact Ext.refl _)),hσ,hB,om,xh⟩ ?_;rintro k t nf1 G hk1 hn1 hf he ⟨τ,mk,hok,hbd,hps,uz⟩;have hfl:=hf;refine BS (BO (BQ ?_));have fz:=ai uz (ai gz Dc);refine xq ?_;refine xc (h:=Yz (mk.ext (by(repeat refine Ext.up (hfl _ om) ?_);exact Ext.refl _)) (hTK.ext xx) hAt ((N3 (Di hA) hok hbd).mono (by unfold BB;omega)) hA hn hok hAl) (k:=fun v1 H1 z hz q1 hf=> ?_);refine xq ?_;obtain⟨e1,mb,bb,rfl,hmb,hbb,n1,n2⟩:=q1;have he:Ext K H1:=Ext.trans xx e1;have nbx:bb≠xb/\bb≠ob:=⟨Sp (Ext.refl _) n2 mk.x,Sp (Ext.refl _) n2 mk.o⟩;have mk:=mk.ext (Ext.trans (by(repeat refine Ext.up (hfl _ om) ?_);exact Ext.refl _) e1);have hfl:=hf;have lmb:=hf.lt hmb;have lbb:=hf.lt hbb;have hW:=gX (FH hA) hAt hok;have fz:=ai hbb (ai hmb fz);refine B0 ?_;refine xa fun hf=> ?_
 refine Ba ?_;refine xs fun hf=> ?_
 refine BP (BO (BO (BQ (Ba (BP ?_)))));refine xi (fun c1=> ?_) fun c1=> ?_
 ·obtain⟨e,hE⟩:∃e,(Bz L n τ At).2=some e:=Option.isSome_iff_exists.1 c1;have hen:=(Sz (FH hA) hAt hok).2 e hE;obtain⟨way,r,hch,hwl,hcf,hrm⟩:=Lo (Di hA) hW hen;refine BO (BQ ?_);have fz:=ai hE (ai c1 fz);refine Dv ?_;refine xc (h:=tW (mk.ext (by(repeat refine Ext.up (hfl _ om) ?_);exact Ext.refl _)) ((N3 (Di hA) hok hbd).mono om) hA hn xv nbx (fun v s h=>(hW.lt v s h).1) hen hch om (fun s hs=>by have:=hrm s hs;omega)) (k:=fun v2 H2 z2 hz2 q2 hf=> ?_);have he:=q2.1.ext xx (fun c h=>hf0 c (.inr h));have hfl:=hf;have hfs:Jd L n At τ=some (Ed L n τ (at_ (Bz L n τ At).1.2) e):=by unfold Jd;rw[hE];rfl
  obtain⟨hok2,hbd2,hps2⟩:=aY hA hAt hok hbd hfs;have hp3:=Cx (nth (Ed L n τ (at_ (Bz L n τ At).1.2) e).ov) n;have ea:Ed L n τ (at_ (Bz L n τ At).1.2) e=CS L τ way (HJ L τ way r e):=by unfold Ed;rw[hcf]
  have mk2:=q2.2;rw[<-ea]at mk2;refine BP (xo ?_);exact xe hf ⟨(Ed L n τ (at_ (Bz L n τ At).1.2) e),mk2,hok2,hbd2,om,xz⟩
 ·refine BR (BO (BO (BQ ?_)));have fz:=ai c1 fz;refine xq ?_;refine xc (h:=TB (f:=metB (Bz L n τ At).1.1) (c:=n) xv hn) (k:=fun v3 H3 z3 hz3 q3 hf=> ?_);obtain⟨e3,rfl⟩:=q3;have he:Ext K H3:=Ext.trans xx e3;have mk3:=mk.ext (Ext.trans (by(repeat refine Ext.up (hfl _ om) ?_);exact Ext.refl _) e3);have hm3:=e3 mb _ xv;have hfl:=hf;refine BP (xi (fun c2=> ?_) fun c2=> ?_)
  ·refine BO (BQ ?_);have fz:=ai c2 fz;refine B0 (BP (BT (rt ?_)));exact TA rfl (by simp(disch:=omega)only[wx,fz];exact⟨kX _ he,τ,_,_,rfl,mk3,hok,hbd,.inr ⟨mb,_,rfl,hm3⟩⟩)
  ·refine BR (BO (BQ ?_));have fz:=ai c2 fz;refine Ba (BP (BT (rt ?_)));exact TA rfl (by simp(disch:=omega)only[wx,fz];exact⟨kX _ he,τ,_,_,rfl,mk3,hok,hbd,.inl rfl⟩)
section
variable{id:Nat}{ops:Array Oper}{n nf:Nat}{ds:List Deferred}{top:Bool}{t:Nat->Value}{H G:Hp}{cls l:List Nat}{Rf:Nat->Hp->Value->Hp->Prop}{B:Hp}{n0:Nat}
theorem cX {Q:QT} (B:Hp) (cls ord:List Nat) (hk:Nx ops cls ord n=true) (hf:Fr H nf) (h:WD ops (Bm cls) n ds (fun _ _ _ _=>False) B nf (fun A H=>Q .norm A H) ord t H H nf):WC Tryz.prog top (.region id ops true) Q ⟨n,t,ds⟩ H:=by
 unfold Nx at hk;simp only[AA]at hk;obtain⟨⟨⟨⟨⟨⟨h1,h2⟩,h3⟩,h4⟩,h5⟩,h6⟩,h7⟩:=hk;exact I0 (fun _ _ _ _ _ _ h=>h.elim) (Hd h1 h2 h3 (Nat.ble_eq.mp h4)) ord h5 h6 h7 hf h
noncomputable def uR(ops:Array Oper)(cls:List Nat)(k i:Nat):Option (Oper×Nat):=match LE ops.toList i with
 |some o=>match o.dst,o.guard with
  |some d,none=>bif Nat.beq (Bm cls i) k then some (o,d)else none
  |_,_=>none
 |none=>none
variable{Q:AF->Hp->Prop}{i:Nat}{o:Oper}
theorem bO {k d:Nat} (h:uR ops cls k i=some (o,d)):ops[i]? =some o/\Bm cls i=k/\o.dst=some d/\o.guard=none:=by
 unfold uR at h;split at h
 ·rename_i o' ho;split at h
  ·rename_i d' h1 h2;cases hb:Nat.beq (Bm cls i) k with
   |false=>rw[hb]at h;cases h
   |true=>rw[hb]at h;cases h;exact⟨GE ho,AE hb,h1,h2⟩
  ·cases h
 ·cases h
theorem d7{d:Nat}{v:Value}(hk:uR ops cls 7 i=some (o,d))(hr:GZ o.op=true)(hB:Ext B G)(hF:Fr B nf)(h:hop tz B 0 (eT t) o.op=some (v,[]))(k:WD ops (Bm cls) n ds Rf B n0 Q l (st t d v) H G nf):WD ops (Bm cls) n ds Rf B n0 Q (i::l) t H G nf:=by
 obtain⟨ho,hc,hd,hg⟩:=bO hk;refine⟨o,ho,?_⟩;rw[hc];refine⟨⟨hB,hF⟩,v,Rv.of hr h hg,?_⟩;unfold pt;rw[hd];exact k
theorem j8{d ty s by' k m:Nat}{v x:Value}{xs ys:List Value}(hk2:uR ops cls 8 i=some (o,d))(hB:Ext B G)(hBv:∀c,GSb v c->B c=none)(hop:∀nf1,hop tz G nf1 (eT t) o.op=B5 tz G nf1 ty ty v x)(ht:Na ty s by')(g:GS G s v xs m)(hs:Nat.blt 0 s&&Nat.blt s 1000)(hx:ER G s k x=some ys)(hxv:∃a c m,x= .slice a k c/\m=c)(ho:ys.all (·.oneCell')=true)(hk:k≠0)(hy:ys.length=k*s)(hb: (2*(m+k)+1000)*by'<=281474976710656)(hn:m+k<4611686018427387904)
  (K:∀v' G' nf',nf<=nf'->GS G' s v' (xs++ys) (m+k)->(∀c,c≠nf'->¬GSb v c->G' c=G c)->Fr G' (nf'+1)->(∀c,GSb v' c->c=nf')->Ext B G'->WD ops (Bm cls) n ds Rf B n0 Q l (st t d v') G' G' (nf'+1)):WD ops (Bm cls) n ds Rf B n0 Q (i::l) t H G nf:=by
 obtain⟨ho',hc,hd,hg⟩:=bO hk2;rw[AA,Nat.blt_eq,Nat.blt_eq]at hs;have hlen: (xs++ys).length=(m+k)*s:=by rw[AN,g.1,hy,Nat.add_mul]
 refine⟨o,ho',?_⟩;rw[hc];intro nf1 hl hf;have hBn:B nf1=none:=hB.none' hf.at;refine⟨BY hg _,?_⟩;rcases Po (nf:=nf1) ht g om hs.2 hx hxv ho hk hy hb hn with⟨rfl,rfl,e⟩|⟨b,rfl,hb2,e⟩
 ·refine WOp.hop Cv Ce hf.at ((hop nf1).trans e) ?_;unfold pt;rw[hd];have hE:Ext B (upd G nf1 (some (.own (xs++ys)))):=hB.far hBn _;refine⟨hE,nf1+1,hf.new _,K _ _ nf1 hl ⟨hlen,.inr ⟨nf1,rfl,BU _ _ _⟩⟩ (fun c hc _=>upd_ne hc) (hf.new _) ?_ hE⟩;rintro c ⟨_,_,_,e⟩;cases e;rfl
 ·refine WOp.hop Cv Ce hf.at ((hop nf1).trans e) ?_;unfold pt;rw[hd];have hlt:=hf.lt hb2;have hF:Fr (upd (upd G nf1 (some (.own (xs++ys)))) b (some .dead)) (nf1+1):=(hf.new (.own (xs++ys))).old (b:=b) (y:= .own xs) (by rw[upd_ne om];exact hb2) _;have hE:Ext B (upd (upd G nf1 (some (.own (xs++ys)))) b (some .dead)):=(hB.far hBn _).far (hBv b ⟨_,_,_,rfl⟩) _;refine⟨hE,nf1+1,hF,K _ _ nf1 hl ⟨hlen,.inr ⟨nf1,rfl,?_⟩⟩ (fun c hc hn=> ?_) hF ?_ hE⟩
  ·show upd (upd G nf1 _) b _ nf1=_
   rw[upd_ne om,BU]
  ·show upd (upd G nf1 _) b _ c=_
   rw[upd_ne (fun e=>hn ⟨_,_,_,by rw[e]⟩),upd_ne hc]
  ·rintro c ⟨_,_,_,e⟩;cases e;rfl
end
theorem pQ{N k:Nat}{f:Nat->Value}{x:Value}(h:k<N):Dp (some (.own (ar N f))) (0+k*1) [x]=some (.own (ar N (up f k x))):=Lk x h
theorem vC(a n:Nat)(hn:n<100000000):N4 a n n 1 24 ⟨[.slice none 0 0]⟩=some (.slice (some ⟨a,0,none⟩) n n,[(a,.own (ar n fun _=>(Value.slice none 0 0)))]):=Ik a n 24 (Value.slice none 0 0) dZ hn
theorem wG(A B C D E:Option Addr)(a b c d e p q r s u:Nat):B9 tz 73 [(0,.agg #[.slice A a p,.slice B b q]),(1,.slice C c r),(2,.slice D d s),(3,.slice E e u)]=some (.agg #[.slice A a p,.slice B b q,.slice C c r,.slice D d s,.slice E e u]):=kr
theorem tV{H:Hp}{nf:Nat}{x:List Int}{F:Option Addr}{cf:Nat}(hX:Rd 1 intC H F x)(h0:0<x.length)(hn:x.length<1000000):B5 tz H nf 22 22 (.slice none 0 0) (.slice F x.length cf)=some (.slice (some ⟨nf,0,none⟩) x.length (CJ+1),[(nf,.own (ar x.length (nth x)))]):=by
 obtain⟨b,o',e,ho⟩:=hX.all h0;subst e;have hx:ar x.length (nth x)=x.flatMap intC:=by
  rw[JY];exact CH fun j hj=>by rw[Bc x hj,Sl x hj]
 rcases Po (nf:=nf) (xs:=[]) (ys:=x.flatMap intC) I3 (GS.nil H 1) dZ dZ (Ht (s:=1) om (AH _) ho) ⟨_,_,_,rfl,rfl⟩ (by rw[JY];exact Pn _ _) om (Fm (f:=intC) (fun _=>rfl) _) om om with⟨_,_,e⟩|⟨b,e,_⟩
 ·rw[e,AW,List.nil_append,hx]
 ·cases e
structure AtG(K G:Hp)(tb n:Nat)(At:Nat->List Stp):Prop where
 ex:∃V:Nat->Value,G tb=some (.own (ar n V))/\(∀v,v<n->GS G 2 (V v) ((At v).flatMap stC) (At v).length)/\(∀v,v<n->∀b,GSb (V v) b->K b=none/\b≠tb)/\∀u v,u<n->v<n->u≠v->∀b,GSb (V u) b->¬GSb (V v) b
theorem AtG.app{K G G2:Hp}{tb n k m:Nat}{V:Nat->Value}{At:Nat->List Stp}{v':Value}{s:Stp}(gV:∀v,v<n->GS G 2 (V v) ((At v).flatMap stC) (At v).length)(nV:∀v,v<n->∀b,GSb (V v) b->K b=none/\b≠tb)(dV:∀u v,u<n->v<n->u≠v->∀b,GSb (V u) b->¬GSb (V v) b)(hk:k<n)(g2:GS G2 2 v' ((At k).flatMap stC++stC s) ((At k).length+1))(fr:∀c y,G c=some y->¬GSb (V k) c->G2 c=some y)(gb:∀b,GSb v' b->b=m)(hm:G m=none)(hKm:K m=none)(hmt:m≠tb):AtG K (upd G2 tb (some (.own (ar n (up V k v'))))) tb n (up At k (At k++[s])):=by
 refine⟨up V k v',BU _ _ _,fun v hv=> ?_,fun v hv b hb=> ?_,fun u v hu hv hne b hb1 hb2=> ?_⟩
 ·by_cases e:v=k
  ·subst e;rw[HW,HW];have e1: (At v++[s]).flatMap stC=(At v).flatMap stC++stC s:=by rw[BF];simp
   rw[e1,AN];exact g2.keep fun b hb=>upd_ne (by rw[gb b hb];exact hmt)
  ·rw[EP _ _ e,EP _ _ e];refine(gV v hv).keep fun b hb=> ?_
   have h1:=(gV v hv).live hb;rw[upd_ne (nV v hv b hb).2,h1];exact fr b _ h1 (dV v k hv hk e b hb)
 ·by_cases e:v=k
  ·subst e;rw[HW]at hb;rw[gb b hb];exact⟨hKm,hmt⟩
  ·rw[EP _ _ e]at hb;exact nV v hv b hb
 ·by_cases e:u=k<;>by_cases e2:v=k
  ·exact hne (e.trans e2.symm)
  ·subst e;rw[HW]at hb1;rw[EP _ _ e2]at hb2;have:=(gV v hv).live hb2;rw[gb b hb1,hm]at this;cases this
  ·subst e2;rw[HW]at hb2;rw[EP _ _ e]at hb1;have:=(gV u hu).live hb1;rw[gb b hb2,hm]at this;cases this
  ·rw[EP _ _ e]at hb1;rw[EP _ _ e2]at hb2;exact dV u v hu hv hne b hb1 hb2
theorem AtG.ext{K G G':Hp}{tb n:Nat}{At:Nat->List Stp}(h:AtG K G tb n At)(e:∀c y,G c=some y->G' c=some y):AtG K G' tb n At:=by
 obtain⟨V,h1,h2,h3,h4⟩:=h;exact⟨V,e _ _ h1,fun v hv=>(h2 v hv).keep fun b hb=>by have:=(h2 v hv).live hb;rw[this];exact e _ _ this,h3,h4⟩
theorem AtG.down{K K' G:Hp}{tb n:Nat}{At:Nat->List Stp}(h:AtG K G tb n At)(e:Ext K' K):AtG K' G tb n At:=by
 obtain⟨V,h1,h2,h3,h4⟩:=h;exact⟨V,h1,h2,fun v hv b hb=>⟨e.none' (h3 v hv b hb).1,(h3 v hv b hb).2⟩,h4⟩
theorem AtG.done{K G:Hp}{tb n ct xb ob:Nat}{At:Nat->List Stp}(h:AtG K G tb n At)(h1:¬PX xb ob tb){x y:AB}(kx:K xb=some x)(ko:K ob=some y):AtM G (.slice (some ⟨tb,0,none⟩) n ct) xb ob n At:=by
 obtain⟨V,hV,gV,nV,dV⟩:=h;refine⟨tb,ct,rfl,h1,V,hV,fun v hv=> ?_⟩;obtain⟨A,c,e,hR⟩:=GS.rd (f:=stC) (fun _=>rfl) (gV v hv);refine⟨A,c,e,hR,fun b o eA hp=> ?_⟩;have hb:GSb (V v) b:=by
  have:=gV v hv;rw[e,eA]at this⊢;rcases this.2 with⟨_,e2⟩|⟨b2,e2,_⟩
  ·cases e2
  ·cases e2;exact⟨_,_,_,rfl⟩
 have:=(nV v hv b hb).1;rcases hp with rfl|rfl
 ·rw[kx]at this;cases this
 ·rw[ko]at this;cases this
theorem AtG.start{K G:Hp}{tb n:Nat}(h:G tb=some (.own (ar n fun _=>(Value.slice none 0 0)))):AtG K G tb n fun _=>[]:=⟨fun _=> .slice none 0 0,h,fun v _=>GS.nil _ _,fun v _ b hb=>(Bo b hb).elim,fun u v _ _ _ b hb=>(Bo b hb).elim⟩
theorem pY{α:Type}(f:Nat->α)(k:Nat)(x y:α):up (up f k x) k y=up f k y:=by funext j;unfold up;split<;>rfl
def LC(n:Nat)(L:List Ar)(v:Nat):List Stp:=(Hx n L (2*v+0)).map fun i=>⟨i.toNat,false⟩
def gR(n:Nat)(L:List Ar)(v:Nat):List Stp:=(Hx n L (2*v+1)).map fun i=>⟨i.toNat,true⟩
def QY(n:Nat)(L:List Ar)(v:Nat):List Stp:=LC n L v++gR n L v
def R9(n:Nat)(L:List Ar)(k v:Nat):List Stp:=if v<k then QY n L v else []
theorem tR(n:Nat)(L:List Ar):R9 n L 0=fun _=>[]:=by funext v;unfold R9;rw[if_neg om]
theorem oO(n:Nat)(L:List Ar)(k:Nat):up (R9 n L k) k []=R9 n L k:=by
 funext v;unfold up R9;by_cases e:v=k
 ·rw[if_pos e,if_neg om]
 ·rw[if_neg e]
theorem tQ(n:Nat)(L:List Ar)(k:Nat):up (R9 n L k) k (LC n L k++gR n L k)=R9 n L (k+1):=by
 funext v;unfold up R9;by_cases e:v=k
 ·subst e;rw[if_pos rfl,if_pos om];rfl
 ·rw[if_neg e];by_cases e2:v<k
  ·rw[if_pos e2,if_pos om]
  ·rw[if_neg e2,if_neg om]
theorem ZV{n:Nat}{L:List Ar}{j i:Nat}(h:i<(Hx n L j).length):∃a:Nat,(Hx n L j)[i]=(a:Int):=by
 have h2:=AM h;unfold Hx at h2;obtain⟨a,_,e⟩:=List.mem_map.1 h2;exact⟨a,e.symm⟩
theorem Hc(n:Nat)(L:List Ar)(j:Nat): (Hx n L j).length<=L.length:=by rw[FT];exact PF n L L.length j
theorem Zd{n:Nat}{L:List Ar}{k j a:Nat}(h:j<(Hx n L (2*k+0)).length)(e: (Hx n L (2*k+0))[j]=(a:Int)): (LC n L k).take (j+1)=(LC n L k).take j++[⟨a,false⟩]:=by
 unfold LC;rw[<-List.take_append_getElem (by simpa using h),List.getElem_map,e,Aa]
theorem gN{n:Nat}{L:List Ar}{k j a:Nat}(h:j<(Hx n L (2*k+1)).length)(e: (Hx n L (2*k+1))[j]=(a:Int)): (gR n L k).take (j+1)=(gR n L k).take j++[⟨a,true⟩]:=by
 unfold gR;rw[<-List.take_append_getElem (by simpa using h),List.getElem_map,e,Aa]
theorem AtM.congr{H:Hp}{T:Value}{xb ob n:Nat}{At At':Nat->List Stp}(h:AtM H T xb ob n At)(e:∀v,v<n->At v=At' v):AtM H T xb ob n At':=by
 obtain⟨tb,ct,h1,h2,V,h3,h4⟩:=h.ex;exact⟨tb,ct,h1,h2,V,h3,fun v hv=>by rw[<-e v hv];exact h4 v hv⟩
theorem JK(n:Nat)(L:List Ar)(k:Nat): (LC n L k).length=(Hx n L (2*k+0)).length/\(gR n L k).length=(Hx n L (2*k+1)).length:=⟨BM _,BM _⟩
theorem ke{n:Nat}{L:List Ar}(hA:∀a∈L,ArOk n a):Nf n L (QY n L)/\∀v,(QY n L v).length<=2*L.length:=by
 refine⟨fun v hv s hs=> ?_,fun v=> ?_⟩
 ·have key:∀w,w<2->∀i∈Hx n L (2*v+w),i.toNat<L.length/\(if w=0 then(DC L i.toNat).f.toNat else(DC L i.toNat).t.toNat)=v:=by
   intro w hw i hi;unfold Hx at hi;obtain⟨a,ha,rfl⟩:=List.mem_map.1 hi;obtain⟨q,hq⟩:=List.getElem?_of_mem ha;obtain⟨h1,x,hx,hp⟩:=mU hq;have ex:DC L ((a:Int).toNat)=x:=by
    rw[Aa,Du L h1];rw[AD h1]at hx;exact AC hx
   rw[ex];refine⟨by rw[Aa];exact h1,?_⟩;unfold CN at hp;rw[AA]at hp;by_cases e:w=0
   ·subst e;rw[if_pos om]at hp;have:=eq_of_beq hp.2;rw[if_pos rfl,this];omega
   ·obtain rfl:w=1:=om;rw[if_neg om]at hp;have:=eq_of_beq hp.2;rw[if_neg e,this];omega
  rcases Ax.1 hs with h|h
  ·obtain⟨i,hi,rfl⟩:=List.mem_map.1 h;exact key 0 om i hi
  ·obtain⟨i,hi,rfl⟩:=List.mem_map.1 h;exact key 1 om i hi
 ·have h1:=Hc n L (2*v+0);have h2:=Hc n L (2*v+1);unfold QY LC gR;rw[AN,BM,BM];omega
def Fk(L:List Ar)(S:List Int):Nat->Net
 |0=>⟨List.replicate L.length 0,S⟩
 |k+1=>CM L (Fk L S k) ⟨k,false⟩ (DC L k).lo
theorem Gd(L:List Ar)(S:List Int):∀k,(Fk L S k).x.length=L.length/\(Fk L S k).ov.length=S.length
 |0=>by simp[Fk]
 |k+1=>by unfold Fk;rw[FR,GC];exact Gd L S k
theorem PJ(m a:Nat):nth (List.replicate m 0) a=0:=by
 unfold nth;rw[List.getElem?_replicate];split<;>rfl
theorem Zz(L:List Ar)(S:List Int):∀k,k<=L.length->∀a,nth (Fk L S k).x a=if a<k then(DC L a).lo else 0
 |0,_,a=>by rw[if_neg om];exact PJ _ _
 |k+1,h,a=>by
  unfold Fk;rw[Gy _ _ _ _ (by rw[(Gd L S k).1];exact h),Zz L S k om];by_cases e:a=k
  ·subst e;simp
  ·by_cases e2:a<k
   ·simp[e,e2,show a<k+1 from om]
   ·simp[e,e2,show¬a<k+1 from om]
def uU(S:List Int)(L:List Ar):Prop:=0<S.length/\S.length<=7/\L.length<=18/\(∀s∈S, -1000<=s/\s<=1000)/\(∀a∈L,ArOk S.length a)/\∀a∈L,a.lo<=2
theorem fX{l:List Int}{v:Nat}(B:Int)(hB:0<=B)(h:∀s∈l, -B<=s/\s<=B): -B<=nth l v/\nth l v<=B:=by
 unfold nth;cases e:l[v]? with
 |none=>simp;omega
 |some y=>exact h y (Ao e)
theorem LR{S:List Int}{L:List Ar}(h:uU S L):∀k,k<=L.length->NB (1000+4*(k:Int)) (Fk L S k)
 |0,_=>by
  refine⟨fun a=> ?_,fun v=> ?_⟩
  ·have e:nth (Fk L S 0).x a=0:=PJ _ _;rw[e];omega
  ·have:=fX (v:=v) 1000 om h.2.2.2.1;show _<=nth S v/\nth S v<=_;omega
 |k+1,hk=>by
  have hm:L[k]∈L:=AM hk;have h1:=h.2.2.2.2.1 _ hm;have h2:=h.2.2.2.2.2 _ hm;have e:=Du L hk;unfold Fk;have:=(LR h k om).push (L:=L) (U:=2) (u:=(DC L k).lo) (s:=⟨k,false⟩) (by rw[e];have:=h1.lo;omega) (by rw[(Gd L S k).1];exact hk) (by rw[(Gd L S k).2];show(DC L k).f.toNat<_;rw[e];have:=h1.f;omega) (by rw[(Gd L S k).2];show(DC L k).t.toNat<_;rw[e];have:=h1.t;omega);exact this.mono om
theorem Sf(f:Nat->Int)(B:Int)(hB:0<=B):∀n,(∀v,v<n->f v<=B)->psum f n<=(n:Int)*B
 |0,_=>by show(0:Int)<=_;omega
 |n+1,h=>by
  have h1:=Sf f B hB n fun v hv=>h v om
  have h2:=h n om;show psum f n+max (f n) 0<=_
  rw[Int.natCast_succ,Int.add_mul];omega
theorem Z0{S:List Int}{L:List Ar}(h:uU S L):NetOk S.length L (Fk L S L.length)/\Bnd S.length L 1000000 (Fk L S L.length)/\∀a,a<L.length->sRoom L (Fk L S L.length).x ⟨a,true⟩=0:=by
 have hb:=LR h L.length (AH _);have hx:=Zz L S L.length (AH _);have hl:=Gd L S L.length;have hm:=h.2.2.1;have hn:=h.2.1;have hr:∀a,a<L.length->sRoom L (Fk L S L.length).x ⟨a,true⟩=0:=fun a ha=>by
  unfold sRoom;simp only[Ag];rw[hx,if_pos ha];omega
 have p1:=Sf (nth (Fk L S L.length).ov) 1072 om S.length fun v _=>by have:=(hb.2 v).2;omega
 have p2:=Sf (fun v=> -nth (Fk L S L.length).ov v) 1072 om S.length fun v _=>by have:=(hb.2 v).1;show -nth _ v<=_;omega
 have e7: (S.length:Int)*1072<=7504:=om;refine⟨⟨hl.1,hl.2,fun s hs=> ?_⟩,⟨om,om,fun a ha=>by have:=(hb.1 a).2;omega⟩,hr⟩;obtain⟨a,b⟩:=s;have ha:a<L.length:=hs;cases b with
 |true=>rw[hr a ha];omega
 |false=>
  unfold sRoom;simp only[AP,Ab];rw[hx,if_pos ha,Du L ha];have:=(h.2.2.2.2.1 _ (AM ha)).ca;split
  ·decide
  ·rename_i h1;unfold infC at h1;omega
theorem kL{K G H5:Hp}{tb n nf:Nat}{At:Nat->List Stp}{v:Value}{P:List Int}{x:AB}(hat:AtG K G tb n At)(hK:Ext K G)(hKt:K tb=none)(hGt:G tb=some x)(e5:Ext G H5)(hf:Fr H5 nf)(g5:GS H5 1 v (P.flatMap intC) P.length)(n5:∀b,GSb v b->G b=none):∃K3 A c,v= .slice A P.length c/\Ext K K3/\Ext K3 H5/\(∀c,nf<=c\/c=tb->K3 c=none)/\AtG K3 H5 tb n At/\Rd 1 intC K3 A P:=by
 obtain⟨V,hV,gV,nV,dV⟩:=(hat.ext e5);haveI:DecidablePred (fun c=>c=tb\/∃v,v<n/\GSb (V v) c):=fun _=>Classical.propDecidable _
 obtain⟨K3,kE,hq,kX,kN⟩:=IY (fun c=>c=tb\/∃v,v<n/\GSb (V v) c) hf;obtain⟨A,c,ev,hR⟩:=GS.rd (f:=intC) (fun _=>rfl) g5;obtain⟨V0,hV0,gV0,nV0,dV0⟩:=hat;have eV:ar n V=ar n V0:=by have:=(e5 _ _ hV0).symm.trans hV;injection this with h;injection h with h;exact h.symm
 have eVv:∀v,v<n->V v=V0 v:=fun v hv=>by
  have h1:=JP (f:=V) hv;rw[eV,JP (f:=V0) hv]at h1;injection h1 with h1;injection h1 with h1;exact h1.symm
 refine⟨K3,A,c,ev,fun a y ha=> ?_,kE,fun c h=>hq c (h.imp id .inl),⟨V,hV,gV,fun v hv b hb=>⟨hq b (.inr (.inr ⟨v,hv,hb⟩)),(nV v hv b hb).2⟩,dV⟩,hR.drop kN fun b o eA h=> ?_⟩
 ·rw[kN a (fun h=>h.elim (fun e=>by rw[e,hKt]at ha;cases ha) fun⟨v,hv,hb⟩=>by rw[(nV v hv a hb).1]at ha;cases ha)];exact e5 _ _ (hK _ _ ha)
 ·have hb:GSb v b:=by
   rw[ev,eA];exact⟨_,_,_,rfl⟩
  have h1:=n5 b hb;rcases h with rfl|⟨u,hu,h2⟩
  ·rw[hGt]at h1;cases h1
  ·rw[eVv u hu]at h2;rw[(gV0 u hu).live h2]at h1;cases h1
theorem Wc(f:Nat->List Stp)(k:Nat)(l:List Stp)(s:Stp):up (up f k l) k (up f k l k++[s])=up f k (l++[s]):=by rw[HW,pY]
set_option maxHeartbeats 4000000 in
theorem WY{S:List Int}{L:List Ar}{A B:Option Addr}{c d:Nat}{H:Hp}(hA:Rd 1 intC H A S)(hB:Rd 5 Ar.c H B L)(hs:uU S L)(hBd:∀b o,B=some ⟨b,o,none⟩->∃y,H b=some y):Ct 24 [.agg #[.slice A S.length c,.slice B L.length d]] (fun v H'=>Ext H H'/\∃w xb ob tb,v= .pointer (some ⟨w,0,none⟩)/\H' w=some (.own [.slice A S.length c,.slice B L.length d,.slice (some ⟨xb,0,none⟩) L.length L.length,.slice (some ⟨ob,0,none⟩) S.length (CJ+1),.slice (some ⟨tb,0,none⟩) S.length S.length])/\NwM H' w xb ob S.length L (.slice (some ⟨tb,0,none⟩) S.length S.length) (Fk L S L.length)/\AtM H' (.slice (some ⟨tb,0,none⟩) S.length S.length) xb ob S.length (QY S.length L)/\H w=none/\H xb=none/\H ob=none) H:=by
 refine BV Tryz.func24 rfl 103 rfl fun nf t hf hsc ht=> ?_
 have hf0:=hf;have h0:=ht 0 _ rfl;obtain⟨hn0,hn7,hm18,hS,hA0,hlo⟩:=id hs;have hf1st:=hf;refine BO (BQ ?_);have fz:=ai wG (ai @vC (ai @Sr h0));refine xa fun hf=> ?_
 refine xq (BP (BO ?_));refine Bh [1,0,1,0,4,0,1,4,0,1,0,4,0,4,0] [0,1,2,3,5,6,8,9,10,4,7,11,12,13,14] kr hf ?_;iterate 9 first|refine CA ?_|refine Cq ?_
 refine Wr ?_;refine Wr (h:=(show hop tz _ _ _ _=B5 tz _ _ 22 22 (.slice none 0 0) (.slice A S.length c)from xv).trans (tV (hA.ext xx) hn0 om)) ?_;refine Wr ?_;refine CA ?_;refine Wr ?_;refine CA (BX (BO (BO ?_)));have hfH:=hf1st;refine Px fun M eM=> ?_
 have hf:Fr M (nf+21):=by rw[eM];intro a ha;(repeat rw[upd_ne om]);exact hfH a om
 have hbx:M nf=some (.own [.slice A S.length c,.slice B L.length d]):=by rw[eM];simp(disch:=omega)only[wx,fz]<;>rfl
 have hwM:M (nf+1+13)=some (.own [.slice A S.length c,.slice B L.length d,.slice (some ⟨(nf+1+4),0,none⟩) L.length L.length,.slice (some ⟨(nf+1+7),0,none⟩) S.length (CJ+1),.slice (some ⟨(nf+1+11),0,none⟩) S.length S.length]):=by rw[eM];simp(disch:=omega)only[wx,fz]<;>rfl
 have hxM:M (nf+1+4)=some (.own (ar L.length fun _=>(0:Int))):=by rw[eM];simp(disch:=omega)only[wx,fz]<;>rfl
 have hoM:M (nf+1+7)=some (.own (ar S.length (nth S))):=by rw[eM];simp(disch:=omega)only[wx,fz]<;>rfl
 have htM:M (nf+1+11)=some (.own (ar S.length fun _=>Value.slice none 0 0)):=by rw[eM];simp(disch:=omega)only[wx,fz]<;>rfl
 have hHM:Ext H M:=by rw[eM];exact xx
 clear eM;obtain⟨K1,kE1,hq1,kX1,kN1⟩:=IY (PX (nf+1+4) (nf+1+7)) hf;have hf0:∀c,nf+21<=c\/c=(nf+1+4)\/c=(nf+1+7)->K1 c=none:=hq1;have he:=kE1;have hfl:=hf;have hH1:Ext H K1:=fun a y ha=>by have l:=hfH.lt ha;rw[kN1 a (fun h=>by rcases h with h|h<;>omega)];exact hHM _ _ ha
 have nP:∀c,c≠(nf+1+4)->c≠(nf+1+7)->K1 c=M c:=fun c h1 h2=>kN1 c (fun h=>h.elim h1 h2)
 have hbK:=(nP nf om om).trans hbx;have hwK:=(nP (nf+1+13) om om).trans hwM;have htK:=(nP (nf+1+11) om om).trans htM;have hNB:∀b o,B=some ⟨b,o,none⟩->b<nf:=fun b o e=>by obtain⟨y,hy⟩:=hBd b o e;exact hfH.lt hy
 have mk0:NwM M (nf+1+13) (nf+1+4) (nf+1+7) S.length L (.slice (some ⟨(nf+1+11),0,none⟩) S.length S.length) (Fk L S 0):=⟨⟨⟨A,c,B,d,_,_,hwM,hB.ext hHM,fun b o e h=>by have:=hNB b o e;rcases h with h|h<;>omega⟩,om,om,om⟩,by rw[hxM];congr 3;funext a;exact(PJ _ _).symm,hoM,by simp[Fk],rfl⟩;refine BQ ?_;have fz:=ai hbx fz;refine Dv (BP (BS ?_));refine By fun T1 hT=> ?_
 have gz:=ai (xt (hT 29)) (ai (xt (hT 28)) (ai (xt (hT 27)) (ai (xt (hT 3)) (ai (xt (hT 1)) trivial))));clear hT;refine xl L.length nf K1 hf (fun k t nf1 G=>nf+21<=nf1/\NwM G (nf+1+13) (nf+1+4) (nf+1+7) S.length L (.slice (some ⟨(nf+1+11),0,none⟩) S.length S.length) (Fk L S k)/\(t 1=T1 1/\t 3=T1 3/\t 27=T1 27/\t 28=T1 28)/\t 29= .int .i64 (k:Int)) ⟨om,mk0,xh⟩ ?_;rintro k t nf1 G hk1 hn1 hf he ⟨hzz,mk,uz,h29⟩;have hfl:=hf;have hbG:=he _ _ hbK;refine BO (BQ ?_);have fz:=ai hbG (ai h29 (ai uz (ai gz (ai EQ (ai @pQ (ai @JP (ai @MM (ai FN (ai Db DB)))))))));refine xq (BP (BO ?_));refine C8 (fun c1=> ?_) fun c1=> ?_
 ·refine BR (BO (BS (BO (BQ ?_))));have fz:=ai c1 fz;refine xq ?_;have hk:k<L.length:=om;obtain⟨b5,o5,eB,hoB⟩:=(hB.ext (hH1.trans he)) k hk;have l5:=Bd hf hoB;have fz:=ai hoB (ai eB fz);refine Ba ?_;refine xa fun hf=> ?_
  refine xq ?_;refine xs fun hf=> ?_
  refine BP (BQ (Eg ?_));have hnb:=LR hs k om;have hAa:=hA0 _ (AM hk);have hl2:=hlo _ (AM hk);have hl0:=hAa.lo;refine xc (h:=Se (s:=⟨k,false⟩) (U:=2) (mk.ext (by(repeat refine Ext.up (hfl _ om) ?_);exact Ext.refl _)) hnb om (by unfold BB;omega) om hk hAa) (k:=fun v1 H1 nf9 hl9 q1 hf=> ?_);refine BP (BQ (Ba (BP ?_)));have he:=q1.1.ext xx (fun c h=>hf0 c (.inr h));exact xe hf ⟨om,(by have:=q1.2;rw[<-Du L hk]at this;exact this),xz⟩
 ·obtain rfl:k=L.length:=om;refine xo (BO (BQ ?_));have fz:=ai c1 fz;refine xq ?_;refine xc (h:=jJ ((hA.ext hH1).ext xx) ((hB.ext hH1).ext xx) om om) (k:=fun v6 H6 nf6 hl6 q6 hf=> ?_);obtain⟨e6,g,D,rfl,hD,hGr,hDn⟩:=q6;have htG:=he _ _ htK;have mk:=mk.ext e6;have he:Ext K1 H6:=Ext.trans xx e6;obtain⟨K2,kE2,hq2,kX2,kN2⟩:=IY (fun c=>c=(nf+1+11)) hf;have hfl:=hf;have hH2:Ext H K2:=fun a y ha=>by have l:=hfH.lt ha;rw[kN2 a om];exact he _ _ (hH1 _ _ ha)
  have hb2:=(kN2 nf om).trans (he _ _ hbK);have hw2:=(kN2 (nf+1+13) om).trans (he _ _ hwK);have mk2:NwM K2 (nf+1+13) (nf+1+4) (nf+1+7) S.length L (.slice (some ⟨(nf+1+11),0,none⟩) S.length S.length) (Fk L S L.length):=⟨⟨⟨A,c,B,d,_,_,hw2,hB.ext hH2,fun b o e h=>by have:=hNB b o e;rcases h with h|h<;>omega⟩,om,om,om⟩,(kN2 _ om).trans mk.x,(kN2 _ om).trans mk.o,mk.lx,mk.lo⟩;have hGr2:Wp K2 g S.length L:=hGr.ext fun a y ha=>(kN2 a (fun e=>by have h0:=hDn a y ha;rw[e,htG]at h0;cases h0)).trans (hD _ _ ha)
  have hat:AtG K2 H6 (nf+1+11) S.length (R9 S.length L 0):=by rw[tR];exact AtG.start (e6 _ _ htG)
  have hKt:K2 (nf+1+11)=none:=hq2 _ (.inr rfl);have hf0:∀c,nf6<=c\/c=(nf+1+11)->K2 c=none:=hq2;have hb6:=kE2 _ _ hb2;have he:=kE2;have fz:=ai hb6 fz;refine xq (BP (BO (BO (BQ ?_))));refine Dv (BP (BS ?_));refine By fun T2 hT=> ?_
  have gz:=ai (xt (hT 46)) (ai (xt (hT 45)) (ai (xt (hT 6)) (ai (xt (hT 3)) gz)));clear hT;refine xl S.length nf K2 hf (fun k t nf2 G=>nf6<=nf2/\AtG K2 G (nf+1+11) S.length (R9 S.length L k)/\(t 3=T2 3/\t 6=T2 6/\t 45=T2 45)/\t 46= .int .i64 (k:Int)) ⟨om,hat,xh⟩ ?_;rintro k t nf2 G hk2 hn2 hf he ⟨hzz2,hat,uz,h46⟩;have hfl:=hf;refine BO (BQ ?_);have fz:=ai h46 (ai uz (ai gz (ai EQ (ai @pQ (ai @JP (ai @MM (ai FN (ai Db DB))))))));refine xq (BP (BO ?_));refine C8 (fun c2=> ?_) fun c2=> ?_
  ·refine BR (BO (BS (BO (BQ ?_))));have fz:=ai c2 fz;refine Ba (BP (BO (BO (BQ ?_))));have hkn:k<S.length:=om;refine Ba ?_;refine xc (h:=qW (hGr2.ext xx) hkn om om) (k:=fun v5 H5 nf5 hl5 q5 hf=> ?_);obtain⟨e5,g5,n5⟩:=q5;obtain⟨V0,hV0,_⟩:=hat.ex;obtain⟨KB,A5,c5,rfl,hKK,hE3,hq3,hat,hR5⟩:=kL hat xx hKt hV0 e5 hf g5 n5;obtain⟨z,hz⟩:∃z,z=nf5:=⟨_,rfl⟩;have he:=hE3;have hf0s:=hf0;have hf0:∀c,z<=c\/c=(nf+1+11)->KB c=none:=by rw[hz];exact hq3
   have hwK:=hKK _ _ hw2;have fz:=ai hwK fz;refine Ba (BP (BS ?_));refine By fun T3 hT=> ?_
   have gz:=ai (xt (hT 53)) (ai (xt (hT 52)) (ai (xt (hT 51)) (ai (xt (hT 46)) (ai (xt (hT 45)) (ai (xt (hT 7)) (ai (xt (hT 6)) (ai (xt (hT 3)) gz)))))));clear hT;refine xl ((Hx S.length L (2*k+0)).length) nf KB hf (fun j t nf3 G=>z<=nf3/\AtG KB G (nf+1+11) S.length (up (R9 S.length L k) k ((LC S.length L k).take j))/\(t 3=T3 3/\t 6=T3 6/\t 7=T3 7/\t 45=T3 45/\t 46=T3 46/\t 51=T3 51/\t 52=T3 52)/\t 53= .int .i64 (j:Int)) ⟨om,(by rw[List.take_zero,oO];exact hat),xh⟩ ?_;rintro j t nf3 G hk3 hn3 hf he ⟨hzz,hat,uz,h53⟩;have hfl:=hf;have hwG:=he _ _ hwK;refine BO (BQ ?_);have fz:=ai hwG (ai h53 (ai uz (ai gz (ai EQ (ai @pQ (ai @JP (ai @MM (ai FN (ai Db DB)))))))));refine xq (BP (BO ?_));refine C8 (fun c3=> ?_) fun c3=> ?_
   ·refine BR (BO (BS (BO (BQ ?_))));have hj:j<(Hx S.length L (2*k+0)).length:=om;have hpl:=Hc S.length L (2*k+0);obtain⟨b9,o9,e9,h9l⟩:=(hR5.ext he) j hj;subst e9;have l9:=Bd hf h9l;obtain⟨a,ha0⟩:=ZV hj;rw[ha0]at h9l;have fz:=ai h9l (ai c3 fz);refine B0 (BP ?_);obtain⟨V,hV,gV,nV,dV⟩:=hat.ex;have hlt:=hfl.lt hV;have hln: ((up (R9 S.length L k) k ((LC S.length L k).take j)) k).length<=100:=by rw[HW];have h1:=JK S.length L k;have h2:=Hc S.length L (2*k+0);have h3:=Hc S.length L (2*k+1);simp only[AN,List.length_take,h1];omega
    refine cX KB [0,0,0,7,0,0,0,0,1,0,0,1,0,0,4,8,0,2] [0,1,2,3,4,5,6,7,8,9,10,11,12,13,14,15,16,17] kr hf ?_;have fz:=ai hwK (ai hV fz);iterate 3 refine CA ?_
    refine d7 rfl rfl xx (fun c hc=>hf0 c (.inl om)) xv ?_;iterate 10 first|refine CA ?_|refine Cq ?_
    refine Wr ?_;refine j8 (ys:=stC ⟨a,false⟩) rfl xx (fun b hb=>(nV k hkn b hb).1) (fun nf1=>xv) YU ((gV k hkn).keep fun b hb=>upd_ne (by have:=hfl.lt ((gV k hkn).live hb);omega)) dZ (Bu xv rfl dZ) ⟨_,_,_,rfl,rfl⟩ rfl dZ rfl om om fun v9 G2 z9 hz9 gs2 fr hf gb hE9=> ?_
    obtain⟨A9,c9,rfl⟩:=gs2.shape;have he:=hE9;have fr2:∀c y,G c=some y->¬GSb (V k) c->G2 c=some y:=fun c y hc hn=>by
     have l1:=hfl.lt hc;rw[fr c om hn,upd_ne om];exact hc
    have w0:=fr2 (nf+1+11) _ hV (fun h=>(nV k hkn _ h).2 rfl);have hAt:=AtG.app (G:=G) gV nV dV hkn gs2 fr2 gb (hfl _ om) (hf0 _ (.inl om)) (show z9≠(nf+1+11) by have:=hfl.lt hV;omega);rw[Wc,<-Zd hj ha0]at hAt;have fz:=ai w0 fz;refine CA ?_;refine Fx fun nf5 hl5 hf=> ?_
    refine BX (BQ (Ba (BP ?_)));exact xe hf ⟨om,(by exact hAt),xz⟩
   ·obtain rfl:j=(Hx S.length L (2*k+0)).length:=om;have hat:AtG KB G (nf+1+11) S.length (up (R9 S.length L k) k (LC S.length L k)):=by rw[List.take_of_length_le (by rw[(JK S.length L k).1];exact AH _)]at hat;exact hat
    have hat:=hat.down hKK;have he:=hKK.trans he;have hf0:=hf0s;refine xo (BO (BQ ?_));have fz:=ai c3 fz;refine Ba ?_;refine xc (h:=vZ (hGr2.ext xx) hkn om om) (k:=fun v5 H5 nf5 hl5 q5 hf=> ?_);obtain⟨e5,g5,n5⟩:=q5;obtain⟨V0,hV0,_⟩:=hat.ex;obtain⟨KB,A5,c5,rfl,hKK,hE3,hq3,hat,hR5⟩:=kL hat xx hKt hV0 e5 hf g5 n5;obtain⟨z,hz⟩:∃z,z=nf5:=⟨_,rfl⟩;have he:=hE3;have hf0s:=hf0;have hf0:∀c,z<=c\/c=(nf+1+11)->KB c=none:=by rw[hz];exact hq3
    have hwK:=hKK _ _ hw2;have fz:=ai hwK fz;refine Ba (BP (BS ?_));refine By fun T4 hT=> ?_
    have gz:=ai (xt (hT 79)) (ai (xt (hT 78)) (ai (xt (hT 77)) (ai (xt (hT 46)) (ai (xt (hT 45)) (ai (xt (hT 7)) (ai (xt (hT 6)) (ai (xt (hT 3)) gz)))))));clear hT;refine xl ((Hx S.length L (2*k+1)).length) nf KB hf (fun q t nf4 G=>z<=nf4/\AtG KB G (nf+1+11) S.length (up (R9 S.length L k) k (LC S.length L k++(gR S.length L k).take q))/\(t 3=T4 3/\t 6=T4 6/\t 7=T4 7/\t 45=T4 45/\t 46=T4 46/\t 77=T4 77/\t 78=T4 78)/\t 79= .int .i64 (q:Int)) ⟨om,(by rw[List.take_zero,List.append_nil];exact hat),xh⟩ ?_;rintro q t nf4 G hk4 hn4 hf he ⟨hzz,hat,uz,h79⟩;have hfl:=hf;have hwG:=he _ _ hwK;refine BO (BQ ?_);have fz:=ai hwG (ai h79 (ai uz (ai gz (ai EQ (ai @pQ (ai @JP (ai @MM (ai FN (ai Db DB)))))))));refine xq (BP (BO ?_));refine C8 (fun c4=> ?_) fun c4=> ?_
    ·refine BR (BO (BS (BO (BQ ?_))));have hj:q<(Hx S.length L (2*k+1)).length:=om;have hpl:=Hc S.length L (2*k+1);obtain⟨b9,o9,e9,h9l⟩:=(hR5.ext he) q hj;subst e9;have l9:=Bd hf h9l;obtain⟨a,ha0⟩:=ZV hj;rw[ha0]at h9l;have fz:=ai h9l (ai c4 fz);refine B0 (BP ?_);obtain⟨V,hV,gV,nV,dV⟩:=hat.ex;have hlt:=hfl.lt hV;have hln: ((up (R9 S.length L k) k (LC S.length L k++(gR S.length L k).take q)) k).length<=100:=by rw[HW];have h1:=JK S.length L k;have h2:=Hc S.length L (2*k+0);have h3:=Hc S.length L (2*k+1);simp only[AN,List.length_take,h1];omega
     refine cX KB [0,0,0,7,0,0,0,0,1,0,0,1,0,0,4,8,0,2] [0,1,2,3,4,5,6,7,8,9,10,11,12,13,14,15,16,17] kr hf ?_;have fz:=ai hwK (ai hV fz);iterate 3 refine CA ?_
     refine d7 rfl rfl xx (fun c hc=>hf0 c (.inl om)) xv ?_;iterate 10 first|refine CA ?_|refine Cq ?_
     refine Wr ?_;refine j8 (ys:=stC ⟨a,true⟩) rfl xx (fun b hb=>(nV k hkn b hb).1) (fun nf1=>xv) YU ((gV k hkn).keep fun b hb=>upd_ne (by have:=hfl.lt ((gV k hkn).live hb);omega)) dZ (Bu xv rfl dZ) ⟨_,_,_,rfl,rfl⟩ rfl dZ rfl om om fun v9 G2 z9 hz9 gs2 fr hf gb hE9=> ?_
     obtain⟨A9,c9,rfl⟩:=gs2.shape;have he:=hE9;have fr2:∀c y,G c=some y->¬GSb (V k) c->G2 c=some y:=fun c y hc hn=>by
      have l1:=hfl.lt hc;rw[fr c om hn,upd_ne om];exact hc
     have w0:=fr2 (nf+1+11) _ hV (fun h=>(nV k hkn _ h).2 rfl);have hAt:=AtG.app (G:=G) gV nV dV hkn gs2 fr2 gb (hfl _ om) (hf0 _ (.inl om)) (show z9≠(nf+1+11) by have:=hfl.lt hV;omega);rw[Wc,List.append_assoc,<-gN hj ha0]at hAt;have fz:=ai w0 fz;refine CA ?_;refine Fx fun nf7 hl7 hf=> ?_
     refine BX (BQ (Ba (BP ?_)));exact xe hf ⟨om,(by exact hAt),xz⟩
    ·obtain rfl:q=(Hx S.length L (2*k+1)).length:=om;have hat:AtG KB G (nf+1+11) S.length (R9 S.length L (k+1)):=by rw[List.take_of_length_le (by rw[(JK S.length L k).2];exact AH _),tQ]at hat;exact hat
     have hat:=hat.down hKK;have he:=hKK.trans he;have hf0:=hf0s;refine xo (BQ ?_);have fz:=ai c4 fz;refine Ba (BP ?_);exact xe hf ⟨om,hat,xz⟩
  ·obtain rfl:k=S.length:=om;refine xo (BO (BQ ?_));have fz:=ai c2 (ai h46 (ai uz (ai gz (ai EQ (ai @pQ (ai @JP (ai @MM (ai FN (ai Db DB)))))))));refine Ba (BP (BT (rt ?_)));exact BW rfl ⟨hH2.trans xx,(nf+1+13),(nf+1+4),(nf+1+7),(nf+1+11),xv,he _ _ hw2,mk2.ext he,(hat.done (fun h=>by rcases h with h|h<;>omega) mk2.x mk2.o).congr (fun v hv=>if_pos hv),hfH _ om,hfH _ om,hfH _ om⟩
section
def NI(H H':Hp)(v:Value):Prop:=Ext H H'/\∃(kd:Int) (x p:List Int) (s:List Bool) (l:List Int) (F P D Y:Option Addr) (cf cp cs cy:Nat),v= .agg #[.int .i64 kd,.slice F x.length cf,.slice P p.length cp,.slice D s.length cs,.slice Y l.length cy]/\Rd 1 intC H' F x/\Rd 1 intC H' P p/\Rd 1 boolC H' D s/\Rd 1 intC H' Y l/\(∀n∈x,R64 n)/\(∀n∈p,R64 n)/\x.length<999/\p.length<999/\s.length<999/\l.length<999/\Jt 1 cf x.length/\Jt 1 cp p.length/\Jt 1 cs s.length
variable{H H':Hp}
theorem Rd.no{α:Type}{s:Nat}{f:α->List Value}{A:Option Addr}:Rd s f H A ([]:List α):=fun k hk=>absurd hk (Aj k)
theorem Hk:Jt 1 0 ([]:List Int).length:=⟨fun h=>by simp[CJ]at h,fun _=>AH _⟩
variable{b m xb:Nat}
theorem WV{n:Nat}(h:n<1000)(e:m=n):Jt 1 n m:=⟨fun h2=>by unfold CJ at h2;omega,fun _=>om⟩
theorem mI{n:Nat}{f:Nat->Bool}(h:H b=some (.own (ar n f))):Rd 1 boolC H (some ⟨b,0,none⟩) ((List.range n).map f):=fun k hk=>⟨b,0,rfl,by
 rw[h];have hk':k<n:=by simpa using hk
 rw[GG hk'];simp[boolC,TL]⟩
theorem Us{x:List Int}(h:H b=some (.own (ar x.length (nth x)))):Rd 1 intC H (some ⟨b,0,none⟩) x:=fun k hk=>⟨b,0,rfl,by
 rw[h,GG hk,WX,Sl x hk];rfl⟩
theorem di(e:Ext H H'):NI H H' (.agg #[.int .i64 0,.slice none 0 0,.slice none 0 0,.slice none 0 0,.slice none 0 0]):=⟨e,0,[],[],[],[],none,none,none,none,0,0,0,0,rfl,Rd.no,Rd.no,Rd.no,Rd.no,by simp,by simp,dZ,dZ,dZ,dZ,Hk,Hk,Hk⟩
variable{sl:Value}
theorem dt(e:Ext H H'){n:Nat}(hn:n<900)(h:sl= .slice none 0 0\/∃(b:Nat) (f:Nat->Bool),sl= .slice (some ⟨b,0,none⟩) n n/\H' b=some (.own (ar n f))):NI H H' (.agg #[.int .i64 2,.slice none 0 0,.slice none 0 0,sl,.slice none 0 0]):=by
 rcases h with rfl|⟨b,f,rfl,hb⟩
 ·exact⟨e,2,[],[],[],[],none,none,none,none,0,0,0,0,rfl,Rd.no,Rd.no,Rd.no,Rd.no,by simp,by simp,dZ,dZ,dZ,dZ,Hk,Hk,Hk⟩
 ·have el: ((List.range n).map f).length=n:=by simp
  exact⟨e,2,[],[],(List.range n).map f,[],none,none,some ⟨b,0,none⟩,none,0,0,n,0,by rw[el];rfl,Rd.no,Rd.no,mI hb,Rd.no,by simp,by simp,dZ,dZ,om,dZ,Hk,Hk,WV om el⟩
variable{σ:Net}
theorem qk{B:Int}(h:NB B σ)(hB:B<=4611686018427387904):∀n∈σ.x,R64 n:=fun n hn=>by
 obtain⟨k,hk,rfl⟩:=List.mem_iff_getElem.1 hn;have:=h.1 k;rw[Sl _ hk]at this;unfold R64;omega
theorem dh(e:Ext H H'){k:Nat}{F:Nat->Int}(hx:H' xb=some (.own (ar m (nth σ.x))))(hl:σ.x.length=m)(hm:m<900)(hr:∀n∈σ.x,R64 n)(hk:k<=64)(g:GS H' 1 sl (ar k F) k):NI H H' (.agg #[.int .i64 3,.slice (some ⟨xb,0,none⟩) m m,.slice none 0 0,.slice none 0 0,sl]):=by
 subst hl;have el: ((List.range k).map F).length=k:=by simp
 have ef:ar k F=((List.range k).map F).flatMap intC:=by
  unfold ar;rw[List.flatMap_map];rfl
 obtain⟨A,c,rfl,hR⟩:=GS.rd (f:=intC) (l:=(List.range k).map F) (fun _=>rfl) (by rw[el,<-ef];exact g);rw[el];exact⟨e,3,σ.x,[],[],(List.range k).map F,some ⟨xb,0,none⟩,none,none,A,σ.x.length,0,0,c,by rw[el];rfl,Us hx,Rd.no,Rd.no,hR,hr,by simp,om,dZ,dZ,om,WV om rfl,Hk,Hk⟩
theorem Ym(e:Ext H H'){pb n:Nat}{F:Nat->Int}(hx:H' xb=some (.own (ar m (nth σ.x))))(hl:σ.x.length=m)(hm:m<900)(hr:∀n∈σ.x,R64 n)(hp:H' pb=some (.own (ar n F)))(hn:n<900)(hF:∀j,R64 (F j)):NI H H' (.agg #[.int .i64 1,.slice (some ⟨xb,0,none⟩) m m,.slice (some ⟨pb,0,none⟩) n n,.slice none 0 0,.slice none 0 0]):=by
 subst hl;have el: ((List.range n).map F).length=n:=by simp
 exact⟨e,1,σ.x,(List.range n).map F,[],[],some ⟨xb,0,none⟩,some ⟨pb,0,none⟩,none,none,σ.x.length,n,0,0,by rw[el];rfl,Us hx,Rd.ar hp,Rd.no,Rd.no,hr,fun y hy=>(by obtain⟨j,_,rfl⟩:=List.mem_map.1 hy;exact hF j),om,om,dZ,dZ,WV om rfl,WV om el,Hk⟩
theorem Yn{S:List Int}{L:List Ar}(hs:SmI S L)(h:rightI S L=0):uU S L:=⟨hs.n.1,hs.n.2,hs.m,hs.b,(HY h).1,fun a ha=>(hs.a a ha).lo.2⟩
theorem sv:B9 tz 29 []=some (.agg #[.int .i64 0,.slice none 0 0,.slice none 0 0,.slice none 0 0,.slice none 0 0]):=kr
theorem sx(a:Int)(D:Option Addr)(k m:Nat):B9 tz 29 [(0,.int .i64 a),(3,.slice D k m)]=some (.agg #[.int .i64 a,.slice none 0 0,.slice none 0 0,.slice D k m,.slice none 0 0]):=kr
theorem sw(a:Int)(D E:Option Addr)(k m i j:Nat):B9 tz 29 [(0,.int .i64 a),(1,.slice D k m),(4,.slice E i j)]=some (.agg #[.int .i64 a,.slice D k m,.slice none 0 0,.slice none 0 0,.slice E i j]):=kr
theorem s9(a:Int)(D E:Option Addr)(k m i j:Nat):B9 tz 29 [(0,.int .i64 a),(1,.slice D k m),(2,.slice E i j)]=some (.agg #[.int .i64 a,.slice D k m,.slice E i j,.slice none 0 0,.slice none 0 0]):=kr
theorem Yq{n:Nat}(h:sl= .slice none 0 0\/∃(b:Nat) (f:Nat->Bool),sl= .slice (some ⟨b,0,none⟩) n n/\H b=some (.own (ar n f))):∃D k m,sl= .slice D k m:=by
 rcases h with rfl|⟨b,f,rfl,_⟩
 ·exact⟨_,_,_,rfl⟩
 ·exact⟨_,_,_,rfl⟩
theorem ff{a n:Nat}{f:Nat->Bool}{z:Int}{l:List Value}(hn:0<n)(h:H b=some (.own (ar n f)))(k:H a=some (.own (.int .i64 z::l))):b≠a:=by
 rintro rfl;have h1:=GG (f:=f) hn;rw[<-h,k,Ez,if_pos (by simp)]at h1;simp[TL]at h1
set_option maxHeartbeats 4000000 in
theorem dg{S:List Int}{L:List Ar}{A B:Option Addr}{c d:Nat}(hA:Rd 1 intC H A S)(hB:Rd 5 Ar.c H B L)(hs:SmI S L)(hBd:∀b o,B=some ⟨b,o,none⟩->∃y,H b=some y):Ct 10 [.agg #[.slice A S.length c,.slice B L.length d]] (fun v H'=>∃(u:Value) (e:Int),v= .tuple #[u,.int .u16 e]/\NI H H' u) H:=by
 refine BV Tryz.func10 rfl 50 rfl fun nf t hf hsc ht=> ?_
 have hf0:=hf;refine BO (BQ ?_);have fz:=ai @s9 (ai @sw (ai @sx (ai @sv (ht 0 _ rfl))));refine xa fun hf=> ?_
 refine xa fun hf=> ?_
 refine xq (BP (BO (BO (BQ ?_))));refine xq ?_;refine xp (h:=JE (hA.ext xx) (hB.ext xx)) (k:= ?_);refine xq (BP (BO (BQ ?_)));refine Ba (BP ?_);refine Kf (fun c1=> ?_) fun c1=> ?_
 ·refine BO (BQ ?_);have fz:=ai c1 fz;refine Ba ?_;refine xs fun hf=> ?_
  refine xq (BP (BT (rt ?_)));exact R8 rfl xv ⟨_,_,xv,di xx⟩
 ·have hsm:=Yn hs c1;obtain⟨hn0,hn7,hm18,hS0,hA0,hlo0⟩:=id hsm;have hend:=Z0 hsm;refine BR (BO ?_);have fz:=ai c1 fz;refine Px fun M eM=> ?_
  have m0:M nf=some (.own [.slice A S.length c,.slice B L.length d]):=by rw[eM];simp(disch:=omega)only[wx,fz]<;>rfl
  have m1:M (nf+1)=some (.own [.int .i64 0,.slice none 0 0,.slice none 0 0,.slice none 0 0,.slice none 0 0]):=by rw[eM];simp(disch:=omega)only[wx,fz]<;>rfl
  have he:Ext H M:=by rw[eM];exact xx
  have hf:Fr M (nf+1+1):=by rw[eM];exact hf
  have hBM:∀b o,B=some ⟨b,o,none⟩->∃y,M b=some y:=fun b o e=>by obtain⟨y,hy⟩:=hBd b o e;exact⟨y,he _ _ hy⟩
  clear eM;refine BQ ?_;have fz:=ai m1 (ai m0 fz);refine xq ?_;refine xc (h:=WY (hA.ext he) (hB.ext he) hsm hBM) (k:=fun v4 H4 nf4 hl4 q4 hf=> ?_);obtain⟨e4,w,xb,ob,tb,rfl,hw,mk,hat,n1,n2,n3⟩:=q4;have u0:nf≠xb/\nf≠ob:=⟨fun e=>(by rw[<-e,m0]at n2;cases n2),fun e=>(by rw[<-e,m0]at n3;cases n3)⟩;have u1:nf+1≠xb/\nf+1≠ob:=⟨fun e=>(by rw[<-e,m1]at n2;cases n2),fun e=>(by rw[<-e,m1]at n3;cases n3)⟩;have zx:H xb=none:=he.none' n2;have zo:H ob=none:=he.none' n3;have p40:=e4 _ _ m0;have p41:=e4 _ _ m1;have he:=he.trans e4;have fz:=ai p41 (ai p40 fz);refine xq (BP (BO (BO (BQ ?_))));refine xq ?_;refine xc (h:=nT mk hat (ke hA0).1 hA0 om om hend.1 hend.2.1 om (fun v _=>BN ((ke hA0).2 v) om)) (k:=fun v5 H5 nf5 hl5 q5 hf=> ?_);refine xq ?_;obtain⟨x5,τ,sl,r,rfl,dB,ok5,bd5,hsl⟩:=q5;have hw5:=x5 w _ (fun h=>h.elim mk.a.n1 mk.a.n2) hw;have p50:=x5 nf _ (fun h=>h.elim u0.1 u0.2) p40;have p51:=x5 (nf+1) _ (fun h=>h.elim u1.1 u1.2) p41;have he:=x5.ext he (fun c h=>by rcases h with rfl|rfl;exact zx;exact zo);have fz:=ai p51 (ai p50 fz);refine Dv (BP (BO (BQ ?_)));refine xq (BP ?_);refine xi (fun c2=> ?_) fun c2=> ?_
  ·refine BO (BQ ?_);obtain⟨D7,k7,c7,rfl⟩:=Yq hsl;have hsl1:∀(G:Hp) (y:AB),G=upd H5 (nf+1) (some y)->(Value.slice D7 k7 c7=Value.slice none 0 0\/∃(b:Nat) (f:Nat->Bool),Value.slice D7 k7 c7=Value.slice (some ⟨b,0,none⟩) S.length S.length/\G b=some (.own (ar S.length f))):=fun G y eG=>hsl.imp id (fun⟨b,f,e,h⟩=>⟨b,f,e,(by rw[eG,upd_ne (ff hsm.1 h p51)];exact h)⟩)
   have fz:=ai c2 fz;refine Ba ?_;refine xs fun hf=> ?_
   refine xq (BP (BT (rt ?_)));exact R8 rfl xv ⟨_,_,xv,dt xx (n:=S.length) om (hsl1 _ _ rfl)⟩
  ·refine BR (BO (BO (BQ ?_)));have fz:=ai c2 fz;refine xq ?_;refine xc (h:=eR hw5 (hB.ext he) hA0 om om) (k:=fun v8 H8 nf8 hl8 q8 hf=> ?_);refine xq ?_;obtain⟨e8,sl2,r2,rfl,hq,m2,F2,hm2,hF2,g8,gn8⟩:=q8;have gn1:∀b,GSb sl2 b->b≠nf+1:=fun b h e=>by have:=gn8 b h;rw[e,p51]at this;cases this
   have hw8:=e8 _ _ hw5;have p80:=e8 _ _ p50;have p81:=e8 _ _ p51;have dB:=dB.ext e8;have he:=he.trans e8;obtain⟨A8,c8,rfl⟩:=g8.shape;have fz:=ai hw8 (ai p81 (ai p80 fz));refine Dv (BP (BO (BQ ?_)));refine xq (BP ?_);refine xi (fun c3=> ?_) fun c3=> ?_
   ·refine BO (BQ ?_);have fz:=ai c3 fz;refine Dk ?_;refine xs fun hf=> ?_
    refine xq (BP (BT (rt ?_)));exact R8 rfl xv ⟨_,_,xv,dh xx (by rw[upd_ne (fun e=>u1.1 e.symm)];exact dB.x) dB.lx om (qk (N3 (Di hA0) ok5 bd5) om) hm2 (g8.keep fun b h=>upd_ne (gn1 b h))⟩
   ·have hov:∀v, -2048<=nth (Fk L S L.length).ov v/\nth (Fk L S L.length).ov v<=2048:=fun v=>by have:=(LR hsm L.length (AH _)).2 v;omega
    have hca:∀a∈L,a.ca=4611686018427387904\/(0<=a.ca/\a.ca<=2048):=fun a ha=>(hs.a a ha).ca.imp id (fun h=>⟨h.1,om⟩)
    refine BR (BO (BQ ?_));have fz:=ai c3 fz;refine xq ?_;refine xc (h:=WY (hA.ext he) (hB.ext he) hsm (fun b o e=>by obtain⟨y,hy⟩:=hBd b o e;exact⟨y,he _ _ hy⟩)) (k:=fun v11 H11 nf11 hl11 pB hf=> ?_);obtain⟨e11,w,xb,ob,tb,rfl,hw,mk,hat,n1,n2,n3⟩:=pB;have u0:nf≠xb/\nf≠ob:=⟨fun e=>(by rw[<-e,p80]at n2;cases n2),fun e=>(by rw[<-e,p80]at n3;cases n3)⟩;have u1:nf+1≠xb/\nf+1≠ob:=⟨fun e=>(by rw[<-e,p81]at n2;cases n2),fun e=>(by rw[<-e,p81]at n3;cases n3)⟩;have zx:H xb=none:=he.none' n2;have zo:H ob=none:=he.none' n3;have p110:=e11 _ _ p80;have p111:=e11 _ _ p81;have he:=he.trans e11;have fz:=ai p111 (ai p110 fz);refine xq (BP (BO (BQ ?_)));refine xq ?_;refine xc (h:=Xs mk hA0 hsm.1 om om hend.1 hend.2.1 om hend.2.2 hov hca (hq c3) (Q:=fun _=>True) (fun _ _ _ _ _ _ _=>trivial) trivial) (k:=fun v12 H12 nf12 hl12 pA hf=> ?_);refine BP (BO ?_);obtain⟨x12,pp,τ2,D2,hp11,mk12,chp⟩:=pA;have hw12:=x12 w _ (fun h=>h.elim mk.a.n1 mk.a.n2) hw;have p120:=x12 nf _ (fun h=>h.elim u0.1 u0.2) p110;have p121:=x12 (nf+1) _ (fun h=>h.elim u1.1 u1.2) p111;have he:=x12.ext he (fun c h=>by rcases h with rfl|rfl;exact zx;exact zo);have nb12:=(N3 (Di hA0) chp.ok chp.bnd).mono (B':=BB) (by unfold BB;omega);refine Bh [0,0,0,1,0,3,0,2,0] [0,1,2,3,4,5,6,7,8] kr hf ?_;have fz:=ai hw12 (ai p121 (ai p120 fz));iterate 5 first|refine CA ?_|refine Cq ?_
    refine dm rfl (by(repeat refine Ext.up (hf _ om) ?_);exact Ext.refl _) xv (ZS mk12 nb12 hA0 om om) (fun _ _ q=>q.1) fun v13 H13 nf13 hl13 oz hf=> ?_
    obtain⟨e13,pb,rfl,hpb,npb⟩:=oz;have p131:=e13 _ _ p121;have u2:pb≠nf+1:=fun e=>by rw[e]at npb;rw[p121]at npb;cases npb
    have mk13:=mk12.ext e13;have he:=he.trans e13;have fz:=ai p131 fz;refine CA ?_;refine Fx fun nf8 hl8 hf=> ?_
    refine CA (BX (BT (rt ?_)));exact R8 rfl xv ⟨_,_,xv,Ym xx (by rw[upd_ne (fun e=>u1.1 e.symm)];exact mk13.x) mk13.lx om (qk nb12 dZ) (by rw[upd_ne u2];exact hpb) om (fun j=>by have:=Qi (cnt:=JJ L τ2) (fun _=>true) hA0 om om j;unfold R64;omega)⟩
end
section
def YD(x:Int):Prop:=0<=x/\x<=50
variable{S x:List Int}{L:List Ar}
theorem WJ:YD (rightI S L):=by
 have ha:∀(n:Int) (L:List Ar),YD (C7 n L):=fun n L=>by
  induction L with
  |nil=>exact(show YD 0 from⟨dZ,dZ⟩)
  |cons a l ih=>
   unfold C7;split
   ·exact ih
   ·unfold Cp YD;repeat' split
    all_goals decide
 have hs:∀(S:List Int) (a:Int),YD (Dm S a):=fun S=>by
  induction S with
  |nil=>intro a;unfold Dm YD;split<;>decide
  |cons s l ih=>
   intro a;unfold Dm;split
   ·exact⟨dZ,dZ⟩
   ·exact ih _
 unfold rightI;split
 ·exact⟨dZ,dZ⟩
 ·split
  ·exact hs _ _
  ·exact ha _ _
theorem j7:YD (Cb S L x):=by
 unfold Cb;split
 ·exact WJ
 ·repeat' split
  all_goals exact⟨dZ,dZ⟩
theorem sZ{kd:Int}{p:List Int}{s:List Bool}{l:List Int}:YD (C6 S L kd x p s l):=by
 have h1:YD (CP S L x p):=by
  unfold CP;split
  ·exact j7
  ·repeat' split
   all_goals exact⟨dZ,dZ⟩
 have h2:YD (Ca S L s):=by
  unfold Ca;split
  ·exact WJ
  ·repeat' split
   all_goals exact⟨dZ,dZ⟩
 have h3:YD (DK S L l):=by
  unfold DK;split
  ·exact WJ
  ·repeat' split
   all_goals exact⟨dZ,dZ⟩
 unfold C6 Oz;split
 ·exact WJ
 ·split
  ·exact⟨dZ,dZ⟩
  ·split
   ·exact h1
   ·split
    ·exact h2
    ·split
     ·exact j7
     ·exact h3
theorem NI.q{H H':Hp}{v:Value}(h:NI H H' v):cW H H' v:=by
 obtain⟨e,kd,x,p,s,l,F,P,D,Y,cf,cp,cs,cy,h1,h2,h3,h4,h5,h6,h7,h8,h9,h10,h11,_⟩:=h;exact⟨e,kd,x,p,s,l,F,P,D,Y,cf,cp,cs,cy,h1,h2,h3,h4,h5,h6,h7,om,om,om,om⟩
set_option maxHeartbeats 8000000 in
theorem XH(hk:∀G,Pure 7 [] (.bool true) G){A B:Option Addr}{c d:Nat}{kd1:Int}{x1 p1:List Int}{s1:List Bool}{l1:List Int}{F1 P1 D1 Y1:Option Addr}{cf1 cp1 cs1 cy1:Nat}{kd2:Int}{x2 p2:List Int}{s2:List Bool}{l2:List Int}{F2 P2 D2 Y2:Option Addr}{cf2 cp2 cs2 cy2:Nat}{lc ld_ le:List Int}{CC DD EE:Option Addr}{cc cd ce:Nat}{kn at_:Int}{H:Hp}(hA:Rd 1 intC H A S)(hB:Rd 5 Ar.c H B L)(rS:∀n∈S,R64 n)(rL:∀a∈L,R64 a.lo/\R64 a.ca/\R64 a.co)(bS:S.length<1152921504606846976/\L.length<1152921504606846976)(hF1:Rd 1 intC H F1 x1)(hP1:Rd 1 intC H P1 p1)(hD1:Rd 1 boolC H D1 s1)(hY1:Rd 1 intC H Y1 l1)(rx1:∀n∈x1,R64 n)(rp1:∀n∈p1,R64 n)(b1:x1.length<1152921504606846976/\p1.length<1152921504606846976/\s1.length<1152921504606846976/\l1.length<1152921504606846976)(hF2:Rd 1 intC H F2 x2)(hP2:Rd 1 intC H P2 p2)(hD2:Rd 1 boolC H D2 s2)(hY2:Rd 1 intC H Y2 l2)(rx2:∀n∈x2,R64 n)(rp2:∀n∈p2,R64 n)(b2:x2.length<1152921504606846976/\p2.length<1152921504606846976/\s2.length<1152921504606846976/\l2.length<1152921504606846976)(hC:Rd 1 Ol H CC lc)(c8:U8 lc)(hlc:lc.length<1152921504606846976)(hDD:Rd 1 Ol H DD ld_)(d8:U8 ld_)(hld:ld_.length<1152921504606846976)(hE:Rd 1 Ol H EE le)(e8:U8 le)(hle:le.length<1152921504606846976)(hkn:0<=kn/\kn<256)(hat_:0<=at_/\at_<256):Ct 3 [.agg #[.slice A S.length c,.slice B L.length d],.agg #[.int .i64 kd1,.slice F1 x1.length cf1,.slice P1 p1.length cp1,.slice D1 s1.length cs1,.slice Y1 l1.length cy1],.agg #[.int .i64 kd2,.slice F2 x2.length cf2,.slice P2 p2.length cp2,.slice D2 s2.length cs2,.slice Y2 l2.length cy2],.slice CC lc.length cc,.slice DD ld_.length cd,.slice EE le.length ce,.int .u8 kn,.int .u8 at_] (fun v H'=>v= .bool true/\Ext H H') H:=by
 refine BV Tryz.func3 rfl 104 rfl fun nf t hf hsc ht=> ?_
 have hf0:=hf;refine BO (BQ ?_);have fz:=ai (ht 7 _ rfl) (ai (ht 6 _ rfl) (ai (ht 5 _ rfl) (ai (ht 4 _ rfl) (ai (ht 3 _ rfl) (ai (ht 2 _ rfl) (ai (ht 1 _ rfl) (ht 0 _ rfl)))))));refine xa fun hf=> ?_
 refine xa fun hf=> ?_
 refine xa fun hf=> ?_
 refine xq (BP (BO (BO (BQ ?_))));refine xq ?_;refine xp (h:=lO bS.1 bS.2) (k:= ?_);iterate 3 first|refine xq ?_|refine xg ?_
 refine Te (h:=fun hgd=>Z2 b1.1 b1.2.1 b1.2.2.1 b1.2.2.2) (k:= ?_);iterate 4 first|refine xq ?_|refine xg ?_
 refine Te (h:=fun hgd=>Z2 b2.1 b2.2.1 b2.2.2.1 b2.2.2.2) (k:= ?_);iterate 2 first|refine xq ?_|refine xg ?_
 refine BP (xi (fun c1=> ?_) fun c1=> ?_)
 ·refine BO (BQ ?_);have fz:=ai c1 fz;refine xp (h:=hk _) (k:= ?_);refine xq (BP (BT (rt ?_)));exact BW rfl ⟨xv,xx⟩
 ·refine BR (BO (BQ ?_));have fz:=ai c1 fz;refine Ba ?_;refine xc (h:=nG (hC.ext xx) c8 om (hDD.ext xx) d8 om) (k:=fun v1 H1 nf1 hl1 q8 hf=> ?_);obtain⟨SJ,LJ,AJ,BJ,cj,dj,rfl,ej,hAJ,hBJ,hsJ,hBJl⟩:=q8;have he:Ext H H1:=Ext.trans xx ej;have hf0:∀c,nf1<=c->H1 c=none:=hf;have m0:=ej nf _ xv;have m1:=ej (nf+1) _ xv;have m2:=ej (nf+1+1) _ xv;have hrJ:∀a∈LJ,R64 a.lo/\R64 a.ca/\R64 a.co:=fun a ha=>⟨(hsJ.a a ha).loR,(hsJ.a a ha).caR,(hsJ.a a ha).coR⟩
  have hm18:=hsJ.m;have heH:=he;have he:=Ext.refl H1;have fz:=ai m2 (ai m1 (ai m0 fz));refine xa fun hf=> ?_
  refine xs fun hf=> ?_
  refine BP (BO (BQ (Dv ?_)));refine xc (h:=oF (hAJ.ext xx) (hBJ.ext xx) hsJ hkn (hDD.ext (heH.trans xx)) d8 om (hE.ext (heH.trans xx)) e8 om) (k:=fun v2 H2 nf2 hl2 q9 hf=> ?_);obtain⟨e9,kd3,x3,p3,s3,l3,F3,P3,D3,Y3,cf3,cp3,cs3,cy3,rfl,hF3,hP3,hD3,hY3,rx3,rp3,b3⟩:=q9;have he:Ext H1 H2:=Ext.trans xx e9;have hfl2:=hf;have m417:=e9 nf1 _ xv;have fz:=ai m417 fz;refine xa fun hf=> ?_
  refine xs fun hf=> ?_
  refine BP (BO (BQ (xq ?_)));refine xc (h:=dg (hAJ.ext xx) (hBJ.ext xx) hsJ (fun b o e=>by obtain⟨y,hy⟩:=hBJl b o e;exact⟨y,(xx:Ext H1 _) _ _ hy⟩)) (k:=fun v3 H3 nf3 hl3 fG hf=> ?_);refine xq ?_;obtain⟨u10,er,rfl,e10,kd4,x4,p4,s4,l4,F4,P4,D4,Y4,cf4,cp4,cs4,cy4,rfl,hF4,hP4,hD4,hY4,rx4,rp4,g4a,g4b,g4c,g4d,k4a,k4b,k4c⟩:=fG;have he:Ext H1 H3:=Ext.trans xx e10;have hfl3:=hf;have m517:=e10 nf1 _ xv;have m518:=e10 nf2 _ xv;have m50:=he nf _ m0;have m51:=he (nf+1) _ m1;have m52:=he (nf+1+1) _ m2;have fz:=ai m52 (ai m51 (ai m50 (ai m518 (ai m517 fz))));refine Ba ?_;refine xa fun hf=> ?_
  refine xs fun hf=> ?_
  refine xq (BP (BO ?_));refine Px fun M eM=> ?_
  have he:Ext H1 M:=by rw[eM];exact xx
  have hM3:Ext H3 M:=by rw[eM];exact Ext.up (hfl3 _ om) (Ext.up (hfl3 _ om) (Ext.refl _))
  have hM1:Ext H1 M:=he;have hM2:Ext H2 M:=(Ext.up (hfl2 _ om) (Ext.up (hfl2 _ om) (Ext.refl _))).trans (e10.trans hM3);have n17:M nf1=some (.own [.slice AJ SJ.length cj,.slice BJ LJ.length dj]):=by rw[eM];simp(disch:=omega)only[wx,fz]<;>rfl
  have n18:M nf2=some (.own [.int .i64 kd3,.slice F3 x3.length cf3,.slice P3 p3.length cp3,.slice D3 s3.length cs3,.slice Y3 l3.length cy3]):=by rw[eM];simp(disch:=omega)only[wx,fz]<;>rfl
  have n19:M nf3=some (.own [.int .i64 kd4,.slice F4 x4.length cf4,.slice P4 p4.length cp4,.slice D4 s4.length cs4,.slice Y4 l4.length cy4]):=by rw[eM];simp(disch:=omega)only[wx,fz]<;>rfl
  have n0:M nf=some (.own [.slice A S.length c,.slice B L.length d]):=by rw[eM];simp(disch:=omega)only[wx,fz]<;>rfl
  have n1:M (nf+1)=some (.own [.int .i64 kd1,.slice F1 x1.length cf1,.slice P1 p1.length cp1,.slice D1 s1.length cs1,.slice Y1 l1.length cy1]):=by rw[eM];simp(disch:=omega)only[wx,fz]<;>rfl
  have n2:M (nf+1+1)=some (.own [.int .i64 kd2,.slice F2 x2.length cf2,.slice P2 p2.length cp2,.slice D2 s2.length cs2,.slice Y2 l2.length cy2]):=by rw[eM];simp(disch:=omega)only[wx,fz]<;>rfl
  have hf:Fr M (nf3+1):=by rw[eM];exact hf
  have hfM:=hf;have hf0:∀c,nf3+1<=c->M c=none:=hf;clear eM;have hHM:Ext H M:=heH.trans he;have he:=Ext.refl M;have ci1:CIn M S L x1 p1 s1 l1 A B F1 P1 D1 Y1:=⟨hA.ext hHM,hB.ext hHM,hF1.ext hHM,hP1.ext hHM,hD1.ext hHM,hY1.ext hHM⟩;have cj1:CIn M SJ LJ x1 p1 s1 l1 AJ BJ F1 P1 D1 Y1:=⟨hAJ.ext hM1,hBJ.ext hM1,ci1.f,ci1.p,ci1.d,ci1.y⟩;have cj3:CIn M SJ LJ x3 p3 s3 l3 AJ BJ F3 P3 D3 Y3:=⟨cj1.a,cj1.b,hF3.ext hM2,hP3.ext hM2,hD3.ext hM2,hY3.ext hM2⟩;have cj4:CIn M SJ LJ x4 p4 s4 l4 AJ BJ F4 P4 D4 Y4:=⟨cj1.a,cj1.b,hF4.ext hM3,hP4.ext hM3,hD4.ext hM3,hY4.ext hM3⟩;have cr1:CR S L x1 p1:=⟨rS,rL,rx1,rp1,om⟩;have cq1:CR SJ LJ x1 p1:=⟨hsJ.s,hrJ,rx1,rp1,om⟩;have cq3:CR SJ LJ x3 p3:=⟨hsJ.s,hrJ,rx3,rp3,om⟩;have hok5:=lQ (k:=at_) (s:=s4) rx4 rp4 g4a;have cq5:CR SJ LJ (If at_ x4 p4 s4).1 (If at_ x4 p4 s4).2.1:=⟨hsJ.s,hrJ,hok5.1,hok5.2.1,om⟩;have ew5:IntKind.wrap .i64 (C6 SJ LJ kd4 (If at_ x4 p4 s4).1 (If at_ x4 p4 s4).2.1 (If at_ x4 p4 s4).2.2 l4)=C6 SJ LJ kd4 (If at_ x4 p4 s4).1 (If at_ x4 p4 s4).2.1 (If at_ x4 p4 s4).2.2 l4:=by have h:YD (C6 SJ LJ kd4 (If at_ x4 p4 s4).1 (If at_ x4 p4 s4).2.1 (If at_ x4 p4 s4).2.2 l4):=sZ;unfold YD at h;rw[Cd];omega
  have cq4:CR SJ LJ x4 p4:=⟨hsJ.s,hrJ,rx4,rp4,om⟩;have hcM:=hC.ext hHM;have hdM:=hDD.ext hHM;have hEM:=hE.ext hHM;have hZM:=hF2.ext hHM;refine Bh [1,0,1,1,0,1,1,0,0,1,1,1,0,3,1,0,0,1,1,1,0,3,1,0,0,1,1,1,0,3,1,0,0,1,1,0,3,1,0,3,1,0,0,1,1,0,3,1,0,1,1,0,3,1,0,0,0] [0,1,2,3,4,5,6,7,8,9,10,11,12,13,14,15,16,17,18,19,20,21,22,23,24,25,26,27,28,29,30,31,32,33,34,35,37,38,36,39,40,41,42,43,44,45,49,50,51,46,47,48,52,53,54,55,56] kr hf ?_;have fz:=ai ew5 (ai n2 (ai n1 (ai n0 (ai n19 (ai n18 (ai n17 fz))))));refine EB (h:=fun G hG=>hk _) (k:= ?_);iterate 5 first|refine CA ?_|refine EM ?_|refine FG ?_
  refine HN (h:=fun hgd G hG=>Rr (ci1.ext (Ext.trans xx hG)) cr1 (hZM.ext (Ext.trans xx hG)) rx2 om) (k:= ?_);iterate 6 first|refine CA ?_|refine EM ?_|refine FG ?_
  refine nu rfl rfl xv (Ext.refl _) xv (KV (cj4.b.ext xx) (fun a ha=>⟨(hrJ a ha).1,(hrJ a ha).2.1⟩) om (hEM.ext xx) e8 om) (fun _ _ q=>let⟨_,h,_⟩:=q;h.1) (fun v13 G13 nz13 hl13 q hf=> ?_);obtain⟨xf,⟨ef,gf,_⟩,lf,rf⟩:=q;obtain⟨AF,cF,rfl,hRf⟩:=GS.rd (f:=intC) (fun _=>rfl) gf;have he:Ext M G13:=Ext.trans xx ef;have n17_13:=ef _ _ n17;have n18_13:=ef _ _ n18;have n19_13:=ef _ _ n19;have fz:=ai n19_13 (ai n18_13 (ai n17_13 fz));refine HN (h:=fun hgd G hG=>Rr (cj1.ext (Ext.trans xx hG)) cq1 (hRf.ext hG) rf om) (k:= ?_);iterate 6 first|refine CA ?_|refine EM ?_|refine FG ?_
  refine nu rfl rfl xv (Ext.refl _) xv (KV (cj4.b.ext xx) (fun a ha=>⟨(hrJ a ha).1,(hrJ a ha).2.1⟩) om (hdM.ext xx) d8 om) (fun _ _ q=>let⟨_,h,_⟩:=q;h.1) (fun v21 G21 nz21 hl21 q hf=> ?_);obtain⟨xf,⟨ef,gf,_⟩,lf,rf⟩:=q;obtain⟨AF,cF,rfl,hRf⟩:=GS.rd (f:=intC) (fun _=>rfl) gf;have he:Ext M G21:=Ext.trans xx ef;have n17_21:=ef _ _ n17_13;have n18_21:=ef _ _ n18_13;have n19_21:=ef _ _ n19_13;have fz:=ai n19_21 (ai n18_21 (ai n17_21 fz));refine HN (h:=fun hgd G hG=>Rr (cj3.ext (Ext.trans xx hG)) cq3 (hRf.ext hG) rf om) (k:= ?_);iterate 6 first|refine CA ?_|refine EM ?_|refine FG ?_
  refine nu rfl rfl xv (Ext.refl _) xv (KV (cj4.b.ext xx) (fun a ha=>⟨(hrJ a ha).1,(hrJ a ha).2.1⟩) om (hdM.ext xx) d8 om) (fun _ _ q=>let⟨_,h,_⟩:=q;h.1) (fun v29 G29 nz29 hl29 q hf=> ?_);obtain⟨xf,⟨ef,gf,_⟩,lf,rf⟩:=q;obtain⟨AF,cF,rfl,hRf⟩:=GS.rd (f:=intC) (fun _=>rfl) gf;have he:Ext M G29:=Ext.trans xx ef;have n17_29:=ef _ _ n17_21;have n18_29:=ef _ _ n18_21;have n19_29:=ef _ _ n19_21;have fz:=ai n19_29 (ai n18_29 (ai n17_29 fz));refine HN (h:=fun hgd G hG=>Rr (cj4.ext (Ext.trans xx hG)) cq4 (hRf.ext hG) rf om) (k:= ?_);iterate 7 first|refine CA ?_|refine EM ?_|refine FG ?_
  refine nu rfl rfl xv (Ext.refl _) xv (Ot (cj4.f.ext xx) (cj4.p.ext xx) (cj4.d.ext xx) (cj4.y.ext xx) rx4 rp4 g4a g4b g4c g4d k4a k4b k4c hat_) (fun _ _ q=>q.1) (fun v36 G36 nz36 hl36 q hf=> ?_);obtain⟨e36,F36,P36,D36,Y36,cf36,cp36,cs36,cy36,rfl,hF36,hP36,hD36,hY36⟩:=q;have he:Ext M G36:=Ext.trans xx e36;have ci36:CIn G36 SJ LJ (If at_ x4 p4 s4).1 (If at_ x4 p4 s4).2.1 (If at_ x4 p4 s4).2.2 l4 AJ BJ F36 P36 D36 Y36:=⟨cj4.a.ext xx,cj4.b.ext xx,hF36,hP36,hD36,hY36⟩;have n17_36:=e36 _ _ n17_29;have n18_36:=e36 _ _ n18_29;have n19_36:=e36 _ _ n19_29;have fz:=ai n19_36 (ai n18_36 (ai n17_36 fz));refine nu rfl rfl xv (Ext.refl _) xv (KV (cj4.b.ext xx) (fun a ha=>⟨(hrJ a ha).1,(hrJ a ha).2.1⟩) om (hdM.ext xx) d8 om) (fun _ _ q=>let⟨_,h,_⟩:=q;h.1) (fun v39 G39 nz39 hl39 q hf=> ?_);obtain⟨xf,⟨ef,gf,_⟩,lf,rf⟩:=q;obtain⟨AF,cF,rfl,hRf⟩:=GS.rd (f:=intC) (fun _=>rfl) gf;have he:Ext M G39:=Ext.trans xx ef;have ci39:=ci36.ext ef;have n17_39:=ef _ _ n17_36;have n18_39:=ef _ _ n18_36;have n19_39:=ef _ _ n19_36;have fz:=ai n19_39 (ai n18_39 (ai n17_39 fz));refine HN (h:=fun hgd G hG=>Rr (ci39.ext hG) cq5 (hRf.ext hG) rf om) (k:= ?_);iterate 8 first|refine CA ?_|refine EM ?_|refine FG ?_
  refine nu rfl rfl xv (Ext.refl _) xv (Ot (cj4.f.ext xx) (cj4.p.ext xx) (cj4.d.ext xx) (cj4.y.ext xx) rx4 rp4 g4a g4b g4c g4d k4a k4b k4c hat_) (fun _ _ q=>q.1) (fun v46 G46 nz46 hl46 q hf=> ?_);obtain⟨e46,F46,P46,D46,Y46,cf46,cp46,cs46,cy46,rfl,hF46,hP46,hD46,hY46⟩:=q;have he:Ext M G46:=Ext.trans xx e46;have ci46:CIn G46 SJ LJ (If at_ x4 p4 s4).1 (If at_ x4 p4 s4).2.1 (If at_ x4 p4 s4).2.2 l4 AJ BJ F46 P46 D46 Y46:=⟨cj4.a.ext xx,cj4.b.ext xx,hF46,hP46,hD46,hY46⟩;have n17_46:=e46 _ _ n17_39;have n18_46:=e46 _ _ n18_39;have n19_46:=e46 _ _ n19_39;have fz:=ai n19_46 (ai n18_46 (ai n17_46 fz));refine HN (h:=fun hgd G hG=>WS (ci46.ext hG) cq5) (k:= ?_);refine EM ?_;refine nu rfl rfl xv (Ext.refl _) xv (Ot (cj4.f.ext xx) (cj4.p.ext xx) (cj4.d.ext xx) (cj4.y.ext xx) rx4 rp4 g4a g4b g4c g4d k4a k4b k4c hat_) (fun _ _ q=>q.1) (fun v52 G52 nz52 hl52 q hf=> ?_);obtain⟨e52,F52,P52,D52,Y52,cf52,cp52,cs52,cy52,rfl,hF52,hP52,hD52,hY52⟩:=q;have he:Ext M G52:=Ext.trans xx e52;have ci52:CIn G52 SJ LJ (If at_ x4 p4 s4).1 (If at_ x4 p4 s4).2.1 (If at_ x4 p4 s4).2.2 l4 AJ BJ F52 P52 D52 Y52:=⟨cj4.a.ext xx,cj4.b.ext xx,hF52,hP52,hD52,hY52⟩;have n17_52:=e52 _ _ n17_46;have n18_52:=e52 _ _ n18_46;have n19_52:=e52 _ _ n19_46;have fz:=ai n19_52 (ai n18_52 (ai n17_52 fz));refine HN (h:=fun hgd G hG=>ZO (ci52.ext hG) cq5) (k:= ?_);iterate 3 first|refine CA ?_|refine EM ?_
  refine BX (BT (rt ?_));exact BW rfl ⟨by simp(disch:=omega)only[wx,fz,beq_self_eq_true]<;>rfl,hHM.trans xx⟩
end
end
section
open Go.Conc Go.Proofs
theorem gE(Post:Value->World->Prop)(W:World):letI:=KL Post W;∀G,Pure 7 [] (.bool true) G:=by
 letI:=KL Post W
 intro G;have h:=MI (rE Post W) (by kernel_rfl:MJ m7=true) (G:=G) (fun p hp=>by simp[m7]at hp) (fun p hp=>by simp[m7]at hp);refine⟨⟨_,_,Tryz.func7,rfl⟩,h.mono fun u H' q=> ?_⟩;obtain⟨rfl,rfl⟩:=q;refine⟨rfl,?_⟩;funext a;rfl
def Ib(W:World)(v:Value)(w:World):Prop:=v= .bool true/\(∀b,b<W.heap.size->w.heap[b]? =W.heap[b]?)/\W.heap.size<=w.heap.size/\w.tape=W.tape/\w.os=W.os/\w.output=W.output
theorem SM{P:Program}{f:FuncId}{fn:Func}{t:Tmp}{v:Value}{a:Frame}(hf:P.funcs[f]? =some fn)(hr:fn.results= #[.tmp t])(hv:a.tmps.getD t undef=v)(hm:a.mode= .returning)(hd:a.defers=[])(hfn:a.fn=f)(hk:a.kind= .normal)(hi:P.inits.idxOf? f=none)(w:World):
  stepG P true (G a []) w= .ended (.done v) w #[]:=by
 have h1:=results_tmp hr a.tmps P w;have h2:=events_results_tmp (P:=P) (w:=w) hr a.tmps #[];rw[hv]at h1;have hf2:P.funcs[a.fn]? =some fn:=by rw[hfn];exact hf
 have hi2:P.inits.idxOf? a.fn=none:=by rw[hfn];exact hi
 simp[stepG,G,hm,unwind,hd,hf2,h1,h2,seen_none,GStep.after,doReturn,hk,hi2]
theorem ZW{Shun:Loc->Prop}{B:Nat}:Past Shun B #[]:=by
 refine⟨fun said=>by rintro⟨i,j,_,⟨a,b,ha,_⟩,_⟩;simp[Trace.act?]at ha,fun i a h=> ?_,fun i g h=> ?_,rfl,fun op hop=>by simp at hop⟩
 ·simp[touchAt,Trace.act?]at h
 ·simp[Trace.g?]at h
theorem dJ{f:FuncId}{fn:Func}{t:Tmp}(W:World){args:List Value}{args':Array Value}{φ:Ph}{H:Hp}(hw:letI:=KL (Ib W) W;Ee Tryz.prog f args (fun v _=>v= .bool true) H)(hr: @Rel ⟨GM⟩ (fun b=>W.heap[b]?) (fun b=>b<W.heap.size) φ H W)(ha:BZ φ (dom H) args args'.toList)
  (hf:Tryz.prog.funcs[f]? =some fn)(hres:fn.results= #[.tmp t])(hi:Tryz.prog.inits.idxOf? f=none):Fin Tryz.prog (Ib W) (crowd #[G (Frame.enter Tryz.prog f args' .normal) []] W none) #[]:=by
 letI:=KL (Ib W) W
 have h:=hw true (KM Tryz.prog (Ib W) W) (YA Tryz.prog (Ib W) W) _ _ φ W args' .normal [] (.inl rfl) hr ha fun v H' O' φ' w' fr q g o r rets=> ?_
 ·refine h (fun _=>False) (fun _=>False) #[G (Frame.enter Tryz.prog f args' .normal) []] none #[] (fun _=>0) (fun l h=>h.elim) ⟨rfl,⟨fun i g hi hg=> ?_,fun j hj=>rfl⟩,ZW,fun b hb=>⟨hb,fun h=>h⟩,fun b _ h=>absurd h (Aj b),fun b hb=>hb.elim,⟨fun b hb=>absurd hb (Aj b),Nat.zero_le _,rfl,rfl,rfl⟩⟩;rw[Array.getElem?_eq_none (by simp;omega)]at hg;cases hg
 ·subst q;intro Shun Sh gs sl tr q hS hc;obtain⟨fn2,e2,hres2⟩:=rets.res;have efn:fn2=fn:=AC (e2.symm.trans hf);subst efn;obtain⟨v',hv1,hv2⟩:=hres2 w' (Keeps.refl _ _);have hv3:fr.tmps.getD t undef=v':=by
   have h1:=(results_tmp hres fr.tmps Tryz.prog w').symm.trans hv1.run;injection h1 with h1 _
  have hv4:v'= .bool true:=by simpa only[vrel]using hv2
  subst hv4;have hX:∀b,b<W.heap.size->w'.heap[b]? =W.heap[b]? :=fun b hb=>by
   have h1:W.heap[b]? =some W.heap[b]:=AK hb;rw[(r.frame b _ h1).2,h1]
  refine beside_ends (D:=fun _ _ es=>es= #[]) (n:=0) (fun _ _ es h e he=>by subst h;simp at he) hc.h0 hc.leavers hc.past (Goes.stop fun w₁ h₁=> ?_);obtain⟨d,rfl⟩:=h₁;refine⟨rfl,.bool true,#[],SM hf hres hv3 rets.mode rets.defers rets.fn rets.kind hi _,fun e he=>by simp at he,rfl,hX,?_,hc.far.tape,hc.far.os,hc.far.output⟩;refine Nat.le_of_not_lt fun hlt=> ?_
  have h0:w'.heap.size<W.heap.size:=hlt;have h1:=hX (w'.heap.size) h0;have h2:W.heap[w'.heap.size]? =some (W.heap[w'.heap.size]'h0):=AK h0;have h3:w'.heap[w'.heap.size]? =none:=Array.getElem?_eq_none (AH _);rw[h2,h3]at h1;cases h1
section
structure InS where
 v:Value
 n:Nat
 cells:List Value
structure InS.Ok(W:World)(x:InS):Prop where
 at': (x.v= .slice none 0 0/\x.n=0)\/∃a c,x.v= .slice (some a) x.n c/\a.spot=none/\x.n<=c/\(0<x.n->∃C e z,W.heap[a.block]? =some (.cells C e z)/\∀(i:Nat) y,x.cells[i]? =some y->C[a.off+i]? =some y)
 plain:∀y∈x.cells,plainV y=true
def InS.ad(x:InS):Option Addr:=match x.v with
 | .slice a _ _=>a
 |_=>none
def InS.A(x:InS)(j:Nat):Option Addr:=x.ad.map fun _=>⟨j,0,none⟩
def InS.c(x:InS):Nat:=match x.ad with
 |some _=>i5
 |none=>0
def aH(L:List InS):Hp:=fun j=>(L[j]?).bind fun x=>x.ad.map fun _=>if x.n=0 then .dead else .ro x.cells
def jf(L:List InS):Ph:=⟨fun j=>(((L[j]?).bind (·.ad)).map (·.block)).getD 0,fun j=>(((L[j]?).bind (·.ad)).map (·.off)).getD 0,fun _=>0⟩
variable{L:List InS}{j:Nat}{x:InS}
theorem Sy{a:Addr}(h:L[j]? =some x)(ha:x.ad=some a):aH L j=some (if x.n=0 then .dead else .ro x.cells)/\(jf L).f j=a.block/\(jf L).sh j=a.off:=by
 refine⟨?_,?_,?_⟩
 ·unfold aH;rw[h];simp[ha]
 ·unfold jf;simp[h,ha]
 ·unfold jf;simp[h,ha]
theorem nH{W:World}(hL:∀x∈L,x.Ok W): @Rel ⟨GM⟩ (fun b=>W.heap[b]?) (fun b=>b<W.heap.size) (jf L) (aH L) W:=by
 letI:Md:=Ss GM
 have hmine:∀a x,aH L a=some x->x.mine=false:=fun a x ha=>by
  unfold aH at ha;obtain⟨y,hy,h2⟩:=Option.bind_eq_some_iff.1 ha;obtain⟨_,_,rfl⟩:=AZ.1 h2;split<;>rfl
 refine⟨⟨L.length,fun a ha=>by unfold aH;rw[Ap ha];rfl⟩,fun b o hb=>⟨.inl (AR.1 hb).1,hb⟩,fun a x ha hx=> ?_,fun a c ha=> ?_,fun a b x y ha hb hx=> ?_⟩
 ·rw[hmine a x ha]at hx;cases hx
 ·unfold aH at ha;obtain⟨x,hx,h2⟩:=Option.bind_eq_some_iff.1 ha;obtain⟨ad,h3,h4⟩:=AZ.1 h2;obtain⟨k1,k2,k3⟩:=Sy hx h3;have hok:=hL x (Ao hx);split at h4
  ·cases h4
  ·rename_i hn;cases h4
   rcases hok.at' with⟨e,h0⟩|⟨a',c',e,q1,q2,q3⟩
   ·exact absurd h0 hn
   ·have e2:ad=a':=by
     unfold InS.ad at h3;rw[e]at h3;exact(AC h3).symm
    subst e2;obtain⟨C,ty,z,h5,h6⟩:=q3 om;refine⟨C,ty,z,by show W.heap[(jf L).f a]? =_;rw[k2];exact h5,fun i v hi=>⟨v,by rw[k3];exact h6 i v hi,(Bi _ _ (hok.plain v (Ao hi))).2 rfl⟩⟩
 ·rw[hmine a x ha]at hx;cases hx
theorem gM{W:World}(h:L[j]? =some x)(hok:x.Ok W):vrel (jf L) (dom (aH L)) (.slice (x.A j) x.n x.c) x.v:=by
 rcases hok.at' with⟨e,h0⟩|⟨a,c,e,q1,q2,q3⟩
 ·have e1:x.ad=none:=by unfold InS.ad;rw[e]
  unfold InS.A InS.c;rw[e1,e,h0];simp only[Option.map_none,vrel];exact⟨trivial,trivial,trivial⟩
 ·have e1:x.ad=some a:=by unfold InS.ad;rw[e]
  obtain⟨k1,k2,k3⟩:=Sy h e1;unfold InS.A InS.c;rw[e1,e];simp only[AU,vrel];refine⟨by unfold dom;rw[k1];simp,trivial,a,c,rfl,q1,.inl ?_,q2,fun hlt=>absurd hlt (by unfold i5 CJ;omega),fun _ hlt=>absurd hlt (Nat.lt_irrefl _)⟩;unfold Ph.ad;rw[k2,k3];obtain⟨b,o,s⟩:=a;simp only at q1;subst q1;simp
theorem V9{α:Type}{s:Nat}{f:α->List Value}(hs:∀a,(f a).length=s):∀(l:List α) (k:Nat) (h:k<l.length),k*s+s<=(l.flatMap f).length/\((l.flatMap f).drop (k*s)).take s=f l[k]
 |a::l,0,_=>by
  have h:=hs a;rw[List.flatMap_cons];refine⟨by simp[h],?_⟩;simp only[Nat.zero_mul,List.drop_zero,List.getElem_cons_zero];rw[List.take_append_of_le_length om,List.take_of_length_le om]
 |a::l,k+1,hk=>by
  have h:=hs a;obtain⟨h1,h2⟩:=V9 hs l k (by simpa using hk);rw[List.flatMap_cons];have e: (k+1)*s=(f a).length+k*s:=by rw[h,Nat.succ_mul];omega
  refine⟨by rw[e,AN];omega,?_⟩;rw[e,List.drop_append,Az om];simpa using h2
theorem Gf{α:Type}{s:Nat}{f:α->List Value}{W:World}{l:List α}(h:L[j]? =some x)(hok:x.Ok W)(hn:x.n=l.length)(hc:x.cells=l.flatMap f)(hs:∀a,(f a).length=s):Rd s f (aH L) (x.A j) l:=by
 intro k hk;rcases hok.at' with⟨e,h0⟩|⟨a,c,e,q1,q2,q3⟩
 ·omega
 ·have e1:x.ad=some a:=by unfold InS.ad;rw[e]
  obtain⟨k1,_,_⟩:=Sy h e1;refine⟨j,0,by unfold InS.A;rw[e1];rfl,?_⟩;rw[k1,if_neg om,hc];obtain⟨h1,h2⟩:=V9 hs l k hk;show(if 0+k*s+s<=(l.flatMap f).length then some (((l.flatMap f).drop (0+k*s)).take s)else none)=_
  rw[AW,if_pos h1,h2]
end
theorem WA{α:Type}{s:Nat}{f:α->List Value}(hs:∀a,(f a).length=s):∀(l:List α) (i:Nat) (y:Value),(l.flatMap f)[i]? =some y->∃(k j:Nat) (h:k<l.length),i=k*s+j/\j<s/\(f l[k])[j]? =some y
 |[],i,y,h=>by simp at h
 |a::l,i,y,h=>by
  have ha:=hs a;rw[List.flatMap_cons]at h;by_cases hi:i<s
  ·rw[Ac om]at h;exact⟨0,i,by simp,om,hi,h⟩
  ·rw[Ad om,ha]at h;obtain⟨k,j,hk,e,hj,hy⟩:=WA hs l (i - s) y h;refine⟨k+1,j,by simpa using hk,?_,hj,by simpa using hy⟩;rw[Nat.succ_mul];omega
def Fu{H:Type}(d:DataW H)(n:Nat):Prop:=(d= .nil/\n=0)\/∃es sp,d= .slice es sp/\es.length=n
theorem Ra{w:World}{base:Nat}{a:Addr}{n:Nat}{cs:List Value}(h:w.cells? base a n=some cs):cs.length=n/\∀(j:Nat) y,cs[j]? =some y->w.cell? (a.add j)=some y:=by
 unfold World.cells? at h;split at h
 ·have key:∀(l:List Nat) (cs:List Value),(l.mapM fun i=>w.cell? (a.add i))=some cs->cs.length=l.length/\∀(j:Nat) y,cs[j]? =some y->∃i,l[j]? =some i/\w.cell? (a.add i)=some y:=by
   intro l;induction l with
   |nil=>
    intro cs h;simp only[List.mapM_nil,Option.pure_def,AO]at h;subst h;exact⟨rfl,fun j y h=>by simp at h⟩
   |cons i l ih=>
    intro cs h;rw[List.mapM_cons]at h;cases hc:w.cell? (a.add i)with
    |none=>rw[hc]at h;cases h
    |some c=>
     rw[hc]at h;cases hr:l.mapM (fun i=>w.cell? (a.add i))with
     |none=>simp[hr]at h
     |some r=>
      simp[hr]at h;subst h;obtain⟨h1,h2⟩:=ih r hr;refine⟨by simp[h1],fun j y hj=> ?_⟩;cases j with
      |zero=>simp at hj;subst hj;exact⟨i,rfl,hc⟩
      |succ j=>simpa using h2 j y (by simpa using hj)
  obtain⟨h1,h2⟩:=key _ _ h;refine⟨by simpa using h1,fun j y hj=> ?_⟩;obtain⟨i,hi,hc⟩:=h2 j y hj;have:i=j:=by
   obtain⟨hlt,e⟩:=Ah.1 hi;simpa using e.symm
  rw[<-this];exact hc
 ·cases h
theorem Xu{w:World}{a:Addr}{y:Value}(h:w.cell? a=some y):∃C e z,w.heap[a.block]? =some (.cells C e z)/\C[a.off]? =some y:=by
 unfold World.cell? at h;split at h
 ·rename_i C e z hC;split at h
  ·cases h
  ·exact⟨C,e,z,hC,h⟩
 ·cases h
theorem OW(a:Addr)(n:Nat): (a.add n).block=a.block/\(a.add n).off=a.off+n:=by
 unfold Addr.add;split
 ·rename_i h;subst h;exact⟨rfl,rfl⟩
 ·exact⟨rfl,rfl⟩
open Go.WideShapes Go.Deep in
set_option maxRecDepth 4000 in
theorem MW{H:Type}{enc:TypeId×Value->H}{W:World}{T E:TypeId}{s:Nat}{v:Value}{x:DataW H×List MemPlace}{fuel base:Nat}(hT:Tryz.prog.underlying T=some (.slice E))(hc:Tryz.prog.cellsOf E=s)(hs0:0<s)(hval:Cell.okWide Tryz.prog W .any base T v)
  (h:DataW.trod enc Tryz.prog W 0 (fun _=>true) true fuel T [v]=some x){α:Type}{f:α->List Value}{G:α->Prop}(hs:∀a,(f a).length=s)(hp:∀a,∀y∈f a,plainV y=true)
  (hE:∀n cs y,cs.length=s->DataW.trod enc Tryz.prog W 0 (fun _=>true) true n E cs=some y->∃a,cs=f a/\G a):
  ∃l:List α,(InS.mk v l.length (l.flatMap f)).Ok W/\(∀a∈l,G a)/\Fu x.1 l.length:=by
 have hplain:∀l:List α,∀y∈l.flatMap f,plainV y=true:=fun l y hy=>by
  obtain⟨a,_,h2⟩:=List.mem_flatMap.1 hy;exact hp a y h2
 rcases open_slice hT h with⟨e,rfl⟩|⟨a,len,cap,m,n,D,Pl,e, -,hl, -,hm,rfl,hall⟩
 ·refine⟨[],⟨.inl ⟨?_,rfl⟩,by simp⟩,by simp,.inl ⟨rfl,rfl⟩⟩;simpa using e
 ·have ev:v= .slice (some a) len cap:=by simpa using e
  subst ev;have hspot:a.spot=none:=by
   unfold Cell.okWide at hval;rw[hT]at hval;have h2:Cell.ok Tryz.prog W .any base T (.slice (some a) len cap):=hval;unfold Cell.ok at h2;rw[hT]at h2;exact h2.2.2.2.1
  have hlm:len<=m:=by rw[hm];simp;omega
  have hel:∀i:_root_.Fin len,∃b:α,W.cells? 0 (a.add (i.1*s)) s=some (f b)/\G b:=fun i=>by
   obtain⟨cs',h1,h2⟩:=hall i.1 (by have:=i.2;omega);rw[hc]at h1;obtain⟨b,rfl,hb⟩:=hE _ _ _ (Ra h1).1 h2;exact⟨b,h1,hb⟩
  let l:List α:=List.ofFn fun i:_root_.Fin len=>Classical.choose (hel i)
  have hlen:l.length=len:=by simp[l]
  have hli:∀(k:Nat) (hk:k<l.length),W.cells? 0 (a.add (k*s)) s=some (f l[k])/\G l[k]:=fun k hk=>by
   have:=Classical.choose_spec (hel ⟨k,om⟩);simpa[l]using this
  refine⟨l,⟨.inr ⟨a,cap,by rw[hlen],hspot,by rw[hlen];exact hl,fun hpos=> ?_⟩,hplain l⟩,fun b hb=> ?_,.inr ⟨_,_,rfl,by simp[hlen]⟩⟩
  ·have at_:∀(k:Nat) (hk:k<l.length) (j:Nat) y,(f l[k])[j]? =some y->∃C e z,W.heap[a.block]? =some (.cells C e z)/\C[a.off+(k*s+j)]? =some y:=fun k hk j y hy=>by
    have h1:=(Ra (hli k hk).1).2 j y hy;obtain⟨C,e,z,h2,h3⟩:=Xu h1;obtain⟨p1,p2⟩:=OW (a.add (k*s)) j;obtain⟨p3,p4⟩:=OW a (k*s);rw[p1,p3]at h2;rw[p2,p4]at h3;exact⟨C,e,z,h2,by rw[<-Nat.add_assoc];exact h3⟩
   have hpos':0<l.length:=hpos;obtain⟨C,e,z,h2, -⟩:=at_ 0 hpos' 0 _ (AD (by rw[hs];exact hs0));refine⟨C,e,z,h2,fun i y hi=> ?_⟩;obtain⟨k,j,hk,rfl, -,hy⟩:=WA hs l i y hi;obtain⟨C',e',z',h3,h4⟩:=at_ k hk j y hy;rw[h2]at h3;cases h3
   exact h4
  ·obtain⟨k,hk,rfl⟩:=List.mem_iff_getElem.1 hb;exact(hli k hk).2
end
section
section
set_option maxRecDepth 4000
open Go.Conc Go.Proofs
open Go.Deep in
def FC(P:Program)(t:TypeId):Option (List TypeId):=match P.underlying t with
 |some (.struct fs)=>if oneCellFields P fs then some (fs.toList.map (·.type))else none
 |_=>none
section
open Go.Deep
variable{H:Type}{enc:TypeId×Value->H}{P:Program}{w:World}{base:Nat}{spare:Nat->Bool}{held:Bool}
theorem KO {t:TypeId} {ts:List TypeId} (ht:FC P t=some ts) {fuel:Nat} {cs:List Value} {x:DataW H×List MemPlace} (h:DataW.trod enc P w base spare held fuel t cs=some x):
  cs.length=P.cellsOf t/\∃(n:Nat) (xs:List (DataW H×List MemPlace)),x.1= .agg (xs.map (·.1))/\xs.length=ts.length/\∀(i:Nat) u,ts[i]? =some u->∃y,xs[i]? =some y/\DataW.trod enc P w base spare held n u ((cs.drop i).take 1)=some y:=by
 unfold FC at ht;split at ht
 ·rename_i fs hu;split at ht
  ·rename_i hone;cases ht
   obtain⟨xs,n,_,rfl,hl,hlen,hf⟩:=DataW.trod_struct hu h;refine⟨hl,n,xs,rfl,by simpa using hlen,fun i u hi=> ?_⟩;rw[List.getElem?_map,AZ]at hi;obtain⟨f,hfi,rfl⟩:=hi;have hfi':fs[i]? =some f:=by simpa using hfi
   obtain⟨o,k⟩:=hone_of hone i f hfi';have h2:=hf i f hfi';rw[o,k]at h2;have hlt:i<xs.length:=by rw[hlen];exact(AR.1 hfi').1
   exact⟨xs[i],AD hlt,by rw[h2,AD hlt]⟩
  ·cases ht
 ·cases ht
end
theorem J0{x:Int}(h: (Lit.int .i64 x).wf=true):R64 x:=by
 have h1:IntKind.i64.min= -9223372036854775808:=dZ;have h2:IntKind.i64.max=9223372036854775807:=dZ;simp[Lit.wf,h1,h2]at h;unfold R64;omega
theorem pS{x:Int}(h: (Lit.int .u8 x).wf=true):0<=x/\x<256:=by
 have h1:IntKind.u8.min=0:=dZ;have h2:IntKind.u8.max=255:=dZ;simp[Lit.wf,h1,h2]at h;omega
theorem Z4{α:Type}{l:List α}(h:l.length=5):∃a b c d e,l=[a,b,c,d,e]:=by
 match l,h with
 |[a,b,c,d,e],_=>exact⟨a,b,c,d,e,rfl⟩
theorem jV{α:Type}{l:List α}(h:l.length=2):∃a b,l=[a,b]:=by
 match l,h with
 |[a,b],_=>exact⟨a,b,rfl⟩
theorem sJ:FC Tryz.prog 25=some [22,23]:=kr
theorem sI:FC Tryz.prog 29=some [3,22,22,26,27]:=kr
theorem vi: (FC Tryz.prog 48).map (·.map fun t=>Tryz.prog.underlying t)=some (List.replicate 5 (some (.int .i64))):=kr
theorem wF:Tryz.prog.cellsOf 25=2:=kr
theorem wE:Tryz.prog.cellsOf 29=5:=kr
theorem wD:Tryz.prog.cellsOf 48=5:=kr
theorem xE:Tryz.prog.underlying 3=some (.int .i64):=kr
theorem tw:Tryz.prog.underlying 5=some (.int .u8):=kr
theorem pZ:∃E,Tryz.prog.underlying 22=some (.slice E)/\Tryz.prog.underlying E=some (.int .i64)/\Tryz.prog.cellsOf E=1:=⟨2,kr,kr,kr⟩
theorem uc:∃E,Tryz.prog.underlying 27=some (.slice E)/\Tryz.prog.underlying E=some (.int .i64)/\Tryz.prog.cellsOf E=1:=⟨3,kr,kr,kr⟩
theorem lG:Tryz.prog.underlying 26=some (.slice 4)/\Tryz.prog.underlying 4=some .bool/\Tryz.prog.cellsOf 4=1:=⟨kr,kr,kr⟩
theorem dS:Tryz.prog.underlying 30=some (.slice 5)/\Tryz.prog.cellsOf 5=1:=⟨kr,kr⟩
theorem ud:Tryz.prog.underlying 23=some (.slice 48):=kr
section
variable{H:Type}{enc:TypeId×Value->H}{W:World}{v:Value}{x:DataW H×List MemPlace}{fuel b0:Nat}
theorem JS {T E:TypeId} {k:IntKind} (hT:Tryz.prog.underlying T=some (.slice E)) (hE:Tryz.prog.underlying E=some (.int k)) (hc:Tryz.prog.cellsOf E=1) (hval:Cell.okWide Tryz.prog W .any b0 T v) (h:DataW.trod enc Tryz.prog W 0 (fun _=>true) true fuel T [v]=some x):
  ∃l:List Int,(InS.mk v l.length (l.flatMap fun n=>[.int k n])).Ok W/\(∀n∈l,(Lit.int k n).wf=true)/\Fu x.1 l.length:=
 MW hT hc (Nat.succ_pos 0) hval h (fun _=>rfl) (fun a y hy=>by simp at hy;subst hy;rfl) fun n cs y _ hy=>by
  obtain⟨z,rfl,_,hw⟩:=DataW.trod_int hE hy;exact⟨z,rfl,hw⟩
theorem aF(hval:Cell.okWide Tryz.prog W .any b0 26 v)(h:DataW.trod enc Tryz.prog W 0 (fun _=>true) true fuel 26 [v]=some x):
  ∃l:List Bool,(InS.mk v l.length (l.flatMap boolC)).Ok W/\Fu x.1 l.length:=by
 obtain⟨l,hl,_,hsl⟩:=MW (G:=fun _=>True) (f:=boolC) lG.1 lG.2.2 (Nat.succ_pos 0) hval h (fun _=>rfl) (fun a y hy=>by simp[boolC]at hy;subst hy;rfl) fun n cs y _ hy=>by
  obtain⟨z,rfl,_⟩:=DataW.trod_bool lG.2.1 hy;exact⟨z,rfl,trivial⟩
 exact⟨l,hl,hsl⟩
theorem gQ(hval:Cell.okWide Tryz.prog W .any b0 23 v)(h:DataW.trod enc Tryz.prog W 0 (fun _=>true) true fuel 23 [v]=some x):
  ∃l:List Ar,(InS.mk v l.length (l.flatMap Ar.c)).Ok W/\(∀a∈l,R64 a.lo/\R64 a.ca/\R64 a.co)/\Fu x.1 l.length:=by
 obtain⟨ts,hts,hun⟩:∃ts,FC Tryz.prog 48=some ts/\∀(i:Nat),i<5->∃u,ts[i]? =some u/\Tryz.prog.underlying u=some (.int .i64):=by
  obtain⟨ts,h1,h2⟩:=AZ.1 vi;refine⟨ts,h1,fun i hi=> ?_⟩;have h3:=congrArg (fun l:List (Option TypeDesc)=>l[i]?) h2;simp only[List.getElem?_map,List.getElem?_replicate,hi,Ag]at h3;obtain⟨u,h4,h5⟩:=AZ.1 h3;exact⟨u,h4,h5⟩
 refine MW ud wD (Nat.succ_pos 4) hval h (fun _=>rfl) (fun a y hy=>by simp[Ar.c]at hy;rcases hy with rfl|rfl|rfl|rfl|rfl<;>rfl) fun n cs y hl hy=> ?_
 obtain⟨c0,c1,c2,c3,c4,rfl⟩:=Z4 hl;obtain⟨-,n2,_, -, -,hf⟩:=KO hts hy;have fld:∀(i:Nat),i<5->∃z,([c0,c1,c2,c3,c4].drop i).take 1=[.int .i64 z]/\(Lit.int .i64 z).wf=true:=fun i hi=>by
  obtain⟨u,h1,h2⟩:=hun i hi;obtain⟨y2, -,h3⟩:=hf i u h1;obtain⟨z,e,_,hw⟩:=DataW.trod_int h2 h3;exact⟨z,e,hw⟩
 obtain⟨z0,e0,w0⟩:=fld 0 om;obtain⟨z1,e1,w1⟩:=fld 1 om;obtain⟨z2,e2,w2⟩:=fld 2 om;obtain⟨z3,e3,w3⟩:=fld 3 om;obtain⟨z4,e4,w4⟩:=fld 4 om;simp only[List.drop_zero,List.drop_succ_cons,List.take_succ_cons,List.take_zero,List.cons.injEq,and_true]at e0 e1 e2 e3 e4;subst e0 e1 e2 e3 e4;exact⟨⟨z0,z1,z2,z3,z4⟩,rfl,J0 w2,J0 w3,J0 w4⟩
end
end
end
end Go.Proofs.YtjlallgaadmeaaaGreatDoor
