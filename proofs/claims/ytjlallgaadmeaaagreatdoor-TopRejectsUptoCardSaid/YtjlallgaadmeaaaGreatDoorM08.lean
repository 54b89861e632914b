/- Parts of the proof, joined: IH II IJ IK IL IM IN IO IP IQ. Conditions: none. -/
import Derived.Test.YtjlallgaadmeaaaGreatDoorM07
set_option linter.unusedVariables false
set_option linter.unusedSimpArgs false
set_option linter.unusedSectionVars false
set_option maxRecDepth 100000
namespace Go.Proofs.YtjlallgaadmeaaaGreatDoor
section
open Go.Conc Go.Proofs
variable[Md]
section
theorem wi(a b:Nat):decide ((Ci [(a:Int),(b:Int)] 2:Int)=2)=((a:Int)==0&&(b:Int)==0):=by
 have e1:alongI [(a:Int),(b:Int)] ((0:Nat):Int)=a:=rfl;have e2:alongI [(a:Int),(b:Int)] ((1:Nat):Int)=b:=rfl;unfold Ci;rw[e2];unfold Ci;rw[e1];unfold Ci;by_cases h1:a=0<;>by_cases h2:b=0<;>simp[h1,h2]
theorem xS(a b c:Nat):decide ((Ci [(a:Int),(b:Int),(c:Int)] 3:Int)=3)=(((a:Int)==0&&(b:Int)==0)&&(c:Int)==0):=by
 have e1:alongI [(a:Int),(b:Int),(c:Int)] ((0:Nat):Int)=a:=rfl;have e2:alongI [(a:Int),(b:Int),(c:Int)] ((1:Nat):Int)=b:=rfl;have e3:alongI [(a:Int),(b:Int),(c:Int)] ((2:Nat):Int)=c:=rfl;unfold Ci;rw[e3];unfold Ci;rw[e2];unfold Ci;rw[e1];unfold Ci;by_cases h1:a=0<;>by_cases h2:b=0<;>by_cases h3:c=0<;>simp[h1,h2,h3]
variable{B D F P Y:Option Addr}{cf cp cs cy d e:Nat}{H:Hp}
theorem ZE{kd:Int}{fl pl sl yl:Nat}:Pure 36 [.agg #[.int .i64 kd,.slice F fl cf,.slice P pl cp,.slice D sl cs,.slice Y yl cy]] (.bool (D6 kd fl pl sl yl)) H:=by
 refine Pure.of rfl (BV Tryz.func36 rfl 47 rfl fun nf t hf _ ht=> ?_);have hf0:=hf;refine BO (BQ ?_);have fz:=(ht 0 _ rfl);refine xa fun hf=> ?_
 refine xq (BP (BO (BO (BQ ?_))));refine Ba (BP (BS (BO (BQ ?_))));refine Ba (BP ?_);refine HR (fun c1=> ?_) fun c1=> ?_
 ·refine BO (BQ ?_);have fz:=ai c1 fz;iterate 11 first|refine xq ?_|refine xg ?_
  refine BP (BT (rt ?_));exact BW rfl ⟨by(rw[D6,if_pos c1,wi];exact xy),xx⟩
 ·refine BO (BQ ?_);have fz:=ai c1 fz;refine Ba (BP ?_);refine HR (fun c2=> ?_) fun c2=> ?_
  ·refine BO (BQ ?_);have fz:=ai c2 fz;iterate 17 first|refine xq ?_|refine xg ?_
   refine BP (BT (rt ?_));exact BW rfl ⟨by(rw[D6,if_neg c1,if_pos c2,xS];exact xy),xx⟩
  ·refine BO (BQ ?_);have fz:=ai c2 fz;refine Ba (BP ?_);refine HR (fun c3=> ?_) fun c3=> ?_
   ·refine BO (BQ ?_);have fz:=ai c3 fz;iterate 11 first|refine xq ?_|refine xg ?_
    refine BP (BT (rt ?_));exact BW rfl ⟨by(rw[D6,if_neg c1,if_neg c2,if_pos c3,wi];exact xy),xx⟩
   ·refine BR (BO (BQ ?_));have fz:=ai c3 fz;refine xq (BP (BT (rt ?_)));exact BW rfl ⟨by(rw[D6,if_neg c1,if_neg c2,if_neg c3];exact xy),xx⟩
variable{S x:List Int}{L:List Ar}
theorem iK(h:rightI S L=0){k:Nat}(hk:k<L.length):Pk S.length L (k:Int)= .tuple #[L[k].v,.bool true]:=by
 rw[Pk,if_pos (by rw[Ja hk,Bk hk];exact Nv h hk),Aa,Bk hk]
theorem Jl(x:List Int){a:Int}(h:0<=a):pL x a=alongI x a:=if_neg om
theorem Ox(p:List Int)(a:Ar):NS p a=a.co - alongI p a.f+alongI p a.t:=rfl
theorem lh{p:List Int}{A:Option Addr}{c:Nat}(hB:Rd 5 Ar.c H B L)(hP:Rd 1 intC H P p)(hr:rightI S L=0)(hp:∀n∈p,R64 n)(hc:∀a∈L,R64 a.co){k:Nat}(hk:k<L.length):Pure 86 [.agg #[.slice A S.length c,.slice B L.length d],.slice P p.length e,.int .i64 (k:Int)] (W (NS p L[k])) H:=by
 refine Pure.of rfl (BV Tryz.func86 rfl 35 rfl fun nf t hf _ ht=> ?_);have hf0:=hf;have ea:=iK hr hk;have hq:=(HY hr).1 _ (AM hk);have hf1:=hq.f;have ht1:=hq.t;have ec:=hc _ (AM hk);refine BO (BQ ?_);have fz:=ai ea (ai @DO (ai @Eb (ai (ht 2 _ rfl) (ai (ht 1 _ rfl) (ht 0 _ rfl)))));refine xa fun hf=> ?_
 refine xa fun hf=> ?_
 refine BP (BO (BQ (Ba ?_)));refine xp (h:=O4 (hB.ext xx)) (k:= ?_);refine B0 ?_;refine xa fun hf=> ?_
 refine xs fun hf=> ?_
 refine xq (BP (BO (BO (BQ ?_))));refine Ba (BP ?_);refine xF (BR (BO ?_));refine Bh [0,1,1,0,0,1,1,1,1,4,2] [0,1,2,3,4,5,6,7,8,9,10] kr hf ?_;iterate 2 first|refine CA ?_|refine Cq ?_
 refine EB (h:=fun G hG=>HL (by first|exact ec|(rw[Jl _ om];exact CZ hp _))) (k:= ?_);iterate 3 first|refine CA ?_|refine Cq ?_
 refine EB (h:=fun G hG=>Qp ((hP.ext xx).ext hG)) (k:= ?_);refine EB (h:=fun G hG=>HL (by first|exact ec|(rw[Jl _ om];exact CZ hp _))) (k:= ?_);refine EB (h:=fun G hG=>HX) (k:= ?_);refine Wr ?_;refine Fx fun nf2 hl2 hf=> ?_
 refine BX (BO (Bh [1,0,0,1,1,1,1,2] [0,1,2,3,4,5,6,7] kr hf ?_));iterate 4 first|refine CA ?_|refine Cq ?_
 refine EB (h:=fun G hG=>Qp ((hP.ext xx).ext hG)) (k:= ?_);refine EB (h:=fun G hG=>HL (by first|exact ec|(rw[Jl _ om];exact CZ hp _))) (k:= ?_);refine EB (h:=fun G hG=>Gw) (k:= ?_);refine Fx fun nf3 hl3 hf=> ?_
 refine BX (BT (rt ?_));exact Ch rfl xv ⟨by(simp(disch:=omega)only[wx,fz];rw[Ox,Jl _ hf1.1,Jl _ ht1.1]),xx⟩
theorem mH{p:List Int}{a:Ar}(hp:∀n∈p,R64 n)(h:R64 a.co): -170141183460469231731687303715884105728<=NS p a/\NS p a<170141183460469231731687303715884105728:=by
 have h1:=CZ hp a.f;have h2:=CZ hp a.t;unfold R64 at*;rw[Ox];omega
theorem Wa(h:rightI S L=0)(x p:List Int){k:Nat}(hk:k<L.length)(hx:k<x.length):LH S.length L x p k=((decide (sg (NS p L[k]) 0>0)&&x[k] !=L[k].lo)||(decide (sg (NS p L[k]) 0<0)&&(x[k] !=L[k].ca||L[k].ca==4611686018427387904))):=by
 unfold LH;rw[Bk hk,Nv h hk,Bc x hx,Bool.true_and]
set_option maxHeartbeats 1600000 in
theorem ZB{p:List Int}{A X:Option Addr}{c f:Nat}(hA:Rd 1 intC H A S)(hB:Rd 5 Ar.c H B L)(hX:Rd 1 intC H X x)(hP:Rd 1 intC H P p)(hS:∀n∈S,R64 n)(hx:∀n∈x,R64 n)(hp:∀n∈p,R64 n)(hc:∀a∈L,R64 a.co):Pure 37 [.agg #[.slice A S.length c,.slice B L.length d],.slice X x.length e,.slice P p.length f] (.int .i64 (CP S L x p)) H:=by
 refine Pure.of rfl (BV Tryz.func37 rfl 75 rfl fun nf t hf _ ht=> ?_);have hf0:=hf;refine BO (BQ ?_);have fz:=ai @DO (ai @Eb (ai (ht 2 _ rfl) (ai (ht 1 _ rfl) (ht 0 _ rfl))));refine xa fun hf=> ?_
 refine xq (BP (BO (BQ ?_)));refine Ba ?_;refine xp (h:=Ur (hA.ext xx) (hB.ext xx) (hX.ext xx) hS hx) (k:= ?_);refine xq (BP (BO (BO (BQ ?_))));refine Ba (BP ?_);refine Kf (fun c1=> ?_) fun c1=> ?_
 ·refine BO (BQ ?_);have fz:=ai c1 fz;refine Ba (BP (BT (rt ?_)));exact BW rfl ⟨by(simp(disch:=omega)only[wx,fz];rw[CP,if_pos c1]),xx⟩
 ·have hl:=OL (by simpa using c1);have hr:=hl.1;have hb:=CW hr;refine BR (BO (BO (BQ ?_)));have fz:=ai c1 fz;refine Dk (BP ?_);refine Kf (fun c2=> ?_) fun c2=> ?_
  ·refine BO (BQ ?_);have fz:=ai c2 fz;refine xq (BP (BT (rt ?_)));exact BW rfl ⟨by(simp(disch:=omega)only[wx,fz];rw[CP,if_neg (fun h=>h c1),if_pos om]),xx⟩
  ·refine BR (BO (BO (BQ ?_)));have fz:=ai c2 fz;refine xq (BP (BS ?_));refine By fun T1 hT=> ?_
   have gz:=ai (xt (hT 8)) (ai (xt (hT 3)) (ai (xt (hT 2)) (ai (xt (hT 1)) trivial)));clear hT;refine xl x.length nf H hf (fun k t nf1 G=>(∀j,j<k->LH S.length L x p j=false)/\(t 1=T1 1/\t 2=T1 2/\t 3=T1 3)/\t 8= .int .i64 (k:Int)/\G nf=some (.own [.slice A S.length c,.slice B L.length d])) ⟨(fun j h=>absurd h (Aj j)),xh⟩ ?_;rintro k t nf1 G hk1 hn1 hf he ⟨i1,uz,h8,b0⟩;have hfl:=hf;have l0:=hf.lt b0;refine BO (BO (BQ ?_));have fz:=ai b0 (ai h8 (ai uz (ai gz (ai @DO @Eb))));refine Dv (BP ?_);refine C8 (fun c3=> ?_) fun c3=> ?_
   ·refine BR (BO (BS (BO (BQ ?_))));have hk:k<L.length:=om;have hkx:k<x.length:=om;have ep:=Wa hr x p hk hkx;obtain⟨b5,o5,eB,hoB⟩:=(hB.ext he) k hk;obtain⟨b6,o6,eX,hoX⟩:=(hX.ext he) k hkx;have l5:=Bd hf hoB;have l6:=Bd hf hoX;have ho2:Cs (G b5) (o5+k*5+2) 1=some [.int .i64 L[k].lo]:=Cn hoB dZ;have ho3:Cs (G b5) (o5+k*5+3) 1=some [.int .i64 L[k].ca]:=Cn hoB dZ;have fz:=ai c3 fz;refine B0 ?_;refine xp (h:=lh (k:=k) (hB.ext he) (hP.ext he) hr hp hc hk) (k:= ?_);refine xq ?_;refine xp (h:=Sa (b:=0) (mH hp (hc _ (AM hk))) om) (k:= ?_);refine xq (BP (BO ?_));refine Bh [0,0,0,0,0,0,1,0,1,0,0,0,1,0,0,0,0,0,0,0,0,0,1,0,1,0,0,0,1,0,0,0,1,0,0,0,1,0,0,0,0] [0,1,2,3,4,5,6,7,8,9,10,11,12,13,14,15,16,17,18,19,20,21,22,23,24,25,26,27,28,29,30,31,32,33,34,35,36,37,38,39,40] kr hf ?_;have fz:=ai hoX (ai eX (ai ho3 (ai ho2 (ai eB fz))));iterate 41 first|refine CA ?_|refine EM ?_|refine FG ?_
    refine BX (xi (fun c4=> ?_) fun c4=> ?_)
    ·refine BO (BQ ?_);have fz:=ai c4 fz;refine xq (BP (BT (rt ?_)));exact BW rfl ⟨by(simp(disch:=omega)only[wx,fz];rw[CP,if_neg (fun h=>h c1),if_neg om,if_pos ⟨k,hk,by rw[ep];exact c4⟩]),xx⟩
    ·refine BR (BQ ?_);have fz:=ai c4 fz;refine B0 (BP ?_);exact xe hf ⟨(fun j h=>by rcases AT.1 h with h|rfl;exact i1 j h;rw[ep];exact c4),xz⟩
   ·refine xo (BO (BQ ?_));have fz:=ai c3 fz;refine xq (BP (BT (rt ?_)));exact BW rfl ⟨by(simp(disch:=omega)only[wx,fz];rw[CP,if_neg (fun h=>h c1),if_neg om,if_neg (fun⟨j,h,e⟩=>by rw[i1 j om]at e;cases e)]),xx⟩
set_option maxHeartbeats 1600000 in
theorem ZO{p:List Int}{s:List Bool}{l:List Int}{A:Option Addr}{kd:Int}{c:Nat}(hc:CIn H S L x p s l A B F P D Y)(hr:CR S L x p):Pure 15 [.agg #[.slice A S.length c,.slice B L.length d],.agg #[.int .i64 kd,.slice F x.length cf,.slice P p.length cp,.slice D s.length cs,.slice Y l.length cy]] (.int .i64 (C6 S L kd x p s l)) H:=by
 refine Pure.of rfl (BV Tryz.func15 rfl 41 rfl fun nf t hf _ ht=> ?_);have hf0:=hf;refine BO (BQ ?_);have fz:=ai (ht 1 _ rfl) (ht 0 _ rfl);refine xa fun hf=> ?_
 refine xa fun hf=> ?_
 refine xq (BP (BO (BQ ?_)));refine xq ?_;refine xp (h:=JA (hc.ext xx).a (hc.ext xx).b) (k:= ?_);refine xq (BP (BO (BO (BQ ?_))));refine Ba (BP ?_);refine Kf (fun c1=> ?_) fun c1=> ?_
 ·refine BO (BQ ?_);have fz:=ai c1 fz;refine Ba (BP (BT (rt ?_)));exact BW rfl ⟨by(simp(disch:=omega)only[wx,fz];rw[C6,if_pos c1]),xx⟩
 ·have hr0:rightI S L=0:=c1;refine BR (BO (BO (BQ ?_)));have fz:=ai c1 fz;refine xq ?_;refine xp (h:=ZE) (k:= ?_);refine xq (BP ?_);refine xi (fun c2=> ?_) fun c2=> ?_
  ·refine BO (BQ ?_);have fz:=ai c2 fz;refine xq (BP (BT (rt ?_)));exact BW rfl ⟨by(simp(disch:=omega)only[wx,fz];rw[C6,if_neg (fun h=>h hr0),if_pos (by simpa using c2)]),xx⟩
  ·have hp:D6 kd x.length p.length s.length l.length=true:=by simpa using c2
   refine BR (BO (BO (BQ ?_)));have fz:=ai c2 fz;refine Ba (BP (BS (BO (BQ ?_))));refine Ba (BP ?_);refine HR (fun c3=> ?_) fun c3=> ?_
   ·refine BO (BQ ?_);have fz:=ai c3 fz;refine Eg ?_;refine xp (h:=ZB (hc.ext xx).a (hc.ext xx).b (hc.ext xx).f (hc.ext xx).p hr.rs hr.rx hr.rp fun a h=>(hr.rl a h).2.2) (k:= ?_);refine xq (BP (BT (rt ?_)));exact BW rfl ⟨by(simp(disch:=omega)only[wx,fz];subst c3;rw[C6,if_neg (fun h=>h hr0),if_neg (by rw[hp];simp)];rfl),xx⟩
   ·refine BO (BQ ?_);have fz:=ai c3 fz;refine Ba (BP ?_);refine HR (fun c4=> ?_) fun c4=> ?_
    ·refine BO (BQ ?_);have fz:=ai c4 fz;refine B0 ?_;refine xp (h:=XD (hc.ext xx).a (hc.ext xx).b (hc.ext xx).d hr.rs fun a h=>⟨(hr.rl a h).1,(hr.rl a h).2.1⟩) (k:= ?_);refine xq (BP (BT (rt ?_)));exact BW rfl ⟨by(simp(disch:=omega)only[wx,fz];subst c4;rw[C6,if_neg (fun h=>h hr0),if_neg (by rw[hp];simp)];rfl),xx⟩
    ·refine BR (BO (BQ ?_));have fz:=ai c4 fz;refine B0 ?_;refine xp (h:=Ur (hc.ext xx).a (hc.ext xx).b (hc.ext xx).f hr.rs hr.rx) (k:= ?_);refine xq (BP (BO (BO (BQ ?_))));refine Ba (BP ?_);refine Kf (fun c5=> ?_) fun c5=> ?_
     ·refine BO (BQ ?_);have fz:=ai c5 fz;refine Ba (BP (BT (rt ?_)));exact BW rfl ⟨by(simp(disch:=omega)only[wx,fz];rw[C6,if_neg (fun h=>h hr0),if_neg (by rw[hp];simp),if_neg c3,if_neg c4,Oz,if_pos c5]),xx⟩
     ·refine BR (BO (BQ ?_));have fz:=ai c5 fz;refine B0 ?_;refine xp (h:=Y9 (hc.ext xx).a (hc.ext xx).b (hc.ext xx).y fun a h=>(hr.rl a h).2.2) (k:= ?_);refine xq (BP (BT (rt ?_)));exact BW rfl ⟨by(simp(disch:=omega)only[wx,fz];rw[C6,if_neg (fun h=>h hr0),if_neg (by rw[hp];simp),if_neg c3,if_neg c4,Oz,if_neg (fun h=>h c5)]),xx⟩
end
section
theorem pR(x:Int):IntKind.wrap .u8 x=x%256:=by
 have e: (2^IntKind.bits .u8:Int)=256:=rfl;unfold IntKind.wrap;dsimp only;rw[e,if_neg (by simp[IntKind.signed])]
theorem uW{x:Int}(h:0<=x/\x<256):IntKind.wrap .u8 x=x:=by rw[pR];omega
theorem HZ{t:TypeId}{k:IntKind}{a b:Int}(h:0<=a/\0<b):Cr tz .rem t (.int k a) (.int k b)=some (.int k (a%b)):=by
 rw[bo om,Int.tmod_eq_emod_of_nonneg h.1]
theorem mL{t:TypeId}{k:IntKind}{a b:Int}(h:0<=a/\0<b):Cr tz .quo t (.int k a) (.int k b)=some (.int k (k.wrap (a/b))):=by
 have h0:b≠0:=om;unfold Cr;simp[h0,Int.tdiv_eq_ediv_of_nonneg h.1]
def Ol(n:Int):List Value:=[.int .u8 n]
def U8(l:List Int):Prop:=∀n∈l,0<=n/\n<256
theorem U8.at{l:List Int}(h:U8 l){k:Nat}(hk:k<l.length):0<=l[k]/\l[k]<256:=h _ (AM hk)
variable{α:Type}{H:Hp}
theorem Rd.two{s:Nat}{f:α->List Value}{l:List α}{b o:Nat}(h:Rd s f H (some ⟨b,o,none⟩) l)(k:Nat)(hk:k<l.length):Cs (H b) (o+k*s) s=some (f l[k]):=by
 obtain⟨b',o',e,h⟩:=h k hk;cases e
 exact h
theorem Rd.blk{s:Nat}{f:α->List Value}{A:Option Addr}{l:List α}(h:Rd s f H A l)(hl:0<l.length):∃b o,A=some ⟨b,o,none⟩:=by
 obtain⟨b,o,e,_⟩:=h 0 hl;exact⟨b,o,e⟩
theorem aw(a:Int){n:Int}(h:0<n):0<=a%n/\a%n<n:=⟨Int.emod_nonneg _ om,Int.emod_lt_of_pos _ h⟩
theorem GS.grow{s:Nat}{f:α->List Value}{v:Value}{l:List α}{y:α}{ys:List Value}{n:Nat}(h:GS H s v (l.flatMap f++ys) n)(e:ys=f y):GS H s v ((l++[y]).flatMap f) n:=by
 subst e;rw[BF];simpa using h
theorem Ft{P:α->Prop}{l:List α}{y:α}(h:∀x∈l,P x)(hy:P y):∀x∈l++[y],P x:=fun x hx=>by
 rcases Ax.1 hx with hx|hx
 ·exact h x hx
 ·rw[List.mem_singleton.1 hx];exact hy
structure SmA(n:Int)(a:Ar):Prop where
 f:0<=a.f/\a.f<n
 t:0<=a.t/\a.t<n
 lo:0<=a.lo/\a.lo<=2
 ca:a.ca=4611686018427387904\/(0<=a.ca/\a.ca<=7)
 co: -8<=a.co/\a.co<=12
theorem lM(a b c d e x:Value):Cz [a,b,c,d,e] (0+2) [x]=[a,b,x,d,e]/\Cz [a,b,c,d,e] (0+3) [x]=[a,b,c,x,e]/\Cz [a,b,c,d,e] (0+4) [x]=[a,b,c,d,x]/\List.take 5 (List.drop 0 [a,b,c,d,e])=[a,b,c,d,e]:=⟨rfl,rfl,rfl,rfl⟩
theorem oI(f t lo co:Int):B9 tz 48 [(0,.int .i64 f),(1,.int .i64 t),(2,.int .i64 lo),(4,.int .i64 co)]=some (.agg #[.int .i64 f,.int .i64 t,.int .i64 lo,.int .i64 0,.int .i64 co]):=kr
set_option maxHeartbeats 1600000 in
theorem oW{l:List Int}{A:Option Addr}{c:Nat}(hA:Rd 1 Ol H A l)(h8:U8 l)(hl:l.length<4611686018427387904){n:Int}(hn:0<n/\n<1000000):Ct 20 [.slice A l.length c,.int .i64 n] (fun v H'=>∃L:List Ar,Nw H H' 5 v (L.flatMap Ar.c) L.length/\L.length<=18/\∀a∈L,SmA n a) H:=by
 refine BV Tryz.func20 rfl 82 rfl fun nf t hf hsc ht=> ?_
 have hf0:=hf;refine BO (BQ ?_);have fz:=ai (ht 1 _ rfl) (ht 0 _ rfl);refine xq (BP (BO (BQ ?_)));refine xq (BP (BO (BO (BQ ?_))));refine xq (BP (BS ?_));refine By fun T1 hT=> ?_
 have gz:=ai (xt (hT 5)) (ai (xt (hT 6)) (ai (xt (hT 1)) (ai (xt (hT 0)) trivial)));clear hT;refine xl 18 nf H hf (fun k t nf1 G=>∃(v:Value) (zs:List Ar),zs.length=k/\GS G 5 v (zs.flatMap Ar.c) k/\(∀b,GSb v b->H b=none)/\(∀a∈zs,SmA n a)/\(t 0=T1 0/\t 1=T1 1)/\t 6= .int .i64 ((4*k:Nat):Int)/\t 5=v) ⟨.slice none 0 0,[],rfl,GS.nil _ _,(fun b h=>(Bo b h).elim),(fun a h=>by cases h),xh⟩ ?_;rintro k t nf1 G hk1 hn1 hf he ⟨v,zs,xl,gs,gn,zs_,uz,h6,h5⟩;have hfl:=hf;have e1:IntKind.wrap .i64 (((4*k:Nat):Int)+1)=((4*k+1:Nat):Int):=by rw[Cd];omega
 have e2:IntKind.wrap .i64 (((4*k:Nat):Int)+2)=((4*k+2:Nat):Int):=by rw[Cd];omega
 have e3:IntKind.wrap .i64 (((4*k:Nat):Int)+3)=((4*k+3:Nat):Int):=by rw[Cd];omega
 have e4:IntKind.wrap .i64 (((4*k:Nat):Int)+4)=((4*(k+1):Nat):Int):=by rw[Cd];omega
 refine BO (BO (BQ ?_));have fz:=ai e4 (ai e3 (ai e2 (ai e1 (ai h5 (ai h6 (ai uz (ai gz (ai @uW (ai @mL (ai @HZ (ai @oI (ai @lM @tJ))))))))))));iterate 9 first|refine xq ?_|refine xg ?_
 refine BP (xi (fun c1=> ?_) fun c1=> ?_)
 ·refine BR (BO (BS (BO (Bh [0,0,0,1,0,0,0,0,0,0,1,0,0,0,0,0,0,0,0,1,0,0,0,0,0,0,1,0,0,0,0,4,2] [0,1,2,3,4,5,6,7,8,9,10,11,12,13,14,15,16,17,18,19,20,21,22,23,24,25,26,27,28,29,30,31,32] kr hf ?_))));have hr:4*k+3<l.length/\4*k<72:=by simp only[AA,BE]at c1;omega
  obtain⟨b,o,rfl⟩:=hA.blk om;have q0:=Rd.two (hA.ext he) (4*k) om;have q1:=Rd.two (hA.ext he) (4*k+1) om;have q2:=Rd.two (hA.ext he) (4*k+2) om;have q3:=Rd.two (hA.ext he) (4*k+3) om;have lb:=Bd hf q0;have r0:=h8.at (show 4*k<l.length from om);have r1:=h8.at (show 4*k+1<l.length from om);have r2:=h8.at (show 4*k+2<l.length from om);have r3:=h8.at (show 4*k+3<l.length from om);generalize l[4*k]=x0 at*;generalize l[4*k+1]=x1 at*;generalize l[4*k+2]=x2 at*;generalize l[4*k+3]=x3 at*;have hf1:=aw x0 hn.1;have ht1:=aw (x0/16) hn.1;have fz:=ai q3 (ai q2 (ai q1 (ai q0 (ai @Ol.eq_1 (ai c1 fz)))));iterate 31 first|refine CA ?_|refine Cq ?_
  refine Wr ?_;refine Fx fun nf2 hl2 hf=> ?_
  refine BX (BO (Bh [0,1,0,0,0,0,1,0,0,0,0,0,2] [0,1,2,3,4,5,6,7,8,9,10,11,12] kr hf ?_));iterate 12 first|refine CA ?_|refine Cq ?_
  refine Fx fun nf3 hl3 hf=> ?_
  refine BX (BO (BO (BQ (Dk (BP (BS (BO (BQ ?_))))))));refine Ba (BP ?_);refine HR (fun c2=> ?_) fun c2=> ?_
  ·obtain⟨y,hys,hsm⟩:∃y:Ar,Ar.c y=[.int .i64 (x0%n),.int .i64 (x0/16%n),.int .i64 (x1%3),.int .i64 (4611686018427387904),.int .i64 (x2%21 - 8)]/\SmA n y:=⟨⟨x0%n,x0/16%n,x1%3,4611686018427387904,x2%21 - 8⟩,rfl,hf1,ht1,by dsimp only;omega,by dsimp only;omega,by dsimp only;omega⟩;refine BQ ?_;have fz:=ai c2 fz;refine xq ?_;refine xs fun hf=> ?_
   refine BP (BQ (Ba ?_));refine xa fun hf=> ?_
   refine FU (ys:=Ar.c y) hf rfl xv YT (gs.keep fun b hb=>by have:=hfl.lt (gs.live hb);simp(disch:=omega)only[Bn]) dZ (Bu (by rw[hys];exact xv) rfl dZ) ⟨_,_,_,rfl,rfl⟩ rfl dZ rfl om om fun v2 G2 gs2 fr hf gb=> ?_
   have he:=Ext.fr xx (hf0 _ om) gn fr;refine xq (BP (BQ ?_));refine B0 (BP ?_);exact xe hf ⟨v2,zs++[y],(by rw[AN,xl];rfl),gs2.grow (y:=y) rfl,(fun b h=>hf0 b (by have:=gb b h;omega)),Ft zs_ hsm,xz⟩
  ·refine BO (BQ ?_);have fz:=ai c2 fz;refine Ba (BP ?_);refine HR (fun c3=> ?_) fun c3=> ?_
   ·obtain⟨y,hys,hsm⟩:∃y:Ar,Ar.c y=[.int .i64 (x0%n),.int .i64 (x0/16%n),.int .i64 (0),.int .i64 (x1%3+x1/3%6),.int .i64 (x2%21 - 8)]/\SmA n y:=⟨⟨x0%n,x0/16%n,0,x1%3+x1/3%6,x2%21 - 8⟩,rfl,hf1,ht1,by dsimp only;omega,by dsimp only;omega,by dsimp only;omega⟩;refine BQ ?_;have fz:=ai c3 fz;refine xq ?_;refine xs fun hf=> ?_
    refine BP (BQ (Ba ?_));refine xa fun hf=> ?_
    refine FU (ys:=Ar.c y) hf rfl xv YT (gs.keep fun b hb=>by have:=hfl.lt (gs.live hb);simp(disch:=omega)only[Bn]) dZ (Bu (by rw[hys];exact xv) rfl dZ) ⟨_,_,_,rfl,rfl⟩ rfl dZ rfl om om fun v2 G2 gs2 fr hf gb=> ?_
    have he:=Ext.fr xx (hf0 _ om) gn fr;refine xq (BP (BQ ?_));refine B0 (BP ?_);exact xe hf ⟨v2,zs++[y],(by rw[AN,xl];rfl),gs2.grow (y:=y) rfl,(fun b h=>hf0 b (by have:=gb b h;omega)),Ft zs_ hsm,xz⟩
   ·refine BO (BQ ?_);have fz:=ai c3 fz;refine Ba (BP ?_);refine HR (fun c4=> ?_) fun c4=> ?_
    ·obtain⟨y,hys,hsm⟩:∃y:Ar,Ar.c y=[.int .i64 (x0%n),.int .i64 (x0/16%n),.int .i64 (x1%3),.int .i64 (x1%3+x1/3%6),.int .i64 (0)]/\SmA n y:=⟨⟨x0%n,x0/16%n,x1%3,x1%3+x1/3%6,0⟩,rfl,hf1,ht1,by dsimp only;omega,by dsimp only;omega,by dsimp only;omega⟩;refine BQ ?_;have fz:=ai c4 fz;refine xq ?_;refine xs fun hf=> ?_
     refine BP (BQ (Ba ?_));refine xa fun hf=> ?_
     refine FU (ys:=Ar.c y) hf rfl xv YT (gs.keep fun b hb=>by have:=hfl.lt (gs.live hb);simp(disch:=omega)only[Bn]) dZ (Bu (by rw[hys];exact xv) rfl dZ) ⟨_,_,_,rfl,rfl⟩ rfl dZ rfl om om fun v2 G2 gs2 fr hf gb=> ?_
     have he:=Ext.fr xx (hf0 _ om) gn fr;refine xq (BP (BQ ?_));refine B0 (BP ?_);exact xe hf ⟨v2,zs++[y],(by rw[AN,xl];rfl),gs2.grow (y:=y) rfl,(fun b h=>hf0 b (by have:=gb b h;omega)),Ft zs_ hsm,xz⟩
    ·obtain⟨y,hys,hsm⟩:∃y:Ar,Ar.c y=[.int .i64 (x0%n),.int .i64 (x0/16%n),.int .i64 (x1%3),.int .i64 (x1%3+x1/3%6),.int .i64 (x2%21 - 8)]/\SmA n y:=⟨⟨x0%n,x0/16%n,x1%3,x1%3+x1/3%6,x2%21 - 8⟩,rfl,hf1,ht1,by dsimp only;omega,by dsimp only;omega,by dsimp only;omega⟩;refine BR (BQ ?_);have fz:=ai c4 fz;refine Ba ?_;refine xa fun hf=> ?_
     refine FU (ys:=Ar.c y) hf rfl xv YT (gs.keep fun b hb=>by have:=hfl.lt (gs.live hb);simp(disch:=omega)only[Bn]) dZ (Bu (by rw[hys];exact xv) rfl dZ) ⟨_,_,_,rfl,rfl⟩ rfl dZ rfl om om fun v2 G2 gs2 fr hf gb=> ?_
     have he:=Ext.fr xx (hf0 _ om) gn fr;refine xq (BP (BQ ?_));refine B0 (BP ?_);exact xe hf ⟨v2,zs++[y],(by rw[AN,xl];rfl),gs2.grow (y:=y) rfl,(fun b h=>hf0 b (by have:=gb b h;omega)),Ft zs_ hsm,xz⟩
 ·refine xo (BO (BQ ?_));have fz:=ai c1 fz;refine Ba (BP (BT (rt ?_)));exact BW rfl (by simp(disch:=omega)only[wx,fz];exact⟨zs,⟨he,by rw[xl];exact gs,gn⟩,om,zs_⟩)
end
section
theorem xD(x:Int):R64 (IntKind.wrap .i64 x):=by unfold R64;rw[Cd];omega
variable{f:Nat->Int}
theorem ub(h:∀j,R64 (f j))(k:Nat){x:Int}(hx:R64 x):∀j,R64 (up f k x j):=fun j=>by
 unfold up;split
 ·exact hx
 ·exact h j
variable{H M:Hp}
theorem Rd.ar{b n:Nat}(h:H b=some (.own (ar n f))):Rd 1 intC H (some ⟨b,0,none⟩) ((List.range n).map f):=fun k hk=>⟨b,0,rfl,by
 rw[h];have hk':k<n:=by simpa using hk
 rw[GG hk'];simp[intC,WX]⟩
structure SmI(S:List Int)(L:List Ar):Prop where
 n:0<S.length/\S.length<=7
 m:L.length<=18
 b:∀x∈S, -1000<=x/\x<=1000
 a:∀a∈L,SmA S.length a
variable{L:List Ar}
theorem SmI.s{S:List Int}(h:SmI S L):∀x∈S,R64 x:=fun x hx=>by have:=h.b x hx;unfold R64;omega
theorem QK{B u x:Int}(h:∀j, -B<=f j/\f j<=B)(hx:0<=x/\x<=u)(hB:0<=B/\B+u<=1000)(k:Nat): (∀j, -(B+u)<=up f k (IntKind.wrap .i64 (f k+x)) j/\up f k (IntKind.wrap .i64 (f k+x)) j<=B+u)/\∀j, -(B+u)<=up f k (IntKind.wrap .i64 (f k - x)) j/\up f k (IntKind.wrap .i64 (f k - x)) j<=B+u:=by
 have hk:=h k;rw[Cd,Cd];refine⟨fun j=> ?_,fun j=> ?_⟩<;>
 ·have:=h j;unfold up;split<;>omega
def wP(n:Int)(H H':Hp)(v:Value):Prop:=∃L:List Ar,Nw H H' 5 v (L.flatMap Ar.c) L.length/\L.length<=18/\∀a∈L,SmA n a
theorem od{n:Int}(G:Hp)(v:Value)(H:Hp)(b:Nat)(x:AB)(h:wP n G H v)(_:Ext G H)(hb:H b=none):wP n (upd G b (some x)) (upd H b (some x)) v:=by
 obtain⟨L,⟨e,g1,h1⟩,h2⟩:=h;have n1:∀b',GSb v b'->b'≠b:=fun b' h' e=>by have:=g1.live h';rw[e,hb]at this;cases this
 exact⟨L,⟨e.both x,g1.keep fun b' h'=>upd_ne (n1 b' h'),fun b' h'=>by rw[upd_ne (n1 b' h')];exact h1 b' h'⟩,h2⟩
theorem iW(a:Ar): (Ar.c a).length=5:=rfl
variable{B:Option Addr}
theorem MU{K:Hp}{b1 n cB:Nat}(kH:Ext H K)(he:Ext K M)(h1:M b1=some (.own (ar n f)))(kB:Rd 5 Ar.c K B L)(hn:0<n/\n<=7)(hm:L.length<=18)(fr:∀j, -1000<=f j/\f j<=1000)(hsa:∀a∈L,SmA n a)(hl:∀b o,B=some ⟨b,o,none⟩->∃y,K b=some y):∃(S:List Int) (L':List Ar) (A B':Option Addr) (c d:Nat),Value.agg #[.slice (some ⟨b1,0,none⟩) n n,.slice B L.length cB]= .agg #[.slice A S.length c,.slice B' L'.length d]/\Ext H M/\Rd 1 intC M A S/\Rd 5 Ar.c M B' L'/\SmI S L'/\∀b o,B'=some ⟨b,o,none⟩->∃y,M b=some y:=by
 have e: ((List.range n).map f).length=n:=by simp
 refine⟨(List.range n).map f,L,_,B,n,cB,by rw[e],kH.trans he,Rd.ar h1,kB.ext he,⟨by rw[e];exact hn,hm,fun x hx=> ?_,by rw[e];exact hsa⟩,fun b o e=>by obtain⟨y,hy⟩:=hl b o e;exact⟨y,he _ _ hy⟩⟩;obtain⟨j,_,rfl⟩:=List.mem_map.1 hx;exact fr j
theorem Uu(f:Int->Int->Int)(k:IntKind)(a b:Int):Ii f [.int k a,.int k b]=some (.int k (f a b)):=by simp[Ii]
theorem OV:B9 tz 25 []=some (.agg #[.slice none 0 0,.slice none 0 0]):=kr
theorem tM{nf:Nat}(P:Nat->Prop)[DecidablePred P](he:Ext H M)(hP:∀c,P c->H c=none)(hf:Fr M nf)(hB:Rd 5 Ar.c M B L)(hn:∀b o,B=some ⟨b,o,none⟩->¬P b):∃K,Ext H K/\Ext K M/\(∀c,P c->K c=none)/\Fr K nf/\Rd 5 Ar.c K B L/\∀c,¬P c->K c=M c:=by
 obtain⟨K,k1,k2,k3,k4,k5⟩:=bk P he hP hf;refine⟨K,k1,k2,k3,k4,fun k hk=> ?_,k5⟩;obtain⟨b,o,e,h⟩:=hB k hk;exact⟨b,o,e,by rw[k5 _ (hn b o e)];exact h⟩
set_option maxHeartbeats 1600000 in
theorem nG{l2 l:List Int}{C D:Option Addr}{cc cd:Nat}(hC:Rd 1 Ol H C l)(c8:U8 l)(hl:l.length<4611686018427387904)(hD:Rd 1 Ol H D l2)(d8:U8 l2)(hl2:l2.length<4611686018427387904):Ct 8 [.slice C l.length cc,.slice D l2.length cd] (fun v H'=>∃S L A B c d,v= .agg #[.slice A S.length c,.slice B L.length d]/\Ext H H'/\Rd 1 intC H' A S/\Rd 5 Ar.c H' B L/\SmI S L/\∀b o,B=some ⟨b,o,none⟩->∃y,H' b=some y) H:=by
 refine BV Tryz.func8 rfl 111 rfl fun nf t hf hsc ht=> ?_
 have hf0:=hf;have h1:=ht 1 _ rfl;refine BO (BQ ?_);have fz:=ai @TN (ai @OV (ai @HZ (ai h1 (ht 0 _ rfl))));refine xa fun hf=> ?_
 refine BP (BO (BQ (xq (BP ?_))));refine By fun J1 hT=> ?_
 have j1_0:=xt (hT 0);have j1_1:=xt (hT 1);have j1_4:=xt (hT 4);have gz:=ai j1_4 (ai j1_1 (ai j1_0 trivial));have j1_5:=xt (hT 5);refine Od (fun Af G=>∃(t:Nat->Value) (nj1:Nat) (n:Nat),Af=⟨111,t,[]⟩/\nf<=nj1/\Fr G nj1/\Ext H G/\(0<n/\n<=7)/\t 0=J1 0/\t 1=J1 1/\t 4=J1 4/\t 5= .int .i64 (n:Int)/\G nf=some (.own [.slice none 0 0,.slice none 0 0])) ?_ ?_
 ·refine BO (BQ ?_);have fz:=ai j1_5 (ai j1_4 (ai j1_1 (ai j1_0 fz)));refine B0 (BP ?_);refine C8 (fun c1=> ?_) fun c1=> ?_
  ·obtain⟨b,o,rfl⟩:=hD.blk om;have q0:=hD.two 0 om;have lb:=Bd hf0 q0;have r0:=d8.at (show 0<l2.length from om);generalize l2[0]=x0 at*;obtain⟨q,eq⟩:∃q:Nat,(1:Int)+x0%7=(q:Int):=⟨(1+x0%7).toNat,om⟩;refine BQ ?_;have fz:=ai @Int.toNat_zero (ai eq (ai q0 (ai @Ol.eq_1 (ai c1 fz))));refine Dk ?_;refine xq (BP ?_);exact⟨_,_,q,rfl,om,hf,xx,⟨om,om⟩,by and_intros<;>first|rfl|(simp(disch:=omega)only[wx,fz,gz]<;>rfl)⟩
  ·refine BR ?_;have fz:=ai c1 fz;exact⟨_,_,1,rfl,om,hf,xx,⟨om,om⟩,by and_intros<;>first|rfl|(simp(disch:=omega)only[wx,fz,gz]<;>rfl)⟩
 ·rintro Af G ⟨t,nj1,n,rfl,hnnj1,hf,he,hn7,u0,u1,u4,h5,b0⟩;have hfl:=hf;have l0:=hf.lt b0;refine BO (TZ H xx fun heB=> ?_);refine Ta (fun G v H=>wP n G H v) (od) [0,5,0,0,6,0,5,2] [0,2,3,1,6,4,5,7] kr hf ?_;have fz:=ai b0 (ai h5 (ai (u4.trans j1_4) (ai (u1.trans j1_1) (ai (u0.trans j1_0) (ai @Uu (ai @Int.toNat_zero (ai @TN (ai @OV @HZ))))))));iterate 3 refine CA ?_
  refine d5 rfl (Ext.refl _) hf (fun b=>xv) (fun b1 nf2 hb1 hl2 hn1 hf xB=> ?_);refine d5 rfl xB hf (fun b=>xv) (fun b6 nf3 hb6 hl3 hn6 hf xB=> ?_);refine d6 rfl xB xv (fun G1 hG=>(oW (hC.ext (heB.trans hG)) c8 om (n:=(n:Int)) om).mono fun v H q=>⟨(let⟨L,h,_⟩:=q;h.1),q⟩) (fun v1 H1 nf4 hl4 q1 x1 xB hf=> ?_);have he:=heB.trans xB;obtain⟨L,⟨e1,g1,g1n⟩,hm,hsa⟩:=q1;obtain⟨B,cB,rfl,hB⟩:=g1.rd iW;have hlB:∀b o,B=some ⟨b,o,none⟩->∃y,H1 b=some y:=fun b o e=>⟨_,g1.live ⟨_,_,_,by rw[e]⟩⟩
  have n61:b6≠b1:=fun e=>by rw[e,BU]at hn6;cases hn6
  have p1:=x1 b1 _ (by rw[upd_ne n61.symm,BU]);have p6:=x1 b6 _ (BU _ _ _);have p0:=x1 nf _ (by rw[upd_ne om,upd_ne om];exact b0);have l1:=hf.lt p1;have l6:=hf.lt p6;have z1:H b1=none:=heB.none' hn1;have z6:H b6=none:=heB.none' (by rw[upd_ne n61]at hn6;exact hn6);have nB:∀b o,B=some ⟨b,o,none⟩->¬(b=nf\/b=b1\/b=b6):=by
   rintro b o rfl hb;have h:=g1n b ⟨_,_,_,rfl⟩;rcases hb with rfl|rfl|rfl
   ·rw[upd_ne om,upd_ne om]at h;rw[b0]at h;cases h
   ·rw[upd_ne n61.symm,BU]at h;cases h
   ·rw[BU]at h;cases h
  obtain⟨sb,rfl⟩:∃q,q=b1:=⟨_,rfl⟩;obtain⟨xb,rfl⟩:∃q,q=b6:=⟨_,rfl⟩;have fz:=ai p0 (ai p6 (ai p1 fz));refine CA ?_;refine Fx fun nf5 hl5 hf=> ?_
  refine BX (BO (BO ?_));refine Px fun M hM=> ?_
  have heM:Ext H M:=by rw[hM];exact Ext.up z6 he
  have m0:M nf=some (.own [.slice none 0 0,.slice none 0 0]):=by rw[hM];simp(disch:=omega)only[wx,fz]
  have m1:M sb=some (.own (ar n fun _=>(0:Int))):=by rw[hM];simp(disch:=omega)only[wx,fz]
  have m6:M xb=some (.own [.slice (some ⟨sb,0,none⟩) n n,.slice B L.length cB]):=by rw[hM];simp(disch:=omega)only[wx,fz]
  have hBM:Rd 5 Ar.c M B L:=fun k hk=>by
   obtain⟨b,o,e,h⟩:=hB k hk;exact⟨b,o,e,by rw[hM,upd_ne (fun h=>nB b o e (.inr (.inr h)))];exact h⟩
  obtain⟨z,hz⟩:∃z,Fr M z:=⟨_,hM▸hf⟩;have lz:=hz.lt m0;obtain⟨K,kH,kM,kP,kF,kB,kQ⟩:=tM (fun c=>c=nf\/c=sb\/c=xb) heM (fun c h=>by rcases h with rfl|rfl|rfl;exact hf0 _ om;exact z1;exact z6) hz hBM nB;have hf0:∀c,z<=c\/c=nf\/c=sb\/c=xb->K c=none:=fun c h=>h.elim (kF c) (kP c)
  have hf:=hz;have hlv:∀b o,B=some ⟨b,o,none⟩->∃y,K b=some y:=fun b o e=>by
   obtain⟨y,hy⟩:=hlB b o e;exact⟨y,by rw[kQ b (nB b o e),hM,upd_ne (fun h=>nB b o e (.inr (.inr h)))];exact hy⟩
  clear hM;have he:=kM;refine BQ ?_;have fz:=ai m6 (ai m1 (ai m0 fz));refine xq (BP (BS ?_));refine By fun T1 hT=> ?_
  have gz:=ai (xt (hT 7)) (ai (xt (hT 6)) (ai (xt (hT 5)) (ai (xt (hT 4)) (ai (xt (hT 1)) gz))));clear hT;refine xl L.length nf K hf (fun k t nf1 G=>∃(f:Nat->Int),z<=nf1/\G sb=some (.own (ar n f))/\(∀j, -(16*(k:Int))<=f j/\f j<=16*(k:Int))/\(t 1=T1 1/\t 4=T1 4/\t 5=T1 5/\t 6=T1 6)/\t 7= .int .i64 (k:Int)/\G nf=some (.own [.slice none 0 0,.slice none 0 0])/\G xb=some (.own [.slice (some ⟨sb,0,none⟩) n n,.slice B L.length cB])) ⟨(fun _=>0),om,xv,(fun _=>⟨by show -(16*((0:Nat):Int))<=0;omega,by show(0:Int)<=16*((0:Nat):Int);omega⟩),xh⟩ ?_;rintro k t nf1 G hk1 hn1 hf he ⟨f,hz1,bs,fr,uz,h7,b0,b1⟩;have hfl:=hf;have l0:=hf.lt b0;have l1:=hf.lt b1;have lS:=hf.lt bs;refine BO (BO (BQ ?_));have fz:=ai bs (ai b1 (ai b0 (ai h7 (ai uz (ai gz (ai @Uu (ai @Int.toNat_zero (ai @TN (ai @OV @HZ)))))))));refine Eg (BP ?_);refine C8 (fun c2=> ?_) fun c2=> ?_
  ·refine BR (BO (BS (BO (BQ ?_))));have hk:k<L.length:=om;have hs0:=hsa _ (AM hk);obtain⟨b,o,eB,hoB⟩:=(kB.ext he) k hk;have lb:=Bd hf hoB;have fz:=ai hoB (ai eB (ai c2 fz));refine Eg ?_;refine xa fun hf=> ?_
   refine xs fun hf=> ?_
   refine BP (BO (BQ (B0 (BP ?_))));refine By fun J2 hT=> ?_
   have j2_1:=xt (hT 1);have j2_4:=xt (hT 4);have j2_5:=xt (hT 5);have j2_6:=xt (hT 6);have j2_7:=xt (hT 7);have j2_8:=xt (hT 8);have gz:=ai j2_8 (ai j2_7 (ai j2_6 (ai j2_5 (ai j2_4 (ai j2_1 gz)))));have j2_9:=xt (hT 9);refine Od (fun Af G=>∃(t:Nat->Value) (nj2:Nat),Af=⟨111,t,[]⟩/\nf<=nj2/\Fr G nj2/\Ext K G/\G sb=some (.own (ar n f))/\(∃z:Int,t 9= .int .i64 z/\0<=z/\z<=8)/\t 1=J2 1/\t 4=J2 4/\t 5=J2 5/\t 6=J2 6/\t 7=J2 7/\t 8=J2 8/\G nf=some (.own [.slice none 0 0,.slice none 0 0])/\G xb=some (.own [.slice (some ⟨sb,0,none⟩) n n,.slice B L.length cB])/\G nf1=some (.own [.int .i64 L[k].f,.int .i64 L[k].t,.int .i64 L[k].lo,.int .i64 L[k].ca,.int .i64 L[k].co])) ?_ ?_
   ·refine BO (BQ ?_);have fz:=ai j2_9 (ai j2_8 (ai j2_7 (ai j2_6 (ai j2_5 (ai j2_4 (ai j2_1 fz))))));refine Eg (BP ?_);refine C8 (fun c3=> ?_) fun c3=> ?_
    ·obtain⟨b2,o2,rfl⟩:=hD.blk om;have q0:=(hD.ext (kH.trans he)).two (k+1) om;have lb2:=Bd hfl q0;have r0:=d8.at (show k+1<l2.length from om);generalize l2[k+1]=x0 at*;have et1: ((k:Int)+1).toNat=k+1:=om;refine Bh [0,1,0,0,0,0,1,0,0,0,0,1,0,0] [0,1,2,3,4,5,6,7,8,9,10,11,12,13] kr hf ?_;have fz:=ai et1 (ai q0 (ai @Ol.eq_1 (ai c3 fz)));iterate 14 first|refine CA ?_|refine Cq ?_
     refine BX ?_;exact⟨_,_,rfl,om,hf,xx,xv,⟨_,xv,by have h1:=hs0.lo;have h2:=hs0.ca;rw[Cd];split<;>omega,by have h1:=hs0.lo;have h2:=hs0.ca;rw[Cd];split<;>omega⟩,by and_intros<;>first|rfl|(simp(disch:=omega)only[wx,fz,gz]<;>rfl)⟩
    ·refine BR ?_;have fz:=ai c3 fz;exact⟨_,_,rfl,om,hf,xx,xv,⟨_,xv,by have h1:=hs0.lo;omega,by have h1:=hs0.lo;omega⟩,by and_intros<;>first|rfl|(simp(disch:=omega)only[wx,fz,gz]<;>rfl)⟩
   ·rintro Af G ⟨t,nj2,rfl,hnnj2,hf,he,bs,hz9,u1,u4,u5,u6,u7,u8,b0,b1,b2⟩;have hfl:=hf;have l0:=hf.lt b0;have l1:=hf.lt b1;have l2:=hf.lt b2;obtain⟨x,h9,hx⟩:=hz9;have hs:=hsa _ (AM hk);obtain⟨fN,ef⟩:=AI hs.f.1;obtain⟨tN,et⟩:=AI hs.t.1;have hfN:=hs.f.2;have htN:=hs.t.2;rw[ef]at hfN;rw[et]at htN;have lS:=hf.lt bs;refine BO (BQ ?_);have fz:=ai h9 (ai hoB (ai eB (ai bs (ai b2 (ai b1 (ai b0 (ai (u8.trans j2_8) (ai (u7.trans j2_7) (ai (u6.trans j2_6) (ai (u5.trans j2_5) (ai (u4.trans j2_4) (ai (u1.trans j2_1) (ai @Uu (ai @Int.toNat_zero (ai @TN (ai @OV @HZ))))))))))))))));refine Dk ?_;refine B0 ?_;refine xs fun hf=> ?_
    refine BP (BQ (Dk ?_));refine B0 ?_;refine xs fun hf=> ?_
    refine BP (BQ (B0 (BP ?_)));exact xe hf ⟨_,om,xv,(by have h1:=(QK (QK fr hx ⟨om,om⟩ L[k].f.toNat).1 hx ⟨om,om⟩ L[k].t.toNat).2;intro j;have h2:=h1 j;rw[Int.natCast_succ];exact⟨Int.le_trans om h2.1,Int.le_trans h2.2 om⟩),xz⟩
  ·refine xo (BO (BO ?_));rcases Bool.eq_false_or_eq_true (decide ((l2.length:Int)>1))with cs|cs
   ·have hq:1<l2.length:=by simp at cs;omega
    obtain⟨b,o,rfl⟩:=hD.blk om;have q0:=(hD.ext (kH.trans he)).two (l2.length - 1) om;have q1:=(hD.ext (kH.trans he)).two 1 om;have lb:=Bd hf q0;have r0:=d8.at (show l2.length - 1<l2.length from om);have r1:=d8.at hq;generalize l2[l2.length - 1]=x0 at*;generalize l2[1]=x1 at*;have e5:IntKind.wrap .i64 ((l2.length:Int) - 1)=((l2.length - 1:Nat):Int):=by rw[Cd];omega
    have e6:IntKind.wrap .i64 ((n:Int) - 1)=((n - 1:Nat):Int):=by rw[Cd];omega
    have e7:Int.toNat 1=1:=rfl;have hx2:0<=x1%3/\x1%3<=2:=om;refine BQ ?_;have fz:=ai e7 (ai e6 (ai e5 (ai q1 (ai q0 (ai @Ol.eq_1 (ai cs (ai c2 (ai bs (ai b1 (ai b0 (ai h7 (ai uz (ai gz (ai @Uu (ai @Int.toNat_zero (ai @TN (ai @OV @HZ)))))))))))))))));iterate 13 first|refine xq ?_|refine xg ?_
    refine BP (xi (fun c4=> ?_) fun c4=> ?_)
    ·refine BO (BQ ?_);have fz:=ai c4 fz;refine Dk (BP (BO (BQ ?_)));refine Dk ?_;refine xq ?_;refine xs fun hf=> ?_
     refine BP (BQ (Dk ?_));refine B0 ?_;refine xs fun hf=> ?_
     refine BP (BO (BQ (xq ?_)));refine xs fun hf=> ?_
     refine BP (BT (rt ?_));exact Ch rfl xv (MU kH xx xv kB hn7 hm (by first|exact fun j=>by have:=fr j;omega|(have h1:=(QK (QK fr hx2 ⟨om,om⟩ 0).1 hx2 ⟨om,om⟩ (n - 1)).2;intro j;have h2:=h1 j;exact⟨Int.le_trans om h2.1,Int.le_trans h2.2 om⟩)) hsa hlv)
    ·refine BR (BO (BQ ?_));have fz:=ai c4 fz;refine xq ?_;refine xs fun hf=> ?_
     refine BP (BT (rt ?_));exact Ch rfl xv (MU kH xx xv kB hn7 hm (by first|exact fun j=>by have:=fr j;omega|(have h1:=(QK (QK fr hx2 ⟨om,om⟩ 0).1 hx2 ⟨om,om⟩ (n - 1)).2;intro j;have h2:=h1 j;exact⟨Int.le_trans om h2.1,Int.le_trans h2.2 om⟩)) hsa hlv)
   ·refine BQ ?_;have fz:=ai cs (ai c2 (ai bs (ai b1 (ai b0 (ai h7 (ai uz (ai gz (ai @Uu (ai @Int.toNat_zero (ai @TN (ai @OV @HZ)))))))))));iterate 13 first|refine xq ?_|refine lE ?_
    refine BP (xF (BR (BO (BQ ?_))));refine xq ?_;refine xs fun hf=> ?_
    refine BP (BT (rt ?_));exact Ch rfl xv (MU kH xx xv kB hn7 hm (by first|exact fun j=>by have:=fr j;omega|(have h1:=(QK (QK fr hx2 ⟨om,om⟩ 0).1 hx2 ⟨om,om⟩ (n - 1)).2;intro j;have h2:=h1 j;exact⟨Int.le_trans om h2.1,Int.le_trans h2.2 om⟩)) hsa hlv)
end
section
variable{d n:Nat}{B D:Option Addr}{H:Hp}
theorem lO{m:Nat}{A:Option Addr}{c:Nat}(hn:n<1152921504606846976)(hm:m<1152921504606846976):Pure 5 [.agg #[.slice A n c,.slice B m d]] (.int .i64 ((n:Int)+2*(m:Int))) H:=by
 refine Pure.of rfl (BV Tryz.func5 rfl 11 rfl fun nf t hf _ ht=> ?_);have hf0:=hf;refine BO (BQ ?_);have fz:=(ht 0 _ rfl);refine xa fun hf=> ?_
 refine xq (BP (BO (BQ ?_)));refine Dk ?_;refine B0 (BP (BT (rt ?_)));exact BW rfl ⟨by(simp(disch:=omega)only[wx,fz]<;>rfl),xx⟩
theorem Z2{kd:Int}{F P Y:Option Addr}{fl pl sl yl cf cp cs cy:Nat}(h1:fl<1152921504606846976)(h2:pl<1152921504606846976)(h3:sl<1152921504606846976)(h4:yl<1152921504606846976):Pure 6 [.agg #[.int .i64 kd,.slice F fl cf,.slice P pl cp,.slice D sl cs,.slice Y yl cy]] (.int .i64 ((fl:Int)+pl+sl+yl)) H:=by
 refine Pure.of rfl (BV Tryz.func6 rfl 18 rfl fun nf t hf _ ht=> ?_);have hf0:=hf;refine BO (BQ ?_);have fz:=(ht 0 _ rfl);refine xa fun hf=> ?_
 refine xq (BP (BO (BQ ?_)));iterate 16 refine xq ?_
 refine BP (BT (rt ?_));exact BW rfl ⟨by(simp(disch:=omega)only[wx,fz]<;>rfl),xx⟩
variable{l:List Int}
theorem fm{A:Option Addr}{c:Nat}(hA:Rd 1 Ol H A l)(h8:U8 l)(hn:n<1000000)(hl:l.length<4611686018427387904):Ct 22 [.slice A l.length c,.int .i64 (n:Int)] (fun v H'=>∃x:List Bool,Nw H H' 1 v (x.flatMap boolC) x.length/\x.length<=n) H:=by
 refine BV Tryz.func22 rfl 28 rfl fun nf t hf hsc ht=> ?_
 have hf0:=hf;refine BO (BQ ?_);have fz:=ai (ht 1 _ rfl) (ht 0 _ rfl);refine xq (BP (BO (BQ ?_)));refine xq (BP (BO (BO (BQ ?_))));refine xq (BP (BS ?_));refine By fun T1 hT=> ?_
 have gz:=ai (xt (hT 5)) (ai (xt (hT 6)) (ai (xt (hT 1)) (ai (xt (hT 0)) trivial)));clear hT;refine xl n nf H hf (fun k t nf1 G=>∃(v:Value) (zs:List Bool),zs.length=k/\GS G 1 v (zs.flatMap boolC) k/\(∀b,GSb v b->H b=none)/\(t 0=T1 0/\t 1=T1 1)/\t 6= .int .i64 (k:Int)/\t 5=v) ⟨.slice none 0 0,[],rfl,GS.nil _ _,(fun b h=>(Bo b h).elim),xh⟩ ?_;rintro k t nf1 G hk1 hn1 hf he ⟨v,zs,xl,gs,gn,uz,h6,h5⟩;have hfl:=hf;refine BO (BO (BQ ?_));have fz:=ai h5 (ai h6 (ai uz (ai gz (ai @HZ @oM))));iterate 9 first|refine xq ?_|refine xg ?_
 refine BP (xi (fun c1=> ?_) fun c1=> ?_)
 ·refine BR (BO (BS (BQ ?_)));have hr:k<n/\k<l.length:=by simp only[AA,BE]at c1;omega
  obtain⟨b,o,eA,ho⟩:=(hA.ext he) k hr.2;have lb:=Bd hf ho;have r0:=h8.at hr.2;obtain⟨y,ey⟩:∃y,y=(l[k]%3==0):=⟨_,rfl⟩;have ey:=ey.symm;have fz:=ai ey (ai ho (ai eA (ai @Ol.eq_1 (ai c1 fz))));refine Dk ?_;refine xq ?_;refine xa fun hf=> ?_
  refine FU (ys:=boolC y) hf rfl xv Wv (gs.keep fun b hb=>by have:=hfl.lt (gs.live hb);simp(disch:=omega)only[Bn]) dZ (Bu xv rfl dZ) ⟨_,_,_,rfl,rfl⟩ rfl dZ rfl om om fun v2 G2 gs2 fr hf gb=> ?_
  have he:=Ext.fr xx (hf0 _ om) gn fr;refine xq (BP (BQ ?_));refine B0 (BP ?_);exact xe hf ⟨v2,zs++[y],(by rw[AN,xl];rfl),gs2.grow (y:=y) rfl,(fun b h=>hf0 b (by have:=gb b h;omega)),xz⟩
 ·refine xo (BO (BQ ?_));have fz:=ai c1 fz;refine Ba (BP (BT (rt ?_)));exact BW rfl (by simp(disch:=omega)only[wx,fz];exact⟨zs,⟨he,by rw[xl];exact gs,gn⟩,om⟩)
theorem qS{A:Option Addr}{c:Nat}(hA:Rd 1 Ol H A l)(h8:U8 l)(hn:n<1000000)(hl:l.length<4611686018427387904):Ct 21 [.slice A l.length c,.int .i64 (n:Int)] (fun v H'=>∃x:List Int,Nw H H' 1 v (x.flatMap intC) x.length/\x.length=n/\∀a∈x,R64 a) H:=by
 refine BV Tryz.func21 rfl 29 rfl fun nf t hf hsc ht=> ?_
 have hf0:=hf;refine BO (BQ ?_);have fz:=ai (ht 1 _ rfl) (ht 0 _ rfl);refine xq (BP (BO (BQ ?_)));refine xq (BP (BO (BO (BQ ?_))));refine xq (BP (BS ?_));refine By fun T1 hT=> ?_
 have gz:=ai (xt (hT 5)) (ai (xt (hT 6)) (ai (xt (hT 1)) (ai (xt (hT 0)) trivial)));clear hT;refine xl n nf H hf (fun k t nf1 G=>∃(v:Value) (zs:List Int),zs.length=k/\GS G 1 v (zs.flatMap intC) k/\(∀b,GSb v b->H b=none)/\(∀a∈zs,R64 a)/\(t 0=T1 0/\t 1=T1 1)/\t 6= .int .i64 (k:Int)/\t 5=v) ⟨.slice none 0 0,[],rfl,GS.nil _ _,(fun b h=>(Bo b h).elim),(fun a h=>by cases h),xh⟩ ?_;rintro k t nf1 G hk1 hn1 hf he ⟨v,zs,xl,gs,gn,zsP,uz,h6,h5⟩;have hfl:=hf;refine BO (BO (BQ ?_));have fz:=ai h5 (ai h6 (ai uz (ai gz (ai @HZ @NZ))));refine B0 (BP ?_);refine C8 (fun c1=> ?_) fun c1=> ?_
 ·refine BR (BO (BS (BO (BQ ?_))));have fz:=ai c1 fz;refine xq (BP ?_);refine By fun J1 hT=> ?_
  have j1_0:=xt (hT 0);have j1_1:=xt (hT 1);have j1_6:=xt (hT 6);have gz:=ai j1_6 (ai j1_1 (ai j1_0 gz));have j1_5:=xt (hT 5);have j1_7:=xt (hT 7);refine Od (fun Af G=>∃(t:Nat->Value) (nj1:Nat) (y:Int),Af=⟨29,t,[]⟩/\nf<=nj1/\Fr G nj1/\Ext H G/\R64 y/\GS G 1 v (zs.flatMap intC) k/\t 0=J1 0/\t 1=J1 1/\t 6=J1 6/\t 7= .int .i64 y/\t 5=v) ?_ ?_
  ·refine BO (BQ ?_);have fz:=ai j1_7 (ai j1_5 (ai j1_6 (ai j1_1 (ai j1_0 fz))));refine Dv (BP ?_);refine C8 (fun c2=> ?_) fun c2=> ?_
   ·obtain⟨b,o,eA,ho⟩:=(hA.ext he) k om;have lb:=Bd hf ho;have r0:=h8.at (show k<l.length from om);refine BQ ?_;have fz:=ai ho (ai eA (ai @Ol.eq_1 (ai c2 fz)));refine Dk ?_;refine Ba (BP ?_);exact⟨_,_,l[k]%25 - 8,rfl,om,hf,xx,⟨om,om⟩,gs,by and_intros<;>first|rfl|(simp(disch:=omega)only[wx,fz,gz]<;>rfl)⟩
   ·refine BR ?_;have fz:=ai c2 fz;exact⟨_,_,0,rfl,om,hf,xx,⟨dZ,dZ⟩,gs,by and_intros<;>first|rfl|(simp(disch:=omega)only[wx,fz,gz]<;>rfl)⟩
  ·rintro Af G ⟨t,nj1,y,rfl,hnnj1,hf,he,hy,gs,u0,u1,u6,h7,h5⟩;have hfl:=hf;refine BQ ?_;have fz:=ai h5 (ai h7 (ai (u6.trans j1_6) (ai (u1.trans j1_1) (ai (u0.trans j1_0) (ai @HZ @NZ)))));refine Ba ?_;refine xa fun hf=> ?_
   refine FU (ys:=intC y) hf rfl xv I3 (gs.keep fun b hb=>by have:=hfl.lt (gs.live hb);simp(disch:=omega)only[Bn]) dZ (Bu xv rfl dZ) ⟨_,_,_,rfl,rfl⟩ rfl dZ rfl om om fun v2 G2 gs2 fr hf gb=> ?_
   have he:=Ext.fr xx (hf0 _ om) gn fr;refine xq (BP (BQ ?_));refine B0 (BP ?_);exact xe hf ⟨v2,zs++[y],(by rw[AN,xl];rfl),gs2.grow (y:=y) rfl,(fun b h=>hf0 b (by have:=gb b h;omega)),Ft zsP hy,xz⟩
 ·refine xo (BO (BQ ?_));have fz:=ai c1 (ai h5 (ai h6 (ai uz (ai gz (ai @HZ @NZ)))));refine Ba (BP (BT (rt ?_)));exact BW rfl (by simp(disch:=omega)only[wx,fz];exact⟨zs,⟨he,by rw[xl];exact gs,gn⟩,om,zsP⟩)
set_option maxHeartbeats 800000 in
theorem KV{S:List Int}{L:List Ar}{A:Option Addr}{c cd:Nat}(hB:Rd 5 Ar.c H B L)(hc:∀a∈L,R64 a.lo/\R64 a.ca)(hL:L.length<1000000)(hD:Rd 1 Ol H D l)(h8:U8 l)(hl:l.length<4611686018427387904):Ct 12 [.agg #[.slice A S.length c,.slice B L.length d],.slice D l.length cd] (fun v H'=>∃x:List Int,Nw H H' 1 v (x.flatMap intC) x.length/\x.length=L.length/\∀a∈x,R64 a) H:=by
 refine BV Tryz.func12 rfl 46 rfl fun nf t hf hsc ht=> ?_
 have hf0:=hf;refine BO (BQ ?_);have fz:=ai (ht 1 _ rfl) (ht 0 _ rfl);refine xa fun hf=> ?_
 refine xq (BP (BO (BQ ?_)));refine xq (BP (BO (BO (BQ ?_))));refine xq (BP (BS ?_));refine By fun T1 hT=> ?_
 have gz:=ai (xt (hT 5)) (ai (xt (hT 6)) (ai (xt (hT 2)) (ai (xt (hT 1)) trivial)));clear hT;refine xl L.length nf H hf (fun k t nf1 G=>∃(v:Value) (zs:List Int),zs.length=k/\GS G 1 v (zs.flatMap intC) k/\(∀b,GSb v b->H b=none/\nf<b)/\(∀a∈zs,R64 a)/\(t 1=T1 1/\t 2=T1 2)/\t 6= .int .i64 (k:Int)/\t 5=v/\G nf=some (.own [.slice A S.length c,.slice B L.length d])) ⟨.slice none 0 0,[],rfl,GS.nil _ _,(fun b h=>(Bo b h).elim),(fun a h=>by cases h),xh⟩ ?_;rintro k t nf1 G hk1 hn1 hf he ⟨v,zs,xl,gs,gn,zsP,uz,h6,h5,b0⟩;have hfl:=hf;have l0:=hf.lt b0;refine BO (BO (BQ ?_));have fz:=ai b0 (ai h5 (ai h6 (ai uz (ai gz (ai @Uu (ai @HZ @NZ))))));refine Eg (BP ?_);refine C8 (fun c1=> ?_) fun c1=> ?_
 ·refine BR (BO (BS (BO (BQ ?_))));have hk:k<L.length:=om;obtain⟨b,o,eB,ho⟩:=(hB.ext he) k hk;have lb:=Bd hf ho;have hca:=hc _ (AM hk);have fz:=ai ho (ai eB (ai c1 fz));refine Eg ?_;refine xa fun hf=> ?_
  refine xs fun hf=> ?_
  refine BP (BO (BQ (B0 (BP ?_))));refine By fun J1 hT=> ?_
  have j1_1:=xt (hT 1);have j1_2:=xt (hT 2);have j1_6:=xt (hT 6);have gz:=ai j1_6 (ai j1_2 (ai j1_1 gz));have j1_5:=xt (hT 5);have j1_7:=xt (hT 7);have j1_8:=xt (hT 8);refine Od (fun Af G=>∃(t:Nat->Value) (nj1:Nat) (y:Int),Af=⟨46,t,[]⟩/\nf<=nj1/\Fr G nj1/\Ext H G/\R64 y/\GS G 1 v (zs.flatMap intC) k/\t 1=J1 1/\t 2=J1 2/\t 6=J1 6/\t 8= .int .i64 y/\t 5=v/\G nf=some (.own [.slice A S.length c,.slice B L.length d])) ?_ ?_
  ·refine BO (BQ ?_);have fz:=ai j1_8 (ai j1_7 (ai j1_5 (ai j1_6 (ai j1_2 (ai j1_1 fz)))));refine Eg (BP ?_);refine C8 (fun c2=> ?_) fun c2=> ?_
   ·obtain⟨b2,o2,eD,hoD⟩:=(hD.ext he) (k+1) om;have lb2:=Bd hfl hoD;have r0:=h8.at (show k+1<l.length from om);generalize l[k+1]=x0 at*;have et1: ((k:Int)+1).toNat=k+1:=om;refine Bh [0,1,0,0,0,0,1,0,0,0,0,1,0,0] [0,1,2,3,4,5,6,7,8,9,10,11,12,13] kr hf ?_;have fz:=ai et1 (ai hoD (ai eD (ai @Ol.eq_1 (ai c2 fz))));iterate 14 first|refine CA ?_|refine Cq ?_
    refine BX ?_;exact⟨_,_,(if L[k].ca<IntKind.wrap .i64 (L[k].lo+x0%4)then L[k].ca else IntKind.wrap .i64 (L[k].lo+x0%4)),rfl,om,hf,xx,(by split;exact hca.2;exact xD _),(gs.keep fun b hb=>by have:=hfl.lt (gs.live hb);simp(disch:=omega)only[Bn]),by and_intros<;>first|rfl|(simp(disch:=omega)only[wx,fz,gz]<;>rfl)⟩
   ·refine BR ?_;have fz:=ai c2 fz;exact⟨_,_,L[k].lo,rfl,om,hf,xx,hca.1,(gs.keep fun b hb=>by have:=hfl.lt (gs.live hb);simp(disch:=omega)only[Bn]),by and_intros<;>first|rfl|(simp(disch:=omega)only[wx,fz,gz]<;>rfl)⟩
  ·rintro Af G ⟨t,nj1,y,rfl,hnnj1,hf,he,hy,gs,u1,u2,u6,h8,h5,b0⟩;have hfl:=hf;have l0:=hf.lt b0;refine BQ ?_;have fz:=ai b0 (ai h5 (ai h8 (ai (u6.trans j1_6) (ai (u2.trans j1_2) (ai (u1.trans j1_1) (ai @Uu (ai @HZ @NZ)))))));refine Ba ?_;refine xa fun hf=> ?_
   refine FU (ys:=intC y) hf rfl xv I3 (gs.keep fun b hb=>by have:=hfl.lt (gs.live hb);simp(disch:=omega)only[Bn]) dZ (Bu xv rfl dZ) ⟨_,_,_,rfl,rfl⟩ rfl dZ rfl om om fun v2 G2 gs2 fr hf gb=> ?_
   have he:=Ext.fr xx (hf0 _ om) (fun b h=>(gn b h).1) fr;have b1:=(fr nf om (fun h=>by have:=(gn _ h).2;omega)).trans xv;have fz:=ai b1 fz;refine xq (BP (BQ ?_));refine B0 (BP ?_);exact xe hf ⟨v2,zs++[y],(by rw[AN,xl];rfl),gs2.grow (y:=y) rfl,(fun b h=>⟨hf0 b (by have:=gb b h;omega),by have:=gb b h;omega⟩),Ft zsP hy,xz⟩
 ·refine xo (BO (BQ ?_));have fz:=ai c1 (ai b0 (ai h5 (ai h6 (ai uz (ai gz (ai @Uu (ai @HZ @NZ)))))));refine Ba (BP (BT (rt ?_)));exact BW rfl (by simp(disch:=omega)only[wx,fz];exact⟨zs,⟨he,by rw[xl];exact gs,fun b h=>(gn b h).1⟩,om,zsP⟩)
end
theorem Rd.nil{α:Type}(s:Nat)(f:α->List Value)(H:Hp):Rd s f H none []:=fun k hk=>absurd hk (Aj k)
def cW(H H':Hp)(v:Value):Prop:=Ext H H'/\∃(kd:Int) (x p:List Int) (s:List Bool) (l:List Int) (F P D Y:Option Addr) (cf cp cs cy:Nat),v= .agg #[.int .i64 kd,.slice F x.length cf,.slice P p.length cp,.slice D s.length cs,.slice Y l.length cy]/\Rd 1 intC H' F x/\Rd 1 intC H' P p/\Rd 1 boolC H' D s/\Rd 1 intC H' Y l/\(∀n∈x,R64 n)/\(∀n∈p,R64 n)/\x.length<1000/\p.length<1000/\s.length<1000/\l.length<1000
theorem DA{H H':Hp}{kd:Int}{x p:List Int}{s:List Bool}{l:List Int}{F P D Y:Option Addr}{fl pl sl yl cf cp cs cy:Nat}(e:Ext H H')(h1:Rd 1 intC H' F x)(h2:Rd 1 intC H' P p)(h3:Rd 1 boolC H' D s)(h4:Rd 1 intC H' Y l)(r1:∀n∈x,R64 n)(r2:∀n∈p,R64 n)(b1:x.length=fl/\fl<1000)(b2:p.length=pl/\pl<1000)(b3:s.length=sl/\sl<1000)(b4:l.length=yl/\yl<1000):cW H H' (.agg #[.int .i64 kd,.slice F fl cf,.slice P pl cp,.slice D sl cs,.slice Y yl cy]):=by
 obtain⟨rfl,b1⟩:=b1;obtain⟨rfl,b2⟩:=b2;obtain⟨rfl,b3⟩:=b3;obtain⟨rfl,b4⟩:=b4;exact⟨e,kd,x,p,s,l,F,P,D,Y,cf,cp,cs,cy,rfl,h1,h2,h3,h4,r1,r2,b1,b2,b3,b4⟩
theorem kJ(a:Int):B9 tz 29 [(0,.int .i64 a)]=some (.agg #[.int .i64 a,.slice none 0 0,.slice none 0 0,.slice none 0 0,.slice none 0 0]):=kr
theorem Wz(a b c d e x:Value):Cz [a,b,c,d,e] (0+0) [x]=[x,b,c,d,e]/\Cz [a,b,c,d,e] (0+1) [x]=[a,x,c,d,e]:=⟨rfl,rfl⟩
theorem ux{top:Bool}{ops:Array Oper}{l:List Oper}{Q:AF->Hp->Prop}{N nf:Nat}{t:Nat->Value}{ds:List Deferred}{H:Hp}{o:Oper}{d ty s by' k n b:Nat}{x:Value}{xs ys:List Value}(hf:Fr H nf)(hc:ck N o=some d)(hop:hop tz H nf (eT t) o.op=B5 tz H nf ty ty (.slice (some ⟨b,0,none⟩) n n) x)(ht:Na ty s by')(g:H b=some (.own xs))(hxs:xs.length=n*s)(hs:Nat.blt 0 s&&Nat.blt s 1000)(hx:ER H s k x=some ys)(hxv:∃a c m,x= .slice a k c/\m=c)(ho:ys.all (·.oneCell')=true)(hk:k≠0)(h0:n≠0)(hy:ys.length=k*s)(hb: (2*(n+k)+1000)*by'<=281474976710656)(hn:n+k<1000000)
  (K:GS (upd H nf (some (.own (xs++ys)))) s (.slice (some ⟨nf,0,none⟩) (n+k) (CJ+s)) (xs++ys) (n+k)->Fr (upd H nf (some (.own (xs++ys)))) (nf+1)->WL top ops l Q ⟨N,st t d (.slice (some ⟨nf,0,none⟩) (n+k) (CJ+s)),ds⟩ (upd H nf (some (.own (xs++ys))))):WL top ops (o::l) Q ⟨N,t,ds⟩ H:=by
 obtain⟨hd,hN,hx',hg⟩:=M0 hc;rw[AA,Nat.blt_eq,Nat.blt_eq]at hs;have hlen: (xs++ys).length=(n+k)*s:=by rw[AN,hxs,hy,Nat.add_mul]
 obtain⟨e,q,h1,h2,rfl,rfl⟩:=ht.ex;obtain⟨a,c,_,rfl,_⟩:=hxv;have hq0:q.size≠0:=om;have hu:n<CJ:=by unfold CJ;omega
 have hl:ld H ⟨b,0,none⟩ (n*q.size)=some xs:=by
  rw[OA,g,Ez,if_pos om,List.drop_zero,<-hxs,List.take_length]
 have ea:B5 tz H nf ty ty (.slice (some ⟨b,0,none⟩) n n) (.slice a k c)=some (.slice (some ⟨nf,0,none⟩) (n+k) (CJ+q.size),[(nf,.own (xs++ys))]):=by
  unfold B5;simp only[Ag,h1,h2,hx,ho];unfold K5;dsimp only;rw[if_neg hk,if_neg om,if_pos ⟨hb,om,hq0⟩,if_neg om,hl];dsimp only;rw[if_pos hu]
 refine CL hx' (BY hg _) (WOp.hop Cv Ce hf.at (hop.trans ea) ?_);rw[hd,CT hN];exact K ⟨hlen,.inr ⟨nf,rfl,BU _ _ _⟩⟩ (hf.new _)
section
variable{ops:Array Oper}{n nf:Nat}{ds:List Deferred}{t:Nat->Value}{H G:Hp}{cls l:List Nat}{Rf:Nat->Hp->Value->Hp->Prop}{B:Hp}{n0:Nat}{Q:AF->Hp->Prop}{i:Nat}{o:Oper}
noncomputable def Xq(ops:Array Oper)(cls:List Nat)(i:Nat):Option (Oper×Nat):=match LE ops.toList i with
 |some o=>match o.dst,o.guard with
  |some d,none=>bif Nat.beq (Bm cls i) 2 then some (o,d)else none
  |_,_=>none
 |none=>none
theorem Pg{d:Nat}(h:Xq ops cls i=some (o,d)):ops[i]? =some o/\Bm cls i=2/\o.dst=some d/\o.guard=none:=by
 unfold Xq at h;split at h
 ·rename_i o' ho;split at h
  ·rename_i d' h1 h2;cases hb:Nat.beq (Bm cls i) 2 with
   |false=>rw[hb]at h;cases h
   |true=>
    rw[hb]at h;cases h
    exact⟨by rw[<-Ae,<-PK];exact ho,AE hb,h1,h2⟩
  ·cases h
 ·cases h
theorem xr{d:Nat}{v:Value}(hk:Xq ops cls i=some (o,d))(h:∀nf1,hop tz G nf1 (eT t) o.op=some (v,[]))(k:∀nf',nf<=nf'->Fr G nf'->WD ops (Bm cls) n ds Rf B n0 Q l (st t d v) G G nf'):WD ops (Bm cls) n ds Rf B n0 Q (i::l) t H G nf:=by
 obtain⟨ho,hc,hd,hg⟩:=Pg hk;refine⟨o,ho,?_⟩;rw[hc];intro nf1 hl hf;refine⟨BY hg _,WOp.hop Cv Ce hf.at (h nf1) ?_⟩;unfold pt;rw[hd];exact⟨nf1,hf,k nf1 hl hf⟩
theorem xm{d b:Nat}{v:Value}{x y:AB}(hk:Xq ops cls i=some (o,d))(h:∀nf1,hop tz G nf1 (eT t) o.op=some (v,[(b,x)]))(hb:G b=some y)(k:∀nf',nf<=nf'->Fr (upd G b (some x)) nf'->WD ops (Bm cls) n ds Rf B n0 Q l (st t d v) (upd G b (some x)) (upd G b (some x)) nf'):WD ops (Bm cls) n ds Rf B n0 Q (i::l) t H G nf:=by
 obtain⟨ho,hc,hd,hg⟩:=Pg hk;refine⟨o,ho,?_⟩;rw[hc];intro nf1 hl hf;refine⟨BY hg _,WOp.hop Cv Ce hf.at (h nf1) ?_⟩;unfold pt;rw[hd];exact⟨nf1,hf.old hb x,k nf1 hl (hf.old hb x)⟩
end
theorem SmA.loR{n:Int}{a:Ar}(h:SmA n a):R64 a.lo:=by have:=h.lo;unfold R64;omega
theorem SmA.caR{n:Int}{a:Ar}(h:SmA n a):R64 a.ca:=by have:=h.ca;unfold R64;omega
theorem SmA.coR{n:Int}{a:Ar}(h:SmA n a):R64 a.co:=by have:=h.co;unfold R64;omega
theorem Sp{G H1:Hp}(e:Ext G H1){b a:Nat}{y:AB}(h:G b=none)(ha:G a=some y):b≠a:=fun e=>by rw[e,ha]at h;cases h
theorem JG{α:Type}{s:Nat}{f:α->List Value}{H H1:Hp}{z a b:Nat}{l:List α}{A:Option Addr}(hE:Ext H H1)(ha:H a=none)(hb:H b=none)(hf:Fr H1 z)(hA:Rd s f H1 A l)(hn:∀q o,A=some ⟨q,o,none⟩->q≠a/\q≠b):∃K,Ext H K/\Ext K H1/\(∀q,z<=q\/q=a\/q=b->K q=none)/\Rd s f K A l:=by
 obtain⟨K,k1,k2,k3,k4,k5⟩:=bk (fun c=>c=a\/c=b) hE (fun c h=>by rcases h with rfl|rfl<;>assumption) hf;refine⟨K,k1,k2,fun q h=>h.elim (k4 q) (k3 q),fun k hk=> ?_⟩;obtain⟨b',o,e,h⟩:=hA k hk;have h2:=hn b' o e;exact⟨b',o,e,by rw[k5 b' fun h'=>h'.elim h2.1 h2.2];exact h⟩
theorem mJ{α:Type}{G H':Hp}{s n c:Nat}{f:α->List Value}{A:Option Addr}{l:List α}{xs:List Value}(g:GS G s (.slice A n c) xs n)(hx:xs=l.flatMap f)(hl:l.length=n)(hf1:∀x,(f x).length=s)(k:∀b,GSb (.slice A n c) b->H' b=G b):Rd s f H' A l:=by
 subst hx;subst hl;obtain⟨A',c',e,h⟩:=(g.keep k).rd hf1;cases e
 exact h
theorem Oy{H:Hp}{b:Nat}{l:List Bool}(h:H b=some (.own (l.flatMap boolC))):Rd 1 boolC H (some ⟨b,0,none⟩) l:=fun k hk=>⟨b,0,rfl,by
 have hl: (l.flatMap boolC).length=l.length*1:=Fm (f:=boolC) (fun _=>rfl) l;rw[h,Ez,AW,if_pos (by rw[hl];omega),LX (f:=boolC) (fun _=>rfl)]⟩
section
variable{ops:Array Oper}{N nf:Nat}{ds:List Deferred}{t:Nat->Value}{H G:Hp}{cls l:List Nat}{Rf:Nat->Hp->Value->Hp->Prop}{B:Hp}{n0:Nat}{Q:AF->Hp->Prop}{i:Nat}{o:Oper}
theorem vy{d ty s by' k n:Nat}{v x:Value}{xs ys:List Value}(hk2:Xq ops cls i=some (o,d))(hop:∀nf1,hop tz G nf1 (eT t) o.op=B5 tz G nf1 ty ty v x)(ht:Na ty s by')(g:GS G s v xs n)(hs:Nat.blt 0 s&&Nat.blt s 1000)(hx:ER G s k x=some ys)(hxv:∃a c m,x= .slice a k c/\m=c)(ho:ys.all (·.oneCell')=true)(hk:k≠0)(hy:ys.length=k*s)(hb: (2*(n+k)+1000)*by'<=281474976710656)(hn:n+k<4611686018427387904)
  (K:∀v' G' nf',nf<=nf'->GS G' s v' (xs++ys) (n+k)->(∀c,c≠nf'->¬GSb v c->G' c=G c)->Fr G' (nf'+1)->(∀c,GSb v' c->c=nf')->WD ops (Bm cls) N ds Rf B n0 Q l (st t d v') G' G' (nf'+1)):WD ops (Bm cls) N ds Rf B n0 Q (i::l) t H G nf:=by
 obtain⟨ho',hc,hd,hg⟩:=Pg hk2;rw[AA,Nat.blt_eq,Nat.blt_eq]at hs;have hlen: (xs++ys).length=(n+k)*s:=by rw[AN,g.1,hy,Nat.add_mul]
 refine⟨o,ho',?_⟩;rw[hc];intro nf1 hl hf;refine⟨BY hg _,?_⟩;rcases Po (nf:=nf1) ht g om hs.2 hx hxv ho hk hy hb hn with⟨rfl,rfl,e⟩|⟨b,rfl,hb2,e⟩
 ·refine WOp.hop Cv Ce hf.at ((hop nf1).trans e) ?_;unfold pt;rw[hd];refine⟨nf1+1,hf.new _,K _ _ nf1 hl ⟨hlen,.inr ⟨nf1,rfl,BU _ _ _⟩⟩ (fun c hc _=>upd_ne hc) (hf.new _) ?_⟩;rintro c ⟨_,_,_,e⟩;cases e;rfl
 ·refine WOp.hop Cv Ce hf.at ((hop nf1).trans e) ?_;unfold pt;rw[hd];have hlt:=hf.lt hb2;have hF:Fr (upd (upd G nf1 (some (.own (xs++ys)))) b (some .dead)) (nf1+1):=(hf.new (.own (xs++ys))).old (b:=b) (y:= .own xs) (by rw[upd_ne om];exact hb2) _;refine⟨nf1+1,hF,K _ _ nf1 hl ⟨hlen,.inr ⟨nf1,rfl,?_⟩⟩ (fun c hc hn=> ?_) hF ?_⟩
  ·show upd (upd G nf1 _) b _ nf1=_
   rw[upd_ne om,BU]
  ·show upd (upd G nf1 _) b _ c=_
   rw[upd_ne (fun e=>hn ⟨_,_,_,by rw[e]⟩),upd_ne hc]
  ·rintro c ⟨_,_,_,e⟩;cases e;rfl
end
theorem cH(n:Nat):ar n (fun _=>false)=(List.replicate n false).flatMap boolC:=by
 induction n with
 |zero=>rfl
 |succ n ih=>rw[DR,ih,List.replicate_succ',BF];rfl
theorem Gh(l:List Bool):l.flatMap boolC=l.map Value.bool:=by
 induction l with
 |nil=>rfl
 |cons x l ih=>rw[List.flatMap_cons,ih];rfl
theorem ny{H:Hp}{b n:Nat}{s x:List Bool}{v:Value}(hb:H b=some (.own (s.flatMap boolC)))(hs:s.length=n)(g:GS H 1 v (x.flatMap boolC) x.length)(hx:x.length<=n):∃u,Gq tz H 26 (.slice (some ⟨b,0,none⟩) n n) v=some (u,[])\/∃s':List Bool,s'.length=n/\Gq tz H 26 (.slice (some ⟨b,0,none⟩) n n) v=some (u,[(b,.own (s'.flatMap boolC))]):=by
 obtain⟨e,q,h1,h2,h3,h4⟩:=Wv.ex;obtain⟨g1,⟨h5,rfl⟩|⟨bx,rfl,g2⟩⟩:=g
 ·refine⟨.int .i64 0,.inl ?_⟩;unfold Gq;simp only[h1,h2];unfold Ng;dsimp only;rw[if_pos om]
 ·by_cases h0:x.length=0
  ·refine⟨.int .i64 0,.inl ?_⟩;unfold Gq;simp only[h1,h2];unfold Ng;dsimp only;rw[if_pos om]
  ·refine⟨.int .i64 (x.length:Nat),.inr ⟨x++s.drop x.length,by rw[AN,List.length_drop];omega,?_⟩⟩;unfold Gq;simp only[h1,h2];unfold Ng;dsimp only;rw[if_neg om,h3,Nat.min_eq_left hx];have hr:ER H 1 x.length (.slice (some ⟨bx,0,none⟩) x.length (CJ+1))=some (x.flatMap boolC):=Ht h0 (AH _) (by rw[g2,Ez,if_pos om,List.drop_zero,<-g1,List.take_length]);rw[hr];dsimp only;have ho: (x.flatMap boolC).all (·.oneCell')=true:=by rw[Gh];simp[Value.oneCell']
   rw[if_pos ho];unfold P5;dsimp only;rw[hb];dsimp only;rw[if_pos (by rw[Gh,Gh,BM,BM];omega)];simp only[AU];have es:Cz (s.flatMap boolC) 0 (x.flatMap boolC)=(x++s.drop x.length).flatMap boolC:=by
    unfold Cz;rw[Gh,Gh,Gh,List.map_append,List.map_drop];simp
   rw[es]
theorem upd_same{α:Type}{f:Nat->α}{k:Nat}{x:α}(h:f k=x):upd f k x=f:=by
 funext j;by_cases e:j=k
 ·subst e;rw[BU,h]
 ·rw[upd_ne e]
section
variable{ops:Array Oper}{N nf:Nat}{ds:List Deferred}{t:Nat->Value}{H G:Hp}{cls l:List Nat}{Rf:Nat->Hp->Value->Hp->Prop}{B:Hp}{n0:Nat}{Q:AF->Hp->Prop}{i:Nat}{o:Oper}
theorem sf {d b n:Nat} {s x:List Bool} {v:Value} (hk:Xq ops cls i=some (o,d)) (h:∀nf1,hop tz G nf1 (eT t) o.op=Gq tz G 26 (.slice (some ⟨b,0,none⟩) n n) v) (hb:G b=some (.own (s.flatMap boolC))) (hs:s.length=n) (g:GS G 1 v (x.flatMap boolC) x.length) (hx:x.length<=n) (k:∀(u:Value) (s':List Bool) (nf':Nat),s'.length=n->nf<=nf'->Fr (upd G b (some (.own (s'.flatMap boolC)))) nf'->WD ops (Bm cls) N ds Rf B n0 Q l (st t d u) (upd G b (some (.own (s'.flatMap boolC)))) (upd G b (some (.own (s'.flatMap boolC)))) nf'):WD ops (Bm cls) N ds Rf B n0 Q (i::l) t H G nf:=by
 obtain⟨u,e|⟨s',hs',e⟩⟩:=ny hb hs g hx
 ·refine xr hk (fun nf1=>(h nf1).trans e) fun nf' hl hf=> ?_
  have h1:=k u s nf' hs hl;rw[upd_same hb]at h1;exact h1 hf
 ·exact xm hk (fun nf1=>(h nf1).trans e) hb fun nf' hl hf=>k u s' nf' hs' hl hf
end
set_option maxHeartbeats 4000000 in
theorem oF{S:List Int}{L:List Ar}{l2 l3:List Int}{A B D E:Option Addr}{c d cd ce:Nat}{H:Hp}{kd:Int}(hA:Rd 1 intC H A S)(hB:Rd 5 Ar.c H B L)(hs:SmI S L)(hk:0<=kd/\kd<256)(hD:Rd 1 Ol H D l2)(d8:U8 l2)(hd:l2.length<4611686018427387904)(hU:Rd 1 Ol H E l3)(e8:U8 l3)(he3:l3.length<4611686018427387904):Ct 9 [.agg #[.slice A S.length c,.slice B L.length d],.int .u8 kd,.slice D l2.length cd,.slice E l3.length ce] (fun v H'=>cW H H' v) H:=by
 refine BV Tryz.func9 rfl 98 rfl fun nf t hf hsc ht=> ?_
 have hf0:=hf;have hsn:=hs.n;have hsm:=hs.m;refine BO (BQ ?_);have fz:=ai @LG (ai @NZ (ai @oM (ai @Wz (ai @lM (ai @uW (ai @mL (ai @HZ (ai @kJ (ai (ht 3 _ rfl) (ai (ht 2 _ rfl) (ai (ht 1 _ rfl) (ht 0 _ rfl))))))))))));refine xa fun hf=> ?_
 refine xa fun hf=> ?_
 refine BP (BO (BQ (Eg ?_)));refine xa fun hf=> ?_
 refine xs fun hf=> ?_
 refine BP (BO (BO (BQ (Ba (BP (BS (BO (BQ ?_))))))));refine Ba (BP ?_);refine HR (fun c1=> ?_) fun c1=> ?_
 ·refine BO (BQ ?_);have fz:=ai c1 fz;refine Ba ?_;refine xc (h:=KV (S:=S) (A:=A) (c:=c) (hB.ext xx) (fun a h=>⟨(hs.a a h).loR,(hs.a a h).caR⟩) (by have:=hs.m;omega) (hD.ext xx) d8 hd) (k:=fun v1 H1 z lz0 q1 hf=> ?_);obtain⟨x,⟨e1,g1,n1⟩,hlx,rx⟩:=q1;have nq:=fun b h=>(⟨Sp e1 (n1 b h) (a:=nf) xv,Sp e1 (n1 b h) (a:=nf+1) xv,Sp e1 (n1 b h) (a:=nf+1+1) xv⟩:b≠nf/\b≠nf+1/\b≠nf+1+1)
  obtain⟨F,cF,rfl,hF⟩:=g1.rd (f:=intC) (fun _=>rfl);have p0:=e1 nf _ xv;have p1:=e1 (nf+1) _ xv;have p2:=e1 (nf+1+1) _ xv;have hz:=hf;have lz:=hz.lt p2;obtain⟨K,kH,he,hq0,kF⟩:=JG (a:=nf+1) (b:=nf+1+1) (Ext.trans xx e1) (hf0 _ om) (hf0 _ om) hz hF (fun q o e=>(nq q ⟨_,_,_,by rw[e]⟩).2);have hf1:=hf0;have hf0:=hq0;have fz:=ai p2 (ai p1 (ai p0 fz));refine xq ?_;refine xs fun hf=> ?_
  refine BP (BQ (Dv ?_));refine xc (h:=qS (hU.ext (Ext.trans kH xx)) e8 (by have:=hs.n;omega) he3) (k:=fun v1 H1 z2 lz2 q1 hf=> ?_);obtain⟨y,⟨e1,g1,n1⟩,hly,ry⟩:=q1;have nq:=fun b h=>(⟨Sp e1 (n1 b h) (a:=nf) xv,Sp e1 (n1 b h) (a:=nf+1) xv,Sp e1 (n1 b h) (a:=nf+1+1) xv⟩:b≠nf/\b≠nf+1/\b≠nf+1+1)
  have nP:=fun b h=>(⟨Ext.none xx (n1 b h),nq b h⟩:K b=none/\b≠nf/\b≠nf+1/\b≠nf+1+1)
  have gP:=g1;obtain⟨P,cP,rfl,hP⟩:=g1.rd (f:=intC) (fun _=>rfl);have m0:=e1 nf _ xv;have m1:=e1 (nf+1) _ xv;have m2:=e1 (nf+1+1) _ xv;have hz:=hf;have lz:=hz.lt m2;obtain⟨K2,kH2,he,hq0,kP⟩:=JG (a:=nf+1) (b:=nf+1+1) (Ext.trans xx e1) (hf0 _ om) (hf0 _ om) hz hP (fun q o e=>(nq q ⟨_,_,_,by rw[e]⟩).2);have hf1:=hf0;have hf0:=hq0;have fz:=ai m2 (ai m1 (ai m0 fz));refine xq ?_;refine xs fun hf=> ?_
  refine BP (BO (BO (BQ (B0 (BP (BS (BO (BQ ?_))))))));refine Ba (BP ?_);refine HR (fun c2=> ?_) fun c2=> ?_
  ·refine BQ ?_;have fz:=ai c2 fz;refine Ba ?_;refine xa fun hf=> ?_
   refine FU (ys:=boolC true) hf rfl xv Wv (GS.nil _ _) dZ (Bu xv rfl dZ) ⟨_,_,_,rfl,rfl⟩ rfl dZ rfl om om fun v2 G2 gs2 fr hf gb=> ?_
   obtain⟨A2,c2,rfl⟩:=gs2.shape;have he:=Ext.fr xx (hf0 _ om) (fun b h=>(Bo b h).elim) fr;have w1:=(fr (nf+1) om (Bo _)).trans xv;have w2:=(fr (nf+1+1) om (Bo _)).trans xv;have fz:=ai w2 (ai w1 fz);refine xq ?_;refine xs fun hf=> ?_
   refine BP (BO (BQ (xq ?_)));refine xs fun hf=> ?_
   refine BP (BT (rt ?_));exact Ch rfl xv (DA (Ext.trans kH (Ext.trans kH2 xx)) (kF.ext (Ext.trans kH2 xx)) (kP.ext xx) (mJ (l:=[true]) gs2 rfl rfl (fun _=>rfl) fun b hb=>by have:=gb b hb;simp(disch:=omega)only[Bn]) (Rd.nil _ _ _) rx ry ⟨rfl,by have:=hs.m;omega⟩ ⟨rfl,by have:=hs.n;omega⟩ ⟨rfl,dZ⟩ ⟨rfl,dZ⟩)
  ·refine BO (BQ ?_);have fz:=ai c2 fz;refine Ba (BP ?_);refine HR (fun c3=> ?_) fun c3=> ?_
   ·refine BQ ?_;have fz:=ai c3 fz;refine Ba ?_;refine xa fun hf=> ?_
    refine FU (ys:=intC 1) hf rfl xv I3 (gP.keep fun b hb=>by have:=nP b hb;have:=hz.lt (gP.live hb);simp(disch:=omega)only[Bn]) dZ (Bu xv rfl dZ) ⟨_,_,_,rfl,rfl⟩ rfl dZ rfl om om fun v2 G2 gs2 fr hf gb=> ?_
    obtain⟨A2,c2,rfl⟩:=gs2.shape;have he:=Ext.fr (Ext.trans kH2 xx) (hf1 _ om) (fun b h=>(nP b h).1) fr;have w1:=(fr (nf+1) om (fun h=>absurd rfl (nP _ h).2.2.1)).trans xv;have w2:=(fr (nf+1+1) om (fun h=>absurd rfl (nP _ h).2.2.2)).trans xv;have hf0:=hf1;have fz:=ai w2 (ai w1 fz);refine xq ?_;refine xs fun hf=> ?_
    refine BP (BO (BQ (xq ?_)));refine xs fun hf=> ?_
    refine BP (BT (rt ?_));exact Ch rfl xv (DA (Ext.trans kH xx) (kF.ext xx) (mJ (l:=y++[1]) gs2 (by rw[BF];rfl) (by rw[AN];rfl) (fun _=>rfl) fun b hb=>by have:=gb b hb;simp(disch:=omega)only[Bn]) (Rd.nil _ _ _) (Rd.nil _ _ _) rx (Ft ry ⟨dZ,dZ⟩) ⟨rfl,by have:=hs.m;omega⟩ ⟨by rw[AN];rfl,by have:=hs.n;omega⟩ ⟨rfl,dZ⟩ ⟨rfl,dZ⟩)
   ·refine BO (BQ ?_);have fz:=ai c3 fz;refine Ba (BP ?_);refine HR (fun c4=> ?_) fun c4=> ?_
    ·refine BQ ?_;have fz:=ai c4 fz;refine Dv ?_;refine xs fun hf=> ?_
     refine BP (BO (BQ (xq ?_)));refine xs fun hf=> ?_
     refine BP (BT (rt ?_));exact Ch rfl xv (DA (Ext.trans kH (Ext.trans kH2 xx)) (kF.ext (Ext.trans kH2 xx)) (kP.ext xx) (Rd.nil _ _ _) (Rd.nil _ _ _) rx ry ⟨rfl,by have:=hs.m;omega⟩ ⟨rfl,by have:=hs.n;omega⟩ ⟨rfl,dZ⟩ ⟨rfl,dZ⟩)
    ·refine BR (BO (BQ ?_));have fz:=ai c4 fz;refine xq ?_;refine xs fun hf=> ?_
     refine BP (BT (rt ?_));exact Ch rfl xv (DA (Ext.trans kH (Ext.trans kH2 xx)) (kF.ext (Ext.trans kH2 xx)) (kP.ext xx) (Rd.nil _ _ _) (Rd.nil _ _ _) rx ry ⟨rfl,by have:=hs.m;omega⟩ ⟨rfl,by have:=hs.n;omega⟩ ⟨rfl,dZ⟩ ⟨rfl,dZ⟩)
 ·refine BO (BQ ?_);have fz:=ai c1 fz;refine Ba (BP ?_);refine HR (fun c5=> ?_) fun c5=> ?_
  ·refine BO (BQ ?_);have fz:=ai c5 fz;refine B0 ?_;refine xa fun hf=> ?_
   refine xq ?_;refine xs fun hf=> ?_
   refine BP (Bh [0,1,0,0,1,0,3,2] [0,1,2,3,4,5,6,7] kr hf ?_);iterate 6 first|refine CA ?_|refine Cq ?_
   refine dm rfl (by(repeat refine Ext.up (hf _ om) ?_);exact Ext.refl _) xv (fm (hU.ext xx) e8 (by have:=hs.n;omega) he3) (fun _ _ q=>q.choose_spec.1.1) fun v1 H1 z lz0 q1 hf=> ?_
   obtain⟨x,⟨e1,g1,n1⟩,hxl⟩:=q1;have p0:=e1 nf _ xv;have p1:=e1 (nf+1) _ xv;have p2:=e1 (nf+1+1) _ xv;have p3:=e1 (nf+1+1+1) _ xv;have hz:=hf;have lz:=hz.lt p3;have he:=Ext.trans xx e1;rw[cH]at p3;have hsn:=hs.n;have fz:=ai p3 (ai p2 (ai p1 (ai p0 fz)));refine sf (b:=nf+1+1+1) (n:=S.length) rfl (fun nf1=>xv) p3 (by simp) g1 hxl fun u s' nf2 hs' hl2 hf=> ?_
   refine BX (BO (BO (BQ (B0 (BP (BS (BO (BQ ?_))))))));refine Ba (BP ?_);refine HR (fun c6=> ?_) fun c6=> ?_
   ·refine BQ ?_;have fz:=ai c6 fz;refine Ba ?_;refine xa fun hf=> ?_
    refine ux (ys:=boolC true) (xs:=s'.flatMap boolC) (b:=nf+1+1+1) hf rfl xv Wv xv (by rw[Fm (f:=boolC) (fun _=>rfl),hs']) dZ (Bu xv rfl dZ) ⟨_,_,_,rfl,rfl⟩ rfl dZ om rfl om om fun gs2 hf=> ?_
    refine xq ?_;refine xs fun hf=> ?_
    refine BP (BO (BQ (xq ?_)));refine xs fun hf=> ?_
    refine BP (BT (rt ?_));exact Ch rfl xv (DA xx (Rd.nil _ _ _) (Rd.nil _ _ _) (mJ (l:=s'++[true]) gs2 (by rw[BF];rfl) (by rw[AN,hs'];rfl) (fun _=>rfl) fun b hb=>by obtain⟨_,_,_,e⟩:=hb;cases e;simp(disch:=omega)only[Bn]) (Rd.nil _ _ _) (fun n h=>by cases h) (fun n h=>by cases h) ⟨rfl,dZ⟩ ⟨rfl,dZ⟩ ⟨by rw[AN,hs'];rfl,by have:=hs.n;omega⟩ ⟨rfl,dZ⟩)
   ·refine BO (BQ ?_);have fz:=ai c6 fz;refine Ba (BP ?_);refine HR (fun c7=> ?_) fun c7=> ?_
    ·refine BQ ?_;have fz:=ai c7 fz;refine Ba ?_;refine xa fun hf=> ?_
     refine FU (ys:=intC 1) hf rfl xv I3 (GS.nil _ _) dZ (Bu xv rfl dZ) ⟨_,_,_,rfl,rfl⟩ rfl dZ rfl om om fun v2 G2 gs2 fr hf gb=> ?_
     obtain⟨A2,c2,rfl⟩:=gs2.shape;have he:=Ext.fr xx (hf0 _ om) (fun b h=>(Bo b h).elim) fr;have w1:=(fr (nf+1) om (Bo _)).trans xv;have w2:=(fr (nf+1+1) om (Bo _)).trans xv;have w3:=(fr (nf+1+1+1) om (Bo _)).trans xv;have fz:=ai w3 (ai w2 (ai w1 fz));refine xq ?_;refine xs fun hf=> ?_
     refine BP (BO (BQ (xq ?_)));refine xs fun hf=> ?_
     refine BP (BT (rt ?_));exact Ch rfl xv (DA xx (Rd.nil _ _ _) (mJ (l:=[1]) gs2 rfl rfl (fun _=>rfl) fun b hb=>by have:=gb b hb;simp(disch:=omega)only[Bn]) (Oy xv) (Rd.nil _ _ _) (fun n h=>by cases h) (fun n h=>by rw[List.mem_singleton.1 h];exact⟨dZ,dZ⟩) ⟨rfl,dZ⟩ ⟨rfl,dZ⟩ ⟨hs',by have:=hs.n;omega⟩ ⟨rfl,dZ⟩)
    ·refine BO (BQ ?_);have fz:=ai c7 fz;refine Ba (BP ?_);refine HR (fun c8=> ?_) fun c8=> ?_
     ·refine BQ ?_;have fz:=ai c8 fz;refine Dv ?_;refine xs fun hf=> ?_
      refine BP (BO (BQ (xq ?_)));refine xs fun hf=> ?_
      refine BP (BT (rt ?_));exact Ch rfl xv (DA xx (Rd.nil _ _ _) (Rd.nil _ _ _) (Oy xv) (Rd.nil _ _ _) (fun n h=>by cases h) (fun n h=>by cases h) ⟨rfl,dZ⟩ ⟨rfl,dZ⟩ ⟨hs',by have:=hs.n;omega⟩ ⟨rfl,dZ⟩)
     ·refine BR (BO (BQ ?_));have fz:=ai c8 fz;refine xq ?_;refine xs fun hf=> ?_
      refine BP (BT (rt ?_));exact Ch rfl xv (DA xx (Rd.nil _ _ _) (Rd.nil _ _ _) (Oy xv) (Rd.nil _ _ _) (fun n h=>by cases h) (fun n h=>by cases h) ⟨rfl,dZ⟩ ⟨rfl,dZ⟩ ⟨hs',by have:=hs.n;omega⟩ ⟨rfl,dZ⟩)
  ·refine BO (BQ ?_);have fz:=ai c5 fz;refine Ba ?_;refine xc (h:=KV (S:=S) (A:=A) (c:=c) (hB.ext xx) (fun a h=>⟨(hs.a a h).loR,(hs.a a h).caR⟩) (by have:=hs.m;omega) (hD.ext xx) d8 hd) (k:=fun v1 H1 z lz0 q1 hf=> ?_);obtain⟨x,⟨e1,g1,n1⟩,hlx,rx⟩:=q1;have nq:=fun b h=>(⟨Sp e1 (n1 b h) (a:=nf) xv,Sp e1 (n1 b h) (a:=nf+1) xv,Sp e1 (n1 b h) (a:=nf+1+1) xv⟩:b≠nf/\b≠nf+1/\b≠nf+1+1)
   obtain⟨F,cF,rfl,hF⟩:=g1.rd (f:=intC) (fun _=>rfl);have p0:=e1 nf _ xv;have p1:=e1 (nf+1) _ xv;have p2:=e1 (nf+1+1) _ xv;have hz:=hf;have lz:=hz.lt p2;obtain⟨K,kH,he,hq0,kF⟩:=JG (a:=nf+1) (b:=nf+1+1) (Ext.trans xx e1) (hf0 _ om) (hf0 _ om) hz hF (fun q o e=>(nq q ⟨_,_,_,by rw[e]⟩).2);have hf1:=hf0;have hf0:=hq0;have fz:=ai p2 (ai p1 (ai p0 fz));refine xq ?_;refine xs fun hf=> ?_
   refine BP (BO (BQ (xq (BP (BS ?_)))));refine By fun T1 hT=> ?_
   have gz:=ai (xt (hT 10)) (ai (xt (hT 9)) (ai (xt (hT 8)) (ai (xt (hT 4)) (ai (xt (hT 3)) (ai (xt (hT 1)) trivial)))));clear hT;refine xl 4 nf K hf (fun k t nf1 G=>∃(v:Value) (zs:List Int),z<=nf1/\zs.length=k/\GS G 1 v (zs.flatMap intC) k/\(∀b,GSb v b->K b=none/\z<=b)/\(t 1=T1 1/\t 3=T1 3/\t 4=T1 4/\t 8=T1 8/\t 9=T1 9)/\t 10= .int .i64 (k:Int)/\G nf=some (.own [.slice A S.length c,.slice B L.length d])/\G (nf+1)=some (.own [.int .i64 0,.slice none 0 0,.slice none 0 0,.slice none 0 0,.slice none 0 0])/\G (nf+1+1)=some (.own [.int .i64 (1+kd%3),.slice F x.length cF,.slice none 0 0,.slice none 0 0,v])) ⟨.slice none 0 0,[],om,rfl,GS.nil _ _,(fun b h=>(Bo b h).elim),xh⟩ ?_;rintro k t nf1 G hk1 hn1 hf he ⟨v,zs,hz1,xl,gs,gn,uz,h10,b0,b1,b2⟩;have hfl:=hf;have l0:=hf.lt b0;have l1:=hf.lt b1;have l2:=hf.lt b2;refine BO (BO (BQ ?_));have fz:=ai b2 (ai b1 (ai b0 (ai h10 (ai uz (ai gz (ai @LG (ai @NZ (ai @oM (ai @Wz (ai @lM (ai @uW (ai @mL (ai @HZ @kJ)))))))))))));iterate 8 first|refine xq ?_|refine xg ?_
   refine BP (xi (fun c9=> ?_) fun c9=> ?_)
   ·refine BR (BO (BS (Bh [0,1,0,0,0,1,0,0,1,0,0,0,4,2,0,2] [0,1,2,3,4,5,6,7,8,9,10,11,12,13,14,15] kr hf ?_)));have hr:k<l3.length/\k<4:=by simp only[AA,BE]at c9;omega
    obtain⟨b,o,eE,ho⟩:=(hU.ext (Ext.trans kH he)) k hr.1;have lb:=Bd hf ho;have r0:=e8.at hr.1;have hr4:=hr.2;have fz:=ai ho (ai eE (ai @Ol.eq_1 (ai c9 fz)));iterate 12 first|refine CA ?_|refine Cq ?_
    refine Wr ?_;refine vy (ys:=intC (l3[k]%((L.length:Int)+1))) rfl (fun nf1=>xv) QP (gs.keep fun b hb=>by have:=hfl.lt (gs.live hb);simp(disch:=omega)only[Bn]) dZ (Bu xv rfl dZ) ⟨_,_,_,rfl,rfl⟩ rfl dZ rfl om om fun v2 G2 nf2 hl2 gs2 fr hf gb=> ?_
    obtain⟨A2,c2,rfl⟩:=gs2.shape;have he:=Ext.fr xx (hf0 _ om) (fun b h=>(gn b h).1) fr;have w0:=(fr nf om (fun h=>by have:=(gn _ h).2;omega)).trans xv;have w1:=(fr (nf+1) om (fun h=>by have:=(gn _ h).2;omega)).trans xv;have w2:=(fr (nf+1+1) om (fun h=>by have:=(gn _ h).2;omega)).trans xv;have fz:=ai w2 (ai w1 (ai w0 fz));refine CA ?_;refine Fx fun nf6 hl6 hf=> ?_
    refine BX (BQ (B0 (BP ?_)));exact xe hf ⟨_,zs++[_],om,(by rw[AN,xl];rfl),((gs2.grow rfl).keep fun b hb=>by have:=gb b hb;simp(disch:=omega)only[Bn]),(fun b h=>⟨hf0 b (by have:=gb b h;omega),by have:=gb b h;omega⟩),xz⟩
   ·subst xl;obtain⟨Y,cY,rfl,hY⟩:=GS.rd (f:=intC) (fun _=>rfl) gs;obtain⟨K3,kH3,he3,hq3,kY⟩:=JG (a:=nf+1) (b:=nf+1+1) he (hf0 _ om) (hf0 _ om) hf hY (fun q o e=>by have:=(gn q ⟨_,_,_,by rw[e]⟩).2;omega);have he:=he3;have hf0:=hq3;refine xo (BO (BO (BQ ?_)));have fz:=ai c9 fz;refine B0 (BP (BS (BO (BQ ?_))));refine Ba (BP ?_);refine HR (fun c10=> ?_) fun c10=> ?_
    ·refine BQ ?_;have fz:=ai c10 fz;refine Ba ?_;refine xa fun hf=> ?_
     refine FU (ys:=boolC true) hf rfl xv Wv (GS.nil _ _) dZ (Bu xv rfl dZ) ⟨_,_,_,rfl,rfl⟩ rfl dZ rfl om om fun v2 G2 gs2 fr hf gb=> ?_
     obtain⟨A2,c2,rfl⟩:=gs2.shape;have he:=Ext.fr xx (hf0 _ om) (fun b h=>(Bo b h).elim) fr;have w1:=(fr (nf+1) om (Bo _)).trans xv;have w2:=(fr (nf+1+1) om (Bo _)).trans xv;have fz:=ai w2 (ai w1 fz);refine xq ?_;refine xs fun hf=> ?_
     refine BP (BO (BQ (xq ?_)));refine xs fun hf=> ?_
     refine BP (BT (rt ?_));exact Ch rfl xv (DA (Ext.trans kH (Ext.trans kH3 xx)) (kF.ext (Ext.trans kH3 xx)) (Rd.nil _ _ _) (mJ (l:=[true]) gs2 rfl rfl (fun _=>rfl) fun b hb=>by have:=gb b hb;simp(disch:=omega)only[Bn]) (kY.ext xx) rx (fun n h=>by cases h) ⟨rfl,by have:=hs.m;omega⟩ ⟨rfl,dZ⟩ ⟨rfl,dZ⟩ ⟨rfl,om⟩)
    ·refine BO (BQ ?_);have fz:=ai c10 fz;refine Ba (BP ?_);refine HR (fun c11=> ?_) fun c11=> ?_
     ·refine BQ ?_;have fz:=ai c11 fz;refine Ba ?_;refine xa fun hf=> ?_
      refine FU (ys:=intC 1) hf rfl xv I3 (GS.nil _ _) dZ (Bu xv rfl dZ) ⟨_,_,_,rfl,rfl⟩ rfl dZ rfl om om fun v2 G2 gs2 fr hf gb=> ?_
      obtain⟨A2,c2,rfl⟩:=gs2.shape;have he:=Ext.fr xx (hf0 _ om) (fun b h=>(Bo b h).elim) fr;have w1:=(fr (nf+1) om (Bo _)).trans xv;have w2:=(fr (nf+1+1) om (Bo _)).trans xv;have fz:=ai w2 (ai w1 fz);refine xq ?_;refine xs fun hf=> ?_
      refine BP (BO (BQ (xq ?_)));refine xs fun hf=> ?_
      refine BP (BT (rt ?_));exact Ch rfl xv (DA (Ext.trans kH (Ext.trans kH3 xx)) (kF.ext (Ext.trans kH3 xx)) (mJ (l:=[1]) gs2 rfl rfl (fun _=>rfl) fun b hb=>by have:=gb b hb;simp(disch:=omega)only[Bn]) (Rd.nil _ _ _) (kY.ext xx) rx (fun n h=>by rw[List.mem_singleton.1 h];exact⟨dZ,dZ⟩) ⟨rfl,by have:=hs.m;omega⟩ ⟨rfl,dZ⟩ ⟨rfl,dZ⟩ ⟨rfl,om⟩)
     ·refine BO (BQ ?_);have fz:=ai c11 fz;refine Ba (BP ?_);refine HR (fun c12=> ?_) fun c12=> ?_
      ·refine BQ ?_;have fz:=ai c12 fz;refine Dv ?_;refine xs fun hf=> ?_
       refine BP (BO (BQ (xq ?_)));refine xs fun hf=> ?_
       refine BP (BT (rt ?_));exact Ch rfl xv (DA (Ext.trans kH (Ext.trans kH3 xx)) (kF.ext (Ext.trans kH3 xx)) (Rd.nil _ _ _) (Rd.nil _ _ _) (kY.ext xx) rx (fun n h=>by cases h) ⟨rfl,by have:=hs.m;omega⟩ ⟨rfl,dZ⟩ ⟨rfl,dZ⟩ ⟨rfl,om⟩)
      ·refine BR (BO (BQ ?_));have fz:=ai c12 fz;refine xq ?_;refine xs fun hf=> ?_
       refine BP (BT (rt ?_));exact Ch rfl xv (DA (Ext.trans kH (Ext.trans kH3 xx)) (kF.ext (Ext.trans kH3 xx)) (Rd.nil _ _ _) (Rd.nil _ _ _) (kY.ext xx) rx (fun n h=>by cases h) ⟨rfl,by have:=hs.m;omega⟩ ⟨rfl,dZ⟩ ⟨rfl,dZ⟩ ⟨rfl,om⟩)
section
def sm(g:Nat->Int):Nat->Int
 |0=>0
 |n+1=>sm g n+g n
theorem DT{f g:Nat->Int}:∀{n:Nat},(∀k,k<n->f k=g k)->sm f n=sm g n
 |0,_=>rfl
 |n+1,h=>by rw[sm,sm,DT fun k hk=>h k om,h n om]
theorem Lw(f g:Nat->Int):∀n,sm (fun k=>f k+g k) n=sm f n+sm g n
 |0=>rfl
 |n+1=>by rw[sm,sm,sm,Lw f g n];omega
theorem Lu(f g:Nat->Int):∀n,sm (fun k=>f k - g k) n=sm f n - sm g n
 |0=>rfl
 |n+1=>by rw[sm,sm,sm,Lu f g n];omega
theorem i4{f g:Nat->Int}:∀{n:Nat},(∀k,k<n->f k<=g k)->sm f n<=sm g n
 |0,_=>Int.le_refl _
 |n+1,h=>by
  have h1:=i4 (n:=n) fun k hk=>h k om
  have h2:=h n om;show sm f n+f n<=sm g n+g n
  omega
theorem Uk(n:Nat):sm (fun _=>0) n=0:=by
 induction n with
 |zero=>rfl
 |succ n ih=>rw[sm,ih];rfl
theorem Lv(a:Nat)(c:Int):∀n,sm (fun j=>if(a:Int)=(j:Int)then c else 0) n=if a<n then c else 0
 |0=>rfl
 |n+1=>by
  rw[sm,Lv a c n];by_cases h:a<n
  ·rw[if_pos h,if_neg (show¬(a:Int)=(n:Int) from om),if_pos (show a<n+1 from om)];omega
  ·rw[if_neg h];by_cases h2:a=n
   ·subst h2;rw[if_pos rfl,if_pos (show a<a+1 from om)];omega
   ·rw[if_neg (show¬(a:Int)=(n:Int) from om),if_neg (show¬a<n+1 from om)];rfl
theorem Jk(L:List Ar)(x:List Int):I2 L x=sm (fun k=>(arcD L k).co*alongI x k) L.length:=by
 have key:∀k,k<=L.length->I2 L x=sm (fun k=>(arcD L k).co*alongI x k) k+Mx x (L.drop k) k:=by
  intro k;induction k with
  |zero=>intro _;rw[List.drop_zero];show I2 L x=0+Mx x L 0;unfold I2;omega
  |succ k ih=>
   intro hk;rw[ih om,Mw x L (show k<L.length from om),sm,Bk (show k<L.length from om)];omega
 rw[key _ (AH _),List.drop_length];show _+0=_
 omega
theorem weigh{N:Nat}{L:List Ar}(hE:∀k,k<L.length->ArOk N (arcD L k))(y:List Int)(π:Nat->Int):∀m,m<=L.length->sm (fun v=>π v*refN N L y v m) N=sm (fun k=>(π (arcD L k).f.toNat - π (arcD L k).t.toNat)*alongI y k) m
 |0,_=>by
  rw[sm];refine(DT (g:=fun _=>0) fun k _=> ?_).trans (Uk N);show π k*0=0
  omega
 |m+1,h=>by
  have ih:=weigh hE y π m om;have ho:=hE m om;obtain⟨f,ef⟩:=AI ho.f.1;obtain⟨t,et⟩:=AI ho.t.1;have hf:=ho.f.2;have ht:=ho.t.2;rw[ef]at hf;rw[et]at ht;have he:CG N (arcD L m)=true:=by unfold CG DS;rw[ef,et];simp;omega
  rw[sm,<-ih];have e1:∀v,π v*refN N L y v (m+1)=π v*refN N L y v m+(if(f:Int)=(v:Int)then π f*alongI y m else 0) - (if(t:Int)=(v:Int)then π t*alongI y m else 0):=by
   intro v;rw[refN,he,ef,et];simp only[true_and];have e2:∀a:Nat,(if(a:Int)=(v:Int)then π a*alongI y m else 0)=π v*(if(a:Int)=(v:Int)then alongI y m else 0):=fun a=>by
    by_cases h: (a:Int)=(v:Int)
    ·have h2:a=v:=om;rw[if_pos h,if_pos h,h2]
    ·rw[if_neg h,if_neg h];exact(Int.mul_zero _).symm
   rw[e2 f,e2 t,Int.mul_sub,Int.mul_add]
  rw[DT (g:=fun v=>π v*refN N L y v m+(if(f:Int)=(v:Int)then π f*alongI y m else 0) - (if(t:Int)=(v:Int)then π t*alongI y m else 0)) fun v _=>e1 v,Lu,Lw,Lv,Lv,if_pos om,if_pos om,ef,et,Aa,Aa,Int.sub_mul];omega
structure FitF(S:List Int)(L:List Ar)(y:List Int):Prop where
 r:rightI S L=0
 len:y.length=L.length
 b:∀k,k<L.length->fitB (arcD L k) (alongI y k)=true
 n:∀v,v<S.length->refN S.length L y v L.length=alongI S v
variable{S y:List Int}
theorem ZN{n:Nat}{L:List Ar}(hy:∀a∈y,R64 a)(v:Nat):∀m:Nat, -(18446744073709551616*(m:Int))<=refN n L y v m/\refN n L y v m<=18446744073709551616*(m:Int)
 |0=>by show -(18446744073709551616*((0:Nat):Int))<=0/\(0:Int)<=18446744073709551616*((0:Nat):Int);omega
 |m+1=>by
  have ih:=ZN (n:=n) (L:=L) hy v m;have h1:=CZ hy (m:Int);unfold R64 at h1;rw[refN];split<;>split<;>omega
theorem JZ{L:List Ar}(hS:∀a∈S,R64 a)(hy:∀a∈y,R64 a)(h:Cb S L y=0):FitF S L y:=by
 unfold Cb at h;by_cases h1:rightI S L=0
 ·rw[if_neg (fun h=>h h1)]at h;by_cases h2:y.length=L.length
  ·rw[if_neg (fun h=>h h2)]at h;by_cases h3:∃k,k<L.length/\fitB (arcD L k) (alongI y k)=false
   ·rw[if_pos h3]at h;cases h
   ·rw[if_neg h3]at h;by_cases h4:∃n,n<S.length/\dC (LA S.length L y L.length n).x (alongI S n)=false
    ·rw[if_pos h4]at h;cases h
    ·refine⟨h1,h2,fun k hk=> ?_,fun v hv=> ?_⟩
     ·cases e:fitB (arcD L k) (alongI y k)with
      |true=>rfl
      |false=>exact absurd ⟨k,hk,e⟩ h3
     ·have hb:=CW h1;have r1:=ZN (n:=S.length) (L:=L) hy v L.length;have r2:=CZ hS (v:Int);unfold R64 at r2;cases e:dC (LA S.length L y L.length v).x (alongI S v)with
      |false=>exact absurd ⟨v,hv,e⟩ h4
      |true=>
       rw[JF]at e;exact(uX om om).1 ((gj _ _).1 e)
  ·rw[if_pos h2]at h;cases h
 ·rw[if_pos h1]at h;exact absurd h h1
theorem FitF.end{L:List Ar}(h:FitF S L y):∀k,k<L.length->ArOk S.length (arcD L k):=fun k hk=>by
 rw[Bk hk];exact(HY h.r).1 _ (AM hk)
theorem FitF.weigh{L:List Ar}(h:FitF S L y)(π:Nat->Int):sm (fun k=>(π (arcD L k).f.toNat - π (arcD L k).t.toNat)*alongI y k) L.length=sm (fun v=>π v*alongI S v) S.length:=by
 rw[<-Go.Proofs.YtjlallgaadmeaaaGreatDoor.weigh h.end y π _ (AH _)];exact DT fun v hv=>by rw[h.n v hv]
theorem lT{a:Int}:sg a 0>0↔a>0:=by unfold sg;split<;>(try split)<;>omega
theorem Yt{a:Int}:sg a 0<0↔a<0:=by unfold sg;split<;>(try split)<;>omega
theorem Xn{L:List Ar}{x p:List Int}(hS:∀a∈S,R64 a)(hx:∀a∈x,R64 a)(hy:∀a∈y,R64 a)(h:CP S L x p=0)(hf:Cb S L y=0):I2 L x<=I2 L y:=by
 unfold CP at h;by_cases h1:Cb S L x=0
 ·rw[if_neg (fun h=>h h1)]at h;by_cases h2:p.length=S.length
  ·rw[if_neg (fun h=>h h2)]at h;by_cases h3:∃k,k<L.length/\LH S.length L x p k=true
   ·rw[if_pos h3]at h;cases h
   ·have fx:=JZ hS hx h1;have fy:=JZ hS hy hf;have wx:=fx.weigh fun v=>alongI p v
    have wy:=fy.weigh fun v=>alongI p v
    rw[Jk,Jk];have key:sm (fun k=>(arcD L k).co*alongI x k - (alongI p (arcD L k).f.toNat - alongI p (arcD L k).t.toNat)*alongI x k) L.length<=sm (fun k=>(arcD L k).co*alongI y k - (alongI p (arcD L k).f.toNat - alongI p (arcD L k).t.toNat)*alongI y k) L.length:=by
     refine i4 fun k hk=> ?_
     have ho:=fx.end k hk;have b1:=fx.b k hk;have b2:=fy.b k hk;have hb:LH S.length L x p k=false:=by
      cases e:LH S.length L x p k with
      |false=>rfl
      |true=>exact absurd ⟨k,hk,e⟩ h3
     rw[Wa fx.r x p hk (by rw[fx.len];exact hk),<-Bk hk,<-Bc x (show k<x.length by rw[fx.len];exact hk)]at hb;have e1:NS p (arcD L k)=(arcD L k).co - alongI p (arcD L k).f.toNat+alongI p (arcD L k).t.toNat:=by
      rw[Ox,Int.toNat_of_nonneg ho.f.1,Int.toNat_of_nonneg ho.t.1]
     unfold fitB at b1 b2;simp only[AA,A6,BE,beq_iff_eq,Bool.or_eq_false_iff,Bool.and_eq_false_iff,decide_eq_false_iff_not,bne_eq_false_iff_eq,beq_eq_false_iff_ne,lT,Yt]at b1 b2 hb;generalize NS p (arcD L k)=r at*;generalize alongI x k=u at*;generalize alongI y k=v at*;generalize alongI p (arcD L k).f.toNat=pf at*;generalize alongI p (arcD L k).t.toNat=pt at*;have e2:∀w,(arcD L k).co*w - (pf - pt)*w=r*w:=fun w=>by rw[e1,<-Int.sub_mul];congr 1;omega
     rw[e2,e2];rcases Int.lt_trichotomy r 0 with hr|hr|hr
     ·have h5:u=(arcD L k).ca/\(arcD L k).ca≠4611686018427387904:=by rcases hb.2 with h|h;exact absurd hr h;exact h
      have h6:v<=u:=by rcases b2.2 with h|h;exact absurd h h5.2;omega
      have h7:=Int.mul_le_mul_of_nonneg_left h6 (show 0<= -r from om);rw[Int.neg_mul,Int.neg_mul]at h7;omega
     ·rw[hr];omega
     ·have h5:u=(arcD L k).lo:=by rcases hb.1 with h|h;exact absurd hr h;exact h
      have h6:u<=v:=om;exact Int.mul_le_mul_of_nonneg_left h6 om
    rw[Lu,Lu,wx,wy]at key;omega
  ·rw[if_pos h2]at h;cases h
 ·rw[if_pos h1]at h;exact absurd h h1
end
section
def ind(b:Bool):Int:=if b=true then 1 else 0
theorem rR:ind true=1:=rfl
theorem rT:ind false=0:=rfl
theorem U1(S:List Int)(s:List Bool):∀k,DX S s k=sm (fun v=>ind (Ij s (v:Int))*alongI S v) k
 |0=>rfl
 |k+1=>by
  rw[DX,sm,<-U1 S s k];cases Ij s (k:Int)with
  |true=>rw[if_pos rfl,rR];omega
  |false=>rw[if_neg dZ,rT];omega
variable{S l y:List Int}{L:List Ar}
theorem bC{s:List Bool}(hS:∀a∈S,R64 a)(hy:∀a∈y,R64 a)(h:Ca S L s=0)(hf:Cb S L y=0):False:=by
 have fy:=JZ hS hy hf;unfold Ca at h;rw[if_neg (fun h=>h fy.r)]at h;by_cases h2:s.length=S.length
 ·rw[if_neg (fun h=>h h2)]at h;split at h
  ·cases h
  ·rename_i h3;simp only[A6,A7,BE,not_or,Bool.not_eq_false]at h3;obtain⟨h4,h5⟩:=h3;have h6:¬∃k,k<L.length/\He S.length s (arcD L k)=true:=by unfold Ig at h4;exact BA h4
   have e1:JD S.length L s=DV S.length L s L.length:=by unfold JD;rw[h4];rfl
   rw[e1]at h5;have w:=fy.weigh fun v=>ind (Ij s (v:Int))
   rw[<-U1]at w;have key:∀m,m<=L.length->sm (fun k=>(ind (Ij s ((arcD L k).f.toNat:Int)) - ind (Ij s ((arcD L k).t.toNat:Int)))*alongI y k) m<=DV S.length L s m:=by
    intro m;induction m with
    |zero=>intro _;exact Int.le_refl _
    |succ m ih=>
     intro hm;have ho:=fy.end m om;have hb:=fy.b m om;have hi:He S.length s (arcD L m)=false:=by
      cases e:He S.length s (arcD L m)with
      |false=>rfl
      |true=>exact absurd ⟨m,om,e⟩ h6
     have he:CG S.length (arcD L m)=true:=by have h1:=ho.f;have h2:=ho.t;unfold CG DS;simp;omega
     have ihm:=ih om;have e0:DV S.length L s (m+1)=DV S.length L s m+(if GD S.length s (arcD L m)=true then(if NP s (arcD L m)= -1 then -(arcD L m).lo else(arcD L m).ca)else 0):=by
      rw[DV];split
      ·split<;>omega
      ·omega
     have stp: (ind (Ij s (arcD L m).f) - ind (Ij s (arcD L m).t))*alongI y m<=(if GD S.length s (arcD L m)=true then(if NP s (arcD L m)= -1 then -(arcD L m).lo else(arcD L m).ca)else 0):=by
      unfold He GD at hi;unfold GD;unfold fitB at hb;rw[he]at hi⊢;unfold NP at*;simp only[AA,A6,BE,beq_iff_eq]at hb;generalize alongI y m=v at*;cases e2:Ij s (arcD L m).f<;>cases e3:Ij s (arcD L m).t<;>simp[e2,e3,ind]at hi⊢<;>omega
     rw[sm,e0,Int.toNat_of_nonneg ho.f.1,Int.toNat_of_nonneg ho.t.1];omega
   have:=key _ (AH _);rw[w]at this;unfold sg at h5;split at h5
   ·omega
   ·split at h5<;>omega
 ·rw[if_pos h2]at h;cases h
theorem Qg(g:Nat->Int):∀n,sm (fun i=>g (i+1)) n+g 0=sm g (n+1)
 |0=>by show 0+g 0=0+g 0;rfl
 |n+1=>by
  have:=Qg g n;rw[sm,sm,<-this];omega
theorem Yo(g:Nat->Int){n:Nat}(h:0<n):sm (fun i=>g ((i+1)%n)) n=sm g n:=by
 obtain⟨m,rfl⟩:∃m,n=m+1:=⟨n - 1,om⟩;rw[sm,Nat.mod_self,DT (g:=fun i=>g (i+1)) fun k hk=>by rw[Nat.mod_eq_of_lt om],Qg]
def Iw(l:List Int)(I k:Nat):Int:=sm (fun i=>if alongI l i=(k:Int)then 1 else 0) I
theorem RX(l:List Int)(k:Nat):∀I,0<=Iw l I k
 |0=>Int.le_refl _
 |I+1=>by
  have:=RX l k I;unfold Iw at*;rw[sm];split<;>omega
theorem WP(l:List Int)(k:Nat):∀I,Iw l I k≠0->∃i:Nat,i<I/\alongI l i=(k:Int)
 |0,h=>absurd rfl h
 |I+1,h=>by
  by_cases e:alongI l I=(k:Int)
  ·exact⟨I,om,e⟩
  ·obtain⟨i,h1,h2⟩:=WP l k I (fun h0=>h (by unfold Iw at*;rw[sm,h0,if_neg e];rfl));exact⟨i,om,h2⟩
theorem SQ(g:Nat->Int)(l:List Int){M:Nat}:∀I:Nat,(∀i:Nat,i<I->0<=alongI l i/\alongI l i<M)->sm (fun k=>g k*Iw l I k) M=sm (fun i=>g (alongI l i).toNat) I
 |0,_=>(DT (g:=fun _=>0) fun k _=>Int.mul_zero _).trans (Uk M)
 |I+1,h=>by
  rw[sm,<-SQ g l I fun i hi=>h i om];obtain⟨h1,h2⟩:=h I om;obtain⟨a,ea⟩:=AI h1;rw[ea]at h2;rw[ea,Aa,DT (g:=fun k=>g k*Iw l I k+(if(a:Int)=(k:Int)then g a else 0)) fun k _=> ?_,Lw,Lv,if_pos om];unfold Iw;rw[sm,ea,Int.mul_add];by_cases e: (a:Int)=(k:Int)
  ·have:a=k:=om;rw[if_pos e,if_pos e,this];omega
  ·rw[if_neg e,if_neg e];omega
def Ia(y l:List Int):Nat->Nat->Int
 |0=>fun j=>alongI y j
 |k+1=>up (Ia y l k) (alongI l k).toNat (Ia y l k (alongI l k).toNat+1)
theorem Rg(y l:List Int):∀I:Nat,(∀i:Nat,i<I->0<=alongI l i)->∀j,Ia y l I j=alongI y j+Iw l I j
 |0,_,j=>by show alongI y j=alongI y j+0;omega
 |I+1,h,j=>by
  have ih:=Rg y l I fun i hi=>h i om
  obtain⟨a,ea⟩:=AI (h I om);rw[Ia,ea,Aa];unfold up;have e3:Iw l (I+1) j=Iw l I j+(if(a:Int)=(j:Int)then 1 else 0):=by unfold Iw;rw[sm,ea]
  rw[e3];by_cases e:j=a
  ·subst e;rw[if_pos rfl,if_pos rfl,ih];omega
  ·rw[if_neg e,if_neg om,ih];omega
def Hl(y l:List Int)(m:Nat):List Int:=(List.range m).map (Ia y l l.length)
theorem Gk(y l:List Int)(m:Nat): (Hl y l m).length=m:=by simp[Hl]
theorem bT(y l:List Int){m k:Nat}(h:k<m):alongI (Hl y l m) (k:Int)=Ia y l l.length k:=by
 rw[Bc _ (by rw[Gk];exact h)];simp[Hl]
theorem QO(h:DK S L l=0):0<l.length/\l.length<=L.length/\(∀i:Nat,i<l.length->0<=alongI l i/\alongI l i<L.length)/\(∀i:Nat,i<l.length->(De L l i).t=(De L l ((i+1)%l.length)).f)/\(∀i:Nat,i<l.length->(De L l i).ca=4611686018427387904)/\Ej L l l.length<0:=by
 unfold DK at h;split at h
 ·rename_i h1;exact absurd h h1
 ·split at h
  ·cases h
  ·rename_i h2;split at h
   ·rename_i h3;have a0:Fy l.length (Ec L l)=true:=CO h3 (k:=0) dZ;have a2:Fy l.length (FJ L l)=true:=CO h3 (k:=2) dZ;have a3:=CO h3 (k:=3) dZ;have a4:=CO h3 (k:=4) dZ;refine⟨om,om,fun i hi=> ?_,fun i hi=>BA (CO a2 hi),fun i hi=>BA (CO a3 hi),Yt.1 (BA a4)⟩;have:=CO a0 hi;unfold Ec at this;simp only[AA,BE]at this;omega
   ·cases h
theorem Ub:∀I:Nat,(∀i:Nat,i<I->0<=alongI l i/\alongI l i<L.length)->Ej L l I=sm (fun i=>(arcD L (alongI l i).toNat).co) I
 |0,_=>rfl
 |I+1,h=>by
  have h1:=h I om;rw[Ej,sm,<-Ub I fun i hi=>h i om,if_pos (by simp;omega)]
theorem bB(hS:∀a∈S,R64 a)(hy:∀a∈y,R64 a)(h:DK S L l=0)(hf:Cb S L y=0):Cb S L (Hl y l L.length)=0/\I2 L (Hl y l L.length)<I2 L y:=by
 have fy:=JZ hS hy hf;obtain⟨h0,h1,h2,h3,h4,h5⟩:=QO h;have hb:∀k,k<L.length->alongI (Hl y l L.length) (k:Int)=alongI y k+Iw l l.length k:=fun k hk=>by
  rw[bT y l hk,Rg y l _ fun i hi=>(h2 i hi).1]
 have net:∀v,v<S.length->refN S.length L (Hl y l L.length) v L.length=refN S.length L y v L.length:=by
  intro v hv;have one:∀z:List Int,refN S.length L z v L.length=sm (fun k=>((if(v:Int)=(((arcD L k).f.toNat:Nat):Int)then 1 else 0) - (if(v:Int)=(((arcD L k).t.toNat:Nat):Int)then 1 else 0))*alongI z k) L.length:=by
   intro z;rw[<-weigh fy.end z (fun u=>if(v:Int)=(u:Int)then 1 else 0) _ (AH _),DT (g:=fun u=>if(v:Int)=(u:Int)then refN S.length L z v L.length else 0) fun u _=> ?_,Lv,if_pos hv];by_cases e: (v:Int)=(u:Int)
   ·have:v=u:=om;rw[if_pos e,if_pos e,this];omega
   ·rw[if_neg e,if_neg e];omega
  rw[one,one];have e1:sm (fun k=>((if(v:Int)=(((arcD L k).f.toNat:Nat):Int)then 1 else 0) - (if(v:Int)=(((arcD L k).t.toNat:Nat):Int)then 1 else 0))*alongI (Hl y l L.length) k) L.length=sm (fun k=>((if(v:Int)=(((arcD L k).f.toNat:Nat):Int)then 1 else 0) - (if(v:Int)=(((arcD L k).t.toNat:Nat):Int)then 1 else 0))*alongI y k+((if(v:Int)=(((arcD L k).f.toNat:Nat):Int)then 1 else 0) - (if(v:Int)=(((arcD L k).t.toNat:Nat):Int)then 1 else 0))*Iw l l.length k) L.length:=DT fun k hk=>by rw[hb k hk,Int.mul_add]
  rw[e1,Lw,SQ (fun k=>(if(v:Int)=(((arcD L k).f.toNat:Nat):Int)then 1 else 0) - (if(v:Int)=(((arcD L k).t.toNat:Nat):Int)then 1 else 0)) l _ h2,Lu];have e2:sm (fun i=>if(v:Int)=(((arcD L (alongI l i).toNat).t.toNat:Nat):Int)then(1:Int)else 0) l.length=sm (fun i=>if(v:Int)=(((arcD L (alongI l i).toNat).f.toNat:Nat):Int)then(1:Int)else 0) l.length:=by
   rw[<-Yo (fun i=>if(v:Int)=(((arcD L (alongI l i).toNat).f.toNat:Nat):Int)then(1:Int)else 0) h0];refine DT fun i hi=> ?_
   have:=h3 i hi;unfold De at this;rw[this]
  rw[e2];omega
 constructor
 ·unfold Cb;rw[if_neg (fun h=>h fy.r),if_neg (fun h=>h (Gk _ _ _)),if_neg,if_neg]
  ·rintro⟨v,hv,e⟩;rw[JF,net v hv,fy.n v hv]at e;unfold dC at e;simp at e
  ·rintro⟨k,hk,e⟩;rw[hb k hk]at e;have b0:=fy.b k hk;have hc:=RX l k l.length;by_cases e0:Iw l l.length k=0
   ·rw[e0,Int.add_zero,b0]at e;cases e
   ·obtain⟨i,hi,ei⟩:=WP l k _ e0;have:=h4 i hi;unfold De at this;rw[ei,Aa]at this;unfold fitB at b0 e;rw[this]at b0 e;simp at b0 e;omega
 ·rw[Jk,Jk,DT (g:=fun k=>(arcD L k).co*alongI y k+(arcD L k).co*Iw l l.length k) fun k hk=>by rw[hb k hk,Int.mul_add],Lw,SQ (fun k=>(arcD L k).co) l _ h2,<-Ub _ h2];omega
end
section
theorem OK(l:List Int):l.flatMap intC=l.map (Value.int .i64):=by
 induction l with
 |nil=>rfl
 |cons x l ih=>rw[List.flatMap_cons,ih];rfl
variable{l x:List Int}
theorem Rd.all{H:Hp}{A:Option Addr}(h:Rd 1 intC H A l)(hl:0<l.length):∃b o,A=some ⟨b,o,none⟩/\Cs (H b) o (l.length*1)=some (l.flatMap intC):=by
 obtain⟨b,o,rfl⟩:=h.blk hl;refine⟨b,o,rfl,?_⟩;have key:∀c:List Value,(∀k (hk:k<l.length),(if o+k*1+1<=c.length then some ((c.drop (o+k*1)).take 1)else none)=some (intC l[k]))->(if o+l.length*1<=c.length then some ((c.drop o).take (l.length*1))else none)=some (l.flatMap intC):=by
  intro c hc;have hle:o+l.length*1<=c.length:=by
   have:=hc (l.length - 1) om;split at this
   ·omega
   ·cases this
  rw[if_pos hle,OK];congr 1;refine List.ext_getElem? fun k=> ?_
  by_cases hk:k<l.length
  ·have:=hc k hk;rw[if_pos om]at this;have h1:=congrArg (fun z=>(z.getD [])[0]?) this;simp only[AQ,intC,AX]at h1;rw[List.getElem?_take_of_lt om,List.getElem?_drop]at h1;rw[List.getElem?_take_of_lt om,List.getElem?_drop,List.getElem?_map,AD hk];simpa using h1
  ·rw[Ap (by simp;omega),Ap (by simp;omega)]
 have hd:=fun k hk=>h.two k hk
 cases e:H b with
 |none=>have:=hd 0 hl;rw[e]at this;cases this
 |some z=>
  rw[e]at hd;cases z<;>first|exact key _ hd|(have:=hd 0 hl;cases this)
theorem JY(l:List Int):l.flatMap intC=ar l.length (fun j=>alongI l j):=by
 unfold ar;rw[OK];refine List.ext_getElem? fun k=> ?_
 have e: (List.range l.length).flatMap (fun k:Nat=>Cel.c (alongI l (k:Int)))=(List.range l.length).map fun k:Nat=>Value.int .i64 (alongI l (k:Int)):=by
  induction List.range l.length with
  |nil=>rfl
  |cons x r ih=>rw[List.flatMap_cons,ih];rfl
 rw[e];by_cases hk:k<l.length
 ·rw[List.getElem?_map,AD hk,List.getElem?_map,AD (by simpa using hk)];simp[Bc l hk]
 ·rw[Ap (by simp;omega),Ap (by simp;omega)]
theorem ql{a b A B:Int}(ha: -A<=a/\a<=A)(hb: -B<=b/\b<=B): -(A*B)<=a*b/\a*b<=A*B:=by
 have h:a.natAbs*b.natAbs<=A.natAbs*B.natAbs:=Nat.mul_le_mul om om;rw[<-Int.natAbs_mul,<-Int.natAbs_mul]at h;have:0<=A*B:=Int.mul_nonneg om om;omega
variable{L:List Ar}
theorem Pd{S:List Int}{y:List Int}(hr:rightI S L=0)(hy:∀a∈y,R64 a): -170141183460469231731687303715884105728<=I2 L y/\I2 L y<170141183460469231731687303715884105728:=by
 have key:∀m:Nat,m<=L.length-> -(4398046511104*9223372036854775808*(m:Int))<=sm (fun k=>(arcD L k).co*alongI y k) m/\sm (fun k=>(arcD L k).co*alongI y k) m<=4398046511104*9223372036854775808*(m:Int):=by
  intro m;induction m with
  |zero=>intro _;show -(4398046511104*9223372036854775808*((0:Nat):Int))<=0/\(0:Int)<=4398046511104*9223372036854775808*((0:Nat):Int);omega
  |succ m ih=>
   intro hm;have h1:=ih om;have ho:=(HY hr).1 _ (AM (show m<L.length from om));rw[<-Bk (show m<L.length from om)]at ho;have h2:=CZ hy (m:Int);unfold R64 at h2;have h3:=ql (a:=(arcD L m).co) (b:=alongI y m) (A:=4398046511104) (B:=9223372036854775808) ho.co om;rw[sm];omega
 have h1:=key _ (AH _);have h2:=(CW hr).2;rw[Jk];omega
theorem Xr{S:List Int}{kd:Int}{p:List Int}{s:List Bool}(h:C6 S L kd x p s l=0):rightI S L=0/\(kd=1/\CP S L x p=0\/kd=2/\Ca S L s=0\/kd=3/\DK S L l=0):=by
 unfold C6 at h;split at h
 ·rename_i h1;exact absurd h h1
 ·rename_i h1;refine⟨by simpa using h1,?_⟩;split at h
  ·cases h
  ·rename_i h2;have hk:=Qq (by simpa using h2);split at h
   ·rename_i h3;exact .inl ⟨h3,h⟩
   ·rename_i h3;split at h
    ·rename_i h4;exact .inr (.inl ⟨h4,h⟩)
    ·rename_i h4;refine .inr (.inr ⟨om,?_⟩);unfold Oz at h;split at h
     ·rename_i h5;exact absurd h h5
     ·exact h
variable{F:Option Addr}
theorem dO{kd:Int}{S:List Int}{A B P D Y:Option Addr}{c d pl sl yl cf cp cs cy:Nat}{H:Hp}(hB:Rd 5 Ar.c H B L)(hX:Rd 1 intC H F x)(hL:L.length<4611686018427387904)(hc:∀a∈L,R64 a.co)(hx:∀n∈x,R64 n):Pure 30 [.agg #[.slice A S.length c,.slice B L.length d],.agg #[.int .i64 kd,.slice F x.length cf,.slice P pl cp,.slice D sl cs,.slice Y yl cy]] (.tuple #[W (if kd=1 then I2 L x else 0),.bool (decide (kd=1))]) H:=by
 have h:=dP (kd:=kd) (S:=S) (A:=A) (P:=P) (D:=D) (Y:=Y) (c:=c) (d:=d) (pl:=pl) (sl:=sl) (yl:=yl) (cf:=cf) (cp:=cp) (cs:=cs) (cy:=cy) hB hX hL hc hx;by_cases e:kd=1
 ·rw[if_pos e]at h;rw[if_pos e,BH e];exact h
 ·rw[if_neg e]at h;rw[if_neg e,BI e];exact h
theorem qG{a b:Int}(h:a<=b):decide (sg a b<=0)=true:=BH (by unfold sg;split<;>(try split)<;>omega)
theorem qF{a b:Int}(h:a<b):decide (sg a b<0)=true:=BH (by unfold sg;split<;>(try split)<;>omega)
set_option maxHeartbeats 1600000 in
theorem Rr{S:List Int}{p:List Int}{s:List Bool}{A B P D Y:Option Addr}{kd:Int}{c d cf cp cs cy:Nat}{H:Hp}(hc:CIn H S L x p s l A B F P D Y)(hr:CR S L x p){y:List Int}{Z:Option Addr}{cz:Nat}(hZ:Rd 1 intC H Z y)(ry:∀n∈y,R64 n)(hy:y.length<4611686018427387904):Pure 11 [.agg #[.slice A S.length c,.slice B L.length d],.agg #[.int .i64 kd,.slice F x.length cf,.slice P p.length cp,.slice D s.length cs,.slice Y l.length cy],.slice Z y.length cz] (.bool true) H:=by
 refine Pure.of rfl (BV Tryz.func11 rfl 86 rfl fun nf t hf _ ht=> ?_);have hf0:=hf;refine BO (BQ ?_);have fz:=ai @DO (ai (ht 2 _ rfl) (ai (ht 1 _ rfl) (ht 0 _ rfl)));refine xa fun hf=> ?_
 refine xa fun hf=> ?_
 refine xq (BP (BO (BO (BQ ?_))));refine Ba ?_;refine xp (h:=WS (hc.ext xx) hr) (k:= ?_);iterate 4 first|refine xq ?_|refine xg ?_
 refine Te (h:=fun hgd=>PZ (hc.ext xx).a (hc.ext xx).b (hZ.ext xx) hr.rs ry hy) (k:= ?_);iterate 2 first|refine xq ?_|refine xg ?_
 refine BP (xi (fun c1=> ?_) fun c1=> ?_)
 ·refine BO (BQ ?_);have fz:=ai c1 fz;refine xq (BP (BT (rt ?_)));exact BW rfl ⟨by(simp(disch:=omega)only[wx,fz];skip),xx⟩
 ·have hq:C6 S L kd x p s l=0/\Cb S L y=0:=by simpa using c1
  have hck:=Xr hq.1;have hlen:=CW hck.1;have hfy:=JZ hr.rs ry hq.2;have hm:=hfy.len;refine BR (BO (BQ ?_));have fz:=ai c1 fz;refine Ba ?_;refine xp (h:=dO (hc.ext xx).b (hc.ext xx).f om (fun a h=>(hr.rl a h).2.2) hr.rx) (k:= ?_);refine B0 ?_;refine xa fun hf=> ?_
  refine xs fun hf=> ?_
  refine xq (BP (BO (BO (BQ ?_))));refine xq (BP ?_);refine xi (fun c2=> ?_) fun c2=> ?_
  ·have hk1:kd=1:=BA c2;subst hk1;have hsl:CP S L x p=0:=by rcases hck.2 with h|h|h;exact h.2;exact absurd h.1 dZ;exact absurd h.1 dZ
   have rx:=Pd (y:=x) hck.1 hr.rx;have ry2:=Pd (y:=y) hck.1 ry;have hle:=qG (Xn hr.rs hr.rx ry hsl hq.2);refine BO (Bh [1,1,0,1,1,0,0] [0,1,2,3,4,5,6] kr hf ?_);have fz:=ai hle (ai c2 fz);iterate 3 first|refine CA ?_|refine Cq ?_
   refine EB (h:=fun G hG=>Mu (S:=S) (A:=A) (c:=c) ((hc.ext xx).b.ext hG) ((hZ.ext xx).ext hG) om (fun a h=>(hr.rl a h).2.2) ry) (k:= ?_);refine EB (h:=fun G hG=>Gj om om _) (k:= ?_);iterate 2 refine CA ?_
   refine BX (BT (rt ?_));exact BW rfl ⟨by(simp(disch:=omega)only[wx,fz];simp only[Ag,hle]),xx⟩
  ·refine BR (BO (BO (BQ ?_)));have fz:=ai c2 fz;refine B0 (BP ?_);refine Kf (fun c3=> ?_) fun c3=> ?_
   ·have hF:False:=by rcases hck.2 with h|h|h;exact absurd h.1 (BL c2);exact bC hr.rs ry h.2 hq.2;exact absurd h.1 c3
    refine BO (BQ ?_);have fz:=ai c3 fz;refine xq (BP (BT (rt ?_)));exact BW rfl ⟨by(exact hF.elim),xx⟩
   ·have htu:DK S L l=0:=by rcases hck.2 with h|h|h;exact absurd h.1 (BL c2);exact absurd h.1 om;exact h.2
    have hta:=QO htu;obtain⟨bZ,oZ,rfl,hoZ⟩:=hZ.all om;have lbZ:=Bd hf0 hoZ;refine BR (BO (BQ ?_));have fz:=ai c3 fz;refine xq (BP (BO (BQ ?_)));refine Ba ?_;refine FU (ys:=y.flatMap intC) hf rfl xv I3 (GS.nil _ _) dZ (Ht om om (show _=some _ from PQ xx hoZ)) ⟨_,_,_,rfl,rfl⟩ (by rw[JY];exact Pn _ _) om (Fm (f:=intC) (fun _=>rfl) _) om om fun v2 G2 gs2 fr hf gb=> ?_
    have he:=Ext.fr xx (hf0 _ om) (fun b h=>(Bo b h).elim) fr;have w0:=(fr nf om (Bo _)).trans xv;have w1:=(fr (nf+1) om (Bo _)).trans xv;obtain⟨_,⟨e0,_⟩|⟨bY,rfl,hbY⟩⟩:=gs2
    ·omega
    have e00:0+y.length=y.length:=AW _;rw[List.nil_append]at hbY;have ebY:=gb bY ⟨_,_,_,rfl⟩;rw[JY]at hbY;have hl3:=hf.lt hbY;have fz:=ai e00 (ai w1 (ai w0 fz));refine xq (BP (BO (BO (BQ ?_))));refine xq (BP (BS ?_));refine By fun T1 hT=> ?_
    have gz:=ai (xt (hT 10)) (ai (xt (hT 9)) (ai (xt (hT 4)) (ai (xt (hT 3)) (ai (xt (hT 2)) trivial))));clear hT;refine xl l.length nf H hf (fun k t nf1 G=>nf<nf1/\G bY=some (.own (ar y.length (Ia y l k)))/\(∀j,R64 (Ia y l k j))/\(t 2=T1 2/\t 3=T1 3/\t 4=T1 4/\t 9=T1 9)/\t 10= .int .i64 (k:Int)/\G nf=some (.own [.slice A S.length c,.slice B L.length d])/\G (nf+1)=some (.own [.int .i64 kd,.slice F x.length cf,.slice P p.length cp,.slice D s.length cs,.slice Y l.length cy])) ⟨om,hbY,(fun j=>CZ ry j),xh⟩ ?_;rintro k t nf1 G hk1 hn1 hf he ⟨hn9,bs,fr,uz,h10,b0,b1⟩;have hfl:=hf;have l0:=hf.lt b0;have l1:=hf.lt b1;have lS:=hf.lt bs;refine BO (BO (BQ ?_));have fz:=ai bs (ai b1 (ai b0 (ai h10 (ai uz (ai gz @DO)))));refine Eg (BP ?_);refine C8 (fun c4=> ?_) fun c4=> ?_
    ·refine BR (BO (BS (BO (BQ ?_))));have hk:k<l.length:=om;obtain⟨b,o,eL,ho⟩:=((hc.ext he).y) k hk;have lb:=Bd hf ho;have ek:=Bc l hk;have hr2:=hta.2.2.1 k hk;rw[ek]at hr2;obtain⟨a,ea⟩:=AI hr2.1;have ham:a<y.length:=om;have ct: (decide ((a:Int)<0)||decide ((a:Int) >= (y.length:Int)))=false:=by rw[BI (show¬(a:Int)<0 from om),BI (show¬(a:Int) >= y.length from om)];rfl
     have hfa:=fr a;unfold R64 at hfa;have fz:=ai ct (ai ea (ai ho (ai eL (ai c4 fz))));refine Dk (BP (BO (BO (BQ ?_))));iterate 8 first|refine xq ?_|refine xg ?_
     refine BP (xF (BR (BO (BO (BQ ?_)))));refine Eg (BP ?_);refine C8 (fun c6=> ?_) fun c6=> ?_
     ·refine BO (BQ ?_);have fz:=ai c6 fz;refine xq (BP (BT (rt ?_)));exact BW rfl ⟨by(simp(disch:=omega)only[wx,fz];skip),xx⟩
     ·refine BR (BQ ?_);have fz:=ai c6 fz;refine Dk ?_;refine xs fun hf=> ?_
      refine BP (BQ (B0 (BP ?_)));exact xe hf ⟨om,(by simp(disch:=omega)only[wx,fz];rw[Ia,ek,ea,Aa]),(by rw[Ia,ek,ea,Aa];exact ub fr a (by have:=fr a;unfold R64 at*;omega)),xz⟩
    ·obtain rfl:k=l.length:=om;have dr:=bB hr.rs ry htu hq.2;rw[<-hm]at dr;have rdB:Rd 1 intC G (some ⟨bY,0,none⟩) (Hl y l y.length):=Rd.ar bs;have rB:∀n∈Hl y l y.length,R64 n:=fun n h=>by obtain⟨j,_,rfl⟩:=List.mem_map.1 h;exact fr j
     have fp:=fun(G2:Hp) (e:Ext G G2)=>PZ (c:=c) (d:=d) (e:=CJ+1) (hc.ext (he.trans e)).a (hc.ext (he.trans e)).b (rdB.ext e) hr.rs rB (by rw[Gk];omega)
     rw[Gk,dr.1]at fp;have cp:=fun(G2:Hp) (e:Ext G G2)=>Mu (S:=S) (A:=A) (c:=c) (d:=d) (e:=CJ+1) (hc.ext (he.trans e)).b (rdB.ext e) om (fun a h=>(hr.rl a h).2.2) rB
     rw[Gk]at cp;have rx:=Pd hck.1 rB;have ry2:=Pd (y:=y) hck.1 ry;have hlt:=qF dr.2;refine xo (BO (Bh [1,0,1,0,0,1,0,1,1,0,1,1,0,0,0] [0,1,2,3,4,5,6,7,8,9,10,11,12,13,14] kr hf ?_));have fz:=ai hlt (ai c4 fz);iterate 2 first|refine CA ?_|refine Cq ?_
     refine EB (h:=fun G hG=>fp G hG) (k:= ?_);iterate 4 first|refine CA ?_|refine EM ?_|refine FG ?_
     refine HN (h:=fun hgd G hG=>by first|exact cp G hG|exact Mu (S:=S) (A:=A) (c:=c) ((hc.ext xx).b.ext hG) ((hZ.ext xx).ext hG) om (fun a h=>(hr.rl a h).2.2) ry) (k:= ?_);iterate 2 first|refine EM ?_|refine FG ?_
     refine HN (h:=fun hgd G hG=>by first|exact cp G hG|exact Mu (S:=S) (A:=A) (c:=c) ((hc.ext xx).b.ext hG) ((hZ.ext xx).ext hG) om (fun a h=>(hr.rl a h).2.2) ry) (k:= ?_);refine HN (h:=fun hgd G hG=>Gj om om _) (k:= ?_);iterate 3 first|refine CA ?_|refine EM ?_
     refine BX (BT (rt ?_));exact BW rfl ⟨by(simp(disch:=omega)only[wx,fz];rfl),xx⟩
end
section
theorem xK(f:Operand->Value): (∀x:Operand,Option.map f (some x)=some (f x))/\Option.map f none=none:=⟨fun _=>rfl,rfl⟩
def Jt(s c n:Nat):Prop:=(CJ<=c->c<i5->c=CJ+s)/\(c<CJ->n<=c)
variable{H:Hp}
theorem Oo{α:Type}{f:α->List Value}{s ty by':Nat}(ht:Na ty s by'){A:Option Addr}{c:Nat}{l:List α}(hR:Rd s f H A l)(k:IntKind){h:Int}(hh:0<=h/\h<=l.length)(hc:Jt s c l.length):∃A' c',Gx tz ty (.slice A l.length c) none (some (.int k h)) none=some (.slice A' (l.take h.toNat).length c')/\Rd s f H A' (l.take h.toNat):=by
 obtain⟨e,q,h1,h2,rfl,rfl⟩:=ht.ex;refine⟨A.map (·.add (0*q.size)),Ls c 0,?_,fun j hj=> ?_⟩
 ·unfold Gx;simp only[h1,h2];have e1:HO none 0=some 0:=rfl;have e2:HO (some (Value.int k h)) l.length=some h.toNat:=by unfold HO;simp[hh.1]
  rw[e1,e2];dsimp only;rw[if_pos ⟨om,om,hc.1,hc.2⟩,List.length_take,Nat.min_eq_left om,Nat.sub_zero]
 ·rw[List.length_take]at hj;obtain⟨b,o,rfl,h3⟩:=hR j om;refine⟨b,o+0*q.size,by simp[Addr.add],?_⟩;rw[List.getElem_take];simpa using h3
def lD(H H':Hp)(v:Value)(kd:Int)(x p:List Int)(s:List Bool)(l:List Int):Prop:=Ext H H'/\∃(F P D Y:Option Addr) (cf cp cs cy:Nat),v= .agg #[.int .i64 kd,.slice F x.length cf,.slice P p.length cp,.slice D s.length cs,.slice Y l.length cy]/\Rd 1 intC H' F x/\Rd 1 intC H' P p/\Rd 1 boolC H' D s/\Rd 1 intC H' Y l
variable{x:List Int}{D F P Y:Option Addr}{cf cp cs cy:Nat}
theorem IE{H':Hp}{kd:Int}{p:List Int}{s:List Bool}{l:List Int}{fl pl sl yl:Nat}(e:Ext H H')(h1:Rd 1 intC H' F x)(h2:Rd 1 intC H' P p)(h3:Rd 1 boolC H' D s)(h4:Rd 1 intC H' Y l)(b1:x.length=fl)(b2:p.length=pl)(b3:s.length=sl)(b4:l.length=yl):lD H H' (.agg #[.int .i64 kd,.slice F fl cf,.slice P pl cp,.slice D sl cs,.slice Y yl cy]) kd x p s l:=by
 subst b1 b2 b3 b4;exact⟨e,F,P,D,Y,cf,cp,cs,cy,rfl,h1,h2,h3,h4⟩
def N9(n:Nat):Nat:=(if 0>(n:Int) - 1 then 0 else(n:Int) - 1).toNat
def If(k:Int)(x p:List Int)(s:List Bool):List Int×List Int×List Bool:=if k%4=0 then(x.take (N9 x.length),p,s)else if k%4=1 then(x,p.take (N9 p.length),s)else if k%4=2 then(x,p,s.take (N9 s.length))else(x++[1],p,s)
theorem lQ{k:Int}{p:List Int}{s:List Bool}(rx:∀n∈x,R64 n)(rp:∀n∈p,R64 n)(b1:x.length<999): (∀n∈(If k x p s).1,R64 n)/\(∀n∈(If k x p s).2.1,R64 n)/\(If k x p s).1.length<1000:=by
 unfold If;split
 ·exact⟨fun n h=>rx n (List.mem_of_mem_take h),rp,by simp only[List.length_take];omega⟩
 ·split
  ·exact⟨rx,fun n h=>rp n (List.mem_of_mem_take h),by dsimp only;omega⟩
  ·split
   ·exact⟨rx,rp,by dsimp only;omega⟩
   ·refine⟨fun n h=> ?_,rp,by simp only[AN,List.length_singleton];omega⟩;rcases Ax.1 h with h|h
    ·exact rx n h
    ·rw[List.mem_singleton.1 h];exact⟨dZ,dZ⟩
theorem qi{top:Bool}{ops:Array Oper}{l:List Oper}{Q:AF->Hp->Prop}{N nf:Nat}{t:Nat->Value}{ds:List Deferred}{o:Oper}{d:Nat}(hf:Fr H nf)(hc:ck N o=some d)(hop:hop tz H nf (eT t) o.op=B5 tz H nf 22 22 (.slice none 0 0) (.slice F x.length cf))(hX:Rd 1 intC H F x)(hn:x.length<1000000)
  (K:∀v' H',GS H' 1 v' (x.flatMap intC) x.length->(∀c,c≠nf->H' c=H c)->Fr H' (nf+1)->(∀c,GSb v' c->c=nf)->WL top ops l Q ⟨N,st t d v',ds⟩ H'):WL top ops (o::l) Q ⟨N,t,ds⟩ H:=by
 by_cases h0:x.length=0
 ·obtain⟨hd,hN,hx',hg⟩:=M0 hc;obtain⟨e,q,h1,h2,h3,h4⟩:=I3.ex;have ea:B5 tz H nf 22 22 (.slice none 0 0) (.slice F x.length cf)=some (.slice none 0 0,[]):=by
   unfold B5;simp only[Ag,h1,h2,h0];rw[Hr];dsimp only;simp only[List.all_nil,Ag];unfold K5;dsimp only;rw[if_pos rfl,if_neg om]
  refine CL hx' (BY hg _) (WOp.hop Cv Ce hf.at (hop.trans ea) ?_);rw[hd,CT hN];have ex:x=[]:=List.eq_nil_of_length_eq_zero h0;subst ex;exact K _ _ (GS.nil _ _) (fun _ _=>rfl) (hf.up om) fun c h=>(Bo c h).elim
 ·obtain⟨b,o',e,ho⟩:=hX.all om;subst e;refine FU (ys:=x.flatMap intC) hf hc hop I3 (GS.nil _ _) dZ (Ht h0 (AH _) ho) ⟨_,_,_,rfl,rfl⟩ (by rw[JY];exact Pn _ _) h0 (Fm (f:=intC) (fun _=>rfl) _) om om fun v2 G2 gs2 fr hf gb=> ?_
  rw[List.nil_append,AW]at gs2;exact K v2 G2 gs2 (fun c hc=>fr c hc (Bo c)) hf gb
set_option maxHeartbeats 1600000 in
theorem Ot{p:List Int}{s:List Bool}{l:List Int}{kd at_:Int}(hF:Rd 1 intC H F x)(hP:Rd 1 intC H P p)(hD:Rd 1 boolC H D s)(hY:Rd 1 intC H Y l)(rx:∀n∈x,R64 n)(rp:∀n∈p,R64 n)(b1:x.length<999)(b2:p.length<999)(b3:s.length<999)(b4:l.length<999)(k1:Jt 1 cf x.length)(k2:Jt 1 cp p.length)(k3:Jt 1 cs s.length)(hk:0<=at_/\at_<256):Ct 13 [.agg #[.int .i64 kd,.slice F x.length cf,.slice P p.length cp,.slice D s.length cs,.slice Y l.length cy],.int .u8 at_] (fun v H'=>lD H H' v kd (If at_ x p s).1 (If at_ x p s).2.1 (If at_ x p s).2.2 l) H:=by
 refine BV Tryz.func13 rfl 50 rfl fun nf t hf hsc ht=> ?_
 have hf0:=hf;refine BO (BQ ?_);have fz:=ai @xK (ai @NZ (ai @HZ (ai (ht 1 _ rfl) (ht 0 _ rfl))));refine xa fun hf=> ?_
 refine xa fun hf=> ?_
 refine BP (BO (BO (BQ (Ba (BP (BS (BO (BQ ?_))))))));refine Ba (BP ?_);refine HR (fun c1=> ?_) fun c1=> ?_
 ·obtain⟨A2,q2,eS,hS⟩:=Oo I3 hF .i64 (h:=if 0>(x.length:Int) - 1 then 0 else(x.length:Int) - 1) (by split<;>omega) k1;refine BQ ?_;have fz:=ai @Wz (ai @lM (ai @Uu (ai eS (ai c1 fz))));refine Dk ?_;refine B0 ?_;refine xs fun hf=> ?_
  refine BP (BO (BQ (xq ?_)));refine xs fun hf=> ?_
  refine BP (BT (rt ?_));exact Ch rfl xv (by have e:If at_ x p s=(x.take (N9 x.length),p,s):=if_pos c1;rw[e];exact IE xx (hS.ext xx) (hP.ext xx) (hD.ext xx) (hY.ext xx) rfl rfl rfl rfl)
 ·refine BO (BQ ?_);have fz:=ai c1 fz;refine Ba (BP ?_);refine HR (fun c2=> ?_) fun c2=> ?_
  ·obtain⟨A2,q2,eS,hS⟩:=Oo I3 hP .i64 (h:=if 0>(p.length:Int) - 1 then 0 else(p.length:Int) - 1) (by split<;>omega) k2;refine BQ ?_;have fz:=ai @Wz (ai @lM (ai @Uu (ai eS (ai c2 fz))));refine Dk ?_;refine B0 ?_;refine xs fun hf=> ?_
   refine BP (BO (BQ (xq ?_)));refine xs fun hf=> ?_
   refine BP (BT (rt ?_));exact Ch rfl xv (by have e:If at_ x p s=(x,p.take (N9 p.length),s):=(if_neg c1).trans (if_pos c2);rw[e];exact IE xx (hF.ext xx) (hS.ext xx) (hD.ext xx) (hY.ext xx) rfl rfl rfl rfl)
  ·refine BO (BQ ?_);have fz:=ai c2 fz;refine Ba (BP ?_);refine HR (fun c3=> ?_) fun c3=> ?_
   ·obtain⟨A2,q2,eS,hS⟩:=Oo Wv hD .i64 (h:=if 0>(s.length:Int) - 1 then 0 else(s.length:Int) - 1) (by split<;>omega) k3;refine BQ ?_;have fz:=ai @Wz (ai @lM (ai @Uu (ai eS (ai c3 fz))));refine Dk ?_;refine B0 ?_;refine xs fun hf=> ?_
    refine BP (BO (BQ (xq ?_)));refine xs fun hf=> ?_
    refine BP (BT (rt ?_));exact Ch rfl xv (by have e:If at_ x p s=(x,p,s.take (N9 s.length)):=(if_neg c1).trans ((if_neg c2).trans (if_pos c3));rw[e];exact IE xx (hF.ext xx) (hP.ext xx) (hS.ext xx) (hY.ext xx) rfl rfl rfl rfl)
   ·refine BO (BQ ?_);have fz:=ai c3 fz;refine xq (BP (BO (BQ ?_)));refine B0 ?_;refine qi hf rfl xv (hF.ext xx) om fun v2 G2 gs fr hf gb2=> ?_
    have he:=Ext.fr xx (hf0 _ om) (v:= .slice none 0 0) (fun b h=>(Bo b h).elim) (fun c h _=>fr c h);have w0:=(fr nf om).trans xv;have w1:=(fr (nf+1) om).trans xv;have hfl:=hf;have fz:=ai w1 (ai w0 fz);refine xq (BP (BQ ?_));refine xq ?_;refine xa fun hf=> ?_
    refine FU (ys:=intC 1) hf rfl xv I3 (gs.keep fun b hb=>by have:=gb2 b hb;simp(disch:=omega)only[Bn]) dZ (Bu xv rfl dZ) ⟨_,_,_,rfl,rfl⟩ rfl dZ rfl om om fun v2 G3 gs3 fr hf gb=> ?_
    obtain⟨A2,q2,rfl⟩:=gs3.shape;have he:=Ext.fr xx (hf0 _ om) (fun b h=>hf0 _ (by have:=gb2 b h;omega)) fr;have m0:=(fr nf om (fun h=>by have:=gb2 _ h;omega)).trans xv;have m1:=(fr (nf+1) om (fun h=>by have:=gb2 _ h;omega)).trans xv;have fz:=ai m1 (ai m0 fz);refine xq ?_;have fz:=ai @Wz (ai @lM fz);refine xs fun hf=> ?_
    refine BP (BO (BQ (xq ?_)));refine xs fun hf=> ?_
    refine BP (BT (rt ?_));exact Ch rfl xv (by have e:If at_ x p s=(x++[1],p,s):=(if_neg c1).trans ((if_neg c2).trans (if_neg c3));rw[e];exact IE xx (mJ (l:=x++[1]) gs3 (by rw[BF];rfl) (by rw[AN];rfl) (fun _=>rfl) fun b hb=>by have:=gb b hb;simp(disch:=omega)only[Bn]) (hP.ext xx) (hD.ext xx) (hY.ext xx) (by rw[AN];rfl) rfl rfl rfl)
end
end
end Go.Proofs.YtjlallgaadmeaaaGreatDoor
