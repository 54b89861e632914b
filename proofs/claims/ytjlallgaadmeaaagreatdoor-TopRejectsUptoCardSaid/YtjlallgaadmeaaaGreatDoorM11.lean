/- Parts of the proof, joined: LC LD LE LF LG LH LI LL FP FQ LM LN JB JC JD JE JF JG JH JI JJ JK JL JM. Conditions: none. -/
import Derived.Test.YtjlallgaadmeaaaGreatDoorM10
set_option linter.unusedVariables false
set_option linter.unusedSimpArgs false
set_option linter.unusedSectionVars false
set_option maxRecDepth 100000
namespace Go.Proofs.YtjlallgaadmeaaaGreatDoor
section
open Go.Conc Go.Proofs
def en(i x:Int)(b:Nat):MapEntry:=⟨.int .i64 i,.int .i64 x,b⟩
def gt:List MapEntry->List MapEntry->Bool
 |[],[]=>true
 |e::r,e'::r'=>R7 e.key e'.key&&R7 e.val e'.val&&Nat.beq e.born e'.born&&gt r r'
 |_,_=>false
theorem WH[Md]:∀(l l':List MapEntry),gt l l'=true->l=l'
 |[],[],_=>rfl
 |e::r,e'::r',h=>by
  simp only[gt,AA]at h;obtain⟨⟨⟨h1,h2⟩,h3⟩,h4⟩:=h;rw[WH r r' h4];cases e;cases e'
  simp only at h1 h2 h3;rw[EY _ _ h1,EY _ _ h2,AE h3]
 |[],_::_,h=>by cases h
 |_::_,[],h=>by cases h
noncomputable def iD(p l n:Nat)(sl:Value)(g:FuncId)(f3:EF)(h3:EH):Bool:=
 Nat.beq f3.n 54&&f3.d.isEmpty&&R7 (.pointer (some ⟨p,0,none⟩)) (f3.ev (.tmp 0))&&R7 sl (f3.ev (.tmp 1))&&R7 (.slice (some ⟨l,0,none⟩) n n) (f3.ev (.tmp 5))&&(match h3.m.get p with
  |some (.own (_::_::_::_:: .func (.func g') ⟨[]⟩ ⟨[]⟩::_))=>Nat.beq g' g
  |_=>false)
noncomputable def oE(M:List (Nat×List Value))(n0 l r k:Nat)(c:List Value)(es:List MapEntry)(v:Value)(h4:EH):Bool:=
 (match v with
  | .map (some r')=>Nat.beq r' r
  |_=>false)&&(match h4.m.get r with
  |some (.mp es' k')=>gt es es'&&Nat.beq k k'
  |_=>false)&&G6 h4.m (l,c)&& !(Nat.beq r l)&&M.all fun p=>Nat.blt p.1 n0&& !(h4.log.contains p.1)&& !(Nat.beq p.1 l)
section
variable[Md]
theorem WR {p l n:Nat} {sl:Value} {g:FuncId} {f3:EF} {h3:EH} (h:iD p l n sl g f3 h3=true):f3.A=⟨54,f3.A.t,[]⟩/\f3.A.t 0= .pointer (some ⟨p,0,none⟩)/\f3.A.t 1=sl/\f3.A.t 5= .slice (some ⟨l,0,none⟩) n n/\∃x0 x1 x2 x3 xs,h3.m.get p=some (.own (x0::x1::x2::x3:: .func (.func g) #[] #[]::xs)):=by
 unfold iD at h;simp only[AA]at h;obtain⟨⟨⟨⟨⟨h1,h2⟩,h3'⟩,h4⟩,h5⟩,h6⟩:=h;refine⟨?_,(EY _ _ h3').symm,(EY _ _ h4).symm,(EY _ _ h5).symm,?_⟩
 ·unfold EF.A;rw[AE h1,List.isEmpty_iff.1 h2]
 ·split at h6
  ·rename_i e;rw[AE h6]at e;exact⟨_,_,_,_,_,e⟩
  ·cases h6
theorem iC{m:Mm}{l r k:Nat}{c:List Value}{es:List MapEntry}{v:Value}{h4:EH}(h:oE m.M m.n l r k c es v h4=true)(hlg:Lg ⟨m.mem,m.n,[]⟩ h4):v= .map (some r)/\h4.m.get r=some (.mp es k)/\h4.m.get l=some (.own c)/\r≠l/\∀a x,m.mem.get a=some x->h4.m.get a=some x/\a≠l:=by
 unfold oE at h;simp only[AA,AS]at h;obtain⟨⟨⟨⟨h1,h2⟩,h3⟩,h4'⟩,h5⟩:=h;refine⟨?_,?_,Fb h3,(fun e=>by rw[e,Nat.beq_refl]at h4';cases h4'),fun a x ha=> ?_⟩
 ·split at h1
  ·rw[AE h1]
  ·cases h1
 ·split at h2
  ·rename_i e;simp only[AA]at h2;rw[e,WH _ _ h2.1,AE h2.2]
  ·cases h2
 ·obtain⟨c2,rfl,hc⟩:=Bv ha;obtain⟨⟨q1,q2⟩,q3⟩:=h5 _ hc;refine⟨(hlg.same a (Dd q1) fun hm=> ?_).trans ha,(fun e=>by rw[e,Nat.beq_refl]at q3;cases q3)⟩;rw[List.contains_iff_mem.2 hm]at q2;cases q2
def GF(b:ByteArray):Mm:=⟨[.pointer (some ⟨842,0,none⟩),.slice (some ⟨748,0,none⟩) 3 3],[(101,[.int .i64 (.ofNat 2),.int .i64 (.ofNat 0),.int .i64 (.negSucc 1)]),(110,[.int .i64 (.ofNat 0),.int .i64 (.ofNat 1),.int .i64 (.ofNat 0),.int .i64 (.ofNat 3),.int .i64 (.ofNat 1),.int .i64 (.ofNat 1),.int .i64 (.ofNat 2),.int .i64 (.ofNat 1),.int .i64 (.ofNat 3),.int .i64 (.ofNat 2),.int .i64 (.ofNat 0),.int .i64 (.ofNat 2),.int .i64 (.ofNat 0),.int .i64 (.ofNat 1),.int .i64 (.ofNat 2)]),(748,[.int .i64 (.ofNat 1),.int .i64 (.ofNat 0),.int .i64 (.ofNat 1)]),(805,[.int .i64 (.ofNat 2),.int .i64 (.negSucc 0),.int .i64 (.negSucc 0)]),(820,[.int .i64 (.ofNat 0),.int .i64 (.ofNat 1),.int .i64 (.ofNat 0),.int .i64 (.ofNat 3),.int .i64 (.ofNat 1),.int .i64 (.ofNat 1),.int .i64 (.ofNat 2),.int .i64 (.ofNat 0),.int .i64 (.ofNat 2),.int .i64 (.ofNat 2),.int .i64 (.ofNat 0),.int .i64 (.ofNat 2),.int .i64 (.ofNat 0),.int .i64 (.ofNat 1),.int .i64 (.ofNat 2)]),(840,[.bool false,.bool false,.bool false]),(841,[.bool false,.bool false,.bool false]),(842,[.bool false,.string b,.func (.func 187) #[] #[],.func (.func 188) #[] #[],.func (.func 189) #[] #[],.func (.func 190) #[] #[],.func (.func 191) #[] #[],.func (.func 192) #[] #[],.slice (some ⟨101,0,none⟩) 3 18446744073709551617,.slice (some ⟨110,0,none⟩) 3 18446744073709551621,.slice (some ⟨805,0,none⟩) 3 18446744073709551617,.slice (some ⟨820,0,none⟩) 3 18446744073709551621,.slice (some ⟨840,0,none⟩) 3 3,.slice (some ⟨841,0,none⟩) 3 3,.slice (some ⟨848,0,none⟩) 3 18446744073709551617,.slice (some ⟨854,0,none⟩) 3 18446744073709551617,.slice none 0 0,.int .i64 (.ofNat 0),.int .i64 (.ofNat 0),.int .i64 (.ofNat 0),.int .i64 (.ofNat 0),.int .i64 (.ofNat 0),.int .i64 (.ofNat 0),.int .i64 (.ofNat 0),.int .i64 (.ofNat 0),.int .i64 (.ofNat 0),.int .i64 (.ofNat 0),.int .i64 (.ofNat 0)]),(848,[.int .i64 (.ofNat 0),.int .i64 (.ofNat 1),.int .i64 (.ofNat 2)]),(854,[.int .i64 (.ofNat 0),.int .i64 (.ofNat 1),.int .i64 (.ofNat 2)])],856,.slice (some ⟨856,0,none⟩) 3 3,[(856,[.int .i64 (.ofNat 1),.int .i64 (.ofNat 1),.int .i64 (.ofNat 1)])]⟩
def OS:List MapEntry:=[en 0 1 0,en 1 1 1,en 2 1 2]
noncomputable def Y8(b:ByteArray):Bool:=match MB (GF b).args ⟨(GF b).mem,(GF b).n,[]⟩with
 |some (f3,h3)=>iD 842 856 3 (.slice (some ⟨748,0,none⟩) 3 3) 189 f3 h3&&(match(ev Ge 400).F 189 [.pointer (some ⟨842,0,none⟩),.slice (some ⟨748,0,none⟩) 3 3] h3 with
  |some (v,h4)=>oE (GF b).M (GF b).n 856 857 3 [.int .i64 1,.int .i64 0,.int .i64 1] OS v h4
  |none=>false)
 |none=>false
theorem XB(b:ByteArray):Y8 b=true:=kr
end
section
variable[Md]
theorem qE{P:Program}{g:FuncId}{F:List Value->EH->Option (Value×EH)}(hF:∀args h v h',F args h=some (v,h')->∃m:Mm,args=m.args/\(∀p∈m.M,h.m.get p.1=some (.own p.2))/\h.n<=m.n/\v=m.v/\h'=h.app (DL m.δ)/\G4 m=true/\Ee P g m.args (fun u H'=>u=m.v/\H'=app m.mem.get (dlf (DL m.δ))) m.mem.get):SG P g F:=by
 intro args h v h' he hh;obtain⟨m,rfl,hM,hn,rfl,rfl,hst,w1⟩:=hF _ _ _ _ he;unfold G4 at hst;simp only[AA,AS]at hst;obtain⟨⟨⟨e4,e5⟩,e7⟩,e10⟩:=hst;have hfin:∀a,m.n<=a->m.mem.get a=none:=fun a ha=>by
  cases hx:m.mem.get a with
  |none=>rfl
  |some x=>
   obtain⟨c,_,hc⟩:=Bv hx;have:=Dd (e5 _ hc);simp only at this;omega
 have hsc:Sc m.mem.get:=fun a x hx=>by
  obtain⟨c,rfl,hc⟩:=Bv hx;rw[<-Ds];exact Ip (x:= .own c) (e7 _ hc)
 have hsub:∀a x,m.mem.get a=some x->h.m.get a=some x:=fun a x hx=>by
  obtain⟨c,rfl,hc⟩:=Bv hx;exact hM _ hc
 obtain⟨k1,l1⟩:=Gp (DL m.δ) hh fun x hx l hl=>by
  obtain⟨c,e,_⟩:=CX (a:=x.1) (x:=x.2) hx;rw[hl]at e;cases e
 refine⟨?_,k1,l1⟩;have:=Ee.frame w1 (G:=h.m.get) ⟨fun a x hx _=>hsub a x hx,fun a ha=>by
  unfold dom at*;cases hx:m.mem.get a with
  |none=>exact absurd hx ha
  |some x=>rw[hsub a x hx];simp⟩ hsc ⟨m.n,hfin⟩ (fun v hv=>by rw[<-Ds];exact MY (Ma _ e10 v hv)) (fun a ha=> ?_) (fun a c hc=> ?_)
 ·rw[Ev,E3];exact this
 ·right;cases hx:dlf (DL m.δ) a with
  |none=>exact absurd hx ha
  |some x=>
   obtain⟨c,_,hc⟩:=CX (CD hx);have:=Nat.le_of_ble_eq_true (e4 _ hc);exact hh.fin a (by simp only at this;omega)
 ·obtain⟨c',e,_⟩:=CX (CD hc);cases e
theorem jO{m:Mm}(hst:G4 m=true):Sc m.mem.get/\EHok Tryz.prog ⟨m.mem,m.n,[]⟩:=by
 unfold G4 at hst;simp only[AA,AS]at hst;obtain⟨⟨⟨e4,e5⟩,e7⟩,e10⟩:=hst;refine⟨fun a x hx=> ?_,fun a ha=> ?_,fun a l hl=> ?_⟩
 ·obtain⟨c,rfl,hc⟩:=Bv hx;rw[<-Ds];exact Ip (x:= .own c) (e7 _ hc)
 ·show m.mem.get a=none
  cases hx:m.mem.get a with
  |none=>rfl
  |some x=>
   obtain⟨c,_,hc⟩:=Bv hx;have:=Dd (e5 _ hc);have h2:m.n<=a:=ha;simp only at this;omega
 ·obtain⟨c,e,_⟩:=Bv hl;cases e
theorem UW{M:Hp}{l:Nat}{c:List Value}:upd M l (some (.own c))=app M (dlf (DL [(l,c)])):=by
 have h:=E3 (DL [(l,c)]) M;exact h
theorem Yu(b:ByteArray):G4 (GF b)=true:=kr
theorem pT(b:ByteArray):Ee Tryz.prog 180 (GF b).args (fun u H'=>u=(GF b).v/\H'=app (GF b).mem.get (dlf (DL (GF b).δ))) (GF b).mem.get:=by
 obtain⟨hsc,hh⟩:=jO (Yu b);have hrun:=XB b;unfold Y8 at hrun;split at hrun
 ·rename_i f3 h3 hpre;simp only[AA]at hrun;obtain⟨hc3,hrun⟩:=hrun;split at hrun
  ·rename_i v h4 hF;obtain⟨hA,t0,t1,t5,x0,x1,x2,x3,xs,hp⟩:=WR hc3;obtain⟨⟨hh3,lg3⟩,_⟩:=Gz (Q:=fun _ _ _=>True) hpre hh;obtain⟨w4,hh4,lg4⟩:=(EX Ey 400).2 189 _ _ _ _ hF hh3;obtain⟨rfl,hr,hl,hrl,hM⟩:=iC hrun (lg3.trans lg4);have hw:=OJ hh hpre rfl hA (l:=856) (n:=3) (f:=fun i=>([1,0,1]:List Int).getD i 0) (fin:=fun _=>1) t0 t1 t5 hp Tryz.func189 rfl kr (w4.mono fun v H q=>by
    obtain⟨rfl,rfl⟩:=q;refine⟨857,3,h4.n,OS,rfl,hh4.fin,hr,hl,hrl,?_,?_,?_,fun g hg=> ?_,hM⟩
    ·intro e he;simp only[OS,AV,Ai,or_false]at he;rcases he with rfl|rfl|rfl<;>decide
    ·intro e he;simp only[OS,AV,Ai,or_false]at he;rcases he with rfl|rfl|rfl<;>rfl
    ·intro e he;simp only[OS,AV,Ai,or_false]at he;rcases he with rfl|rfl|rfl
     ·exact⟨0,1,rfl,rfl,om⟩
     ·exact⟨1,1,rfl,rfl,om⟩
     ·exact⟨2,1,rfl,rfl,om⟩
    ·have h0:=hg 0;have h1:=hg 1;have h2:=hg 2;simp[OS,en]at h0 h1 h2;have e0:g 0=1:=om;have e1:g 1=1:=om;have e2:g 2=1:=om;simp[ar,List.range_succ,Cel.c,e0,e1,e2]) hsc
   refine hw.mono fun u H q=> ?_
   obtain⟨rfl,rfl⟩:=q;exact⟨rfl,UW⟩
  ·cases hrun
 ·cases hrun
end
noncomputable def Nd:Code:=(Tryz.f216.body).getD .skip
def lR:Code->Array Oper
 | .region _ ops _=>ops
 |_=> #[]
noncomputable def D5:Array Oper:=lR (lA (lB (lB Nd)))
theorem P0:Nd= .seq (lA Nd) (.seq (lA (lB Nd)) (.seq (.region 2 D5 true) .ret)):=rfl
section
variable[Md]
noncomputable def oD(M:List (Nat×List Value))(n0 l r:Nat)(c:List Value)(k1 v1 k2 v2:Value)(f2:EF)(h2:EH)(L:List Did)(g2:EF):Bool:=
 fW (CheckFast.beforeF D5).toList D5.size (Dr 7 29 0 L)&&YS (CheckFast.beforeF D5).toList D5.size h2 L 7 29 0 r&&Nat.ble (Dx D5.toList 0) f2.n&&(match L[0]? with
  |some d=>(match d.δ with
   |[(m',.mp [] k')]=>Nat.beq m' r&&Nat.beq k' 0
   |_=>false)
  |none=>false)&&(match vv L 0 with
  | .map (some r')=>Nat.beq r' r
  |_=>false)&&R7 undef (vv L 7)&&R7 undef (vv L 29)&&R7 k1 (vv L 5)&&R7 v1 (vv L 6)&&R7 k2 (vv L 12)&&R7 v2 (vv L 28)&&Nat.beq g2.n 43&&g2.d.isEmpty&&(match g2.ev (.tmp 4)with
  | .map (some r')=>Nat.beq r' r
  |_=>false)&&G6 ((Dr 7 29 0 L).foldl (fun h d=>h.app d.δ) h2).m (l,c)&& !(Nat.beq r l)&&M.all fun p=>Nat.blt p.1 n0&& !(((Dr 7 29 0 L).foldl (fun h d=>h.app d.δ) h2).log.contains p.1)&& !(Nat.beq p.1 l)&& !(Nat.beq p.1 r)
def Fj(b:ByteArray):Mm:=⟨[.pointer (some ⟨735,0,none⟩),.slice (some ⟨612,0,none⟩) 2 18446744073709551617],[(215,[.int .i64 (.ofNat 2),.int .i64 (.negSucc 0),.int .i64 (.negSucc 0)]),(224,[.int .i64 (.ofNat 0),.int .i64 (.ofNat 1),.int .i64 (.ofNat 0),.int .i64 (.ofNat 3),.int .i64 (.ofNat 1),.int .i64 (.ofNat 1),.int .i64 (.ofNat 2),.int .i64 (.ofNat 0),.int .i64 (.ofNat 2),.int .i64 (.ofNat 2),.int .i64 (.ofNat 0),.int .i64 (.ofNat 2),.int .i64 (.ofNat 0),.int .i64 (.ofNat 1),.int .i64 (.ofNat 2)]),(612,[.int .i64 (.ofNat 1),.int .i64 (.ofNat 1)]),(699,[.int .i64 (.ofNat 2),.int .i64 (.negSucc 1)]),(713,[.int .i64 (.ofNat 0),.int .i64 (.ofNat 1),.int .i64 (.ofNat 0),.int .i64 (.ofNat 1),.int .i64 (.ofNat 2),.int .i64 (.ofNat 0),.int .i64 (.ofNat 1),.int .i64 (.ofNat 1),.int .i64 (.ofNat 3),.int .i64 (.ofNat 3)]),(733,[.bool false,.bool true,.bool false]),(734,[.bool true,.bool true,.bool false]),(735,[.bool false,.string b,.func (.func 214) #[] #[],.func (.func 215) #[] #[],.func (.func 216) #[] #[],.func (.func 217) #[] #[],.func (.func 218) #[] #[],.func (.func 219) #[] #[],.slice (some ⟨215,0,none⟩) 3 18446744073709551617,.slice (some ⟨224,0,none⟩) 3 18446744073709551621,.slice (some ⟨699,0,none⟩) 2 18446744073709551617,.slice (some ⟨713,0,none⟩) 2 18446744073709551621,.slice (some ⟨733,0,none⟩) 3 3,.slice (some ⟨734,0,none⟩) 3 3,.slice (some ⟨744,0,none⟩) 2 18446744073709551617,.slice (some ⟨746,0,none⟩) 1 18446744073709551617,.slice none 0 0,.int .i64 (.ofNat 1),.int .i64 (.ofNat 0),.int .i64 (.ofNat 0),.int .i64 (.ofNat 1),.int .i64 (.ofNat 0),.int .i64 (.ofNat 1),.int .i64 (.ofNat 0),.int .i64 (.ofNat 2),.int .i64 (.ofNat 1),.int .i64 (.ofNat 3),.int .i64 (.ofNat 3)]),(744,[.int .i64 (.ofNat 0),.int .i64 (.ofNat 2)]),(746,[.int .i64 (.ofNat 2)])],748,.slice (some ⟨748,0,none⟩) 3 3,[(748,[.int .i64 (.ofNat 1),.int .i64 (.ofNat 0),.int .i64 (.ofNat 1)])]⟩
noncomputable def Y7(b:ByteArray):Bool:=match MB (Fj b).args ⟨(Fj b).mem,(Fj b).n,[]⟩with
 |some (f3,h3)=>iD 735 748 3 (.slice (some ⟨612,0,none⟩) 2 18446744073709551617) 216 f3 h3&&(match(ev Ge 400).C true (lA Nd) (EF.enter 43 [.pointer (some ⟨735,0,none⟩),.slice (some ⟨612,0,none⟩) 2 18446744073709551617]) h3 with
  |some (.norm,f1,h1)=>(match(ev Ge 400).C true (lA (lB Nd)) f1 h1 with
   |some (.norm,f2,h2)=>(match Xi Ge (ev Ge 400).C (ev Ge 400).F D5 (CheckFast.beforeF D5).toList (fun _=>[]) h2 (List.range D5.size) f2 [] h2.n with
    |some (L,g2)=>oD (Fj b).M (Fj b).n 748 749 [.int .i64 0,.int .i64 0,.int .i64 1] (.int .i64 0) (.int .i64 1) (.int .i64 1) (.int .i64 0) f2 h2 L g2
    |none=>false)
   |_=>false)
  |_=>false)
 |none=>false
theorem XA(b:ByteArray):Y7 b=true:=kr
theorem Yv(b:ByteArray):G4 (Fj b)=true:=kr
variable{es:List MapEntry}
theorem wm{G:Hp}{m n:Nat}{kk v:Value}(hd:Iv tz 290= .map 3 2)(hk:P6 tz 3 kk=true)(hG:G m=some (.mp es n))(hf:Cy tz 3 kk es 0=some none):HS tz G 290 (.map (some m)) kk v=some [(m,.mp (es++[⟨kk,v,n⟩]) (n+1))]:=by
 unfold HS;rw[hd];simp only[hk,hG,hf,Ag]
theorem RL{G:Hp}{a:Nat}{ev:Operand->Value}(x y z:Operand):hop tz G a ev (.insert 290 x y z)=(HS tz G 290 (ev x) (ev y) (ev z)).map fun δ=>(undef,δ):=rfl
theorem bG:Iv tz 290= .map 3 2:=kr
theorem vQ:P6 tz 3 (.int .i64 0)=true:=kr
theorem vO:P6 tz 3 (.int .i64 1)=true:=kr
theorem vH:Cy tz 3 (.int .i64 0) [] 0=some none:=kr
theorem vF:Cy tz 3 (.int .i64 1) [] 0=some none:=kr
theorem vG:Cy tz 3 (.int .i64 0) [en 1 0 0] 0=some none:=kr
theorem vE:Cy tz 3 (.int .i64 1) [en 0 1 0] 0=some none:=kr
theorem V6:GoodC Tryz.prog Nd:=V5 Tryz.co.funcs Tryz.func216 rfl
theorem qf:Region.ok Tryz.prog.types D5 true=true:=by
 have h:=V6;rw[P0]at h;exact h.2.2.1 rfl
theorem qb: (IT D5&&IZ D5.toList 0)=true:=kr
theorem Zo{l r:Nat}{H0 M:Hp}{nf:Nat}(hes:es=[en 0 1 0,en 1 0 1]\/es=[en 1 0 0,en 0 1 1])(hfr:Fr (upd H0 r (some (.mp es 2))) nf)(hl:H0 l=some (.own [.int .i64 0,.int .i64 0,.int .i64 1]))(hrl:r≠l)(hM:∀a x,M a=some x->H0 a=some x/\a≠l/\a≠r):
  oo l 3 (fun i=>([0,0,1]:List Int).getD i 0) (fun i=>([1,0,1]:List Int).getD i 0) M (.map (some r)) (upd H0 r (some (.mp es 2))):=by
 refine⟨r,2,nf,es,rfl,hfr,BU _ _ _,(upd_ne hrl.symm).trans hl,hrl,?_,?_,?_,fun g hg=> ?_,fun a x ha=>⟨(upd_ne (hM a x ha).2.2).trans (hM a x ha).1,(hM a x ha).2.1⟩⟩
 ·intro e he;rcases hes with rfl|rfl<;>simp only[AV,Ai,or_false]at he<;>rcases he with rfl|rfl<;>decide
 ·intro e he;rcases hes with rfl|rfl<;>simp only[AV,Ai,or_false]at he<;>rcases he with rfl|rfl<;>rfl
 ·intro e he;rcases hes with rfl|rfl<;>simp only[AV,Ai,or_false]at he<;>rcases he with rfl|rfl
  ·exact⟨0,1,rfl,rfl,om⟩
  ·exact⟨1,0,rfl,rfl,om⟩
  ·exact⟨1,0,rfl,rfl,om⟩
  ·exact⟨0,1,rfl,rfl,om⟩
 ·have h0:=hg 0;have h1:=hg 1;have h2:=hg 2;have e:g 0=1/\g 1=0/\g 2=1:=by
   rcases hes with rfl|rfl<;>simp[en]at h0 h1 h2<;>omega
  simp[ar,List.range_succ,Cel.c,e.1,e.2.1,e.2.2]
theorem ua{b:ByteArray}{h3:EH}(hh3:EHok Tryz.prog h3){M:List (Nat×List Value)}{n0:Nat}{f1 f2 g2:EF}{h1 h2:EH}{L:List Did}{args:List Value}(hargs:max args.length 43=43)(e1: (ev Ge 400).C true (lA Nd) (EF.enter 43 args) h3=some (.norm,f1,h1))(e2: (ev Ge 400).C true (lA (lB Nd)) f1 h1=some (.norm,f2,h2))
  (e3:Xi Ge (ev Ge 400).C (ev Ge 400).F D5 (CheckFast.beforeF D5).toList (fun _=>[]) h2 (List.range D5.size) f2 [] h2.n=some (L,g2)){m:Mm}(hlg:Lg ⟨m.mem,m.n,[]⟩ h3)(hc:oD m.M m.n 748 749 [.int .i64 0,.int .i64 0,.int .i64 1] (.int .i64 0) (.int .i64 1) (.int .i64 1) (.int .i64 0) f2 h2 L g2=true):
  Ee Tryz.prog 216 args (oo 748 3 (fun i=>([0,0,1]:List Int).getD i 0) (fun i=>([1,0,1]:List Int).getD i 0) m.mem.get) h3.m.get:=by
 have hC:=(EX Ey 400).1;have hF:=(EX Ey 400).2;have hgood:=V6;rw[P0]at hgood;obtain⟨k1,hh1,lg1⟩:=hC _ _ _ _ _ _ _ e1 hgood.1 hh3;obtain⟨k2,hh2,lg2⟩:=hC _ _ _ _ _ _ _ e2 hgood.2.1 hh1;unfold oD at hc;simp only[AA,AS]at hc;obtain⟨⟨⟨⟨⟨⟨⟨⟨⟨⟨⟨⟨⟨⟨⟨⟨c1,c2⟩,c3⟩,c4⟩,c5⟩,c6⟩,c7⟩,c8⟩,c9⟩,c10⟩,c11⟩,c12⟩,c13⟩,c14⟩,c15⟩,c16⟩,c17⟩:=hc;have hz:∃d,L[0]? =some d/\d.δ=[(749,.mp [] 0)]:=by
  split at c4
  ·rename_i d hd;refine⟨d,hd,?_⟩;split at c4
   ·rename_i e;simp only[AA]at c4;rw[e,AE c4.1,AE c4.2]
   ·cases c4
  ·cases c4
 have v0:vv L 0= .map (some 749):=by
  split at c5
  ·rename_i e;rw[e,AE c5]
  ·cases c5
 have v7:=(EY _ _ c6).symm;have v29:=(EY _ _ c7).symm;have v5:=(EY _ _ c8).symm;have v6:=(EY _ _ c9).symm;have v12:=(EY _ _ c10).symm;have v28:=(EY _ _ c11).symm;obtain⟨o7,ho7,hop7,hg7⟩:∃o,D5[7]? =some o/\o.op= .insert 290 (.tmp 14) (.tmp 19) (.tmp 20)/\o.guard=none:=⟨_,rfl,rfl,rfl⟩;obtain⟨o29,ho29,hop29,hg29⟩:∃o,D5[29]? =some o/\o.op= .insert 290 (.tmp 14) (.tmp 25) (.tmp 41)/\o.guard=none:=⟨_,rfl,rfl,rfl⟩;have s7:∀t:Nat->Value,ts (fun _=>true) (dstOf D5) (vv L) t 7 14=vv L 0/\ts (fun _=>true) (dstOf D5) (vv L) t 7 19=vv L 5/\ts (fun _=>true) (dstOf D5) (vv L) t 7 20=vv L 6:=fun t=>⟨rfl,rfl,rfl⟩
 have s29:∀t:Nat->Value,ts (fun _=>true) (dstOf D5) (vv L) t 29 14=vv L 0/\ts (fun _=>true) (dstOf D5) (vv L) t 29 25=vv L 12/\ts (fun _=>true) (dstOf D5) (vv L) t 29 41=vv L 28:=fun t=>⟨rfl,rfl,rfl⟩
 have p7:∀(G:Hp) a (es:List MapEntry) (k:Nat),G 749=some (.mp es k)->Cy tz 3 (.int .i64 0) es 0=some none->hop tz G a (f2.A.with (ts (fun _=>true) (dstOf D5) (vv L) f2.A.t 7)).ev o7.op=some (undef,[(749,.mp (es++[en 0 1 k]) (k+1))]):=by
  intro G a es k hG hf;rw[hop7];have q1: (f2.A.with (ts (fun _=>true) (dstOf D5) (vv L) f2.A.t 7)).ev (.tmp 14)= .map (some 749):=(s7 f2.A.t).1.trans v0;have q2: (f2.A.with (ts (fun _=>true) (dstOf D5) (vv L) f2.A.t 7)).ev (.tmp 19)= .int .i64 0:=(s7 f2.A.t).2.1.trans v5;have q3: (f2.A.with (ts (fun _=>true) (dstOf D5) (vv L) f2.A.t 7)).ev (.tmp 20)= .int .i64 1:=(s7 f2.A.t).2.2.trans v6;rw[RL,q1,q2,q3,wm bG vQ hG hf];rfl
 have p29:∀(G:Hp) a (es:List MapEntry) (k:Nat),G 749=some (.mp es k)->Cy tz 3 (.int .i64 1) es 0=some none->hop tz G a (f2.A.with (ts (fun _=>true) (dstOf D5) (vv L) f2.A.t 29)).ev o29.op=some (undef,[(749,.mp (es++[en 1 0 k]) (k+1))]):=by
  intro G a es k hG hf;rw[hop29];have q1: (f2.A.with (ts (fun _=>true) (dstOf D5) (vv L) f2.A.t 29)).ev (.tmp 14)= .map (some 749):=(s29 f2.A.t).1.trans v0;have q2: (f2.A.with (ts (fun _=>true) (dstOf D5) (vv L) f2.A.t 29)).ev (.tmp 25)= .int .i64 1:=(s29 f2.A.t).2.1.trans v12;have q3: (f2.A.with (ts (fun _=>true) (dstOf D5) (vv L) f2.A.t 29)).ev (.tmp 41)= .int .i64 0:=(s29 f2.A.t).2.2.trans v28;rw[RL,q1,q2,q3,wm bG vO hG hf];rfl
 obtain⟨k3,hhB,lg3⟩:=NY (top:=true) (id:=2) Ey hC hF qf qb c3 hh2 e3 (p:=7) (q:=29) (z:=0) (m:=749) (c0:= .mp [] 0) (cp:= .mp [en 0 1 0] 1) (cq:= .mp [en 1 0 0] 1) (cpq:= .mp [en 0 1 0,en 1 0 1] 2) (cqp:= .mp [en 1 0 0,en 0 1 1] 2) c1 c2 hz ho7 ho29 hg7 hg29 v7 v29
  (fun G a h=>p7 G a _ _ h vH) (fun G a h=>p29 G a _ _ h vF) (fun G a h=>p29 G a _ _ h vE) (fun G a h=>p7 G a _ _ h vG)
 refine Ml Tryz.func216 (c:=Nd) rfl hargs fun nf hf hsc=> ?_
 rw[P0];rw[I1]at k1;refine BO (k1.mono ?_);rintro ex A H ⟨rfl,rfl,rfl⟩;refine BO (k2.mono ?_);rintro ex A H ⟨rfl,rfl,rfl⟩;refine BO (k3.mono ?_);rintro ex A H ⟨rfl,rfl,c,hc,rfl⟩;refine BT ?_;have hA:g2.A=⟨43,g2.A.t,[]⟩:=by
  unfold EF.A;rw[AE c12,List.isEmpty_iff.1 c13]
 have ht4:g2.A.t 4= .map (some 749):=by
  have:g2.A.t 4=g2.ev (.tmp 4):=rfl;rw[this];split at c14
  ·rename_i e;rw[e,AE c14]
  ·cases c14
 rw[hA];refine BW rfl ?_;rw[ht4];have hlB:=Fb c15;have hfrB:∀x,Fr (upd ((Dr 7 29 0 L).foldl (fun h d=>h.app d.δ) h2).m.get 749 (some x)) (((Dr 7 29 0 L).foldl (fun h d=>h.app d.δ) h2).n+750):=fun x a ha=>by
  rw[upd_ne om];exact hhB.fin a om
 have hMB:∀a x,m.mem.get a=some x->((Dr 7 29 0 L).foldl (fun h d=>h.app d.δ) h2).m.get a=some x/\a≠748/\a≠749:=fun a x ha=>by
  obtain⟨c2,rfl,hcm⟩:=Bv ha;obtain⟨⟨⟨q1,q2⟩,q3⟩,q4⟩:=c17 _ hcm;refine⟨((((hlg.trans lg1).trans lg2).trans lg3).same a (Dd q1) fun hm=> ?_).trans ha,(fun e=>by rw[e]at q3;cases q3),fun e=>by rw[e]at q4;cases q4⟩;rw[List.contains_iff_mem.2 hm]at q2;cases q2
 rcases hc with rfl|rfl
 ·exact Zo (.inl rfl) (hfrB _) hlB dZ hMB
 ·exact Zo (.inr rfl) (hfrB _) hlB dZ hMB
theorem pU(b:ByteArray):Ee Tryz.prog 180 (Fj b).args (fun u H'=>u=(Fj b).v/\H'=app (Fj b).mem.get (dlf (DL (Fj b).δ))) (Fj b).mem.get:=by
 obtain⟨hsc,hh⟩:=jO (Yv b);have hrun:=XA b;unfold Y7 at hrun;split at hrun
 ·rename_i f3 h3 hpre;simp only[AA]at hrun;obtain⟨hc3,hrun⟩:=hrun;split at hrun
  ·rename_i f1 h1 e1;split at hrun
   ·rename_i f2 h2 e2;split at hrun
    ·rename_i L g2 e3;obtain⟨hA,t0,t1,t5,x0,x1,x2,x3,xs,hp⟩:=WR hc3;obtain⟨⟨hh3,lg3⟩,_⟩:=Gz (Q:=fun _ _ _=>True) hpre hh;have hw:=OJ hh hpre rfl hA t0 t1 t5 hp Tryz.func216 rfl kr (ua (b:=b) (M:=[]) (n0:=0) (m:=Fj b) hh3 rfl e1 e2 e3 lg3 hrun) hsc;refine hw.mono fun u H q=> ?_
     obtain⟨rfl,rfl⟩:=q;exact⟨rfl,UW⟩
    ·cases hrun
   ·cases hrun
  ·cases hrun
 ·cases hrun
end
def uO:Value->Value->Bool
 | .func (.func f) ⟨[]⟩ ⟨[]⟩,.func (.func g) ⟨[]⟩ ⟨[]⟩=>Nat.beq f g
 |a,b=>R7 a b
def gi:List Value->List Value->Bool
 |[],[]=>true
 |a::r,b::s=>uO a b&&gi r s
 |_,_=>false
section
variable[Md]
theorem ah (a b:Value) (h:uO a b=true):a=b:=by
 unfold uO at h;split at h
 ·rw[AE h]
 ·exact EY _ _ h
theorem WG:∀(l s:List Value),gi l s=true->l=s
 |[],[],_=>rfl
 |a::r,b::s,h=>by
  simp only[gi,AA]at h;rw[ah _ _ h.1,WG r s h.2]
 |[],_::_,h=>by cases h
 |_::_,[],h=>by cases h
noncomputable def uL(mk:ByteArray->Mm)(p:Nat)(args:List Value)(h:EH):Option (Value×EH):=match h.m.get p with
 |some (.own (y0:: .string b::ys))=>(match j0 args (mk b).args&&Nat.ble h.n (mk b).n&&(mk b).M.all fun e=>(bif Nat.beq e.1 p then(match e.2 with
   |c0::_::cs=>uO y0 c0&&gi ys cs
   |_=>false)else G6 h.m e)with
  |true=>some ((mk b).v,h.app (DL (mk b).δ))
  |false=>none)
 |_=>none
theorem aV{mk:ByteArray->Mm}{p:Nat}(hmk:∀b,∀e∈(mk b).M,e.1=p->∃c0 cs,e.2=c0:: .string b::cs){args:List Value}{h h':EH}{v:Value}(he:uL mk p args h=some (v,h')):∃b,args=(mk b).args/\(∀q∈(mk b).M,h.m.get q.1=some (.own q.2))/\h.n<=(mk b).n/\v=(mk b).v/\h'=h.app (DL (mk b).δ):=by
 unfold uL at he;split at he
 ·rename_i y0 b ys hp;split at he
  ·rename_i hc;cases he
   simp only[AA,AS]at hc;obtain⟨⟨c1,c2⟩,c3⟩:=hc;refine⟨b,Mq _ _ c1,fun q hq=> ?_,Nat.le_of_ble_eq_true c2,rfl,rfl⟩;have h3:=c3 q hq;cases hb:Nat.beq q.1 p with
   |true=>
    have e1:=AE hb;obtain⟨c0,cs,e2⟩:=hmk b q hq e1;rw[hb,e2]at h3;simp only[cond_true,AA]at h3;rw[e1,hp,e2,ah _ _ h3.1,WG _ _ h3.2]
   |false=>
    rw[hb]at h3;exact Fb h3
  ·cases he
 ·cases he
noncomputable def ou(args:List Value)(h:EH):Option (Value×EH):=match uL Fj 735 args h with
 |some r=>some r
 |none=>uL GF 842 args h
theorem iS:SG Tryz.prog 180 ou:=by
 refine qE fun args h v h' he=> ?_
 unfold ou at he;split at he
 ·rename_i r hr;cases he
  obtain⟨b,h1,h2,h3,h4,h5⟩:=aV (fun b e he e1=>by
   simp only[Fj,AV,Ai,or_false]at he;rcases he with rfl|rfl|rfl|rfl|rfl|rfl|rfl|rfl|rfl|rfl<;>first|(exact⟨_,_,rfl⟩)|(exfalso;revert e1;decide)) hr
  exact⟨Fj b,h1,h2,h3,h4,h5,Yv b,pU b⟩
 ·obtain⟨b,h1,h2,h3,h4,h5⟩:=aV (fun b e he e1=>by
   simp only[GF,AV,Ai,or_false]at he;rcases he with rfl|rfl|rfl|rfl|rfl|rfl|rfl|rfl|rfl|rfl<;>first|(exact⟨_,_,rfl⟩)|(exfalso;revert e1;decide)) he
  exact⟨GF b,h1,h2,h3,h4,h5,Yu b,pT b⟩
noncomputable def S8:Env:=QR fun g=>bif Nat.beq g 180 then some ou else none
theorem OT:EnvOk Tryz.prog S8:=F5 fun g o h=>by
 cases hb:Nat.beq g 180 with
 |true=>
  rw[hb]at h;cases h
  rw[AE hb];exact iS
 |false=>rw[hb]at h;cases h
end
end
section
open Go.Conc Go.Proofs
variable[Md]
def N6:Mm:=⟨[.agg #[.int .i64 (.ofNat 8),.slice (some ⟨215,0,none⟩) 3 18446744073709551617,.slice (some ⟨224,0,none⟩) 3 18446744073709551621],.agg #[.int .i64 (.ofNat 1),.slice (some ⟨612,0,none⟩) 2 18446744073709551617,.slice (some ⟨613,0,none⟩) 2 18446744073709551617,.slice none 0 0,.slice none 0 0]],[(215,[.int .i64 (.ofNat 2),.int .i64 (.negSucc 0),.int .i64 (.negSucc 0)]),(224,[.int .i64 (.ofNat 0),.int .i64 (.ofNat 1),.int .i64 (.ofNat 0),.int .i64 (.ofNat 3),.int .i64 (.ofNat 1),.int .i64 (.ofNat 1),.int .i64 (.ofNat 2),.int .i64 (.ofNat 0),.int .i64 (.ofNat 2),.int .i64 (.ofNat 2),.int .i64 (.ofNat 0),.int .i64 (.ofNat 2),.int .i64 (.ofNat 0),.int .i64 (.ofNat 1),.int .i64 (.ofNat 2)]),(612,[.int .i64 (.ofNat 1),.int .i64 (.ofNat 1)]),(613,[.int .i64 (.ofNat 2),.int .i64 (.ofNat 0)])],619,.tuple #[.agg #[.int .i64 (.ofNat 1),.slice (some ⟨748,0,none⟩) 3 3,.slice (some ⟨750,0,none⟩) 3 3,.slice none 0 0,.slice none 0 0],.int .u16 (.ofNat 0)],[(748,[.int .i64 (.ofNat 1),.int .i64 (.ofNat 0),.int .i64 (.ofNat 1)]),(750,[.int .i64 (.ofNat 2),.int .i64 (.ofNat 1),.int .i64 (.ofNat 0)])]⟩
theorem XX:ET N6 ((ev S8 400).F 140 N6.args ⟨N6.mem,N6.n,[]⟩)=true:=kr
theorem Zv:SG Tryz.prog 140 (Ck N6):=Dz OT 400 XX
def N5:Mm:=⟨[.agg #[.int .i64 (.ofNat 1),.slice (some ⟨101,0,none⟩) 3 18446744073709551617,.slice (some ⟨110,0,none⟩) 3 18446744073709551621],.agg #[.int .i64 (.ofNat 1),.slice (some ⟨748,0,none⟩) 3 3,.slice (some ⟨750,0,none⟩) 3 3,.slice none 0 0,.slice none 0 0]],[(101,[.int .i64 (.ofNat 2),.int .i64 (.ofNat 0),.int .i64 (.negSucc 1)]),(110,[.int .i64 (.ofNat 0),.int .i64 (.ofNat 1),.int .i64 (.ofNat 0),.int .i64 (.ofNat 3),.int .i64 (.ofNat 1),.int .i64 (.ofNat 1),.int .i64 (.ofNat 2),.int .i64 (.ofNat 1),.int .i64 (.ofNat 3),.int .i64 (.ofNat 2),.int .i64 (.ofNat 0),.int .i64 (.ofNat 2),.int .i64 (.ofNat 0),.int .i64 (.ofNat 1),.int .i64 (.ofNat 2)]),(748,[.int .i64 (.ofNat 1),.int .i64 (.ofNat 0),.int .i64 (.ofNat 1)]),(750,[.int .i64 (.ofNat 2),.int .i64 (.ofNat 1),.int .i64 (.ofNat 0)])],753,.tuple #[.agg #[.int .i64 (.ofNat 1),.slice (some ⟨856,0,none⟩) 3 3,.slice (some ⟨858,0,none⟩) 3 3,.slice none 0 0,.slice none 0 0],.int .u16 (.ofNat 0)],[(856,[.int .i64 (.ofNat 1),.int .i64 (.ofNat 1),.int .i64 (.ofNat 1)]),(858,[.int .i64 (.ofNat 2),.int .i64 (.ofNat 1),.int .i64 (.ofNat 0)])]⟩
theorem XW:ET N5 ((ev S8 400).F 140 N5.args ⟨N5.mem,N5.n,[]⟩)=true:=kr
theorem Zu:SG Tryz.prog 140 (Ck N5):=Dz OT 400 XW
noncomputable def ow(args:List Value)(h:EH):Option (Value×EH):=match Ck N6 args h with
 |some r=>some r
 |none=>Ck N5 args h
theorem iT:SG Tryz.prog 140 ow:=fun args h v h' he hh=>by
 unfold ow at he;split at he
 ·rename_i r hr;cases he
  exact Zv _ _ _ _ hr hh
 ·exact Zu _ _ _ _ he hh
noncomputable def an:Env:=QR fun g=>bif Nat.beq g 140 then some ow else none
theorem Xk:EnvOk Tryz.prog an:=by
 refine F5 fun g o h=> ?_
 cases hb:Nat.beq g 140 with
 |true=>
  rw[hb]at h;cases h
  rw[AE hb];exact iT
 |false=>
 rw[hb]at h;simp only[cond_false]at h;cases h
def XY:Mm:=⟨[.slice (some ⟨227,0,none⟩) 2 18446744073709551619,.agg #[.int .i64 (.ofNat 1),.slice (some ⟨605,0,none⟩) 2 2,.slice (some ⟨603,0,none⟩) 2 2,.slice none 0 0,.slice none 0 0]],[(101,[.int .i64 (.ofNat 2),.int .i64 (.ofNat 0),.int .i64 (.negSucc 1)]),(110,[.int .i64 (.ofNat 0),.int .i64 (.ofNat 1),.int .i64 (.ofNat 0),.int .i64 (.ofNat 3),.int .i64 (.ofNat 1),.int .i64 (.ofNat 1),.int .i64 (.ofNat 2),.int .i64 (.ofNat 1),.int .i64 (.ofNat 3),.int .i64 (.ofNat 2),.int .i64 (.ofNat 0),.int .i64 (.ofNat 2),.int .i64 (.ofNat 0),.int .i64 (.ofNat 1),.int .i64 (.ofNat 2)]),(215,[.int .i64 (.ofNat 2),.int .i64 (.negSucc 0),.int .i64 (.negSucc 0)]),(224,[.int .i64 (.ofNat 0),.int .i64 (.ofNat 1),.int .i64 (.ofNat 0),.int .i64 (.ofNat 3),.int .i64 (.ofNat 1),.int .i64 (.ofNat 1),.int .i64 (.ofNat 2),.int .i64 (.ofNat 0),.int .i64 (.ofNat 2),.int .i64 (.ofNat 2),.int .i64 (.ofNat 0),.int .i64 (.ofNat 2),.int .i64 (.ofNat 0),.int .i64 (.ofNat 1),.int .i64 (.ofNat 2)]),(227,[.int .i64 (.ofNat 1),.slice (some ⟨101,0,none⟩) 3 18446744073709551617,.slice (some ⟨110,0,none⟩) 3 18446744073709551621,.int .i64 (.ofNat 8),.slice (some ⟨215,0,none⟩) 3 18446744073709551617,.slice (some ⟨224,0,none⟩) 3 18446744073709551621]),(603,[.int .i64 (.ofNat 2),.int .i64 (.ofNat 0)]),(605,[.int .i64 (.ofNat 1),.int .i64 (.ofNat 1)])],607,.tuple #[.agg #[.int .i64 (.ofNat 1),.slice (some ⟨856,0,none⟩) 3 3,.slice (some ⟨858,0,none⟩) 3 3,.slice none 0 0,.slice none 0 0],.int .u16 (.ofNat 0)],[(856,[.int .i64 (.ofNat 1),.int .i64 (.ofNat 1),.int .i64 (.ofNat 1)]),(858,[.int .i64 (.ofNat 2),.int .i64 (.ofNat 1),.int .i64 (.ofNat 0)])]⟩
theorem Zx:ET XY ((ev an 400).F 101 XY.args ⟨XY.mem,XY.n,[]⟩)=true:=kr
theorem f7:SG Tryz.prog 101 (Ck XY):=Dz Xk 400 Zx
end
section
open Go.Conc Go.Proofs
noncomputable def ap:Env:=QR fun g=>bif Nat.beq g 100 then some (Ck XZ)else bif Nat.beq g 101 then some (Ck XY)else none
theorem Xm(Post:Value->World->Prop)(W:World):letI:=KL Post W;EnvOk Tryz.prog ap:=by
 letI:=KL Post W
 refine F5 fun g o h=> ?_
 cases hb:Nat.beq g 100 with
 |true=>
  rw[hb]at h;cases h
  rw[AE hb];exact f8 Post W
 |false=>
 rw[hb]at h;simp only[cond_false]at h;cases hb:Nat.beq g 101 with
 |true=>
  rw[hb]at h;cases h
  rw[AE hb];exact f7
 |false=>
 rw[hb]at h;simp only[cond_false]at h;cases h
def pF:Mm:=⟨[.agg #[.slice (some ⟨192,0,none⟩) 2 18446744073709551617,.slice (some ⟨206,0,none⟩) 2 18446744073709551621,.slice (some ⟨227,0,none⟩) 2 18446744073709551619,.int .i64 (.ofNat 0),.int .u64 (.ofNat 0),.int .i64 (.ofNat 3)]],[(101,[.int .i64 (.ofNat 2),.int .i64 (.ofNat 0),.int .i64 (.negSucc 1)]),(110,[.int .i64 (.ofNat 0),.int .i64 (.ofNat 1),.int .i64 (.ofNat 0),.int .i64 (.ofNat 3),.int .i64 (.ofNat 1),.int .i64 (.ofNat 1),.int .i64 (.ofNat 2),.int .i64 (.ofNat 1),.int .i64 (.ofNat 3),.int .i64 (.ofNat 2),.int .i64 (.ofNat 0),.int .i64 (.ofNat 2),.int .i64 (.ofNat 0),.int .i64 (.ofNat 1),.int .i64 (.ofNat 2)]),(192,[.int .i64 (.ofNat 2),.int .i64 (.negSucc 1)]),(206,[.int .i64 (.ofNat 0),.int .i64 (.ofNat 1),.int .i64 (.ofNat 0),.int .i64 (.ofNat 1),.int .i64 (.ofNat 2),.int .i64 (.ofNat 0),.int .i64 (.ofNat 1),.int .i64 (.ofNat 1),.int .i64 (.ofNat 3),.int .i64 (.ofNat 3)]),(215,[.int .i64 (.ofNat 2),.int .i64 (.negSucc 0),.int .i64 (.negSucc 0)]),(224,[.int .i64 (.ofNat 0),.int .i64 (.ofNat 1),.int .i64 (.ofNat 0),.int .i64 (.ofNat 3),.int .i64 (.ofNat 1),.int .i64 (.ofNat 1),.int .i64 (.ofNat 2),.int .i64 (.ofNat 0),.int .i64 (.ofNat 2),.int .i64 (.ofNat 2),.int .i64 (.ofNat 0),.int .i64 (.ofNat 2),.int .i64 (.ofNat 0),.int .i64 (.ofNat 1),.int .i64 (.ofNat 2)]),(227,[.int .i64 (.ofNat 1),.slice (some ⟨101,0,none⟩) 3 18446744073709551617,.slice (some ⟨110,0,none⟩) 3 18446744073709551621,.int .i64 (.ofNat 8),.slice (some ⟨215,0,none⟩) 3 18446744073709551617,.slice (some ⟨224,0,none⟩) 3 18446744073709551621])],277,.tuple #[.agg #[.int .i64 (.ofNat 1),.slice (some ⟨856,0,none⟩) 3 3,.slice (some ⟨858,0,none⟩) 3 3,.slice none 0 0,.slice none 0 0],.int .u16 (.ofNat 0)],[(856,[.int .i64 (.ofNat 1),.int .i64 (.ofNat 1),.int .i64 (.ofNat 1)]),(858,[.int .i64 (.ofNat 2),.int .i64 (.ofNat 1),.int .i64 (.ofNat 0)])]⟩
theorem fq:ET pF ((ev ap 400).F 49 pF.args ⟨pF.mem,pF.n,[]⟩)=true:=kr
theorem mn(Post:Value->World->Prop)(W:World):letI:=KL Post W;SG Tryz.prog 49 (Ck pF):=letI:=KL Post W;Dz (Xm Post W) 400 fq
end
section
open Go.Conc Go.Proofs
variable[Md]
def pG:Mm:=⟨[.agg #[.slice (some ⟨0,0,none⟩) 3 3,.slice (some ⟨1,0,none⟩) 3 3],.slice (some ⟨3,0,none⟩) 3 3],[(0,[.int .i64 (.ofNat 2),.int .i64 (.ofNat 0),.int .i64 (.negSucc 1)]),(1,[.int .i64 (.ofNat 0),.int .i64 (.ofNat 1),.int .i64 (.ofNat 0),.int .i64 (.ofNat 3),.int .i64 (.ofNat 1),.int .i64 (.ofNat 1),.int .i64 (.ofNat 2),.int .i64 (.ofNat 1),.int .i64 (.ofNat 3),.int .i64 (.ofNat 2),.int .i64 (.ofNat 0),.int .i64 (.ofNat 2),.int .i64 (.ofNat 0),.int .i64 (.ofNat 1),.int .i64 (.ofNat 2)]),(3,[.int .i64 (.ofNat 1),.int .i64 (.ofNat 8),.int .i64 (.ofNat 5)])],7,.tuple #[.agg #[.slice (some ⟨192,0,none⟩) 2 18446744073709551617,.slice (some ⟨206,0,none⟩) 2 18446744073709551621,.slice (some ⟨227,0,none⟩) 2 18446744073709551619,.int .i64 (.ofNat 0),.int .u64 (.ofNat 0),.int .i64 (.ofNat 3)],.int .u16 (.ofNat 0)],[(101,[.int .i64 (.ofNat 2),.int .i64 (.ofNat 0),.int .i64 (.negSucc 1)]),(110,[.int .i64 (.ofNat 0),.int .i64 (.ofNat 1),.int .i64 (.ofNat 0),.int .i64 (.ofNat 3),.int .i64 (.ofNat 1),.int .i64 (.ofNat 1),.int .i64 (.ofNat 2),.int .i64 (.ofNat 1),.int .i64 (.ofNat 3),.int .i64 (.ofNat 2),.int .i64 (.ofNat 0),.int .i64 (.ofNat 2),.int .i64 (.ofNat 0),.int .i64 (.ofNat 1),.int .i64 (.ofNat 2)]),(192,[.int .i64 (.ofNat 2),.int .i64 (.negSucc 1)]),(206,[.int .i64 (.ofNat 0),.int .i64 (.ofNat 1),.int .i64 (.ofNat 0),.int .i64 (.ofNat 1),.int .i64 (.ofNat 2),.int .i64 (.ofNat 0),.int .i64 (.ofNat 1),.int .i64 (.ofNat 1),.int .i64 (.ofNat 3),.int .i64 (.ofNat 3)]),(215,[.int .i64 (.ofNat 2),.int .i64 (.negSucc 0),.int .i64 (.negSucc 0)]),(224,[.int .i64 (.ofNat 0),.int .i64 (.ofNat 1),.int .i64 (.ofNat 0),.int .i64 (.ofNat 3),.int .i64 (.ofNat 1),.int .i64 (.ofNat 1),.int .i64 (.ofNat 2),.int .i64 (.ofNat 0),.int .i64 (.ofNat 2),.int .i64 (.ofNat 2),.int .i64 (.ofNat 0),.int .i64 (.ofNat 2),.int .i64 (.ofNat 0),.int .i64 (.ofNat 1),.int .i64 (.ofNat 2)]),(227,[.int .i64 (.ofNat 1),.slice (some ⟨101,0,none⟩) 3 18446744073709551617,.slice (some ⟨110,0,none⟩) 3 18446744073709551621,.int .i64 (.ofNat 8),.slice (some ⟨215,0,none⟩) 3 18446744073709551617,.slice (some ⟨224,0,none⟩) 3 18446744073709551621])]⟩
set_option maxRecDepth 100000 in
theorem ft:ET pG ((ev Ge 400).F 48 pG.args ⟨pG.mem,pG.n,[]⟩)=true:=kr
theorem mo:SG Tryz.prog 48 (Ck pG):=Dz Ey 400 ft
end
section
open Go.Conc Go.Proofs
noncomputable def j4:Env:=QR fun g=>bif Nat.beq g 48 then some (Ck pG)else bif Nat.beq g 49 then some (Ck pF)else none
theorem al(Post:Value->World->Prop)(W:World):letI:=KL Post W;EnvOk Tryz.prog j4:=by
 letI:=KL Post W
 refine F5 fun g o h=> ?_
 cases hb:Nat.beq g 48 with
 |true=>
  rw[hb]at h;cases h
  rw[AE hb];exact mo
 |false=>
 rw[hb]at h;simp only[cond_false]at h;cases hb:Nat.beq g 49 with
 |true=>
  rw[hb]at h;cases h
  rw[AE hb];exact mn Post W
 |false=>
 rw[hb]at h;simp only[cond_false]at h;cases h
def pH:Mm:=⟨[.agg #[.slice (some ⟨0,0,none⟩) 3 3,.slice (some ⟨1,0,none⟩) 3 3],.slice (some ⟨3,0,none⟩) 3 3],[(0,[.int .i64 (.ofNat 2),.int .i64 (.ofNat 0),.int .i64 (.negSucc 1)]),(1,[.int .i64 (.ofNat 0),.int .i64 (.ofNat 1),.int .i64 (.ofNat 0),.int .i64 (.ofNat 3),.int .i64 (.ofNat 1),.int .i64 (.ofNat 1),.int .i64 (.ofNat 2),.int .i64 (.ofNat 1),.int .i64 (.ofNat 3),.int .i64 (.ofNat 2),.int .i64 (.ofNat 0),.int .i64 (.ofNat 2),.int .i64 (.ofNat 0),.int .i64 (.ofNat 1),.int .i64 (.ofNat 2)]),(3,[.int .i64 (.ofNat 1),.int .i64 (.ofNat 8),.int .i64 (.ofNat 5)])],4,.tuple #[.agg #[.int .i64 (.ofNat 1),.slice (some ⟨856,0,none⟩) 3 3,.slice (some ⟨858,0,none⟩) 3 3,.slice none 0 0,.slice none 0 0],.agg #[.int .i64 (.ofNat 0),.int .u64 (.ofNat 5)],.int .u16 (.ofNat 0)],[(856,[.int .i64 (.ofNat 1),.int .i64 (.ofNat 1),.int .i64 (.ofNat 1)]),(858,[.int .i64 (.ofNat 2),.int .i64 (.ofNat 1),.int .i64 (.ofNat 0)])]⟩
theorem fu:ET pH ((ev j4 400).F 18 pH.args ⟨pH.mem,pH.n,[]⟩)=true:=kr
theorem mq(Post:Value->World->Prop)(W:World):letI:=KL Post W;SG Tryz.prog 18 (Ck pH):=letI:=KL Post W;Dz (al Post W) 400 fu
noncomputable def j5:Env:=QR fun g=>bif Nat.beq g 18 then some (Ck pH)else bif Nat.beq g 15 then some (Ck XU)else none
theorem am(Post:Value->World->Prop)(W:World):letI:=KL Post W;EnvOk Tryz.prog j5:=by
 letI:=KL Post W
 refine F5 fun g o h=> ?_
 cases hb:Nat.beq g 18 with
 |true=>
  rw[hb]at h;cases h
  rw[AE hb];exact mq Post W
 |false=>
 rw[hb]at h;simp only[cond_false]at h;cases hb:Nat.beq g 15 with
 |true=>
  rw[hb]at h;cases h
  rw[AE hb];exact fv
 |false=>
 rw[hb]at h;simp only[cond_false]at h;cases h
def m7:Mm:=⟨[],[],0,.bool true,[]⟩
theorem ml:ET m7 ((ev j5 400).F 7 m7.args ⟨m7.mem,m7.n,[]⟩)=true:=kr
theorem rE(Post:Value->World->Prop)(W:World):letI:=KL Post W;SG Tryz.prog 7 (Ck m7):=letI:=KL Post W;Dz (am Post W) 400 ml
end
section
open Go.Conc Go.Proofs
variable[Md]
section
def Nb(P:Nat->Prop)(H G:Hp):Prop:=∀c y,¬P c->H c=some y->G c=some y
variable{P:Nat->Prop}{G H K:Hp}
theorem Nb.trans(h:Nb P H G)(k:Nb P G K):Nb P H K:=fun c y hc hy=>k c y hc (h c y hc hy)
theorem Nb.refl(H:Hp):Nb P H H:=fun _ _ _ h=>h
theorem Nb.ext(h:Nb P H G)(e:Ext K H)(hK:∀c,P c->K c=none):Ext K G:=fun c y hc=>h c y (fun hp=>by rw[hK c hp]at hc;cases hc) (e c y hc)
theorem Ext.p(h:Ext H G):Nb P H G:=fun c y _ hy=>h c y hy
theorem IY{nf:Nat}(P:Nat->Prop)[DecidablePred P](hf:Fr H nf):∃K,Ext K H/\(∀c,nf<=c\/P c->K c=none)/\(∀G,Ext K G->Nb P H G)/\(∀c,¬P c->K c=H c):=by
 refine⟨fun c=>if P c then none else H c,fun c y h=> ?_,fun c h=> ?_,fun G e c y hc hy=>e c y ?_,fun c h=>if_neg h⟩
 ·dsimp only at h;split at h
  ·cases h
  ·exact h
 ·dsimp only;split
  ·rfl
  ·rename_i h2;exact hf c (h.elim id fun h=>absurd h h2)
 ·dsimp only;rw[if_neg hc];exact hy
theorem xw{a:Nat}{x:AB}(h:K a=some x)(e:Ext K G:=by(repeat refine Ext.up (hf0 _ om) ?_);first|exact Ext.refl _|exact he):G a=some x:=e a x h
theorem Rd.drop{α:Type}{s:Nat}{f:α->List Value}{A:Option Addr}{l:List α}(h:Rd s f H A l)(e:∀c,¬P c->K c=H c)(hn:∀b o,A=some ⟨b,o,none⟩->¬P b):Rd s f K A l:=fun k hk=>by
 obtain⟨b,o,eA,h1⟩:=h k hk;exact⟨b,o,eA,by rw[e b (hn b o eA)];exact h1⟩
structure NwA(H:Hp)(w xb ob n:Nat)(L:List Ar)(T:Value):Prop where
 cell:∃A c B d cx co,H w=some (.own [.slice A n c,.slice B L.length d,.slice (some ⟨xb,0,none⟩) L.length cx,.slice (some ⟨ob,0,none⟩) n co,T])/\Rd 5 Ar.c H B L/\∀b o,B=some ⟨b,o,none⟩->¬(b=xb\/b=ob)
 n1:w≠xb
 n2:w≠ob
 n3:xb≠ob
variable{n w xb:Nat}{L:List Ar}{T:Value}
theorem NwA.exp{ob:Nat}(h:NwA H w xb ob n L T)(e:Nb (fun c=>c=xb\/c=ob) H G):NwA G w xb ob n L T:=by
 obtain⟨⟨A,c,B,d,cx,co,h1,h2,h3⟩,n1,n2,n3⟩:=h;refine⟨⟨A,c,B,d,cx,co,e _ _ (fun h=>h.elim n1 n2) h1,fun k hk=> ?_,h3⟩,n1,n2,n3⟩;obtain⟨b,o,eB,hb⟩:=h2 k hk;refine⟨b,o,eB,?_⟩;cases hx:H b with
 |none=>rw[hx]at hb;cases hb
 |some x=>rw[e b x (h3 b o eB) hx,<-hx];exact hb
theorem NwA.ext{ob:Nat}(h:NwA H w xb ob n L T)(e:Ext H G):NwA G w xb ob n L T:=h.exp e.p
abbrev PX(xb ob:Nat):Nat->Prop:=fun c=>c=xb\/c=ob
theorem G9{s:Stp}(ha:s.a<L.length)(ho:ArOk n L[s.a]): (if s.back=true then L[s.a].t else L[s.a].f)=(sFrom L s:Int)/\(if s.back=true then L[s.a].f else L[s.a].t)=(sTo L s:Int)/\sFrom L s<n/\sTo L s<n:=by
 have h1:=ho.f;have h2:=ho.t;unfold sFrom sTo;rw[Du L ha];cases s.back<;>simp<;>omega
theorem mR{ob:Nat}{xf of_:Nat->Int}(hN:NwA H w xb ob n L T)(hx:H xb=some (.own (ar L.length xf)))(ho:H ob=some (.own (ar n of_))){s:Stp}{u:Int}(ha:s.a<L.length)(hA:ArOk n L[s.a])(r1:R64 (xf s.a - u)/\R64 (xf s.a+u))(r2:R64 (of_ (sFrom L s) - u))(r3:R64 ((up of_ (sFrom L s) (of_ (sFrom L s) - u)) (sTo L s)+u)):Ct 51 [.pointer (some ⟨w,0,none⟩),.agg #[.int .i64 (s.a:Int),.bool s.back],.int .i64 u] (fun _ H'=>Nb (PX xb ob) H H'/\H' xb=some (.own (ar L.length (up xf s.a (if s.back=true then xf s.a - u else xf s.a+u))))/\H' ob=some (.own (ar n (up (up of_ (sFrom L s) (of_ (sFrom L s) - u)) (sTo L s) ((up of_ (sFrom L s) (of_ (sFrom L s) - u)) (sTo L s)+u))))) H:=by
 refine BV Tryz.func51 rfl 58 rfl fun nf t hf hsc ht=> ?_
 have hf0:=hf;obtain⟨⟨A,c,B,d,cx,co,hw,hB,hBn⟩,n1,n2,n3⟩:=hN;have lw:=hf.lt hw;have lx:=hf.lt hx;have lo:=hf.lt ho;obtain⟨K,kE,hq,kX,kN⟩:=IY (PX xb ob) hf;have hf0:∀c,nf<=c\/c=xb\/c=ob->K c=none:=hq;have he:=kE;have hwH:=hw;have hwK:K w=some _:=(kN w (fun h=>h.elim n1 n2)).trans hw;have hBK:=hB.drop kN hBn;obtain⟨es1,es2,es3,es4⟩:=G9 ha hA;unfold R64 at r1 r2 r3;refine BO (BQ ?_);have fz:=ai es2 (ai es1 (ai hwH (ai ho (ai hx (ai (ht 2 _ rfl) (ai (ht 1 _ rfl) (ht 0 _ rfl)))))));refine xa fun hf=> ?_
 refine BP (BO (BQ (Ba ?_)));refine xp (h:=Iu (xw hwK) (hBK.ext xx) ha (b:=s.back)) (k:= ?_);refine Eg (BP (BO (BO (BQ ?_))));refine Ba (BP ?_);refine xi (fun c1=> ?_) fun c1=> ?_
 ·refine Bh [0,0,0,1,0,1,0,1,0,0,0,2] [0,1,2,3,4,5,6,7,8,9,10,11] kr hf ?_;have fz:=ai c1 fz;iterate 11 first|refine CA ?_|refine Cq ?_
  refine Fx fun nf2 hl2 hf=> ?_
  refine BX (BO (BQ (Dk ?_)));refine Dv ?_;refine xs fun hf=> ?_
  refine BP (BQ (Dk ?_));refine Dv ?_;refine xs fun hf=> ?_
  refine BP ?_;refine Ji ?_ rfl;refine rt ?_;exact HQ rfl ⟨kX _ xx,xv,xy⟩
 ·refine Bh [0,0,0,1,0,1,0,1,0,0,0,2] [0,1,2,3,4,5,6,7,8,9,10,11] kr hf ?_;have fz:=ai c1 fz;iterate 11 first|refine CA ?_|refine Cq ?_
  refine Fx fun nf3 hl3 hf=> ?_
  refine BX (BO (BQ (Dk ?_)));refine Dv ?_;refine xs fun hf=> ?_
  refine BP (BQ (Dk ?_));refine Dv ?_;refine xs fun hf=> ?_
  refine BP ?_;refine Ji ?_ rfl;refine rt ?_;exact HQ rfl ⟨kX _ xx,xv,xy⟩
end
section
theorem Dc(a b:Int)(x y:Bool):B9 tz 171 [(0,.agg #[.int .i64 a,.bool x]),(1,.agg #[.int .i64 b,.bool y])]=some (.agg #[.int .i64 a,.bool x,.int .i64 b,.bool y]):=kr
theorem jZ(a b:Int)(x y:Bool):Ha tz 171 (.agg #[.int .i64 a,.bool x,.int .i64 b,.bool y]) (.int .i64 0)=some (.agg #[.int .i64 a,.bool x])/\Ha tz 171 (.agg #[.int .i64 a,.bool x,.int .i64 b,.bool y]) (.int .i64 1)=some (.agg #[.int .i64 b,.bool y]):=⟨kr,kr⟩
theorem we(a:Int){j:Nat}(h:j<2):Ha tz 171 (.agg #[.int .i64 a,.bool false,.int .i64 a,.bool true]) (.int .i64 (j:Int))=some (.agg #[.int .i64 a,.bool (j==1)]):=by
 match j,h with
 |0,_=>exact(jZ a a false true).1
 |1,_=>exact(jZ a a false true).2
theorem xJ: (∀d:Int,(some d).getD 0=d)/\(∀d:Int,(some d).isSome=true):=⟨fun _=>rfl,fun _=>rfl⟩
def Yj(st:Nat->Bool)(k v:Nat):Option Int:=if v<k/\st v=true then some 0 else none
theorem br(n:Nat)(f:Nat->Option Int){v:Nat}(h:v<n):at_ ((List.range n).map f) v=f v:=by simp[at_,h]
theorem bp{α:Type}(n v:Nat):at_ (List.replicate n (none:Option α)) v=none:=by
 unfold at_;rw[List.getElem?_replicate];split<;>rfl
theorem lK(st:Nat->Bool)(n:Nat):ar n (Yj st n)=ar n (at_ (CU n st).dist):=CH fun j hj=>by
 unfold CU Yj;rw[br n _ hj];by_cases h:st j=true
 ·rw[if_pos ⟨hj,h⟩,if_pos h]
 ·rw[if_neg (fun e=>h e.2),if_neg h]
theorem fZ(st:Nat->Bool)(n:Nat):ar n (fun _=>(none:Option Stp))=ar n (at_ (CU n st).by_):=CH fun j _=>(bp n j).symm
variable{σ:SP}
theorem dM{L:List Ar}{cnt:Stp->Bool}{s:Stp}(h: (!(at_ σ.dist (sFrom L s)).isSome|| !cnt s)=true):visit L cnt σ s=σ:=by
 unfold Go.Proofs.YtjlallgaadmeaaaGreatDoor.visit;cases hd:at_ σ.dist (sFrom L s)with
 |none=>rfl
 |some d=>
  rw[hd]at h;dsimp only;rw[if_neg (by simpa using h)]
theorem dL{L:List Ar}{cnt:Stp->Bool}{s:Stp}{d:Int}(hd:at_ σ.dist (sFrom L s)=some d)(h: ((at_ σ.dist (sTo L s)).isSome&&decide ((at_ σ.dist (sTo L s)).getD 0<=d+sCost L s))=true):visit L cnt σ s=σ:=by
 unfold Go.Proofs.YtjlallgaadmeaaaGreatDoor.visit;rw[hd];dsimp only;split
 ·cases he:at_ σ.dist (sTo L s)with
  |none=>rw[he]at h;cases h
  |some e=>
   rw[he]at h;dsimp only;rw[if_pos (by simpa using h)]
 ·rfl
theorem dK{L:List Ar}{cnt:Stp->Bool}{s:Stp}{d:Int}(hd:at_ σ.dist (sFrom L s)=some d)(hc:cnt s=true)(h: ((at_ σ.dist (sTo L s)).isSome&&decide ((at_ σ.dist (sTo L s)).getD 0<=d+sCost L s))=false):visit L cnt σ s=⟨σ.dist.set (sTo L s) (some (d+sCost L s)),σ.by_.set (sTo L s) (some s),some (sTo L s)⟩:=by
 unfold Go.Proofs.YtjlallgaadmeaaaGreatDoor.visit;rw[hd];dsimp only;rw[if_pos hc];cases he:at_ σ.dist (sTo L s)with
 |none=>rfl
 |some e=>
  rw[he]at h;dsimp only;rw[if_neg (by simpa using h)]
theorem Wb{α:Type}{l:List (Option α)}{k n:Nat}(x:Option α)(hl:l.length=n)(hk:k<n):at_ (l.set k x)=up (at_ l) k x:=by
 rw[Iy _ _ _ (by rw[hl];exact hk)];rfl
theorem YR{L:List Ar}{cnt:Stp->Bool}{a j:Nat}(h:j<2): ([⟨a,false⟩,⟨a,true⟩].take (j+1)).foldl (visit L cnt) σ=visit L cnt (([⟨a,false⟩,⟨a,true⟩].take j).foldl (visit L cnt) σ) ⟨a,j==1⟩:=by
 match j,h with
 |0,_=>rfl
 |1,_=>rfl
theorem SL{L:List Ar}{cnt:Stp->Bool}{a:Nat}: (CF (a+1)).foldl (visit L cnt) σ=([⟨a,false⟩,⟨a,true⟩].take 2).foldl (visit L cnt) ((CF a).foldl (visit L cnt) σ):=by
 unfold CF;rw[List.range_succ,BF,List.foldl_append];rfl
section
variable{top:Bool}{ops:Array Oper}{l:List Oper}{Q:AF->Hp->Prop}{N nf:Nat}{t:Nat->Value}{ds:List Deferred}{H:Hp}{o:Oper}
theorem uv{d dj:Nat}{w c:Bool}{x:Operand}{g:FuncId}{first cap:Array Value}{args:List Operand}{ats:Array TypeId}{vs:List Value}{v:Value}(hc:dD ops N o=some (d,dj,w))(hop:o.op= .call {callee:= .value x,args:=⟨args⟩,argTypes:=ats})(hg: (ob (t dj)==some w)=c)(hx:c=true->eT t x= .func (.func g) first cap)(hv:c=true->first.toList++args.map (eT t)++cap.toList=vs)(h:c=true->Pure g vs v H)(k:WL top ops l Q ⟨N,st t d (gw c v),ds⟩ H):WL top ops (o::l) Q ⟨N,t,ds⟩ H:=by
 obtain⟨hd,hn,hx',hw⟩:=Mz (t:=t) hc;rw[hg]at hw;cases c with
 |true=>
  obtain⟨⟨fn,c,hf,hb⟩,h⟩:=h rfl;refine CL hx' hw (WOp.call (first:=first) (cap:=cap) hop (hx rfl) hf hb (C4 hf) ?_);have e:first.toList++args.map (eT t)++cap.toList=vs:=hv rfl;rw[e];exact h.mono fun u H' q=>by obtain⟨rfl,rfl⟩:=q;rw[hd,CT hn];exact k
 |false=>exact Ld hw (by rw[hd,CT hn];exact k)
end
end
section
variable{j n:Nat}
theorem nn{fn:Func}{Q:Value->Hp->Prop}{t:Nat->Value}{H:Hp}{k i ty:Nat}(hr:fn.results= #[.tmp k,.tmp j,.cell i ty]){u:Value}(hl:EC tz H ty (t i)=some u)(h:Q (.tuple #[t k,t j,u]) H):GQ fn Q .ret ⟨n,t,[]⟩ H:=Iq (by simp) (by rw[hr];simp[Dn,NR,hl]) h
def x6(H H':Hp)(v:Value)(n:Nat)(σ:SP):Prop:=Ext H H'/\∃db bb:Nat,v= .tuple #[.slice (some ⟨db,0,none⟩) n n,.slice (some ⟨bb,0,none⟩) n n,.agg #[.int .i64 ((σ.last.getD 0:Nat):Int),.bool σ.last.isSome]]/\H' db=some (.own (ar n (at_ σ.dist)))/\H' bb=some (.own (ar n (at_ σ.by_)))/\H db=none/\H bb=none/\db≠bb
variable{L:List Ar}
theorem Qc(st:Nat->Bool):SPok n L 0 (CU n st):=by
 refine⟨by simp[CU],by simp[CU],fun v d hd=> ?_,fun v s hs=> ?_,fun v h=>by cases h⟩
 ·unfold CU at hd;by_cases hv:v<n
  ·rw[br n _ hv]at hd;split at hd
   ·cases hd;omega
   ·cases hd
  ·simp[at_,hv]at hd
 ·unfold CU at hs;rw[bp]at hs;cases hs
theorem Vo{K:Int}{σ:SP}(h:SPok n L K σ):SPok n L K {σ with last:=none}:=⟨h.ld,h.lb,h.bd,h.by1,fun v e=>by cases e⟩
def PO(L:List Ar)(cnt:Stp->Bool)(σ:SP)(a:Nat):SP:=(CF a).foldl (visit L cnt) {σ with last:=none}
def HP(L:List Ar)(cnt:Stp->Bool)(σ:SP)(a j:Nat):SP:=([⟨a,false⟩,⟨a,true⟩].take j).foldl (visit L cnt) (PO L cnt σ a)
theorem PN(L:List Ar)(cnt:Stp->Bool)(σ:SP)(a:Nat):HP L cnt σ a 0=PO L cnt σ a:=rfl
theorem GT{cnt:Stp->Bool}{σ:SP}{a:Nat}(h:j<2):HP L cnt σ a (j+1)=visit L cnt (HP L cnt σ a j) ⟨a,j==1⟩:=YR h
theorem PM(L:List Ar)(cnt:Stp->Bool)(σ:SP)(a:Nat):HP L cnt σ a 2=PO L cnt σ (a+1):=SL.symm
theorem Qk{cnt:Stp->Bool}{k:Nat}{σ:SP}(hk:k<n):C0 L cnt (n - k) σ=if(DU L cnt σ).last.isNone then DU L cnt σ else C0 L cnt (n - (k+1)) (DU L cnt σ):=by
 rw[show n - k=(n - (k+1))+1 from om];rfl
structure SpM(G:Hp)(db bb lb n:Nat)(σ:SP):Prop where
 d:G db=some (.own (ar n (at_ σ.dist)))
 b:G bb=some (.own (ar n (at_ σ.by_)))
 l:G lb=some (.own [.int .i64 ((σ.last.getD 0:Nat):Int),.bool σ.last.isSome])
theorem pn(st:Nat->Bool): (fun _=>(none:Option Int))=Yj st 0:=by funext v;unfold Yj;rw[if_neg (fun h=>absurd h.1 (Aj v))]
theorem iw{st:Nat->Bool}{k:Nat}(h:st k=true):up (Yj st k) k (some 0)=Yj st (k+1):=by
 funext v;unfold up Yj;by_cases e:v=k
 ·subst e;rw[if_pos rfl,if_pos ⟨om,h⟩]
 ·rw[if_neg e];by_cases h2:v<k/\st v=true
  ·rw[if_pos h2,if_pos ⟨om,h2.2⟩]
  ·rw[if_neg h2,if_neg fun h3=>h2 ⟨om,h3.2⟩]
theorem iy{st:Nat->Bool}{k:Nat}(h:st k=false):Yj st k=Yj st (k+1):=by
 funext v;unfold Yj;by_cases h2:v<k/\st v=true
 ·rw[if_pos h2,if_pos ⟨om,h2.2⟩]
 ·rw[if_neg h2,if_neg fun h3=>h2 ⟨Nat.lt_of_le_of_ne om (fun e=>by rw[e,h]at h3;exact absurd h3.2 dZ),h3.2⟩]
theorem FH(hA:∀a∈L,ArOk n a):Ends n L:=fun a h=>⟨(hA a h).f.1,(hA a h).f.2,(hA a h).t.1,(hA a h).t.2⟩
theorem Hy(hA:∀a∈L,ArOk n a):∀a∈L, -4398046511104<=a.co/\a.co<=4398046511104:=fun a h=>(hA a h).co
theorem Xc{o:Option Int}(h:o.isSome=true):∃d,o=some d:=Option.isSome_iff_exists.1 h
theorem Um{s:Stp}(ha:s.a<L.length): (if s.back=true then -L[s.a].co else L[s.a].co)=sCost L s:=by unfold sCost;rw[Du L ha]
set_option maxHeartbeats 4000000 in
theorem I8{w:Nat}{A B:Option Addr}{c d:Nat}{X O T:Value}{H:Hp}(hw:H w=some (.own [.slice A n c,.slice B L.length d,X,O,T]))(hB:Rd 5 Ar.c H B L)(hA:∀a∈L,ArOk n a)(hn:n<=64)(hL:L.length<=256){gs gc:FuncId}{fs cs fc cc:Array Value}{st:Nat->Bool}{cnt:Stp->Bool}(hs:∀G,Ext H G->∀v:Nat,v<n->Pure gs (fs.toList++[.int .i64 (v:Int)]++cs.toList) (.bool (st v)) G)(hc:∀G,Ext H G->∀s:Stp,s.a<L.length->Pure gc (fc.toList++[.agg #[.int .i64 (s.a:Int),.bool s.back]]++cc.toList) (.bool (cnt s)) G):Ct 58 [.pointer (some ⟨w,0,none⟩),.func (.func gs) fs cs,.func (.func gc) fc cc] (fun v H'=>x6 H H' v n (Bq L n st cnt)) H:=by
 refine BV Tryz.func58 rfl 134 rfl fun nf t hf hsc ht=> ?_
 have hf0:=hf;have lw:=hf.lt hw;refine BO (BQ ?_);have fz:=ai mks (ai xO (ai hw (ai (ht 2 _ rfl) (ai (ht 1 _ rfl) (ht 0 _ rfl)))));refine Ba ?_;refine xa fun hf=> ?_
 refine BP (BO (BQ (Dk ?_)));refine xa fun hf=> ?_
 refine xq (BP (BO (BQ ?_)));refine Dk ?_;refine xa fun hf=> ?_
 refine xq (BP (BO (BO (BQ ?_))));refine B0 (BP (BS ?_));refine By fun T1 hT=> ?_
 have gz:=ai (xt (hT 35)) (ai (xt (hT 34)) (ai (xt (hT 10)) (ai (xt (hT 9)) (ai (xt (hT 8)) (ai (xt (hT 2)) (ai (xt (hT 1)) (ai (xt (hT 0)) trivial)))))));clear hT;refine xl n nf H hf (fun k t nf1 G=>G (nf+1)=some (.own (ar n (Yj st k)))/\(t 0=T1 0/\t 1=T1 1/\t 2=T1 2/\t 8=T1 8/\t 9=T1 9/\t 10=T1 10/\t 34=T1 34)/\t 35= .int .i64 (k:Int)/\G nf=some (.own [.int .i64 0,.bool false])/\G (nf+1+1)=some (.own (ar n fun _=>(none:Option Stp)))) ⟨(by rw[<-pn];exact xy),xh⟩ ?_;rintro k t nf1 G hk1 hn1 hf he ⟨bd,uz,h35,b0,b1⟩;have hfl:=hf;have l0:=hf.lt b0;have l1:=hf.lt b1;have hwG:=he _ _ hw;refine BO (BQ ?_);have fz:=ai bd (ai b1 (ai b0 (ai h35 (ai uz (ai gz (ai HC (ai Dc (ai @NV (ai @LF (ai @SA (ai @dF (ai Db (ai DB hwG)))))))))))));refine xq (BP (BO ?_));refine C8 (fun c1=> ?_) fun c1=> ?_
 ·refine BR (BO (BS (BO (BQ ?_))));have fz:=ai c1 fz;refine Ba (BP (BO (BQ ?_)));refine Ba ?_;refine qa rfl xv xv (hs _ xx k om) (BP ?_);refine xi (fun c2=> ?_) fun c2=> ?_
  ·refine BQ ?_;have fz:=ai c2 fz;refine Ba ?_;refine xp (h:=Qf) (k:= ?_);refine xq ?_;refine xs fun hf=> ?_
   refine BP (BQ (Ba (BP ?_)));exact xe hf ⟨(by first|(rw[<-iw c2];exact xy)|(rw[<-iy c2];exact xy)),xz⟩
  ·refine BR (BQ ?_);have fz:=ai c2 fz;refine Ba (BP ?_);exact xe hf ⟨(by first|(rw[<-iw c2];exact xy)|(rw[<-iy c2];exact xy)),xz⟩
 ·obtain rfl:n=k:=om;refine xo (BO (BQ ?_));have fz:=ai c1 fz;refine xa fun hf=> ?_
  refine BP (By fun J1 hT=> ?_);have j1_8:=xt (hT 8);have j1_9:=xt (hT 9);have j1_10:=xt (hT 10);have j1_12:=xt (hT 12);have gz:=ai j1_12 (ai j1_10 (ai j1_9 (ai j1_8 gz)));have j1_0:=xt (hT 0);have j1_2:=xt (hT 2);refine Od (fun Af G=>∃(t:Nat->Value) (nj1:Nat) (τ:SP),Af=⟨134,t,[]⟩/\nf<=nj1/\Fr G nj1/\Ext H G/\Bq L n st cnt=τ/\G (nf+1)=some (.own (ar n (at_ τ.dist)))/\G (nf+1+1)=some (.own (ar n (at_ τ.by_)))/\G nf1=some (.own [.int .i64 ((τ.last.getD 0:Nat):Int),.bool τ.last.isSome])/\t 8=J1 8/\t 9=J1 9/\t 10=J1 10/\t 12=J1 12/\G nf=some (.own [.int .i64 0,.bool false])) ?_ ?_
  ·refine BO (BQ ?_);have fz:=ai j1_2 (ai j1_0 (ai j1_12 (ai j1_10 (ai j1_9 (ai j1_8 fz)))));refine Dk ?_;refine xq (BP (BS ?_));refine By fun T2 hT=> ?_
   have gz:=ai (xt (hT 52)) (ai (xt (hT 51)) (ai (xt (hT 12)) (ai (xt (hT 10)) (ai (xt (hT 9)) (ai (xt (hT 8)) (ai (xt (hT 2)) (ai (xt (hT 0)) gz)))))));clear hT;refine xl n nf H hf (fun k2 t nf2 G=>∃(σ:SP),G (nf+1)=some (.own (ar n (at_ σ.dist)))/\G (nf+1+1)=some (.own (ar n (at_ σ.by_)))/\G nf1=some (.own [.int .i64 ((σ.last.getD 0:Nat):Int),.bool σ.last.isSome])/\SPok n L (2251799813685248*(k2:Int)) σ/\Bq L n st cnt=C0 L cnt (n - k2) σ/\(t 0=T2 0/\t 2=T2 2/\t 8=T2 8/\t 9=T2 9/\t 10=T2 10/\t 12=T2 12/\t 51=T2 51)/\t 52= .int .i64 (k2:Int)/\G nf=some (.own [.int .i64 0,.bool false])) ⟨(CU n st),(by rw[<-lK];exact xy),(by rw[<-fZ];exact xy),xv,(Qc st),rfl,xh⟩ ?_;rintro k2 t nf2 G hk2 hn2 hf he ⟨σ,dd,db,dl,ok2,sh,uz,h52,b0⟩;have hfl:=hf;have l0:=hf.lt b0;have hwG:=he _ _ hw;have l1:=hf.lt dl;refine BO (BQ ?_);have fz:=ai dl (ai db (ai dd (ai b0 (ai h52 (ai uz (ai gz (ai HC (ai Dc (ai @NV (ai @LF (ai @SA (ai @dF (ai Db (ai DB hwG))))))))))))));refine xq (BP (BO ?_));refine C8 (fun c3=> ?_) fun c3=> ?_
   ·refine BR (BO (BS (BO (BQ ?_))));have fz:=ai c3 fz;refine xq ?_;refine xs fun hf=> ?_
    refine BP (BO (BO (BQ (Dk ?_))));refine xq (BP (BS ?_));refine By fun T3 hT=> ?_
    have gz:=ai (xt (hT 61)) (ai (xt (hT 60)) (ai (xt (hT 52)) (ai (xt (hT 51)) (ai (xt (hT 12)) (ai (xt (hT 10)) (ai (xt (hT 9)) (ai (xt (hT 8)) (ai (xt (hT 2)) (ai (xt (hT 0)) gz)))))))));clear hT;refine xl L.length nf H hf (fun a3 t nf3 G=>G (nf+1)=some (.own (ar n (at_ (PO L cnt σ a3).dist)))/\G (nf+1+1)=some (.own (ar n (at_ (PO L cnt σ a3).by_)))/\G nf1=some (.own [.int .i64 (((PO L cnt σ a3).last.getD 0:Nat):Int),.bool (PO L cnt σ a3).last.isSome])/\SPok n L (2251799813685248*(k2:Int)+4398046511104*(2*(a3:Int))) (PO L cnt σ a3)/\(t 0=T3 0/\t 2=T3 2/\t 8=T3 8/\t 9=T3 9/\t 10=T3 10/\t 12=T3 12/\t 51=T3 51/\t 52=T3 52/\t 60=T3 60)/\t 61= .int .i64 (a3:Int)/\G nf=some (.own [.int .i64 0,.bool false])) ⟨xv,xv,xv,((Vo ok2).mono om),xh⟩ ?_;rintro a3 t nf3 G hk3 hn3 hf he ⟨ed_,eb,el,ok3,uz,h61,b0⟩;have hfl:=hf;have l0:=hf.lt b0;have hwG:=he _ _ hw;have l1:=hf.lt el;refine BO (BQ ?_);have fz:=ai el (ai eb (ai ed_ (ai b0 (ai h61 (ai uz (ai gz (ai HC (ai Dc (ai @NV (ai @LF (ai @SA (ai @dF (ai Db (ai DB hwG))))))))))))));refine xq (BP (BO ?_));refine C8 (fun c4=> ?_) fun c4=> ?_
    ·refine BR (BO (BS (BO (BQ ?_))));have fz:=ai c4 fz;refine Ba (BP (BO (BQ ?_)));refine Dk (BP (BS ?_));refine By fun T4 hT=> ?_
     have gz:=ai (xt (hT 69)) (ai (xt (hT 68)) (ai (xt (hT 61)) (ai (xt (hT 60)) (ai (xt (hT 52)) (ai (xt (hT 51)) (ai (xt (hT 12)) (ai (xt (hT 10)) (ai (xt (hT 9)) (ai (xt (hT 8)) (ai (xt (hT 2)) (ai (xt (hT 0)) gz)))))))))));clear hT;refine xl 2 nf H hf (fun j t nf4 G=>G (nf+1)=some (.own (ar n (at_ (HP L cnt σ a3 j).dist)))/\G (nf+1+1)=some (.own (ar n (at_ (HP L cnt σ a3 j).by_)))/\G nf1=some (.own [.int .i64 (((HP L cnt σ a3 j).last.getD 0:Nat):Int),.bool (HP L cnt σ a3 j).last.isSome])/\SPok n L (2251799813685248*(k2:Int)+4398046511104*(2*(a3:Int)+(j:Int))) (HP L cnt σ a3 j)/\(t 0=T4 0/\t 2=T4 2/\t 8=T4 8/\t 9=T4 9/\t 10=T4 10/\t 12=T4 12/\t 51=T4 51/\t 52=T4 52/\t 60=T4 60/\t 61=T4 61/\t 68=T4 68)/\t 69= .int .i64 (j:Int)/\G nf=some (.own [.int .i64 0,.bool false])) ⟨(by rw[PN];exact xy),(by rw[PN];exact xy),(by rw[PN];exact xy),((PN L cnt σ a3).symm▸ok3.mono om),xh⟩ ?_;rintro j t nf4 G hk4 hn4 hf he ⟨fd,fb,fl,ok4,uz,h69,b0⟩;have hfl:=hf;have l0:=hf.lt b0;have hwG:=he _ _ hw;have l1:=hf.lt fl;refine BO (BQ ?_);have fz:=ai fl (ai fb (ai fd (ai b0 (ai h69 (ai uz (ai gz (ai HC (ai Dc (ai @NV (ai @LF (ai @SA (ai @dF (ai Db (ai DB hwG))))))))))))));refine xq (BP (BO ?_));refine C8 (fun c5=> ?_) fun c5=> ?_
     ·refine BR (By fun J2 hT=> ?_);have fz:=ai c5 fz;have j2_0:=xt (hT 0);have j2_2:=xt (hT 2);have j2_8:=xt (hT 8);have j2_9:=xt (hT 9);have j2_10:=xt (hT 10);have j2_12:=xt (hT 12);have j2_51:=xt (hT 51);have j2_52:=xt (hT 52);have j2_60:=xt (hT 60);have j2_61:=xt (hT 61);have j2_68:=xt (hT 68);have j2_69:=xt (hT 69);have gz:=ai j2_69 (ai j2_68 (ai j2_61 (ai j2_60 (ai j2_52 (ai j2_51 (ai j2_12 (ai j2_10 (ai j2_9 (ai j2_8 (ai j2_2 (ai j2_0 gz)))))))))));refine Od (fun Af G=>∃(t:Nat->Value) (nj2:Nat),Af=⟨134,t,[]⟩/\nf<=nj2/\Fr G nj2/\Ext H G/\G (nf+1)=some (.own (ar n (at_ (HP L cnt σ a3 (j+1)).dist)))/\G (nf+1+1)=some (.own (ar n (at_ (HP L cnt σ a3 (j+1)).by_)))/\G nf1=some (.own [.int .i64 (((HP L cnt σ a3 (j+1)).last.getD 0:Nat):Int),.bool (HP L cnt σ a3 (j+1)).last.isSome])/\t 0=J2 0/\t 2=J2 2/\t 8=J2 8/\t 9=J2 9/\t 10=J2 10/\t 12=J2 12/\t 51=J2 51/\t 52=J2 52/\t 60=J2 60/\t 61=J2 61/\t 68=J2 68/\t 69=J2 69/\G nf=some (.own [.int .i64 0,.bool false])) ?_ ?_
      ·refine BS (BO (BQ ?_));have hj:j<2:=om;have ha:a3<L.length:=om;have hAa:=hA _ (AM ha);obtain⟨es1,es2,es3,es4⟩:=G9 (s:=⟨a3,j==1⟩) ha hAa;dsimp only at es1 es2;have esc:=Um (s:=⟨a3,j==1⟩) ha;dsimp only at esc;have hco:R64 L[a3].co/\R64 (-L[a3].co):=by have:=hAa.co;unfold R64;omega
       have hix:=we (a3:Int) hj;have fz:=ai hix (ai es2 (ai es1 (ai j2_69 (ai j2_68 (ai j2_61 (ai j2_60 (ai j2_52 (ai j2_51 (ai j2_12 (ai j2_10 (ai j2_9 (ai j2_8 (ai j2_2 (ai j2_0 fz))))))))))))));refine xq ?_;refine xa fun hf=> ?_
       refine xs fun hf=> ?_
       refine BP (BO (BQ (Ba ?_)));refine xp (h:=Iu (xw hw) (hB.ext xx) ha (b:=j==1)) (k:= ?_);refine Eg (BP (BO (BO (BQ ?_))));iterate 9 first|refine xq ?_|refine xg ?_
       refine uv rfl rfl xv (fun hgd=>(by(try simp only[AA,A7]at hgd);simp(disch:=omega)only[wx,fz,hgd]<;>rfl)) (fun hgd=>(by(try simp only[AA,A7]at hgd);simp(disch:=omega)only[wx,fz,hgd]<;>rfl)) (fun hgd=>hc _ xx (⟨a3,j==1⟩:Stp) ha) ?_;iterate 2 first|refine xq ?_|refine xg ?_
       refine BP (xi (fun c6=> ?_) fun c6=> ?_)
       ·have ev:visit L cnt (HP L cnt σ a3 j) (⟨a3,j==1⟩:Stp)=HP L cnt σ a3 j:=dM c6;refine xo ?_;have fz:=ai c6 fz;exact⟨_,_,rfl,om,hf,xx,(by rw[GT hj,ev];exact xy),(by rw[GT hj,ev];exact xy),(by rw[GT hj,ev];exact xy),by and_intros<;>first|rfl|(simp(disch:=omega)only[wx,fz,gz]<;>rfl)⟩
       ·have c6b: (at_ (HP L cnt σ a3 j).dist (sFrom L (⟨a3,j==1⟩:Stp))).isSome=true/\cnt (⟨a3,j==1⟩:Stp)=true:=by simpa using c6
        obtain⟨dd,ed⟩:=Xc c6b.1;have ecn:=c6b.2;have hdd:=ok4.bd _ _ ed;have hsc: -4398046511104<=sCost L (⟨a3,j==1⟩:Stp)/\sCost L (⟨a3,j==1⟩:Stp)<=4398046511104:=by rw[<-esc];have:=hAa.co;split<;>omega
        refine BR (BO (Bh [0,0,0,0,1,0,1,1,0,0] [0,1,2,3,4,5,6,7,8,9] kr hf ?_));have fz:=ai xJ (ai ed (ai c6 fz));iterate 7 first|refine CA ?_|refine Cq ?_
        refine EB (h:=fun G hG=>by have h:=Ul (b:=j==1) (xw hw (e:=Ext.trans xx hG)) ((hB.ext xx).ext hG) ha hco;rw[esc]at h;exact h) (k:= ?_);iterate 2 refine CA ?_
        refine BX (BO (BO (BQ ?_)));iterate 14 first|refine xq ?_|refine xg ?_
        refine BP (xi (fun c7=> ?_) fun c7=> ?_)
        ·have ev:visit L cnt (HP L cnt σ a3 j) (⟨a3,j==1⟩:Stp)=HP L cnt σ a3 j:=dL ed c7;refine xo ?_;have fz:=ai c7 fz;exact⟨_,_,rfl,om,hf,xx,(by rw[GT hj,ev];exact xy),(by rw[GT hj,ev];exact xy),(by rw[GT hj,ev];exact xy),by and_intros<;>first|rfl|(simp(disch:=omega)only[wx,fz,gz]<;>rfl)⟩
        ·have ev:=dK ed ecn c7;refine BR (BO (BQ ?_));have fz:=ai c7 fz;refine B0 ?_;refine xp (h:=Qf) (k:= ?_);refine xq ?_;refine xs fun hf=> ?_
         refine BP (BO (BQ (B0 ?_)));refine xp (h:=Ug) (k:= ?_);refine xq ?_;refine xs fun hf=> ?_
         refine BP (BQ (xq ?_));refine xp (h:=Uh) (k:= ?_);refine xs fun hf=> ?_
         refine BP ?_;exact⟨_,_,rfl,om,hf,xx,(by rw[GT hj,ev];dsimp only;rw[Wb _ ok4.ld es4];exact xy),(by rw[GT hj,ev];dsimp only;rw[Wb _ ok4.lb es4];exact xy),(by rw[GT hj,ev];exact xv),by and_intros<;>first|rfl|(simp(disch:=omega)only[wx,fz,gz]<;>rfl)⟩
      ·rintro Af G ⟨t,nj2,rfl,hnnj2,hf,he,jd,jb,jl,u0,u2,u8,u9,u10,u12,u51,u52,u60,u61,u68,u69,b0⟩;have hfl:=hf;have l0:=hf.lt b0;refine BQ ?_;have fz:=ai jl (ai jb (ai jd (ai b0 (ai (u69.trans j2_69) (ai (u68.trans j2_68) (ai (u61.trans j2_61) (ai (u60.trans j2_60) (ai (u52.trans j2_52) (ai (u51.trans j2_51) (ai (u12.trans j2_12) (ai (u10.trans j2_10) (ai (u9.trans j2_9) (ai (u8.trans j2_8) (ai (u2.trans j2_2) (ai (u0.trans j2_0) (ai HC (ai Dc (ai @NV (ai @LF (ai @SA (ai @dF (ai Db (ai DB hwG)))))))))))))))))))))));refine Ba (BP ?_);exact xe hf ⟨xy,xy,xy,(by rw[GT (show j<2 from om)];exact(ok4.visit (FH hA) (Hy hA) (show a3<L.length from om)).mono om),xz⟩
     ·obtain rfl:j=2:=om;refine xo (BQ ?_);have fz:=ai c5 (ai fl (ai fb (ai fd (ai b0 (ai h69 (ai uz (ai gz (ai HC (ai Dc (ai @NV (ai @LF (ai @SA (ai @dF (ai Db (ai DB hwG)))))))))))))));refine Ba (BP ?_);exact xe hf ⟨(by rw[<-PM];exact xy),(by rw[<-PM];exact xy),(by rw[<-PM];exact xy),(PM L cnt σ a3▸ok4.mono om),xz⟩
    ·obtain rfl:a3=L.length:=om;have eN:PO L cnt σ L.length=DU L cnt σ:=rfl;refine xo (BO (BQ ?_));have fz:=ai c4 (ai el (ai eb (ai ed_ (ai b0 (ai h61 (ai uz (ai gz (ai HC (ai Dc (ai @NV (ai @LF (ai @SA (ai @dF (ai Db (ai DB hwG)))))))))))))));refine B0 (BP ?_);refine xi (fun c8=> ?_) fun c8=> ?_
     ·refine xo ?_;have fz:=ai c8 fz;exact⟨_,_,(DU L cnt σ),rfl,om,hf,xx,(by rw[sh,Qk (show k2<n from om),if_pos (by rw[<-eN];simpa using c8)]),xv,xv,xv,by and_intros<;>first|rfl|(simp(disch:=omega)only[wx,fz,gz]<;>rfl)⟩
     ·refine BR (BQ ?_);have fz:=ai c8 fz;refine Ba (BP ?_);exact xe hf ⟨(DU L cnt σ),xv,xv,xv,(eN▸ok3.mono om),(by rw[sh,Qk (show k2<n from om),if_neg (by rw[<-eN,Option.isNone_iff_eq_none];intro e;rw[e]at c8;exact absurd c8 dZ)]),xz⟩
   ·obtain rfl:n=k2:=om;refine xo ?_;have fz:=ai c3 (ai dl (ai db (ai dd (ai b0 (ai h52 (ai uz (ai gz (ai HC (ai Dc (ai @NV (ai @LF (ai @SA (ai @dF (ai Db (ai DB hwG)))))))))))))));exact⟨_,_,σ,rfl,om,hf,xx,(by rw[sh,Nat.sub_self];rfl),xv,xv,xv,by and_intros<;>first|rfl|(simp(disch:=omega)only[wx,fz,gz]<;>rfl)⟩
  ·rintro Af G ⟨t,nj1,τ,rfl,hnnj1,hf,he,eT,jd,jb,jl,u8,u9,u10,u12,b0⟩;have hfl:=hf;have l0:=hf.lt b0;refine BO (Bh [0,0,1,0,0,2] [0,1,2,3,4,5] kr hf ?_);have fz:=ai jl (ai jb (ai jd (ai b0 (ai (u12.trans j1_12) (ai (u10.trans j1_10) (ai (u9.trans j1_9) (ai (u8.trans j1_8) (ai HC (ai Dc (ai @NV (ai @LF (ai @SA (ai @dF (ai Db (ai DB hwG)))))))))))))));iterate 5 first|refine CA ?_|refine Cq ?_
   refine Fx fun nf2 hl2 hf=> ?_
   refine BX (BT (rt ?_));exact nn rfl xv (by rw[eT];exact⟨xx,nf+1,nf+1+1,xv,xy,xy,hf0 _ om,hf0 _ om,om⟩)
end
section
structure NwM(H:Hp)(w xb ob n:Nat)(L:List Ar)(T:Value)(σ:Net):Prop where
 a:NwA H w xb ob n L T
 x:H xb=some (.own (ar L.length (nth σ.x)))
 o:H ob=some (.own (ar n (nth σ.ov)))
 lx:σ.x.length=L.length
 lo:σ.ov.length=n
variable{k n r w xb:Nat}{L:List Ar}{T:Value}{σ:Net}
theorem NwM.ext{H G:Hp}{ob:Nat}(h:NwM H w xb ob n L T σ)(e:Ext H G):NwM G w xb ob n L T σ:=⟨h.a.ext e,e _ _ h.x,e _ _ h.o,h.lx,h.lo⟩
def NB(B:Int)(σ:Net):Prop:=(∀a, -B<=nth σ.x a/\nth σ.x a<=B)/\∀v, -B<=nth σ.ov v/\nth σ.ov v<=B
variable{B U u:Int}
theorem NB.push{s:Stp}(h:NB B σ)(hu: -U<=u/\u<=U)(h1:s.a<σ.x.length)(h2:sFrom L s<σ.ov.length)(h3:sTo L s<σ.ov.length):NB (B+2*U) (CM L σ s u):=by
 refine⟨fun a=> ?_,fun v=> ?_⟩
 ·rw[Gy L σ s u h1 a];have:=h.1 a;split
  ·split<;>omega
  ·omega
 ·rw[PB L σ s u h2 h3 v];have:=h.2 v;unfold one;split<;>split<;>omega
def BB:Int:=1152921504606846976
theorem L6{ob:Nat}{H:Hp}(h:NwM H w xb ob n L T σ)(hb:NB BB σ){s:Stp}(ha:s.a<L.length)(hA:ArOk n L[s.a]):Pure 66 [.pointer (some ⟨w,0,none⟩),.agg #[.int .i64 (s.a:Int),.bool s.back]] (.int .i64 (sRoom L σ.x s)) H:=by
 obtain⟨⟨A,c,B,d,cx,co,hw,hB,_⟩,_,_,_⟩:=h.a;have h1:=hb.1 s.a;unfold BB at h1;have h2:=hA.lo;have h3:=hA.ca;have:=de (b:=s.back) hw hB ha h.x (by unfold R64;omega);have e:sRoom L σ.x s=if s.back=true then nth σ.x s.a - L[s.a].lo else if L[s.a].ca=4611686018427387904 then 1152921504606846976 else L[s.a].ca - nth σ.x s.a:=by
  unfold sRoom infC Gb;rw[Du L ha]
 rw[e];exact this
theorem SH(l:List Int)(y:Int)(h:k<l.length):nth (l.set k y)=up (nth l) k y:=by
 funext v;rw[JM _ _ _ _ h];rfl
theorem Se{ob:Nat}{H:Hp}(h:NwM H w xb ob n L T σ)(hb:NB B σ)(hu: -U<=u/\u<=U)(hBU:B+2*U<=BB)(hB0:0<=B){s:Stp}(ha:s.a<L.length)(hA:ArOk n L[s.a]):Ct 51 [.pointer (some ⟨w,0,none⟩),.agg #[.int .i64 (s.a:Int),.bool s.back],.int .i64 u] (fun _ H'=>Nb (PX xb ob) H H'/\NwM H' w xb ob n L T (CM L σ s u)) H:=by
 obtain⟨es1,es2,es3,es4⟩:=G9 ha hA;have h1:=hb.1 s.a;have h2:=hb.2 (sFrom L s);have h3:=hb.2 (sTo L s);unfold BB at hBU;have hu0:up (nth σ.ov) (sFrom L s) (nth σ.ov (sFrom L s) - u) (sTo L s)<=B+U/\ -(B+U)<=up (nth σ.ov) (sFrom L s) (nth σ.ov (sFrom L s) - u) (sTo L s):=by
  unfold up;split<;>omega
 refine(mR h.a h.x h.o ha hA (by unfold R64;omega) (by unfold R64;omega) (by unfold R64;omega)).mono ?_;rintro v H' ⟨e,hx,ho⟩;refine⟨e,h.a.exp e,?_,?_,by rw[FR];exact h.lx,by rw[GC];exact h.lo⟩
 ·rw[hx];unfold CM;dsimp only;rw[SH _ _ (by rw[h.lx];exact ha)]
 ·rw[ho];unfold CM;dsimp only;rw[SH _ _ (by rw[List.length_set,h.lo];exact es4),SH _ _ (by rw[h.lo];exact es3)]
theorem YU:Na 103 2 16:=by unfold Na;kernel_rfl
theorem FN(a:Nat)(x:Int)(b:Bool):D0 tz a 103 1 [(0,.agg #[.int .i64 x,.bool b])]=some (.slice (some ⟨a,0,none⟩) 1 1,[(a,.own [.int .i64 x,.bool b])]):=kr
def stC(s:Stp):List Value:=[.int .i64 (s.a:Int),.bool s.back]
theorem EQ(s:Stp):stC s=[.int .i64 (s.a:Int),.bool s.back]:=rfl
theorem xG:∀s:Stp,(some s).getD ⟨0,false⟩=s/\(some s).isSome=true:=fun _=>⟨rfl,rfl⟩
variable{way:List Stp}
theorem TH{B:Nat->Option Stp}{v:Nat}{s:Stp}(h:Chain L B v (way.drop k) r)(hs:B v=some s):∃hk:k<way.length,way[k]=s/\Chain L B (sFrom L s) (way.drop (k+1)) r:=by
 by_cases hk:k<way.length
 ·rw[A4 hk]at h;cases h with
  |cons h1 c=>rw[hs]at h1;cases h1;exact⟨hk,rfl,c⟩
 ·rw[Az om]at h;cases h with
  |nil h1=>rw[hs]at h1;cases h1
theorem TJ{B:Nat->Option Stp}{v:Nat}(h:Chain L B v (way.drop k) r)(hs:B v=none):way.length<=k/\v=r:=by
 by_cases hk:k<way.length
 ·rw[A4 hk]at h;cases h with
  |cons h1 c=>rw[hs]at h1;cases h1
 ·rw[Az om]at h;cases h with
  |nil h1=>exact⟨om,rfl⟩
theorem WT(hA:∀a∈L,ArOk n a){s:Stp}(ha:s.a<L.length):sFrom L s<n/\sTo L s<n:=by
 have:=G9 (s:=s) ha (hA _ (AM ha));exact⟨this.2.2.1,this.2.2.2⟩
theorem Mh{α β:Type}(f:β->α->β)(b:β)(l:List α)(h:k<l.length): (l.take (k+1)).foldl f b=f ((l.take k).foldl f b) l[k]:=by
 rw[List.take_add_one,AD h,List.foldl_append];rfl
theorem NB.all(hu: -U<=u/\u<=U){m:Nat}(hE:∀s:Stp,s.a<m->sFrom L s<n/\sTo L s<n):∀(l:List Stp) (B:Int) (σ:Net),(∀s∈l,s.a<m)->σ.x.length=m->σ.ov.length=n->NB B σ->NB (B+2*U*(l.length:Int)) (CS L σ l u)
 |[],B,σ,_,_,_,h=>by simpa[CS]using h
 |s::l,B,σ,hl,hx,ho,h=>by
  have hs:=hl s (by simp);have h1:=NB.all hu hE l (B+2*U) (CM L σ s u) (fun x hx=>hl x (by simp[hx])) (by rw[FR];exact hx) (by rw[GC];exact ho) (h.push hu (by rw[hx];exact hs) (by rw[ho];exact(hE s hs).1) (by rw[ho];exact(hE s hs).2));have e:B+2*U*((s::l).length:Int)=B+2*U+2*U*(l.length:Int):=by rw[AY,Int.natCast_succ,Int.mul_add];omega
  rw[e];exact h1
end
section
theorem Q0: (∀a b:Int,(if b<a then b else a)=min a b)/\∀x:Int,0 - x= -x:=⟨fun a b=>by split<;>omega,fun x=>om⟩
variable{o:Option Stp}
theorem ut(h:o.isSome=true):∃s,o=some s:=Option.isSome_iff_exists.1 h
theorem uu(h:o.isSome=false):o=none:=by cases o with|none=>rfl|some s=>cases h
variable{L:List Ar}{σ:Net}{way:List Stp}
theorem dR{B:Int}(hb:NB B σ)(h0:0<=B)(hr:∀s∈way,0<=sRoom L σ.x s)(r e:Nat): -B<=HJ L σ way r e/\HJ L σ way r e<=B:=by
 have h1:=hb.2 r;have h2:=hb.2 e;unfold HJ;constructor
 ·exact KS _ _ _ _ om fun s hs=>by have:=hr s hs;omega
 ·have:=(G7 (fun s=>sRoom L σ.x s) way (min (nth σ.ov r) (-nth σ.ov e))).1;omega
theorem NB.mono{B B':Int}(h:NB B σ)(hB:B<=B'):NB B' σ:=⟨fun a=>by have:=h.1 a;omega,fun a=>by have:=h.2 a;omega⟩
theorem NwA.drop{H K:Hp}{w xb ob n:Nat}{T:Value}(h:NwA H w xb ob n L T)(kN:∀c,¬PX xb ob c->K c=H c):NwA K w xb ob n L T:=by
 obtain⟨⟨A,c,B,d,cx,co,h1,h2,h3⟩,n1,n2,n3⟩:=h;exact⟨⟨A,c,B,d,cx,co,(kN w (fun h=>h.elim n1 n2)).trans h1,h2.drop kN h3,h3⟩,n1,n2,n3⟩
set_option maxHeartbeats 4000000 in
theorem tW{w xb ob n bb cb e r:Nat}{T:Value}{H:Hp}{bf:Nat->Option Stp}(hM:NwM H w xb ob n L T σ)(hb:NB 4503599627370496 σ)(hA:∀a∈L,ArOk n a)(hn:n<=64)(hbb:H bb=some (.own (ar n bf)))(hbn:bb≠xb/\bb≠ob)(hby:∀v s,bf v=some s->s.a<L.length)(hen:e<n)(hch:Chain L bf e way r)(hwl:way.length<=64)(hrm:∀s∈way,0<=sRoom L σ.x s):Ct 56 [.pointer (some ⟨w,0,none⟩),.slice (some ⟨bb,0,none⟩) n cb,.int .i64 (e:Int)] (fun _ H'=>Nb (PX xb ob) H H'/\NwM H' w xb ob n L T (CS L σ way (HJ L σ way r e))) H:=by
 refine BV Tryz.func56 rfl 74 rfl fun nf t hf hsc ht=> ?_
 have hf0:=hf;have hx:=hM.x;have ho:=hM.o;have lx:=hf.lt hx;have lo:=hf.lt ho;have lb:=hf.lt hbb;obtain⟨K,kE,hq,kX,kN⟩:=IY (PX xb ob) hf;have hf0:∀c,nf<=c\/c=xb\/c=ob->K c=none:=hq;have he:=kE;have hNK:=hM.a.drop kN;have hbK:K bb=some _:=(kN bb (fun h=>h.elim hbn.1 hbn.2)).trans hbb;have hwa:∀s∈way,s.a<L.length:=fun s hs=>by obtain⟨v,hv⟩:=hch.mem s hs;exact hby v s hv
 have hrn:r<n:=hch.end_lt (fun v s h=>(WT hA (hby v s h)).1) hen;obtain⟨⟨Aw,cw,Bw,dw,cx,co,hw,hB,hBn⟩,m1,m2,m3⟩:=hNK;have hNK:NwA K w xb ob n L T:=⟨⟨Aw,cw,Bw,dw,cx,co,hw,hB,hBn⟩,m1,m2,m3⟩;have hbo:=hb.2;refine BO (BQ ?_);have fz:=ai ho (ai hx (ai hbb (ai (ht 2 _ rfl) (ai (ht 1 _ rfl) (ht 0 _ rfl)))));refine xq (BP (BO (BQ ?_)));refine Ba (BP (BO (BS ?_)));refine By fun T1 hT=> ?_
 have gz:=ai (xt (hT 6)) (ai (xt (hT 7)) (ai (xt (hT 2)) (ai (xt (hT 1)) (ai (xt (hT 0)) trivial))));clear hT;refine xl way.length nf K hf (fun k t nf1 G=>∃(v:Nat) (sl:Value),Chain L bf v (way.drop k) r/\v<n/\GS G 2 sl ((way.take k).flatMap stC) k/\(∀b,GSb sl b->K b=none/\b≠xb/\b≠ob)/\(t 0=T1 0/\t 1=T1 1/\t 2=T1 2)/\t 7= .int .i64 (v:Int)/\t 6=sl/\G xb=some (.own (ar L.length (nth σ.x)))/\G ob=some (.own (ar n (nth σ.ov)))) ⟨e,.slice none 0 0,hch,hen,GS.nil _ _,(fun b h=>(Bo b h).elim),xh⟩ ?_;rintro k t nf1 G hk1 hn1 hf he ⟨v,sl,hc1,hvn,gs,gn,uz,h7,h6,b0,b1⟩;have hfl:=hf;have l0:=hf.lt b0;have l1:=hf.lt b1;have hbG:=he _ _ hbK;refine BO (BO (BQ ?_));have fz:=ai hbG (ai b1 (ai b0 (ai h6 (ai h7 (ai uz (ai gz (ai @Q0 (ai @Uu (ai EQ (ai FN (ai @m9 @Z5)))))))))));refine Eg (BP ?_);refine xi (fun c1=> ?_) fun c1=> ?_
 ·obtain⟨s,es⟩:=ut c1;obtain⟨hk,ew,hc2⟩:=TH hc1 es;have ha:=hby v s es;obtain⟨es1,es2,es3,es4⟩:=G9 ha (hA _ (AM ha));refine BR (BS (BO (BQ ?_)));have fz:=ai es2 (ai es1 (ai xG (ai es (ai c1 fz))));refine Eg ?_;refine xa fun hf=> ?_
  refine xs fun hf=> ?_
  refine BP (BO (BQ (Ba ?_)));refine xa fun hf=> ?_
  refine FU (ys:=stC s) hf rfl xv YU (gs.keep fun b hb=>by have:=hfl.lt (gs.live hb);simp(disch:=omega)only[Bn]) dZ (Bu xv rfl dZ) ⟨_,_,_,rfl,rfl⟩ rfl dZ rfl om om fun v2 G2 gs2 fr hf gb=> ?_
  have he:=Ext.fr xx (hf0 _ om) (fun b h=>(gn b h).1) fr;have w0:=(fr xb om (fun h=>(gn _ h).2.1 rfl)).trans xv;have w1:=(fr ob om (fun h=>(gn _ h).2.2 rfl)).trans xv;have w2:=(fr nf1 om (fun h=>by have:=hfl.lt (gs.live h);omega)).trans xv;have fz:=ai w2 (ai w1 (ai w0 fz));refine xq (BP (BQ ?_));refine Ba ?_;refine xp (h:=Iu (xw hw) (hB.ext xx) ha) (k:= ?_);refine Dv (BP ?_);exact xe hf ⟨sFrom L s,v2,hc2,es3,(by rw[<-Gg stC way hk,ew];exact gs2),(fun b h=>⟨hf0 b (by have:=gb b h;omega),by have:=gb b h;omega,by have:=gb b h;omega⟩),xz⟩
 ·have hwG:=he _ _ hw;obtain⟨hk9,ev9⟩:=TJ hc1 (uu c1);subst ev9;obtain rfl:k=way.length:=om;rw[List.take_length]at gs;obtain⟨A2,c2,rfl,hW⟩:=GS.rd (f:=stC) (fun _=>rfl) gs;obtain⟨K2,kH2,he2,hq2,hW2⟩:=JG (a:=xb) (b:=ob) he (hf0 _ om) (hf0 _ om) hf hW (fun q o e=>(gn q ⟨_,_,_,by rw[e]⟩).2);obtain⟨z,hz⟩:∃z,z=nf1:=⟨_,rfl⟩;have hW:=hW2;have he:=he2;have hf0:=hq2;have hNK2:=hNK.ext kH2;have hb0:=hbo v;have hb1:=hbo e;refine xo (BO (Bh [0,0,0,1,0,0,1,0,0,0,1,0,0,1,0,0,0] [0,1,2,3,4,5,6,7,8,9,10,11,12,13,14,15,16] kr hf ?_));have fz:=ai hwG (ai c1 fz);iterate 17 first|refine CA ?_|refine Cq ?_
  refine BX (BO (BO (BQ (B0 (BP (BS ?_))))));refine By fun T2 hT=> ?_
  have g9:=xt (hT 9);have gz:=ai g9 (ai (xt (hT 53)) (ai (xt (hT 52)) (ai (xt (hT 51)) (ai (xt (hT 6)) (ai (xt (hT 0)) gz)))));clear hT;refine xl way.length nf K2 hf (fun k t nf1 G=>z<=nf1/\t 9= .int .i64 ((way.take k).foldl (fun u s=>min u (sRoom L σ.x s)) (min (nth σ.ov v) (-nth σ.ov e)))/\(t 0=T2 0/\t 6=T2 6/\t 51=T2 51/\t 52=T2 52)/\t 53= .int .i64 (k:Int)/\G xb=some (.own (ar L.length (nth σ.x)))/\G ob=some (.own (ar n (nth σ.ov)))) ⟨om,by rw[g9]<;>rfl,xh⟩ ?_;rintro k t nf1 G hk2 hn2 hf he ⟨hzn,h9,uz,h53,b0,b1⟩;have hfl:=hf;have l0:=hf.lt b0;have l1:=hf.lt b1;refine BO (BQ ?_);have fz:=ai b1 (ai b0 (ai h9 (ai h53 (ai uz (ai gz (ai @Q0 (ai @Uu (ai EQ (ai FN (ai @m9 @Z5))))))))));refine xq (BP (BO ?_));refine C8 (fun c2=> ?_) fun c2=> ?_
  ·refine BR (BO (BS (BO (BQ ?_))));have hk:k<way.length:=om;have hsm:way[k]∈way:=AM hk;have ha:=hwa _ hsm;have hAa:=hA _ (AM ha);obtain⟨b7,o7,eW,hoW⟩:=(hW.ext he) k hk;have l7:=Bd hf hoW;have fz:=ai hoW (ai eW (ai c2 fz));refine Ba ?_;refine xa fun hf=> ?_
   refine xs fun hf=> ?_
   refine BP (BQ (B0 ?_));refine xp (h:=L6 ⟨hNK2.ext xx,xy,xy,hM.lx,hM.lo⟩ (hb.mono dZ) ha hAa) (k:= ?_);refine Ba (BP (BQ ?_));refine Ba (BP ?_);exact xe hf ⟨om,(by simp(disch:=omega)only[wx,fz];rw[Mh _ _ _ hk]),xz⟩
  ·obtain rfl:k=way.length:=om;have eu: ((way.take way.length).foldl (fun u s=>min u (sRoom L σ.x s)) (min (nth σ.ov v) (-nth σ.ov e)))=HJ L σ way v e:=by rw[List.take_length];rfl
   have hur:=dR hb dZ hrm v e;refine xo (BO (BQ ?_));have fz:=ai eu (ai c2 fz);refine B0 (BP (BS ?_));refine By fun T3 hT=> ?_
   have gz:=ai (xt (hT 65)) (ai (xt (hT 64)) (ai (xt (hT 63)) (ai (xt (hT 9)) (ai (xt (hT 0)) gz))));clear hT;refine xl way.length nf K2 hf (fun k t nf1 G=>z<=nf1/\NwM G w xb ob n L T (CS L σ (way.take k) (HJ L σ way v e))/\(t 0=T3 0/\t 9=T3 9/\t 63=T3 63/\t 64=T3 64)/\t 65= .int .i64 (k:Int)) ⟨om,⟨hNK2.ext xx,xv,xv,hM.lx,hM.lo⟩,xh⟩ ?_;rintro k t nf1 G hk3 hn3 hf he ⟨hzn,mk,uz,h65⟩;have hfl:=hf;refine BO (BQ ?_);have fz:=ai h65 (ai uz (ai gz (ai @Q0 (ai @Uu (ai EQ (ai FN (ai @m9 @Z5)))))));refine xq (BP (BO ?_));refine C8 (fun c3=> ?_) fun c3=> ?_
   ·refine BR (BO (BS (BO (BQ ?_))));have hk:k<way.length:=om;have hsm:way[k]∈way:=AM hk;have ha:=hwa _ hsm;have hAa:=hA _ (AM ha);obtain⟨b7,o7,eW,hoW⟩:=(hW.ext he) k hk;have l7:=Bd hf hoW;have fz:=ai hoW (ai eW (ai c3 fz));refine Ba ?_;refine xa fun hf=> ?_
    refine xs fun hf=> ?_
    refine BP (BQ ?_);have nbk:=NB.all hur (fun s h=>WT hA h) (way.take k) _ σ (fun s h=>hwa s (List.mem_of_mem_take h)) hM.lx hM.lo hb;rw[List.length_take,Nat.min_eq_left (Nat.le_of_lt hk)]at nbk;refine B0 ?_;refine xc (h:=Se (mk.ext (by(repeat refine Ext.up (hfl _ om) ?_);exact Ext.refl _)) nbk hur (by unfold BB;omega) om ha hAa) (k:=fun v1 H1 nf9 hl9 q1 hf=> ?_);refine BP (BQ (Ba (BP ?_)));have he:=q1.1.ext xx (fun c h=>hf0 c (.inr h));exact xe hf ⟨om,(by unfold CS;rw[Mh _ _ _ hk];exact q1.2),xz⟩
   ·obtain rfl:k=way.length:=om;rw[List.take_length]at mk;refine xo ?_;refine Ji ?_ rfl;refine rt ?_;have fz:=ai c3 fz;exact HQ rfl ⟨kX _ (Ext.trans kH2 xx),mk⟩
end
section
variable{b1 b2 e n w xb:Nat}{L:List Ar}{σ:Net}
theorem Lo(hL:Okay n L){k:Int}{B:Nat->Option Stp}(hB:Ways n L σ k B)(he:e<n):∃l r,Chain L B e l r/\l.length<n/\Es L B n e=(l,r)/\∀s∈l,k<=sRoom L σ.x s:=by
 obtain⟨ρ,hρ⟩:=hB.rank;have hlt:∀v s,B v=some s->sFrom L s<n:=fun v s h=>hL.ends.from_lt (hB.lt v s h).1
 obtain⟨l,r,hc⟩:=Hj hρ _ e (AH _);have hlen:=hc.short hρ hlt;have hbl:=PP (ρ:=ρ) he;exact⟨l,r,hc,om,hc.fuel n om,fun s hs=>by obtain⟨w,hw⟩:=hc.mem s hs;exact(hB.lt w s hw).2⟩
theorem Di(hA:∀a∈L,ArOk n a):Okay n L:=⟨FH hA,fun a h=>(hA a h).lo.1,fun a h=>by have h1:=(hA a h).ca;have h2:=(hA a h).lo;unfold infC;omega⟩
theorem Xg{α:Type}(p:α->Bool)(l:List α){k:Nat}(hk:k<l.length)(h0:∀j (hj:j<k),p (l[j]' om)=false): (p l[k]=true->l.find? p=some l[k]):=fun h=>by
 have e:l=l.take k++l[k]::l.drop (k+1):=by rw[<-A4 hk,List.take_append_drop]
 have h1: (l.take k).find? p=none:=by
  rw[List.find?_eq_none];intro x hx;obtain⟨j,hj,rfl⟩:=List.getElem_of_mem hx;rw[List.length_take]at hj;rw[List.getElem_take,h0 j om];decide
 have h2:l.find? p=(l.take k++l[k]::l.drop (k+1)).find? p:=congrArg (List.find? p) e;rw[h2,List.find?_append,h1,List.find?_cons_of_pos h];rfl
variable{D:List (Option Int)}
theorem au{k:Int}(he:e<n)(h0:∀j,j<e->(decide (nth σ.ov j<= -k)&&(at_ D j).isSome)=false)(h: (decide (nth σ.ov e<= -k)&&(at_ D e).isSome)=true):Mr k σ n D=some e:=by
 unfold Mr;have:=Xg (fun v=>decide (nth σ.ov v<= -k)&&(at_ D v).isSome) (List.range n) (k:=e) (by simpa using he) (fun j hj=>by rw[List.getElem_range];exact h0 j hj) (by rw[List.getElem_range];exact h);rw[List.getElem_range]at this;exact this
theorem aq{k:Int}(h0:∀j,j<n->(decide (nth σ.ov j<= -k)&&(at_ D j).isSome)=false):Mr k σ n D=none:=by
 unfold Mr;rw[List.find?_eq_none];intro v hv;rw[h0 v (by simpa using hv)];decide
variable{T:Value}
theorem dX{ob:Nat}{H:Hp}(hM:NwM H w xb ob n L T σ){v:Nat}{k:Int}(h1:H b1=some (.own [.pointer (some ⟨w,0,none⟩)]))(h2:H b2=some (.own [.int .i64 k]))(hv:v<n):Pure 112 [.int .i64 (v:Int),.pointer (some ⟨b1,0,none⟩),.pointer (some ⟨b2,0,none⟩)] (.bool (N7 k σ v)) H:=by
 refine Pure.of rfl (BV Tryz.func112 rfl 14 rfl fun nf t hf _ ht=> ?_);have hf0:=hf;have h1:=ht 1 _ rfl;have h2:=ht 2 _ rfl;obtain⟨⟨⟨A,c,B,d,cx,co,hw,hB,_⟩,_,_,_⟩,_,hx,hlx,hlo⟩:=hM;have q1:= ‹H b1=_›;have q2:= ‹H b2=_›;refine BO (BQ ?_);have fz:=ai q2 (ai q1 (ai hw (ai hx (ai h2 (ai h1 (ht 0 _ rfl))))));refine xq (BP (BO ?_));refine Bh [1,0,0,1,0,0,1,1,0,0] [0,1,2,3,4,5,6,7,8,9] kr hf ?_;iterate 10 first|refine CA ?_|refine Cq ?_
 refine BX (BT (rt ?_));exact BW rfl ⟨by(simp(disch:=omega)only[wx,fz]<;>rfl),xx⟩
theorem Uo{ob:Nat}{H:Hp}(hM:NwM H w xb ob n L T σ)(hb:NB BB σ){k:Int}(q1:H b1=some (.own [.pointer (some ⟨w,0,none⟩)]))(q2:H b2=some (.own [.int .i64 k])){s:Stp}(ha:s.a<L.length)(hA:ArOk n L[s.a]):Pure 65 [.agg #[.int .i64 (s.a:Int),.bool s.back],.pointer (some ⟨b1,0,none⟩),.pointer (some ⟨b2,0,none⟩)] (.bool (ES L k σ s)) H:=by
 refine Pure.of rfl (BV Tryz.func65 rfl 10 rfl fun nf t hf _ ht=> ?_);have hf0:=hf;have l1:=hf.lt q1;have l2:=hf.lt q2;refine BO (BQ ?_);have fz:=ai q2 (ai q1 (ai (ht 2 _ rfl) (ai (ht 1 _ rfl) (ht 0 _ rfl))));refine xa fun hf=> ?_
 refine xq (BP (BO ?_));refine Bh [1,1,1,1,0,0] [0,1,2,3,4,5] kr hf ?_;iterate 2 refine Cq ?_
 refine EB (h:=fun G hG=>L6 (hM.ext (Ext.trans xx hG)) hb ha hA) (k:= ?_);iterate 3 first|refine CA ?_|refine Cq ?_
 refine BX (BT (rt ?_));exact BW rfl ⟨by(simp(disch:=omega)only[wx,fz]<;>rfl),xx⟩
theorem fJ{ob:Nat}{H:Hp}(hM:NwM H w xb ob n L T σ)(hb:NB BB σ)(q1:H b1=some (.own [.pointer (some ⟨w,0,none⟩)])){s:Stp}(ha:s.a<L.length)(hA:ArOk n L[s.a]):Pure 68 [.agg #[.int .i64 (s.a:Int),.bool s.back],.pointer (some ⟨b1,0,none⟩)] (.bool ((!s.back&&L[s.a].ca==4611686018427387904)||decide (sRoom L σ.x s>0))) H:=by
 refine Pure.of rfl (BV Tryz.func68 rfl 13 rfl fun nf t hf _ ht=> ?_);have hf0:=hf;have l1:=hf.lt q1;obtain⟨⟨A,c,B,d,cx,co,hw,hB,_⟩,_,_,_⟩:=hM.a;refine BO (BQ ?_);have fz:=ai q1 (ai (ht 1 _ rfl) (ht 0 _ rfl));refine xa fun hf=> ?_
 refine xq (BP (BO (BQ ?_)));refine Ba ?_;refine xp (h:=KY (b:=s.back) (xw hw) (hB.ext xx) ha) (k:= ?_);iterate 3 first|refine xq ?_|refine xg ?_
 refine Te (h:=fun hgd=>L6 (hM.ext xx) hb ha hA) (k:= ?_);iterate 3 first|refine xq ?_|refine xg ?_
 refine BP (BT (rt ?_));exact BW rfl ⟨by(simp(disch:=omega)only[wx,fz]<;>rfl),xx⟩
end
set_option maxHeartbeats 1600000 in
theorem mz{w xb ob n:Nat}{L:List Ar}{T:Value}{H:Hp}{σ:Net}(hM:NwM H w xb ob n L T σ){k:Int}(hL:LumpOk n L k σ)(hk:k<=BB)(hb:NB 4503599627370496 σ)(hA:∀a∈L,ArOk n a)(hn:n<=64)(hLl:L.length<=256){gr:FuncId}{fr cr:Array Value}(hr:∀G,Ext H G->∀s:Stp,s.a<L.length->Pure gr (fr.toList++[.agg #[.int .i64 (s.a:Int),.bool s.back]]++cr.toList) (.bool (ES L k σ s)) G):Ct 67 [.pointer (some ⟨w,0,none⟩),.int .i64 k,.func (.func gr) fr cr] (fun v H'=>(∃τ,lumpStep L n k σ=some τ/\v= .bool true/\Nb (PX xb ob) H H'/\NwM H' w xb ob n L T τ)\/(lumpStep L n k σ=none/\v= .bool false/\Ext H H')) H:=by
 refine BV Tryz.func67 rfl 46 rfl fun nf t hf hsc ht=> ?_
 have hf0:=hf;obtain⟨⟨A,c,B,d,cx,co,hw,hB,_⟩,_,_,_⟩:=hM.a;have hp:=hL.pos;have hk2:=hk;unfold BB at hk2;have oml:∀(f:Operand->Value) (a b:Operand),(#[a,b]:Array Operand).map f= #[f a,f b]:=fun _ _ _=>by simp
 have hx:=hM.x;have ho:=hM.o;have lx:=hf.lt hx;have lo:=hf.lt ho;have lw:=hf.lt hw;refine BO (BQ ?_);have fz:=ai oml (ai (ht 2 _ rfl) (ai (ht 1 _ rfl) (ht 0 _ rfl)));refine xa fun hf=> ?_
 refine xa fun hf=> ?_
 refine xq (BP (BO (BQ ?_)));refine B0 ?_;refine xc (h:=I8 (n:=n) (fs:= #[]) (st:=N7 k σ) (cnt:=ES L k σ) (xw hw) (hB.ext xx) hA hn hLl (fun G hG v hv=>dX (hM.ext (Ext.trans xx hG)) (hG _ _ xv) (hG _ _ xv) hv) (fun G hG s hs=>hr G (Ext.trans xx hG) s hs)) (k:=fun v1 H1 z hz q1 hf=> ?_);obtain⟨e1,db,bb,rfl,hd,hbm,n1,n2,n3⟩:=q1;have p0:=e1 nf _ xv;have p1:=e1 (nf+1) _ xv;have eH:Ext H H1:=Ext.trans xx e1;have hwH:=eH _ _ hw;have hoH:=eH _ _ ho;have nbx:bb≠xb:=fun e=>by rw[e]at n2;exact absurd ((xw hx:_=_).symm.trans n2) (by simp)
 have nbo:bb≠ob:=fun e=>by rw[e]at n2;exact absurd ((xw ho:_=_).symm.trans n2) (by simp)
 have hf0:=hf;have he:=Ext.refl H1;have ldd:=hf.lt hd;have hSh:=hL.short (Di hA) (N7 k σ);have fz:=ai hoH (ai hwH (ai p1 (ai p0 fz)));refine Dv ?_;refine xa fun hf=> ?_
 refine Ba ?_;refine xs fun hf=> ?_
 refine BP (BO (BO (BQ (Dk (BP (BS ?_))))));refine By fun T1 hT=> ?_
 have gz:=ai (xt (hT 25)) (ai (xt (hT 24)) (ai (xt (hT 23)) (ai (xt (hT 8)) (ai (xt (hT 7)) (ai (xt (hT 4)) (ai (xt (hT 3)) trivial))))));clear hT;refine xl n nf H1 hf (fun v t nf1 G=>(∀j,j<v->(decide (nth σ.ov j<= -k)&&(at_ (DM L n k σ).dist j).isSome)=false)/\(t 3=T1 3/\t 4=T1 4/\t 7=T1 7/\t 8=T1 8/\t 23=T1 23/\t 24=T1 24)/\t 25= .int .i64 (v:Int)) ⟨(fun j h=>absurd h (Aj j)),xh⟩ ?_;rintro v t nf1 G hk1 hn1 hf he ⟨i1,uz,h25⟩;have hfl:=hf;have hwG:=he _ _ hwH;have hoG:=he _ _ hoH;have hdG:=he _ _ hd;have p0G:=he _ _ p0;have p1G:=he _ _ p1;refine BO (BQ ?_);have fz:=ai h25 (ai uz (ai gz (ai p1G (ai p0G (ai Q0 (ai @NV (ai hdG (ai hoG hwG))))))));refine xq (BP (BO ?_));refine C8 (fun c1=> ?_) fun c1=> ?_
 ·refine BR (BO (BS (BO (BQ ?_))));have fz:=ai c1 fz;refine Eg (BP (BO (BQ ?_)));iterate 11 first|refine xq ?_|refine xg ?_
  refine BP (xi (fun c2=> ?_) fun c2=> ?_)
  ·have hvn:v<n:=om;have een:=au (D:=(DM L n k σ).dist) hvn i1 c2;obtain⟨way,r,hch,hwl,hcf,hrm⟩:=Lo (Di hA) hSh.ways hvn;refine BO (BQ ?_);have fz:=ai c2 fz;refine B0 ?_;refine xc (h:=tW (hM.ext (eH.trans he)) hb hA hn (he _ _ hbm) ⟨nbx,nbo⟩ (fun v s h=>(hSh.by1 v s h).1) hvn hch om (fun s hs=>by have:=hrm s hs;omega)) (k:=fun v2 H2 nf3 hl3 q2 hf=> ?_);refine BP (BO (BQ (xq (BP (BT (rt ?_))))));exact BW rfl (.inl ⟨_,by unfold lumpStep;rw[een,AU];unfold Ed;rw[show Es L (at_ (DM L n k σ).by_) n v=(way,r)from hcf],xy,(Ext.p (eH.trans he)).trans q2.1,q2.2⟩)
  ·refine BR (BQ ?_);have fz:=ai c2 fz;refine Ba (BP ?_);exact xe hf ⟨(fun j h=>by rcases AT.1 h with h|rfl;exact i1 j h;exact c2),xz⟩
 ·refine xo (BO (BQ ?_));have fz:=ai c1 fz;refine xq (BP (BT (rt ?_)));exact BW rfl (.inr ⟨by unfold lumpStep;rw[aq (fun j hj=>i1 j om)];rfl,xy,eH.trans he⟩)
section
variable{j n:Nat}
theorem ue{β:Type}(f:β->Stp->β)(b:β){a:Nat}(h:j<2): (([⟨a,false⟩,⟨a,true⟩]:List Stp).take (j+1)).foldl f b=f ((([⟨a,false⟩,⟨a,true⟩]:List Stp).take j).foldl f b) ⟨a,j==1⟩:=by
 match j,h with
 |0,_=>rfl
 |1,_=>rfl
def NQ(L:List Ar)(k:Int)(D:List (Option Int))(σ:Net)(a:Nat):Net:=(CF a).foldl (El L k D) σ
def I9(L:List Ar)(k:Int)(D:List (Option Int))(σ:Net)(a j:Nat):Net:=(([⟨a,false⟩,⟨a,true⟩]:List Stp).take j).foldl (El L k D) (NQ L k D σ a)
variable{D:List (Option Int)}{σ:Net}
theorem Y0{L:List Ar}{k:Int}{a:Nat}(h:j<2):I9 L k D σ a (j+1)=El L k D (I9 L k D σ a j) ⟨a,j==1⟩:=ue _ _ h
theorem lY(L:List Ar)(k:Int)(D:List (Option Int))(σ:Net)(a:Nat):I9 L k D σ a 2=NQ L k D σ (a+1):=by
 unfold I9 NQ;rw[Ie,List.foldl_append];rfl
theorem N3{L:List Ar}{T:Int}(hL:Okay n L)(h:NetOk n L σ)(hB:Bnd n L T σ):NB T σ:=by
 have h0:=Cx (nth σ.ov) n;have h1:=Cx (fun v=> -nth σ.ov v) n;have hp:=hB.p;have hq:=hB.q;refine⟨fun a=> ?_,fun v=> ?_⟩
 ·by_cases ha:a<L.length
  ·have:=hB.x a ha;have hr:=h.room ⟨a,true⟩ ha;unfold sRoom at hr;rw[if_pos rfl]at hr;dsimp only at hr;have hlo:=hL.lo _ (EJ (L:=L) (a:=a) ha);omega
  ·have:nth σ.x a=0:=by unfold nth;rw[Ap (by rw[h.lx];omega)];rfl
   omega
 ·by_cases hv:v<n
  ·have e1:=PC (nth σ.ov) n v hv;have e2:=PC (fun v=> -nth σ.ov v) n v hv;omega
  ·have:nth σ.ov v=0:=by unfold nth;rw[Ap (by rw[h.lo];omega)];rfl
   omega
structure SatU(L:List Ar)(k:Int)(D:List (Option Int))(T:Int)(τ:Net)(s:Stp):Prop where
 u:k<=sRoom L τ.x s->valO D (sFrom L s)+sCost L s<valO D (sTo L s)->sRoom L τ.x s<=2*k
 nb:NB T τ
 lx:τ.x.length=L.length
theorem qI{L:List Ar}(hL:Okay n L){k:Int}(hk:0<k)(hk2:2*k<=Gb){T:Int}(hσ:NetOk n L σ)(hB:Bnd n L T σ)(hf:Feas L (fun s=>2*k<=sRoom L σ.x s) (valO D)){a:Nat}(ha:a<L.length)(hj:j<2):SatU L k D (T+4*k*(a:Int)+4*k) (I9 L k D σ a j) ⟨a,j==1⟩:=by
 obtain⟨p1,p2,p3,p4⟩:=L5 hL hk hk2 hσ hB hf a om;change NetOk n L (NQ L k D σ a)at p1;change Bnd n L _ (NQ L k D σ a)at p2;change ∀c,a<=c->nth (NQ L k D σ a).x c=_ at p4;have nbP:=N3 hL p1 p2;have same:∀b,sRoom L (NQ L k D σ a).x ⟨a,b⟩=sRoom L σ.x ⟨a,b⟩:=fun b=>Hu L _ _ _ (p4 a (AH _))
 have low:∀b,valO D (sFrom L ⟨a,b⟩)+sCost L ⟨a,b⟩<valO D (sTo L ⟨a,b⟩)->sRoom L (NQ L k D σ a).x ⟨a,b⟩<=2*k:=fun b h2=>by
  rw[same];refine Classical.byContradiction fun h=> ?_
  have:=hf ⟨a,b⟩ ha (show 2*k<=sRoom L σ.x ⟨a,b⟩ from om);omega
 match j,hj with
 |0,_=>exact⟨fun _ h=>low false h,nbP.mono om,p1.lx⟩
 |1,_=>
  have e:I9 L k D σ a 1=El L k D (NQ L k D σ a) ⟨a,false⟩:=rfl;rw[e];unfold El;split
  ·rename_i hc;refine⟨fun h1 h2=> ?_,?_,by rw[FR];exact p1.lx⟩
   ·exfalso;have h3:sFrom L ⟨a,1==1⟩=sTo L ⟨a,false⟩:=rfl;have h4:sTo L ⟨a,1==1⟩=sFrom L ⟨a,false⟩:=rfl;have h5:sCost L ⟨a,1==1⟩= -sCost L ⟨a,false⟩:=rfl;rw[h3,h4,h5]at h2;omega
   ·have hu:=low false hc.2;exact(nbP.push (U:=2*k) om (by rw[p1.lx];exact ha) (by rw[p1.lo];exact hL.ends.from_lt ha) (by rw[p1.lo];exact hL.ends.to_lt ha)).mono om
  ·exact⟨fun _ h=>low true h,nbP.mono om,p1.lx⟩
set_option maxHeartbeats 4000000 in
theorem qJ{w xb ob db cd:Nat}{L:List Ar}{T:Value}{H:Hp}{k Tb:Int}(hM:NwM H w xb ob n L T σ)(hA:∀a∈L,ArOk n a)(hLl:L.length<=256)(hkp:0<k)(hmu:2*k<=Gb)(hσ:NetOk n L σ)(hB:Bnd n L Tb σ)(hT:0<=Tb/\Tb+4*k*(L.length:Int)+8*k<=BB)(hf_:Feas L (fun s=>2*k<=sRoom L σ.x s) (valO D))(hd:H db=some (.own (ar n (at_ D))))(hdn:db≠xb/\db≠ob)(hD:∀v d,at_ D v=some d-> -576460752303423488<=d/\d<=576460752303423488):Ct 64 [.pointer (some ⟨w,0,none⟩),.slice (some ⟨db,0,none⟩) n cd,.int .i64 k] (fun _ H'=>Nb (PX xb ob) H H'/\NwM H' w xb ob n L T (Y5 L k D σ)) H:=by
 refine BV Tryz.func64 rfl 64 rfl fun nf t hf hsc ht=> ?_
 have hf0:=hf;have hx:=hM.x;have ho:=hM.o;have lx:=hf.lt hx;have lo:=hf.lt ho;have ld:=hf.lt hd;obtain⟨K,kE,hq,kX,kN⟩:=IY (PX xb ob) hf;have hf0:∀c,nf<=c\/c=xb\/c=ob->K c=none:=hq;have he:=kE;have hNK:=hM.a.drop kN;have hdK:K db=some _:=(kN db (fun h=>h.elim hdn.1 hdn.2)).trans hd;obtain⟨⟨Aw,cw,Bw,dw,cx,co,hw,hB5,hBn⟩,m1,m2,m3⟩:=hNK;have lw:w<nf:=hf.lt (kE _ _ hw);have hwG:=kE _ _ hw;have hvr:∀v, -576460752303423488<=valO D v/\valO D v<=576460752303423488:=fun v=>by
  unfold valO;cases e:at_ D v with
  |none=>exact⟨dZ,dZ⟩
  |some d=>exact hD v d e
 have okL:=Di hA;have hkm:∀a:Nat,a<L.length->4*k*(a:Int)<=4*k*(L.length:Int):=fun a h=>Int.mul_le_mul_of_nonneg_left om om
 have hk0:∀a:Nat,0<=4*k*(a:Int):=fun a=>Int.mul_nonneg om om
 unfold BB at hT;refine BO (BQ ?_);have fz:=ai hwG (ai (ht 2 _ rfl) (ai (ht 1 _ rfl) (ht 0 _ rfl)));refine Dk ?_;refine xq (BP (BS ?_));refine By fun T1 hT=> ?_
 have gz:=ai (xt (hT 18)) (ai (xt (hT 17)) (ai (xt (hT 2)) (ai (xt (hT 1)) (ai (xt (hT 0)) trivial))));clear hT;refine xl L.length nf K hf (fun a3 t nf1 G=>NwM G w xb ob n L T (NQ L k D σ a3)/\(t 0=T1 0/\t 1=T1 1/\t 2=T1 2/\t 17=T1 17)/\t 18= .int .i64 (a3:Int)) ⟨hM,xh⟩ ?_;rintro a3 t nf1 G hk1 hn1 hf he ⟨mp,uz,h18⟩;have hfl:=hf;have hwG:=he _ _ hw;have hdG:=he _ _ hdK;refine BO (BQ ?_);have fz:=ai h18 (ai uz (ai gz (ai Dc (ai Db (ai DB (ai @LF (ai hdG hwG)))))));refine xq (BP (BO ?_));refine C8 (fun c1=> ?_) fun c1=> ?_
 ·refine BR (BO (BS (BO (BQ ?_))));have fz:=ai c1 fz;refine Ba (BP (BO (BQ ?_)));refine Dk (BP (BS ?_));refine By fun T2 hT=> ?_
  have gz:=ai (xt (hT 26)) (ai (xt (hT 25)) (ai (xt (hT 18)) (ai (xt (hT 17)) (ai (xt (hT 2)) (ai (xt (hT 1)) (ai (xt (hT 0)) gz))))));clear hT;refine xl 2 nf K hf (fun j t nf2 G=>NwM G w xb ob n L T (I9 L k D σ a3 j)/\(t 0=T2 0/\t 1=T2 1/\t 2=T2 2/\t 17=T2 17/\t 18=T2 18/\t 25=T2 25)/\t 26= .int .i64 (j:Int)) ⟨mp,xh⟩ ?_;rintro j t nf2 G hk2 hn2 hf he ⟨mk,uz,h26⟩;have hfl:=hf;have hwG:=he _ _ hw;have hdG:=he _ _ hdK;refine BO (BQ ?_);have fz:=ai h26 (ai uz (ai gz (ai Dc (ai Db (ai DB (ai @LF (ai hdG hwG)))))));refine xq (BP (BO ?_));refine C8 (fun c2=> ?_) fun c2=> ?_
  ·refine BR (BO (BS (BO (BQ ?_))));have hj:j<2:=om;have ha:a3<L.length:=om;have hAa:=hA _ (AM ha);obtain⟨es1,es2,es3,es4⟩:=G9 (s:=⟨a3,j==1⟩) ha hAa;dsimp only at es1 es2;have esc:=Um (s:=⟨a3,j==1⟩) ha;dsimp only at esc;have hco:R64 L[a3].co/\R64 (-L[a3].co):=by have:=hAa.co;unfold R64;omega
   have hsc: -4398046511104<=sCost L (⟨a3,j==1⟩:Stp)/\sCost L (⟨a3,j==1⟩:Stp)<=4398046511104:=by rw[<-esc];have:=hAa.co;split<;>omega
   have hix:=we (a3:Int) hj;have hSU:=qI okL hkp hmu hσ hB hf_ ha hj;have hkm2:=hkm a3 ha;have hk02:=hk0 a3;have vr1:=hvr (sFrom L (⟨a3,j==1⟩:Stp));have vr2:=hvr (sTo L (⟨a3,j==1⟩:Stp));have vd:∀v,(at_ D v).getD 0=valO D v:=fun _=>rfl
   have fz:=ai vd (ai hix (ai es2 (ai es1 (ai c2 fz))));refine xq ?_;refine xa fun hf=> ?_
   refine xs fun hf=> ?_
   refine BP (BO (BQ (Ba ?_)));refine xp (h:=Iu (xw hw) (hB5.ext xx) ha (b:=j==1)) (k:= ?_);refine Eg (BP (BO (BQ ?_)));refine Ba ?_;refine xp (h:=L6 (s:=(⟨a3,j==1⟩:Stp)) (mk.ext (by(repeat refine Ext.up (hfl _ om) ?_);exact Ext.refl _)) (hSU.nb.mono (by unfold BB;omega)) ha hAa) (k:= ?_);refine xq (BP (BO ?_));refine Bh [0,0,0,0,0,0,0,0,1,0,1,1,0,0,0,0,0,1,0,0] [0,1,2,3,4,5,6,7,8,9,10,11,12,13,14,15,16,17,18,19] kr hf ?_;iterate 11 first|refine CA ?_|refine EM ?_|refine FG ?_
   refine HN (h:=fun hgd G hG=>by have h:=Ul (b:=j==1) (xw hw (e:=Ext.trans xx hG)) ((hB5.ext xx).ext hG) ha hco;rw[esc]at h;exact h) (k:= ?_);iterate 8 first|refine CA ?_|refine EM ?_|refine FG ?_
   refine BX (xi (fun c3=> ?_) fun c3=> ?_)
   ·obtain⟨c3x,c3y⟩:=Bool.and_eq_true_iff.1 c3;have c3a:k<=sRoom L (I9 L k D σ a3 j).x (⟨a3,j==1⟩:Stp):=BA c3x;have c3b:valO D (sFrom L (⟨a3,j==1⟩:Stp))+sCost L (⟨a3,j==1⟩:Stp)<valO D (sTo L (⟨a3,j==1⟩:Stp)):=BA c3y;have esat:I9 L k D σ a3 (j+1)=CM L (I9 L k D σ a3 j) (⟨a3,j==1⟩:Stp) (sRoom L (I9 L k D σ a3 j).x (⟨a3,j==1⟩:Stp)):=by rw[Y0 hj];exact if_pos ⟨c3a,c3b⟩
    refine BQ ?_;have fz:=ai c3 fz;refine B0 ?_;refine xc (h:=Se (s:=(⟨a3,j==1⟩:Stp)) (U:=2*k) (mk.ext (by(repeat refine Ext.up (hfl _ om) ?_);exact Ext.refl _)) hSU.nb ⟨om,hSU.u c3a c3b⟩ (by unfold BB;omega) om ha hAa) (k:=fun v1 H1 nf9 hl9 q1 hf=> ?_);refine BP (BQ (Ba (BP ?_)));try have he:=q1.1.ext xx (fun c h=>hf0 c (.inr h))
    exact xe hf ⟨(by rw[esat];first|exact q1.2|exact mk.ext (by(repeat refine Ext.up (hfl _ om) ?_);exact Ext.refl _)),xz⟩
   ·have esat:I9 L k D σ a3 (j+1)=I9 L k D σ a3 j:=by rw[Y0 hj];exact if_neg (fun h=>by rw[BH (show sRoom L (I9 L k D σ a3 j).x (⟨a3,j==1⟩:Stp) >= k from h.1),BH h.2]at c3;cases c3)
    refine BR (BQ ?_);have fz:=ai c3 fz;refine Ba (BP ?_);try have he:=q1.1.ext xx (fun c h=>hf0 c (.inr h))
    exact xe hf ⟨(by rw[esat];first|exact q1.2|exact mk.ext (by(repeat refine Ext.up (hfl _ om) ?_);exact Ext.refl _)),xz⟩
  ·obtain rfl:j=2:=om;refine xo (BQ ?_);have fz:=ai c2 fz;refine Ba (BP ?_);exact xe hf ⟨(by rw[<-lY];exact mk),xz⟩
 ·obtain rfl:a3=L.length:=om;refine xo ?_;refine Ji ?_ rfl;refine rt ?_;have fz:=ai c1 (ai h18 (ai uz (ai gz (ai Dc (ai Db (ai DB (ai @LF (ai hdG hwG))))))));exact HQ rfl ⟨kX _ xx,mp⟩
end
theorem mO(k:IntKind)(a b c:Int):Ii (fun x y=>if y>x then y else x) [.int k a,.int k b,.int k c]=some (.int k (max (max a b) c)):=by
 have e:∀x y:Int,(if y>x then y else x)=max x y:=fun x y=>by split<;>omega
 simp[Ii,e]
theorem mP(k:IntKind)(a b:Int):Ii (fun x y=>if y>x then y else x) [.int k a,.int k b]=some (.int k (max a b)):=by
 have e:∀x y:Int,(if y>x then y else x)=max x y:=fun x y=>by split<;>omega
 simp[Ii,e]
def two(k:Nat):Nat:=2^k
theorem UX(k:Nat): ((two k:Nat):Int)*2=((two (k+1):Nat):Int):=by unfold two;rw[Nat.pow_succ];omega
theorem UY(k:Nat):0<two k:=Nat.pow_pos dZ
theorem QN{k j:Nat}(h:k<=j):two k<=two j:=Nat.pow_le_pow_right dZ h
theorem lH{k:Nat}(h:two k<2048):k<11:=Nat.lt_of_not_le fun h2=>by have:=QN h2;have e:two 11=2048:=rfl;omega
set_option maxHeartbeats 1600000 in
theorem gW{w xb ob n:Nat}{L:List Ar}{T:Value}{H:Hp}{σ:Net}(hM:NwM H w xb ob n L T σ)(hn:n<=64)(hLl:L.length<=256)(ho_:∀v, -2048<=nth σ.ov v/\nth σ.ov v<=2048)(hc:∀a∈L,a.ca=4611686018427387904\/(0<=a.ca/\a.ca<=2048)):Ct 63 [.pointer (some ⟨w,0,none⟩)] (fun v H'=>Ext H H'/\∃p:Nat,p<=11/\v= .int .i64 ((two p:Nat):Int)/\∀a∈L,a.ca=4611686018427387904\/a.ca<=((two p:Nat):Int)) H:=by
 refine BV Tryz.func63 rfl 48 rfl fun nf t hf hsc ht=> ?_
 have hf0:=hf;obtain⟨⟨⟨A,c,B,d,cx,co,hw,hB,_⟩,_,_,_⟩,hx,ho,hlx,hlo⟩:=hM;have lw:=hf.lt hw;have lo:=hf.lt ho;refine BO (BQ ?_);have fz:=ai ho (ai hw (ht 0 _ rfl));refine xq (BP (BO (BQ ?_)));refine xq (BP (BO (BO (BQ ?_))));refine Dk (BP (BS ?_));refine By fun T1 hT=> ?_
 have gz:=ai (xt (hT 3)) (ai (xt (hT 14)) (ai (xt (hT 13)) (ai (xt (hT 12)) (ai (xt (hT 0)) trivial))));clear hT;refine xl n nf H hf (fun k t nf1 G=>∃(m0:Int),(1<=m0/\m0<=2048)/\(t 0=T1 0/\t 12=T1 12/\t 13=T1 13)/\t 14= .int .i64 (k:Int)/\t 3= .int .i64 m0) ⟨1,⟨dZ,dZ⟩,xh⟩ ?_;rintro k t nf1 G hk1 hn1 hf he ⟨m0,hm0,uz,h14,h3⟩;have hfl:=hf;have hwG:=he _ _ hw;have hoG:=he _ _ ho;refine BO (BQ ?_);have fz:=ai h3 (ai h14 (ai uz (ai gz (ai Q0 (ai @mP (ai @mO (ai hoG hwG)))))));refine xq (BP (BO ?_));refine C8 (fun c1=> ?_) fun c1=> ?_
 ·refine BR (BO (BS (BO (BQ ?_))));have hov:=ho_ k;have fz:=ai c1 fz;refine B0 (BP (BQ ?_));refine Dk (BP (BQ ?_));refine Ba (BP ?_);exact xe hf ⟨max (max m0 (nth σ.ov k)) (-nth σ.ov k),om,xz⟩
 ·refine xo (BO (BO (BQ ?_)));have fz:=ai c1 fz;refine Dk ?_;refine xq (BP (BS ?_));refine By fun T2 hT=> ?_
  have gz:=ai (xt (hT 3)) (ai (xt (hT 30)) (ai (xt (hT 29)) (ai (xt (hT 28)) gz)));clear hT;refine xl L.length nf H hf (fun k t nf1 G=>∃(m0:Int),(1<=m0/\m0<=2048)/\(∀j (hj:j<k) (hk:j<L.length),L[j].ca=4611686018427387904\/L[j].ca<=m0)/\(t 28=T2 28/\t 29=T2 29)/\t 30= .int .i64 (k:Int)/\t 3= .int .i64 m0) ⟨m0,hm0,(fun j h=>absurd h (Aj j)),xh⟩ ?_;rintro k t nf1 G hk2 hn2 hf he ⟨m0,hm1,hcs,uz,h30,h3⟩;have hfl:=hf;have hwG:=he _ _ hw;have hoG:=he _ _ ho;refine BO (BQ ?_);have fz:=ai h3 (ai h30 (ai uz (ai gz (ai Q0 (ai @mP (ai @mO (ai hoG hwG)))))));refine xq (BP (BO ?_));refine C8 (fun c2=> ?_) fun c2=> ?_
  ·refine BR (BO (BS (BO (BQ ?_))));have hk:k<L.length:=om;obtain⟨b,o,eB,hoB⟩:=(hB.ext he) k hk;have lb:=Bd hf hoB;have hca:=hc _ (AM hk);have fz:=ai hoB (ai eB (ai c2 fz));refine Ba ?_;refine xa fun hf=> ?_
   refine xs fun hf=> ?_
   refine BP (BO (BQ (B0 (BP ?_))));refine Kf (fun c3=> ?_) fun c3=> ?_
   ·obtain⟨m2,hm2e,hm2⟩:∃m2,max m0 L[k].ca=m2/\(1<=m2/\m2<=2048)/\(∀j (hj:j<k+1) (hk:j<L.length),L[j].ca=4611686018427387904\/L[j].ca<=m2):=⟨_,rfl,om,fun j h1 h2=>by rcases AT.1 h1 with h|rfl;have:=hcs j h h2;omega;omega⟩;refine BQ ?_;have fz:=ai hm2e (ai c3 fz);refine Eg (BP (BQ ?_));refine Ba (BP ?_);exact xe hf ⟨m2,hm2.1,hm2.2,xz⟩
   ·obtain⟨m2,hm2e,hm2⟩:∃m2,m0=m2/\(1<=m2/\m2<=2048)/\(∀j (hj:j<k+1) (hk:j<L.length),L[j].ca=4611686018427387904\/L[j].ca<=m2):=⟨_,rfl,om,fun j h1 h2=>by rcases AT.1 h1 with h|rfl;exact hcs j h h2;omega⟩;refine BR (BQ ?_);have fz:=ai hm2e (ai c3 fz);refine Ba (BP ?_);exact xe hf ⟨m2,hm2.1,hm2.2,xz⟩
  ·obtain rfl:k=L.length:=om;refine xo (BO (BQ ?_));have fz:=ai c2 fz;refine xq (BP (BO (BS ?_)));refine By fun T3 hT=> ?_
   have g8:=xt (hT 8);have gz:=ai g8 (ai (xt (hT 3)) gz);clear hT;refine xl 12 nf H hf (fun k t nf1 G=>(k<=11)/\t 8= .int .i64 ((two k:Nat):Int)/\t 3=T3 3) ⟨om,by rw[g8]<;>rfl,xh⟩ ?_;rintro k t nf1 G hk3 hn3 hf he ⟨hk11,h8,uz⟩;have hfl:=hf;have hwG:=he _ _ hw;have hoG:=he _ _ ho;refine BO (BO (BQ ?_));have fz:=ai h8 (ai uz (ai gz (ai Q0 (ai @mP (ai @mO (ai hoG hwG))))));refine B0 (BP ?_);refine C8 (fun c4=> ?_) fun c4=> ?_
   ·have htl:=lH (k:=k) om;have hts:=UX k;refine BR (BS (BQ ?_));have fz:=ai c4 fz;refine B0 (BP ?_);exact xe hf ⟨om,(by simp(disch:=omega)only[wx,fz];rw[<-hts]),xz⟩
   ·refine xo (BO (BQ ?_));have fz:=ai c4 fz;refine Ba (BP (BT (rt ?_)));exact BW rfl (by simp(disch:=omega)only[wx,fz];exact⟨xx,k,hk11,rfl,fun a h=>by obtain⟨j,hj,rfl⟩:=List.getElem_of_mem h;have:=hcs j hj hj;omega⟩)
section
instance:Cel Bool 1:=⟨fun x=>[.bool x],fun _=>rfl⟩
theorem RA{N k:Nat}{f:Nat->Bool}(h:k<N):Cs (some (.own (ar N f))) (0+k*1) 1=some [.bool (f k)]:=GG h
theorem Sv{N k:Nat}{f:Nat->Bool}(h:k<N):Cs (some (.own (ar N f))) (0+k) 1=some [.bool (f k)]:=by have:=RA (f:=f) h;rwa [Nat.mul_one]at this
theorem Ws{N k:Nat}{f:Nat->Bool}{b:Bool}(h:k<N):Dp (some (.own (ar N f))) (0+k*1) [.bool b]=some (.own (ar N (up f k b))):=Lk b h
theorem xP(a n:Nat)(hn:n<100000000):N4 a n n 1 1 ⟨[.bool false]⟩=some (.slice (some ⟨a,0,none⟩) n n,[(a,.own (ar n fun _=>false))]):=Ik a n 1 false dZ hn
def iM(n:Nat)(f:Nat->Bool):Bool:=(List.range n).any f
variable{b n:Nat}
theorem oe{f:Nat->Bool}{k:Nat}(hk:k<n)(h:f k=true):iM n f=true:=List.any_eq_true.2 ⟨k,An.2 hk,h⟩
theorem oh{f:Nat->Bool}(h:∀k,k<n->f k=false):iM n f=false:=List.any_eq_false.2 fun k hk=>by rw[h k (An.1 hk)];decide
theorem gL{c:Nat}{f:Nat->Bool}{H:Hp}(hb_:H b=some (.own (ar n f)))(hn:n<=64):Ct 109 [.slice (some ⟨b,0,none⟩) n c,.bool true] (fun v H'=>Ext H H'/\∃z:Int,v= .int .i64 z/\ -1<=z/\z<=64/\decide (0<=z)=iM n f) H:=by
 refine BV Tryz.func109 rfl 19 rfl fun nf t hf hsc ht=> ?_
 have hf0:=hf;have lb:=hf.lt hb_;refine BO (BQ ?_);have fz:=ai hb_ (ai (ht 1 _ rfl) (ht 0 _ rfl));refine xq (BP (BO (BO (BQ ?_))));refine B0 (BP (BS ?_));refine By fun T1 hT=> ?_
 have gz:=ai (xt (hT 8)) (ai (xt (hT 7)) (ai (xt (hT 1)) (ai (xt (hT 0)) trivial)));clear hT;refine xl n nf H hf (fun k t nf1 G=>(∀j,j<k->f j=false)/\(t 0=T1 0/\t 1=T1 1/\t 7=T1 7)/\t 8= .int .i64 (k:Int)) ⟨(fun j h=>absurd h (Aj j)),xh⟩ ?_;rintro k t nf1 G hk1 hn1 hf he ⟨i1,uz,h8⟩;have hfl:=hf;have hbG:=he _ _ hb_;refine BO (BQ ?_);have fz:=ai h8 (ai uz (ai gz (ai @RA (ai @Sv hbG))));refine xq (BP (BO ?_));refine C8 (fun c1=> ?_) fun c1=> ?_
 ·refine BR (BO (BS (BO (BQ ?_))));have fz:=ai c1 fz;refine Ba (BP (BO (BQ ?_)));refine Dk (BP ?_);refine xi (fun c2=> ?_) fun c2=> ?_
  ·refine BO (BQ ?_);have fz:=ai c2 fz;refine Ba (BP (BT (rt ?_)));exact BW rfl (by simp(disch:=omega)only[wx,fz];exact⟨xx,_,rfl,om,om,by rw[oe (k:=k) om (by simpa using c2)];exact BH om⟩)
  ·refine BR (BQ ?_);have fz:=ai c2 fz;refine Ba (BP ?_);exact xe hf ⟨(fun j h=>by rcases AT.1 h with h|rfl;exact i1 j h;simpa using c2),xz⟩
 ·refine xo (BO (BQ ?_));have fz:=ai c1 fz;refine xq (BP (BT (rt ?_)));exact BW rfl (by simp(disch:=omega)only[wx,fz];exact⟨xx,_,rfl,dZ,dZ,by rw[oh fun j hj=>i1 j om];rfl⟩)
theorem TB{c:Nat}{f:Nat->Bool}{H:Hp}(hb_:H b=some (.own (ar n f)))(hn:n<=64):Ct 57 [.slice (some ⟨b,0,none⟩) n c,.bool true] (fun v H'=>Ext H H'/\v= .bool (iM n f)) H:=by
 refine BV Tryz.func57 rfl 9 rfl fun nf t hf hsc ht=> ?_
 have hf0:=hf;have lb:=hf.lt hb_;refine BO (BQ ?_);have fz:=ai hb_ (ai (ht 1 _ rfl) (ht 0 _ rfl));refine xq (BP (BO (BQ ?_)));refine Ba ?_;refine xc (h:=gL (xw hb_) hn) (k:=fun v1 H1 z hz q1 hf=> ?_);obtain⟨e1,y,rfl,hy1,hy2,hy⟩:=q1;have eH:Ext H H1:=Ext.trans xx e1;have hf0:=hf;have he:=Ext.refl H1;refine Ba (BP (BT (rt ?_)));exact BW rfl (by simp(disch:=omega)only[wx,fz];exact⟨eH.trans he,by rw[<-hy]⟩)
end
section
variable{L:List Ar}
theorem OI{n:Nat}{cnt:Stp->Bool}(hE:Ends n L)(hC:∀a∈L, -4398046511104<=a.co/\a.co<=4398046511104):∀(l:List Stp) (σ:SP) (K:Int),SPok n L K σ->(∀s∈l,s.a<L.length)->SPok n L (K+4398046511104*(l.length:Int)) (l.foldl (visit L cnt) σ)
 |[],σ,K,h,_=>h.mono (by simp)
 |s::l,σ,K,h,hl=>by
  have:=OI (cnt:=cnt) hE hC l _ _ (h.visit (cnt:=cnt) hE hC (hl s (by simp))) fun x hx=>hl x (by simp[hx])
  exact this.mono (by simp only[AY];omega)
theorem Wy(m:Nat): (CF m).length=2*m:=by
 induction m with
 |zero=>rfl
 |succ m ih=>rw[Ie,AN,ih];simp;omega
theorem SS{n:Nat}{cnt:Stp->Bool}(hE:Ends n L)(hC:∀a∈L, -4398046511104<=a.co/\a.co<=4398046511104)(hL:L.length<=256){σ:SP}{K:Int}(h:SPok n L K σ):SPok n L (K+2251799813685248) (DU L cnt σ):=
 (OI hE hC (CF L.length) _ K (Vo h) fun s hs=>DY.1 hs).mono (by rw[Wy];omega)
theorem Kj{n:Nat}{cnt:Stp->Bool}(hE:Ends n L)(hC:∀a∈L, -4398046511104<=a.co/\a.co<=4398046511104)(hL:L.length<=256):∀(j:Nat) (σ:SP) (K:Int),SPok n L K σ->SPok n L (K+2251799813685248*(j:Int)) (C0 L cnt j σ)
 |0,σ,K,h=>h.mono om
 |j+1,σ,K,h=>by
  have h1:=SS (cnt:=cnt) hE hC hL h;unfold C0;split
  ·exact h1.mono om
  ·exact(Kj hE hC hL j _ _ h1).mono om
theorem Fd{n:Nat}{cnt:Stp->Bool}(st:Nat->Bool)(hE:Ends n L)(hC:∀a∈L, -4398046511104<=a.co/\a.co<=4398046511104)(hL:L.length<=256)(hn:n<=64):SPok n L 144115188075855872 (Bq L n st cnt):=(Kj hE hC hL n _ 0 (Qc st)).mono om
theorem Qi{n:Nat}{cnt:Stp->Bool}(st:Nat->Bool)(hA:∀a∈L,ArOk n a)(hL:L.length<=256)(hn:n<=64)(v:Nat): -144115188075855872<=valO (Bq L n st cnt).dist v/\valO (Bq L n st cnt).dist v<=144115188075855872:=by
 unfold valO;cases h:at_ (Bq L n st cnt).dist v with
 |none=>exact⟨dZ,dZ⟩
 |some d=>exact(Fd st (FH hA) (Hy hA) hL hn).bd v d h
theorem SE{cnt:Stp->Bool}{σ:SP}{s:Stp}(h: (visit L cnt σ s).last=none):visit L cnt σ s=σ:=by
 unfold visit at h⊢;split
 ·rfl
 ·rename_i d hd;rw[hd]at h;dsimp only at h;split
  ·rename_i hc;rw[if_pos hc]at h;split
   ·rename_i e he;rw[he]at h;dsimp only at h;split
    ·rfl
    ·rename_i hn;rw[if_neg hn]at h;cases h
   ·rename_i he;rw[he]at h;cases h
  ·rfl
theorem Mj{cnt:Stp->Bool}:∀(l:List Stp) (σ:SP),(l.foldl (visit L cnt) σ).last=none->l.foldl (visit L cnt) σ=σ/\∀s∈l,visit L cnt σ s=σ
 |[],σ,_=>⟨rfl,by simp⟩
 |s::l,σ,h=>by
  rw[List.foldl_cons]at h⊢;obtain⟨h1,h2⟩:=Mj l _ h;rw[h1]at h;have h3:=SE h;rw[h1,h3];rw[h3]at h2;refine⟨rfl,fun x hx=> ?_⟩;rcases AV.1 hx with rfl|hx
  ·exact h3
  ·exact h2 x hx
theorem JC{cnt:Stp->Bool}:∀(j:Nat) (σ:SP),0<j->(C0 L cnt j σ).last=none->∃τ,C0 L cnt j σ=DU L cnt τ
 |0,_,h,_=>om
 |j+1,σ,_,h=>by
  unfold C0 at h⊢;split
  ·exact⟨_,rfl⟩
  ·rename_i hc;rw[if_neg hc]at h;cases j with
   |zero=>exact absurd (show(DU L cnt σ).last.isNone=true by rw[show(DU L cnt σ).last=none from h];rfl) hc
   |succ j=>exact JC (j+1) _ om h
theorem QG{cnt:Stp->Bool}{σ:SP}{s:Stp}(h:visit L cnt σ s=σ)(hl:σ.last=none){d e:Int}(hd:at_ σ.dist (sFrom L s)=some d)(he:at_ σ.dist (sTo L s)=some e)(hc:cnt s=true):e<=d+sCost L s:=by
 unfold visit at h;rw[hd]at h;dsimp only at h;rw[if_pos hc,he]at h;dsimp only at h;split at h
 ·assumption
 ·rw[<-h]at hl;cases hl
theorem Sb{n:Nat}{cnt:Stp->Bool}(hE:Ends n L)(hn:0<n)(h: (Bq L n (fun _=>true) cnt).last=none):Feas L (fun s=>cnt s=true) (valO (Bq L n (fun _=>true) cnt).dist):=by
 have hk:=Qe (n:=n) cnt hE;obtain⟨τ,hτ⟩:=JC n _ hn h;change Bq L n (fun _=>true) cnt=DU L cnt τ at hτ;rw[hτ]at h hk⊢;obtain⟨h1,h2⟩:=Mj _ _ h;change DU L cnt τ=_ at h1;rw[<-h1]at h2;intro s hs hc;obtain⟨d,hd⟩:=hk _ (hE.from_lt hs);obtain⟨e,he⟩:=hk _ (hE.to_lt hs);have:=QG (h2 s (DY.2 hs)) h hd he hc;unfold valO;rw[hd,he];simp only[AQ];omega
theorem uy{top:Bool}{ops:Array Oper}{l:List Oper}{Q:AF->Hp->Prop}{N nf:Nat}{t:Nat->Value}{ds:List Deferred}{H:Hp}{o:Oper}{d b j n a c:Nat}{f:Nat->Int}{z:Int}(hf:Fr H nf)(hc:ck N o=some d)(hop:hop tz H nf (eT t) o.op=B5 tz H nf 22 22 (.slice (some ⟨b,0,none⟩) j n) (.slice (some ⟨a,0,none⟩) 1 c))(g:H b=some (.own (ar n f)))(hx:H a=some (.own [.int .i64 z]))(hj:j<n)(hn:n<1000000)
  (K:Fr (upd H b (some (.own (ar n (up f j z))))) nf->WL top ops l Q ⟨N,st t d (.slice (some ⟨b,0,none⟩) (j+1) n),ds⟩ (upd H b (some (.own (ar n (up f j z)))))):WL top ops (o::l) Q ⟨N,t,ds⟩ H:=by
 obtain⟨hd,hN,hx',hg⟩:=M0 hc;obtain⟨e,q,h1,h2,h3,h4⟩:=I3.ex;have hr:ER H q.size 1 (.slice (some ⟨a,0,none⟩) 1 c)=some [.int .i64 z]:=Bu hx (by rw[h3];rfl) dZ;have ea:B5 tz H nf 22 22 (.slice (some ⟨b,0,none⟩) j n) (.slice (some ⟨a,0,none⟩) 1 c)=some (.slice (some ⟨b,0,none⟩) (j+1) n,[(b,.own (ar n (up f j z)))]):=by
  unfold B5;simp only[Ag,h1,h2,hr];rw[if_pos (by rfl)];unfold K5;dsimp only;rw[if_neg dZ,if_pos ⟨by unfold CJ;omega,om⟩,h3];have e2:P5 H (Addr.add ⟨b,0,none⟩ (j*1)) [.int .i64 z]=some (.own (ar n (up f j z))):=by
   have:=Of (f:=f) (x:=z) hj;have hA:Addr.add ⟨b,0,none⟩ (j*1)=⟨b,0+j*1,none⟩:=by
    unfold Addr.add;split
    ·rename_i h;rw[show j*1=0 from by simpa using h]
    ·rfl
   rw[hA];unfold P5;dsimp only;rw[g];exact this
  rw[e2];rfl
 refine CL hx' (BY hg _) (WOp.hop Cv Ce hf.at (hop.trans ea) ?_);rw[hd,CT hN];exact K (hf.old g _)
theorem vM{N k:Nat}{f:Nat->Option Int}(h:k<N):Cs (some (.own (ar N f))) (0+k*2) 2=some [.int .i64 ((f k).getD 0),.bool (f k).isSome]:=GG h
def JJ(L:List Ar)(σ:Net)(s:Stp):Bool:=(!s.back&&(DC L s.a).ca==4611686018427387904)||decide (sRoom L σ.x s>0)
theorem vD(a n:Nat)(hn:n<100000000):N4 a 0 n 1 8 ⟨[.int .i64 0]⟩=some (.slice (some ⟨a,0,none⟩) 0 n,[(a,.own (ar n fun _=>(0:Int)))]):=by
 have:=Sr a n hn;unfold N4 at this⊢;simpa using this
def MD(f:Nat->Int)(k j:Nat):Int:=if j<k then f j else 0
theorem fT(f:Nat->Int):MD f 0=fun _=>0:=by funext j;rfl
theorem fR(f:Nat->Int)(k:Nat):up (MD f k) k (f k)=MD f (k+1):=by
 funext j;unfold up MD;by_cases e:j=k
 ·subst e;rw[if_pos rfl,if_pos om]
 ·rw[if_neg e];by_cases h:j<k
  ·rw[if_pos h,if_pos om]
  ·rw[if_neg h,if_neg om]
theorem tT{n:Nat}{f g:Nat->Int}(h:∀j,j<n->f j=g j):ar n f=ar n g:=by
 induction n with
 |zero=>rfl
 |succ n ih=>rw[DR,DR,ih fun j hj=>h j om,h n om]
theorem fS(f:Nat->Int)(n:Nat):ar n (MD f n)=ar n f:=tT fun j hj=>if_pos hj
set_option maxHeartbeats 1600000 in
theorem ZS{w xb ob n:Nat}{T:Value}{H:Hp}{σ:Net}(hM:NwM H w xb ob n L T σ)(hb:NB BB σ)(hA:∀a∈L,ArOk n a)(hn:n<=64)(hLl:L.length<=256):Ct 28 [.pointer (some ⟨w,0,none⟩)] (fun v H'=>Ext H H'/\∃b:Nat,v= .slice (some ⟨b,0,none⟩) n n/\H' b=some (.own (ar n fun j=> -valO (Bq L n (fun _=>true) (JJ L σ)).dist j))/\H b=none) H:=by
 refine BV Tryz.func28 rfl 33 rfl fun nf t hf hsc ht=> ?_
 have hf0:=hf;obtain⟨⟨A,c,B,d,cx,co,hw,hB,_⟩,_,_,_⟩:=hM.a;have lw:=hf.lt hw;refine BO (BQ ?_);have fz:=ai @vD (ht 0 _ rfl);refine xa fun hf=> ?_
 refine xq (BP (BO (BQ ?_)));refine Ba ?_;refine xc (h:=I8 (n:=n) (fs:= #[]) (cs:= #[]) (fc:= #[]) (st:=fun _=>true) (cnt:=JJ L σ) (xw hw) (hB.ext xx) hA hn hLl (fun G hG v hv=>LY) (fun G hG s hs=>by have:=fJ (b1:=nf) (hM.ext (Ext.trans xx hG)) hb (hG _ _ xv) hs (hA _ (AM hs));unfold JJ;rw[Du L hs];exact this)) (k:=fun v1 H1 z hz q1 hf=> ?_);obtain⟨e1,db,bb,rfl,hd,hbm,n1,n2,n3⟩:=q1;have eH:Ext H H1:=Ext.trans xx e1;have hfz:=hf0;have hf0:=hf;have he:=Ext.refl H1;have ldd:=hf.lt hd;have hbd:=Qi (cnt:=JJ L σ) (fun _=>true) hA hLl hn;obtain⟨pD,hpD⟩:∃f,f=fun j=> -valO (Bq L n (fun _=>true) (JJ L σ)).dist j:=⟨_,rfl⟩
 refine Dv ?_;refine xa fun hf=> ?_
 refine Ba ?_;refine xs fun hf=> ?_
 refine BP (BO (BQ (Ba ?_)));refine xa fun hf=> ?_
 refine xq (BP (BO (BO (BQ ?_))));refine B0 (BP (BS ?_));refine By fun T1 hT=> ?_
 have gz:=ai (xt (hT 6)) (ai (xt (hT 21)) (ai (xt (hT 20)) (ai (xt (hT 19)) trivial)));clear hT;refine xl n nf H1 hf (fun k t nf1 G=>z+2<=nf1/\G (z+1)=some (.own (ar n (MD pD k)))/\(t 19=T1 19/\t 20=T1 20)/\t 21= .int .i64 (k:Int)/\t 6= .slice (some ⟨z+1,0,none⟩) k n) ⟨om,(by rw[fT];exact xy),xh⟩ ?_;rintro k t nf1 G hk1 hn1 hf he ⟨hzn,hpd,uz,h21,h6⟩;have hfl:=hf;have hdG:=he _ _ hd;refine BO (BQ ?_);have fz:=ai hpd (ai h6 (ai h21 (ai uz (ai gz (ai Q0 (ai Dc (ai kK (ai @vM hdG))))))));refine xq (BP (BO ?_));refine C8 (fun c1=> ?_) fun c1=> ?_
 ·refine BR (BO (BS (BO (BQ ?_))));have hk:k<n:=om;have hbk:=hbd k;have hpk:pD k= -valO (Bq L n (fun _=>true) (JJ L σ)).dist k:=by rw[hpD]
  have hvk: ((at_ (Bq L n (fun _=>true) (JJ L σ)).dist k).getD 0)=valO (Bq L n (fun _=>true) (JJ L σ)).dist k:=rfl;have fz:=ai hpk (ai hvk (ai c1 fz));refine Ba ?_;refine xa fun hf=> ?_
  refine xs fun hf=> ?_
  refine BP (BQ (Dv ?_));refine xa fun hf=> ?_
  refine uy (b:=z+1) (z:=pD k) (f:=MD pD k) hf rfl xv xv xv hk om fun hf=> ?_
  refine xq (BP (BQ ?_));refine Ba (BP ?_);exact xe hf ⟨om,(by rw[<-fR];exact xy),xz⟩
 ·obtain rfl:n=k:=om;refine xo (BO (BQ ?_));have fz:=ai c1 fz;refine Ba (BP (BT (rt ?_)));exact BW rfl (by simp(disch:=omega)only[wx,fz];exact⟨eH.trans xx,_,rfl,by rw[hpd,fS,hpD],hfz (z+1) om⟩)
end
section
def FI(L:List Ar)(s:Stp):Bool:= !s.back&&(DC L s.a).ca==4611686018427387904
def X8(n:Nat)(L:List Ar)(Q:Net->Prop):Prop:=∀(τ:Net) (s:Stp) (u:Int),τ.x.length=L.length->τ.ov.length=n->s.a<L.length->Q τ->Q (CM L τ s u)
variable{k n:Nat}{L:List Ar}{Q:Net->Prop}
theorem X8.all(h:X8 n L Q)(u:Int):∀(l:List Stp) (τ:Net),τ.x.length=L.length->τ.ov.length=n->(∀s∈l,s.a<L.length)->Q τ->Q (CS L τ l u)
 |[],_,_,_,_,q=>q
 |s::l,τ,h1,h2,hl,q=>h.all u l (CM L τ s u) (by rw[FR];exact h1) (by rw[GC];exact h2) (fun x hx=>hl x (by simp[hx])) (h τ s u h1 h2 (hl s (by simp)) q)
theorem X8.sat(h:X8 n L Q)(k:Int)(D:List (Option Int)):∀(l:List Stp) (τ:Net),τ.x.length=L.length->τ.ov.length=n->(∀s∈l,s.a<L.length)->Q τ->Q (l.foldl (El L k D) τ)
 |[],_,_,_,_,q=>q
 |s::l,τ,h1,h2,hl,q=>by
  have e:El L k D τ s=CM L τ s (sRoom L τ.x s)\/El L k D τ s=τ:=by unfold El;split;exact .inl rfl;exact .inr rfl
  rw[List.foldl_cons];rcases e with e|e
  ·rw[e];exact h.sat k D l _ (by rw[FR];exact h1) (by rw[GC];exact h2) (fun x hx=>hl x (by simp[hx])) (h τ s _ h1 h2 (hl s (by simp)) q)
  ·rw[e];exact h.sat k D l _ h1 h2 (fun x hx=>hl x (by simp[hx])) q
def lv(p k:Nat):Int:=if k<=p then((two (p - k):Nat):Int)else 0
theorem mw{p:Nat}(h:lv p k>0):k<p+1:=by unfold lv at h;split at h<;>omega
theorem rG{p:Nat}(h:¬lv p k>0)(hk:k<=p+1):k=p+1:=by
 unfold lv at h;have:=UY (p - k);split at h<;>omega
theorem f9{p:Nat}(hk:k<p+1):lv p (k+1)=lv p k/2:=by
 unfold lv;rw[if_pos (by omega:k<=p)];split
 ·have:=UX (p - (k+1));rw[show p - (k+1)+1=p - k from om]at this;omega
 ·rw[show p - k=0 from om];rfl
theorem mu{p:Nat}(hk:k<p+1):2*lv p k=((two (p+1 - k):Nat):Int):=by
 unfold lv;rw[if_pos (by omega:k<=p)];have:=UX (p - k);rw[show p - k+1=p+1 - k from om]at this;omega
theorem jT{p:Nat}(hk:k<p+1):lv p k=((two (p+1 - (k+1)):Nat):Int):=by
 unfold lv;rw[if_pos (by omega:k<=p),show p+1 - (k+1)=p - k from om]
theorem lI(h:k<=11):two k<=2048:=QN (j:=11) h
structure Chp(n:Nat)(L:List Ar)(Q:Net->Prop)(p:Nat)(T0:Int)(k:Nat)(σ:Net)(D:List (Option Int)):Prop where
 ok:NetOk n L σ
 bnd:Bnd n L (T0+4000000*(k:Int)) σ
 feas:Feas L (fun s=>((two (p+1 - k):Nat):Int)<=sRoom L σ.x s) (valO D)
 bd:∀v d,at_ D v=some d-> -576460752303423488<=d/\d<=576460752303423488
 no:0<k->lumpStep L n ((two (p+1 - k):Nat):Int) σ=none
 q:Q σ
variable{σ τ:Net}
theorem sq{p:Nat}{T0:Int}(hA:∀a∈L,ArOk n a)(hL:L.length<=256)(hn:0<n)(hn2:n<=64)(hσ:NetOk n L σ)(hB:Bnd n L T0 σ)(hb:∀a,a<L.length->sRoom L σ.x ⟨a,true⟩=0)(hg:∀a∈L,a.ca=4611686018427387904\/a.ca<=((two p:Nat):Int))(hq: (Bq L n (fun _=>true) (FI L)).last=none)(q:Q σ):Chp n L Q p T0 0 σ (Bq L n (fun _=>true) (FI L)).dist:=by
 refine⟨hσ,hB.mono om,fun s hs hr=> ?_,fun v d h=>by have:=(Fd (fun _=>true) (FH hA) (Hy hA) hL hn2).bd v d h;omega,fun h=>om,q⟩;refine Sb (FH hA) hn hq s hs ?_;have h2:=UX p;have h1:=UY p;obtain⟨a,b⟩:=s;dsimp only at hs;cases b with
 |true=>have:=hb a hs;rw[this]at hr;rw[show p+1 - 0=p+1 from om]at hr;omega
 |false=>
  unfold FI;rcases hg _ (EJ hs)with h|h
  ·simpa using h
  ·exfalso;have h3:=hb a hs;unfold sRoom at h3 hr;rw[if_pos rfl]at h3;rw[if_neg (by simp)]at hr;dsimp only at h3 hr;have h4:=(Di hA).lo _ (EJ hs);rw[show p+1 - 0=p+1 from om]at hr;split at hr
   ·rename_i e;rw[e]at h;unfold infC at h;have:=(hA _ (EJ hs));unfold infC at e;have h5: ((two p:Nat):Int) >= 4611686018427387904:=h;have h6:Gb=1152921504606846976:=rfl;omega
   ·omega
theorem bP{p:Nat}{T0:Int}(hA:∀a∈L,ArOk n a)(hL:L.length<=256)(hn2:n<=64)(hk:k<p+1)(h:LumpOk n L (lv p k) τ)(hB:Bnd n L (T0+4000000*((k+1:Nat):Int)) τ)(hs:lumpStep L n (lv p k) τ=none)(q:Q τ):Chp n L Q p T0 (k+1) τ (Bq L n (fun _=>true) (ES L (lv p k) τ)).dist:=by
 refine⟨h.ok,hB,?_,fun v d h=>by have:=(Fd (fun _=>true) (FH hA) (Hy hA) hL hn2).bd v d h;omega,fun _=> ?_,q⟩
 ·rw[<-jT hk];exact h.feas_next (Di hA)
 ·rw[<-jT hk];exact hs
theorem my(hA:∀a∈L,ArOk n a)(hL:L.length<=256)(hn2:n<=64)(hQ:X8 n L Q){k B:Int}(h:LumpOk n L k σ)(hB:Bnd n L B σ)(hs:lumpStep L n k σ=some τ)(q:Q σ):LumpOk n L k τ/\Bnd n L B τ/\psum (nth τ.ov) n+k<=psum (nth σ.ov) n/\Q τ:=by
 obtain⟨h1,e,h2,h3,h4,l,r,h5,h6,h7⟩:=Xa (Di hA) h hs;have hp:=h.pos;obtain⟨u,u1,u2,_⟩:=h4.u;refine⟨h1,hB.along om h4,om,?_⟩;rw[h3];unfold Ed;rw[h7];exact hQ.all _ l σ h.ok.lx h.ok.lo (fun s hs=>by
  obtain⟨w,hw⟩:=h5.mem s hs;exact(Fd _ (FH hA) (Hy hA) hL hn2).by1 w s hw) q
theorem gA{w xb ob:Nat}{T:Value}{H:Hp}(hM:NwM H w xb ob n L T σ){k:Int}(hL:LumpOk n L k σ)(hk:k<=BB)(hb:NB 4503599627370496 σ)(hA:∀a∈L,ArOk n a)(hn:n<=64)(hLl:L.length<=256){gr:FuncId}{fr cr:Array Value}(hr:∀G,Ext H G->∀s:Stp,s.a<L.length->Pure gr (fr.toList++[.agg #[.int .i64 (s.a:Int),.bool s.back]]++cr.toList) (.bool (ES L k σ s)) G):Ct 67 [.pointer (some ⟨w,0,none⟩),.int .i64 k,.func (.func gr) fr cr] (fun v H'=>∃(r:Bool) (τ:Net),v= .bool r/\Nb (PX xb ob) H H'/\NwM H' w xb ob n L T τ/\(r=true->lumpStep L n k σ=some τ)/\(r=false->τ=σ/\lumpStep L n k σ=none)) H:=by
 refine(mz hM hL hk hb hA hn hLl hr).mono fun v H' h=> ?_
 rcases h with⟨τ,h1,h2,h3,h4⟩|⟨h1,h2,h3⟩
 ·exact⟨true,τ,h2,h3,h4,fun _=>h1,fun e=>by cases e⟩
 ·exact⟨false,σ,h2,h3.p,hM.ext h3,fun e=>(by cases e),fun _=>⟨rfl,h1⟩⟩
end
end
end Go.Proofs.YtjlallgaadmeaaaGreatDoor
