/- Parts of the proof, joined: KG KH KN FO KO GA GB GC GE GD GF. Conditions: none. -/
import Derived.Test.YtjlallgaadmeaaaGreatDoorM03
import Derived.WalkKit
import Derived.Great.BuildSlice
import Derived.KernelRfl
set_option linter.unusedVariables false
set_option linter.unusedSimpArgs false
set_option linter.unusedSectionVars false
set_option maxRecDepth 100000
namespace Go.Proofs.YtjlallgaadmeaaaGreatDoor
section
open Go.Conc
def cA:Code->Code
 | .seq a _=>a
 |c=>c
def cB:Code->Code
 | .seq _ b=>b
 |c=>c
def cC:Code->Code
 | .block _ b| .loop b| .scope b=>b
 |c=>c
def cT:Code->Code
 | .cond _ a _=>a
 |c=>c
def cE:Code->Code
 | .cond _ _ a=>a
 |c=>c
def rO:Code->Array Oper
 | .region _ ops _=>ops
 |_=> #[]
noncomputable def Ef:Code:=(Tryz.f136.body).getD .skip
noncomputable def K0:Code:=cB Ef
noncomputable def K1:Code:=cB K0
noncomputable def K2:Code:=cB K1
noncomputable def K3:Code:=cB K2
noncomputable def X1:Code:=cC (cC (cB (cA K3)))
noncomputable def Y1:Code:=cC (cA (cB (cB X1)))
noncomputable def K4:Code:=cB K3
noncomputable def Jv:Code:=cB K4
noncomputable def Jr:Code:=cB Jv
noncomputable def X2:Code:=cC (cC (cB (cA Jr)))
noncomputable def Y2:Code:=cC (cA (cB (cB X2)))
noncomputable def C2:Code:=cC (cB (cB Y2))
noncomputable def Jq:Code:=cB Jr
noncomputable def II:Code:=cB Jq
noncomputable def X3:Code:=cC (cC (cB (cA II)))
noncomputable def Y3:Code:=cC (cA (cB (cB X3)))
noncomputable def C3:Code:=cB (cB Y3)
noncomputable def Kd:Code:=cB II
noncomputable def q0:Array Oper:=rO (cA Ef)
noncomputable def q1:Array Oper:=rO (cA K0)
noncomputable def q2:Array Oper:=rO (cA K1)
noncomputable def q3:Array Oper:=rO (cA K2)
noncomputable def q4:Array Oper:=rO (cA (cA K3))
noncomputable def q5:Array Oper:=rO (cA X1)
noncomputable def q6:Array Oper:=rO (cA Y1)
noncomputable def q7:Array Oper:=rO (cA (cB Y1))
noncomputable def q8:Array Oper:=rO (cA (cB (cB Y1)))
noncomputable def q9:Array Oper:=rO (cB (cB (cB Y1)))
noncomputable def fG:Array Oper:=rO (cB (cB (cB X1)))
noncomputable def pB:Array Oper:=rO (cA K4)
noncomputable def pA:Array Oper:=rO (cA Jv)
noncomputable def oz:Array Oper:=rO (cA (cA Jr))
noncomputable def mQ:Array Oper:=rO (cA X2)
noncomputable def uI:Array Oper:=rO (cA (cA Y2))
noncomputable def uH:Array Oper:=rO (cB (cA Y2))
noncomputable def O9:Array Oper:=rO (cA (cB Y2))
noncomputable def uG:Array Oper:=rO (cA (cT C2))
noncomputable def uF:Array Oper:=rO (cB (cT C2))
noncomputable def qQ:Array Oper:=rO (cB (cB (cB X2)))
noncomputable def dA:Array Oper:=rO (cA Jq)
noncomputable def uE:Array Oper:=rO (cA (cA II))
noncomputable def uD:Array Oper:=rO (cA X3)
noncomputable def uC:Array Oper:=rO (cA Y3)
noncomputable def uB:Array Oper:=rO (cA (cB Y3))
noncomputable def uA:Array Oper:=rO (cB (cB (cB X3)))
noncomputable def tx:Array Oper:=rO (cA Kd)
theorem xX:X1= .seq (.region 5 q5 false) (.seq (.cond (.tmp 24) .skip (.exit 0)) (.seq (.block 1 Y1) (.region 10 fG false))):=rfl
theorem xY:K4= .seq (.region 11 pB false) Jv:=rfl
theorem vw:Jv= .seq (.region 12 pA false) Jr:=rfl
theorem vu:Jr= .seq (.seq (.region 13 oz false) (.block 2 (.loop X2))) Jq:=rfl
theorem j6:X2= .seq (.region 14 mQ false) (.seq (.cond (.tmp 46) .skip (.exit 2)) (.seq (.block 3 Y2) (.region 22 qQ false))):=rfl
theorem xV:Y2= .seq (.seq (.region 15 uI false) (.region 16 uH false)) (.seq (.region 17 O9 false) (.block 4 C2)):=rfl
theorem xd:C2= .cond (.tmp 51) (.seq (.region 18 uG false) (.region 19 uF false)) (cE C2):=rfl
theorem vo:Jq= .seq (.region 23 dA false) II:=rfl
theorem vn:II= .seq (.seq (.region 24 uE false) (.block 5 (.loop X3))) Kd:=rfl
theorem xW:X3= .seq (.region 25 uD false) (.seq (.cond (.tmp 72) .skip (.exit 5)) (.seq (.block 6 Y3) (.region 29 uA false))):=rfl
theorem xU:Y3= .seq (.region 26 uC false) (.seq (.region 27 uB false) C3):=rfl
theorem xZ:C3= .cond (.tmp 76) (cT C3) .skip:=rfl
theorem vm:Kd= .seq (.region 30 tx false) .ret:=rfl
noncomputable def cm:Code:=(Tryz.f167.body).getD .skip
noncomputable def tv:Array Oper:=rO (cB cm)
noncomputable def tt:Code:=(Tryz.f169.body).getD .skip
noncomputable def P1:Code:=cB tt
noncomputable def P2:Code:=cB P1
noncomputable def P3:Code:=cB P2
noncomputable def fK:Array Oper:=rO (cB P3)
noncomputable def D3:Code:=cB (cA P3)
noncomputable def iU:Code:=(Tryz.f242.body).getD .skip
theorem Bf{n:Nat}(l:List Value)(h:n+1<=l.length):∃x l',l=x::l'/\n<=l'.length:=by
 cases l with
 |nil=>simp at h
 |cons x y=>exact⟨x,y,rfl,by simpa using h⟩
set_option maxRecDepth 100000 in
theorem Pe(l:List Value)(h:80<=l.length):∃v0 v1 v2 v3 v4 v5 v6 v7 v8 v9 v10 v11 v12 v13 v14 v15 v16 v17 v18 v19 v20 v21 v22 v23 v24 v25 v26 v27 v28 v29 v30 v31 v32 v33 v34 v35 v36 v37 v38 v39 v40 v41 v42 v43 v44 v45 v46 v47 v48 v49 v50 v51 v52 v53 v54 v55 v56 v57 v58 v59 v60 v61 v62 v63 v64 v65 v66 v67 v68 v69 v70 v71 v72 v73 v74 v75 v76 v77 v78 v79 tl,l=v0::v1::v2::v3::v4::v5::v6::v7::v8::v9::v10::v11::v12::v13::v14::v15::v16::v17::v18::v19::v20::v21::v22::v23::v24::v25::v26::v27::v28::v29::v30::v31::v32::v33::v34::v35::v36::v37::v38::v39::v40::v41::v42::v43::v44::v45::v46::v47::v48::v49::v50::v51::v52::v53::v54::v55::v56::v57::v58::v59::v60::v61::v62::v63::v64::v65::v66::v67::v68::v69::v70::v71::v72::v73::v74::v75::v76::v77::v78::v79::tl:=by
 obtain⟨v0,l0,rfl,h0⟩:=Bf l h;clear h;obtain⟨v1,l1,rfl,h1⟩:=Bf l0 h0;clear h0;obtain⟨v2,l2,rfl,h2⟩:=Bf l1 h1;clear h1;obtain⟨v3,l3,rfl,h3⟩:=Bf l2 h2;clear h2;obtain⟨v4,l4,rfl,h4⟩:=Bf l3 h3;clear h3;obtain⟨v5,l5,rfl,h5⟩:=Bf l4 h4;clear h4;obtain⟨v6,l6,rfl,h6⟩:=Bf l5 h5;clear h5;obtain⟨v7,l7,rfl,h7⟩:=Bf l6 h6;clear h6;obtain⟨v8,l8,rfl,h8⟩:=Bf l7 h7;clear h7;obtain⟨v9,l9,rfl,h9⟩:=Bf l8 h8;clear h8;obtain⟨v10,l10,rfl,h10⟩:=Bf l9 h9;clear h9;obtain⟨v11,l11,rfl,h11⟩:=Bf l10 h10;clear h10;obtain⟨v12,l12,rfl,h12⟩:=Bf l11 h11;clear h11;obtain⟨v13,l13,rfl,h13⟩:=Bf l12 h12;clear h12;obtain⟨v14,l14,rfl,h14⟩:=Bf l13 h13;clear h13;obtain⟨v15,l15,rfl,h15⟩:=Bf l14 h14;clear h14;obtain⟨v16,l16,rfl,h16⟩:=Bf l15 h15;clear h15;obtain⟨v17,l17,rfl,h17⟩:=Bf l16 h16;clear h16;obtain⟨v18,l18,rfl,h18⟩:=Bf l17 h17;clear h17;obtain⟨v19,l19,rfl,h19⟩:=Bf l18 h18;clear h18;obtain⟨v20,l20,rfl,h20⟩:=Bf l19 h19;clear h19;obtain⟨v21,l21,rfl,h21⟩:=Bf l20 h20;clear h20;obtain⟨v22,l22,rfl,h22⟩:=Bf l21 h21;clear h21;obtain⟨v23,l23,rfl,h23⟩:=Bf l22 h22;clear h22;obtain⟨v24,l24,rfl,h24⟩:=Bf l23 h23;clear h23;obtain⟨v25,l25,rfl,h25⟩:=Bf l24 h24;clear h24;obtain⟨v26,l26,rfl,h26⟩:=Bf l25 h25;clear h25;obtain⟨v27,l27,rfl,h27⟩:=Bf l26 h26;clear h26;obtain⟨v28,l28,rfl,h28⟩:=Bf l27 h27;clear h27;obtain⟨v29,l29,rfl,h29⟩:=Bf l28 h28;clear h28;obtain⟨v30,l30,rfl,h30⟩:=Bf l29 h29;clear h29;obtain⟨v31,l31,rfl,h31⟩:=Bf l30 h30;clear h30;obtain⟨v32,l32,rfl,h32⟩:=Bf l31 h31;clear h31;obtain⟨v33,l33,rfl,h33⟩:=Bf l32 h32;clear h32;obtain⟨v34,l34,rfl,h34⟩:=Bf l33 h33;clear h33;obtain⟨v35,l35,rfl,h35⟩:=Bf l34 h34;clear h34;obtain⟨v36,l36,rfl,h36⟩:=Bf l35 h35;clear h35;obtain⟨v37,l37,rfl,h37⟩:=Bf l36 h36;clear h36;obtain⟨v38,l38,rfl,h38⟩:=Bf l37 h37;clear h37;obtain⟨v39,l39,rfl,h39⟩:=Bf l38 h38;clear h38;obtain⟨v40,l40,rfl,h40⟩:=Bf l39 h39;clear h39;obtain⟨v41,l41,rfl,h41⟩:=Bf l40 h40;clear h40;obtain⟨v42,l42,rfl,h42⟩:=Bf l41 h41;clear h41;obtain⟨v43,l43,rfl,h43⟩:=Bf l42 h42;clear h42;obtain⟨v44,l44,rfl,h44⟩:=Bf l43 h43;clear h43;obtain⟨v45,l45,rfl,h45⟩:=Bf l44 h44;clear h44;obtain⟨v46,l46,rfl,h46⟩:=Bf l45 h45;clear h45;obtain⟨v47,l47,rfl,h47⟩:=Bf l46 h46;clear h46;obtain⟨v48,l48,rfl,h48⟩:=Bf l47 h47;clear h47;obtain⟨v49,l49,rfl,h49⟩:=Bf l48 h48;clear h48;obtain⟨v50,l50,rfl,h50⟩:=Bf l49 h49;clear h49;obtain⟨v51,l51,rfl,h51⟩:=Bf l50 h50;clear h50;obtain⟨v52,l52,rfl,h52⟩:=Bf l51 h51;clear h51;obtain⟨v53,l53,rfl,h53⟩:=Bf l52 h52;clear h52;obtain⟨v54,l54,rfl,h54⟩:=Bf l53 h53;clear h53;obtain⟨v55,l55,rfl,h55⟩:=Bf l54 h54;clear h54;obtain⟨v56,l56,rfl,h56⟩:=Bf l55 h55;clear h55;obtain⟨v57,l57,rfl,h57⟩:=Bf l56 h56;clear h56;obtain⟨v58,l58,rfl,h58⟩:=Bf l57 h57;clear h57;obtain⟨v59,l59,rfl,h59⟩:=Bf l58 h58;clear h58;obtain⟨v60,l60,rfl,h60⟩:=Bf l59 h59;clear h59;obtain⟨v61,l61,rfl,h61⟩:=Bf l60 h60;clear h60;obtain⟨v62,l62,rfl,h62⟩:=Bf l61 h61;clear h61;obtain⟨v63,l63,rfl,h63⟩:=Bf l62 h62;clear h62;obtain⟨v64,l64,rfl,h64⟩:=Bf l63 h63;clear h63;obtain⟨v65,l65,rfl,h65⟩:=Bf l64 h64;clear h64;obtain⟨v66,l66,rfl,h66⟩:=Bf l65 h65;clear h65;obtain⟨v67,l67,rfl,h67⟩:=Bf l66 h66;clear h66;obtain⟨v68,l68,rfl,h68⟩:=Bf l67 h67;clear h67;obtain⟨v69,l69,rfl,h69⟩:=Bf l68 h68;clear h68;obtain⟨v70,l70,rfl,h70⟩:=Bf l69 h69;clear h69;obtain⟨v71,l71,rfl,h71⟩:=Bf l70 h70;clear h70;obtain⟨v72,l72,rfl,h72⟩:=Bf l71 h71;clear h71;obtain⟨v73,l73,rfl,h73⟩:=Bf l72 h72;clear h72;obtain⟨v74,l74,rfl,h74⟩:=Bf l73 h73;clear h73;obtain⟨v75,l75,rfl,h75⟩:=Bf l74 h74;clear h74;obtain⟨v76,l76,rfl,h76⟩:=Bf l75 h75;clear h75;obtain⟨v77,l77,rfl,h77⟩:=Bf l76 h76;clear h76;obtain⟨v78,l78,rfl,h78⟩:=Bf l77 h77;clear h77;obtain⟨v79,l79,rfl,h79⟩:=Bf l78 h78;clear h78;exact⟨v0,v1,v2,v3,v4,v5,v6,v7,v8,v9,v10,v11,v12,v13,v14,v15,v16,v17,v18,v19,v20,v21,v22,v23,v24,v25,v26,v27,v28,v29,v30,v31,v32,v33,v34,v35,v36,v37,v38,v39,v40,v41,v42,v43,v44,v45,v46,v47,v48,v49,v50,v51,v52,v53,v54,v55,v56,v57,v58,v59,v60,v61,v62,v63,v64,v65,v66,v67,v68,v69,v70,v71,v72,v73,v74,v75,v76,v77,v78,v79,l79,rfl⟩
def bq(k:CallKind):Frame:={base 136 with kind:=k}
theorem Rh{k:CallKind}(hk:k= .normal\/k= .deferred): (bq k).kind≠ .early:=by rcases hk with rfl|rfl<;>intro h<;>cases h
end
section
open Go.Conc Go.ConcX Go.ConcX.Gen Go.Conc.Lib
section
def vS(s:Sem Value):Sem Next:=s>>=fun z=>pure (Next.value z)
def uS(s:Sem Unit):Sem Next:=s>>=fun _=>pure Next.skip
def Hn(F:Nat->Prop)(b:Nat):Nat->Prop:=fun x=>F x\/x=b
theorem ZP{w:World}{c:Nat}{cs:Array Value}{ty:TypeId}{v:Value}(h:w.heap[c]? =some (.cells cs ty)): (w.setCell ⟨c,0,none⟩ v).heap=w.heap.setIfInBounds c (.cells (cs.setIfInBounds 0 v) ty):=by
 have hlt:c<w.heap.size:=(AR.1 h).1;apply Array.ext_getElem?;intro x;by_cases hx:x=c
 ·subst hx;rw[heap_setCell_same w x 0 cs ty v h,Au hlt]
 ·rw[heap_setCell_other w ⟨c,0,none⟩ x v hx,AG (Ne.symm hx)]
theorem Vs: (Tryz.prog.info? 246).isSome=true:=kr
theorem jP(w:World): (Instr.makeChan 230 (.int .i64 0)).run Tryz.prog w= .ok (.chan (some w.heap.size)) (w.alloc (.chan 0 #[] false 0 0 false)):=by
 obtain⟨i,hi⟩:=Option.isSome_iff_exists.1 Vs;exact run_makeChan Tryz.underlying230 hi .i64 0 om (by simp)
theorem me(w:World)(es:Array Event): (Instr.makeChan 230 (.int .i64 0)).events Tryz.prog w es=es:=by
 obtain⟨i,hi⟩:=Option.isSome_iff_exists.1 Vs;exact events_makeChan Tryz.underlying230 hi .i64 0 om (by simp) es
structure Sol where
 bg:Nat
 b6:Nat
 bb:Nat
 b7:Nat
 bW:Nat
 p9:Addr
structure Sol.Mem(s:Sol)(w:World)(n:Int):Prop where
 o1:s.bg<s.b6
 o2:s.b6<s.bb
 o3:s.bb<s.b7
 o4:s.b7<s.bW
 o5:s.bW<w.heap.size
 mg:w.heap[s.bg]? =some (.chan 0 #[] false 0 0 false)
 m6:w.heap[s.b6]? =some (.cells #[.chan (some s.bg)] 230)
 mb:w.heap[s.bb]? =some (.chan 0 #[] false 0 0 false)
 m7:w.heap[s.b7]? =some (.cells #[.chan (some s.bb)] 230)
 mW:w.heap[s.bW]? =some (.cells #[.int .u64 n,.int .u32 0] 239)
structure Slots(s:Sol)(A:Option Addr)(c:Nat)(a:Value)(U:List Value):Prop where
 len:80<=U.length
 e1:U[1]? =some (.slice A 1 c)
 e6:U[6]? =some (.pointer (some ⟨s.b6,0,none⟩))
 e7:U[7]? =some (.pointer (some ⟨s.b7,0,none⟩))
 e8:U[8]? =some (.pointer (some ⟨s.bW,0,none⟩))
 e9:U[9]? =some (.pointer (some s.p9))
 e11:U[11]? =some a
 e22:U[22]? =some (.int .i64 1)
 e23:U[23]? =some (.int .i64 0)
noncomputable def MQ:List Item:=[.code (.region 9 q9 false),.inBlock 1,.code (.region 10 fG false),.inLoop X1,.inBlock 0,.code K4]
def nO(s:Sol)(a18:Value):Value:= .func (.func 167) #[] #[.pointer (some ⟨s.bW,0,none⟩),.pointer (some s.p9),a18,.pointer (some ⟨s.b6,0,none⟩),.pointer (some ⟨s.b7,0,none⟩)]
noncomputable def IA:List Item:=[.inBlock 1,.code (.region 10 fG false),.inLoop X1,.inBlock 0,.code K4]
def wO(k:CallKind)(s:Sol)(a18:Value)(U:List Value)(cs':List Frame)(w0:World)(a:Goroutine)(w:World):Prop:=
 ∃d,w=(w0.setCell (stA s.bW) (.int .u64 KK)).at d/\a=G ((bq k).at ⟨((U.set 34 (.tuple #[])).set 35 (nO s a18)).toArray,[]⟩ (.inRegion q9 [1]::IA)) cs'
variable{U:List Value}
theorem Slots.all{s:Sol}{A:Option Addr}{c:Nat}{a18:Value}(h:Slots s A c a18 U):∃u0 u2 u3 u4 u5 u10 u12 u13 u14 u15 u16 u17 u18 u19 u20 u21 u24 u25 u26 u27 u28 u29 u30 u31 u32 u33 u34 u35 u36 u37 u38 u39 u40 u41 u42 u43 u44 u45 u46 u47 u48 u49 u50 u51 u52 u53 u54 u55 u56 u57 u58 u59 u60 u61 u62 u63 u64 u65 u66 u67 u68 u69 u70 u71 u72 u73 u74 u75 u76 u77 u78 u79 ul,U=u0:: .slice A 1 c::u2::u3::u4::u5:: .pointer (some ⟨s.b6,0,none⟩):: .pointer (some ⟨s.b7,0,none⟩):: .pointer (some ⟨s.bW,0,none⟩):: .pointer (some s.p9)::u10::a18::u12::u13::u14::u15::u16::u17::u18::u19::u20::u21:: .int .i64 1:: .int .i64 0::u24::u25::u26::u27::u28::u29::u30::u31::u32::u33::u34::u35::u36::u37::u38::u39::u40::u41::u42::u43::u44::u45::u46::u47::u48::u49::u50::u51::u52::u53::u54::u55::u56::u57::u58::u59::u60::u61::u62::u63::u64::u65::u66::u67::u68::u69::u70::u71::u72::u73::u74::u75::u76::u77::u78::u79::ul:=by
 obtain⟨u0,u1,u2,u3,u4,u5,u6,u7,u8,u9,u10,u11,u12,u13,u14,u15,u16,u17,u18,u19,u20,u21,u22,u23,u24,u25,u26,u27,u28,u29,u30,u31,u32,u33,u34,u35,u36,u37,u38,u39,u40,u41,u42,u43,u44,u45,u46,u47,u48,u49,u50,u51,u52,u53,u54,u55,u56,u57,u58,u59,u60,u61,u62,u63,u64,u65,u66,u67,u68,u69,u70,u71,u72,u73,u74,u75,u76,u77,u78,u79,ul,rfl⟩:=Pe U h.len;have e1:=h.e1;have e6:=h.e6;have e7:=h.e7;have e8:=h.e8;have e9:=h.e9;have e11:=h.e11;have e22:=h.e22;have e23:=h.e23;simp only[Am,AX,AO]at e1 e6 e7 e8 e9 e11 e22 e23;subst e1 e6 e7 e8 e9 e11 e22 e23;exact⟨u0,u2,u3,u4,u5,u10,u12,u13,u14,u15,u16,u17,u18,u19,u20,u21,u24,u25,u26,u27,u28,u29,u30,u31,u32,u33,u34,u35,u36,u37,u38,u39,u40,u41,u42,u43,u44,u45,u46,u47,u48,u49,u50,u51,u52,u53,u54,u55,u56,u57,u58,u59,u60,u61,u62,u63,u64,u65,u66,u67,u68,u69,u70,u71,u72,u73,u74,u75,u76,u77,u78,u79,ul,rfl⟩
set_option maxRecDepth 100000 in
set_option maxHeartbeats 4000000 in
theorem aQ{k:CallKind}(hke: (bq k).kind≠ .early){s:Sol}[Shy s.bW s.b6]{A:Option Addr}{c:Nat}{a18:Value}(hU:Slots s A c a18 U)(cs':List Frame)(w:World)(hM:s.Mem w 0):
  ∃m,Goes Tryz.prog true AtRel (DE (EvS s.bW s.b6)) (AtMkS Tryz.prog .disable fun a w1=>∃n,Goes Tryz.prog true AtRel (DE (EvS s.bW s.b6)) (AtMkS Tryz.prog .enable fun a w2=>∃n,Goes Tryz.prog true AtRel (DE (EvS s.bW s.b6)) (wO k s a18 U cs' w) n a w2) n a w1) m
   (G ((bq k).at ⟨U.toArray,[]⟩ (.inRegion q8 [0]::MQ)) cs') w:=by
 obtain⟨u0,u2,u3,u4,u5,u10,u12,u13,u14,u15,u16,u17,u18,u19,u20,u21,u24,u25,u26,u27,u28,u29,u30,u31,u32,u33,u34,u35,u36,u37,u38,u39,u40,u41,u42,u43,u44,u45,u46,u47,u48,u49,u50,u51,u52,u53,u54,u55,u56,u57,u58,u59,u60,u61,u62,u63,u64,u65,u66,u67,u68,u69,u70,u71,u72,u73,u74,u75,u76,u77,u78,u79,ul,rfl⟩:=hU.all;have hq:q8=q8:=rfl;conv at hq=>rhs;simp only[q8,K0,K1,K2,K3,K4,Jv,Jr,Jq,II,Kd,X1,Y1,X2,Y2,C2,X3,Y3,C3,Ef,Tryz.f136,AQ,rO,cA,cB,cC,cT,cE]
 refine⟨12+1,?_⟩;rw[hq];clear hq;l_in;refine goes_call rfl rfl hke rfl Lm.f_add (nm_add Do) rfl ⟨by u_nil,?_⟩;walk_nrmf addFn;have hA:=fun b₀ a₀ ops₀ i₀ rest₀ k₀ cs (StopG:Goroutine->World->Prop) mT=> @addPos Do s.bW s.b6 _ b₀ a₀ ops₀ i₀ rest₀ k₀ cs StopG mT _ Lm w hM.mW
 simp only[body_add,addFn,AQ]at hA;refine hA _ _ _ _ _ _ _ _ 4 ?_;simp only[MQ];l_c stepG_region_end;have hq:q9=q9:=rfl;conv at hq=>rhs;simp only[q9,K0,K1,K2,K3,K4,Jv,Jr,Jq,II,Kd,X1,Y1,X2,Y2,C2,X3,Y3,C3,Ef,Tryz.f136,AQ,rO,cA,cB,cC,cT,cE]
 rw[hq];clear hq;l_reg;l_op;refine Goes.stop (fun w₁ h₁=> ?_);obtain⟨d,rfl⟩:=h₁;exact⟨_,rfl,rfl⟩
end
end
section
open Go.Conc
variable[Md]
section
variable{S:Spn}(hK:Closed S.P S.main S.K)(hke: (S.kind== .early)=false){A:AF}{H:Hp}{k:List Item}{ops:Array Oper}{i:Nat}{rest:List Nat}{o:Oper}
include hK hke
theorem KC.mk(ho:ops[i]? =some o)(hw:Region.wanted o (yiel ops A.t)=true)(hd:∀c,o.op≠ .defer c)(mv:Nat->Value)(ob:Obj)(va:Value)(hrun:∀(ev:Operand->Value),(∀v,ev (.const v)=v)->∀(w:World),(execOp ev o).run S.P w= .ok (.value (mv w.heap.size)) (w.alloc ob)/\(execOp ev o).events S.P w #[]= #[])
  {a:Nat}(ha:H a=none)(hv:∀(φ:Ph) (b:Nat) (D:Nat->Prop),D a->φ.f a=b->φ.sh a=0->vrel φ D va (mv b))(l:List Nat)(hl:∀c∈l,∃x,H c=some x/\x.mine=true)(hk:KC S (.inRegion ops rest::k) (A.put o.dst va) (upd H a (some (.ob (fun _=>ob) l)))):KC S (.inRegion ops (i::rest)::k) A H:=by
 intro O φ w T ds hO hg hr har;refine hK.step O _ S.cs w fun w₁ hk1=> ?_
 have hr1:=hr.keep hk1;obtain⟨h1,h2⟩:=hrun (Frame.eval (S.fr T ds (.inRegion ops (i::rest)::k))) (fun _=>rfl) w₁;have hs: (w₁.alloc ob).heap.size=w₁.heap.size+1:=by unfold World.alloc;simp
 have hnew:O=O:=rfl;have hgr:∀b,grow O w₁ (w₁.alloc ob) b↔O b\/b=w₁.heap.size:=fun b=>by
  unfold grow;rw[hs];exact or_congr Iff.rfl ⟨fun h=>om,fun h=>om⟩
 have hne:∀c∈l,c≠a:=fun c hc e=>by obtain⟨x,hx,_⟩:=hl c hc;rw[e,ha]at hx;cases hx
 obtain⟨h5,h6⟩:=Rel.new (w':=w₁.alloc ob) (O':=grow O w₁ (w₁.alloc ob)) hr1 ha (x:= .ob (fun _=>ob) l) rfl (o:=ob) (s:=0) (z:=0) rfl ((hgr _).2 (.inr rfl)) (fun b hb=> .inl hb) ⟨BU _ _ _,rfl,fun _ _ _=>rfl,fun c hc=>by
  obtain⟨x,hx,hm⟩:=hl c hc;refine⟨Bx (by unfold dom;rw[hx];simp),?_⟩;obtain⟨_,_,q,hq,_⟩:=hr1.own c x hx hm;have:=(AR.1 hq).1;show(φ.put a w₁.heap.size 0 0).f c<(φ.put a w₁.heap.size 0 0).f a
  rw[show(φ.put a w₁.heap.size 0 0).f c=φ.f c from upd_ne (hne c hc),show(φ.put a w₁.heap.size 0 0).f a=w₁.heap.size from BU _ _ _];exact this⟩
 refine⟨(S.fr T ds (.inRegion ops (i::rest)::k)).finish (mv w₁.heap.size),S.cs,w₁.alloc ob,#[],?_,⟨fun b hb _=>heap_alloc_old _ _ hb,om,rfl,rfl,rfl,fun e he=> ?_⟩,?_⟩
 ·rw[Dq rfl rfl ho (by rw[FP har.1];exact hw) hd,Df hke (.inl rfl) h1,h2,seen_none]
 ·simp at he
 ·rw[Ep rfl ho];exact hk _ _ _ _ ds (fun b hb=> .inl (hO b hb)) (hg.trans h6) h5 (FD (DI h6 har) (hv _ _ _ C9 (BU _ _ _) (BU _ _ _)) o.dst)
theorem iR(ho:ops[i]? =some o)(hx:∀x∈o.op.operands,okX x=true)(hw:Region.wanted o (yiel ops A.t)=true){x y:Operand}(hop:o.op= .store 230 x y){a c:Nat}{l:List Nat}(ha:H a=some (.ob (fun _=> .cells #[.chan none] 230) l))(hax:A.ev x= .pointer (some ⟨a,0,none⟩))(hay:A.ev y= .chan (some c))
  (hP:S.P=Tryz.prog)(hk:KC S (.inRegion ops rest::k) (A.put o.dst undef) (upd H a (some (.ob (fun f=> .cells #[.chan (some (f c))] 230) l)))):KC S (.inRegion ops (i::rest)::k) A H:=by
 intro O φ w T ds hO hg hr har;refine hK.step O _ S.cs w fun w₁ hk1=> ?_
 have hr1:=hr.keep hk1;have e1:=DQ har (hx x (by rw[hop];simp[Op.operands])) (S.fr T ds (.inRegion ops (i::rest)::k)) rfl;have e2:=DQ har (hx y (by rw[hop];simp[Op.operands])) (S.fr T ds (.inRegion ops (i::rest)::k)) rfl;rw[hax]at e1;rw[hay]at e2;simp only[vrel]at e1 e2;obtain⟨_,_,e1⟩:=e1;obtain⟨hdc,e2⟩:=e2;obtain⟨ho2,hX,ob,hob,hsh,rfl,hsup,hord⟩:=hr1.own a _ ha rfl;have e1: (S.fr T ds (.inRegion ops (i::rest)::k)).eval x= .pointer (some ⟨φ.f a,0,none⟩):=by rw[e1];simp[Ph.ad,hsh]
 have h1:w₁.cell? ⟨φ.f a,0,none⟩=some (.chan none):=by simp[World.cell?,hob]
 have h2:w₁.frozen? ⟨φ.f a,0,none⟩=false:=by simp[World.frozen?,hob]
 have hrun: (execOp (Frame.eval (S.fr T ds (.inRegion ops (i::rest)::k))) o).run S.P w₁= .ok .skip (w₁.setCell ⟨φ.f a,0,none⟩ (.chan (some (φ.f c)))):=by
  rw[hP];unfold execOp;rw[hop];dsimp only;rw[e1,e2];go_simp
 have hev:∀e∈(execOp (Frame.eval (S.fr T ds (.inRegion ops (i::rest)::k))) o).events S.P w₁ #[],e=⟨.cell ⟨φ.f a,0,none⟩,true,false⟩:=by
  rw[hP];intro e he;unfold execOp at he;rw[hop]at he;dsimp only at he;rw[e1,e2]at he;have h9:e=⟨.cell ⟨φ.f a,0,none⟩,true,Mode.plain==Mode.atomic⟩:=by simpa[go_sem,storedEv,h1,h2]using he
  rw[h9];rfl
 have hput:=ZP (v:= .chan (some (φ.f c))) hob;have hlt:φ.f a<w₁.heap.size:=(AR.1 hob).1;have hheap:∀b:Nat,(w₁.setCell ⟨φ.f a,0,none⟩ (.chan (some (φ.f c)))).heap[b]? =if b=φ.f a then some (.cells #[.chan (some (φ.f c))] 230)else w₁.heap[b]? :=fun b=>by
  rw[hput];by_cases e:b=φ.f a
  ·subst e;rw[if_pos rfl,Au hlt];rfl
  ·rw[if_neg e,AG (Ne.symm e)]
 obtain⟨h5,h6⟩:=Rel.set (w':=w₁.setCell ⟨φ.f a,0,none⟩ (.chan (some (φ.f c)))) hr1 ha rfl (y:= .ob (fun f=> .cells #[.chan (some (f c))] 230) l) rfl hheap ⟨hsh,rfl,fun f f' e=>by show Obj.cells #[Value.chan (some (f c))] 230=Obj.cells #[Value.chan (some (f' c))] 230;rw[e c (Bx hdc)],fun c' hc'=>⟨Bx (hord c' hc').1,(hord c' hc').2⟩⟩;have hsz: (w₁.setCell ⟨φ.f a,0,none⟩ (.chan (some (φ.f c)))).heap.size=w₁.heap.size:=by rw[hput];simp
 have hgr:grow O w₁ (w₁.setCell ⟨φ.f a,0,none⟩ (.chan (some (φ.f c))))=O:=by
  funext b;unfold grow;rw[hsz];exact propext ⟨fun h=>h.elim id (fun h=>om),.inl⟩
 refine⟨(S.fr T ds (.inRegion ops (i::rest)::k)).finish undef,S.cs,w₁.setCell ⟨φ.f a,0,none⟩ (.chan (some (φ.f c))),seen S.P S.f ((execOp (Frame.eval (S.fr T ds (.inRegion ops (i::rest)::k))) o).events S.P w₁ #[]),?_,⟨fun b hb hn=> ?_,om,rfl,rfl,rfl,fun e he=> ?_⟩,?_⟩
 ·rw[Dq rfl rfl ho (by rw[FP har.1];exact hw) (fun c e=>by rw[hop]at e;cases e),Df hke (.inr ⟨rfl,rfl⟩) hrun]
 ·rw[hheap,if_neg (fun e:b=φ.f a=>hn (by rw[e];exact ho2))]
 ·rw[hev e (mem_seen he),hgr];exact⟨.inl ho2,rfl⟩
 ·rw[hgr,Ep rfl ho];exact hk O φ _ _ ds hO (hg.trans h6) h5 (FD (DI h6 har) ((Bi _ _ Cu).2 rfl) o.dst)
end
end
section
open Go.Conc Go.Proofs
variable[Md]
noncomputable def Ge:Env:=QR fun _=>none
theorem Ey:EnvOk Tryz.prog Ge:=F5 fun g o h=>by cases h
end
section
open Go.Conc
variable[Md]
noncomputable def MJ(m:Mm):Bool:=(j0 m.args m.args&&m.M.all (G6 m.mem)&&Nat.ble m.n m.n)&&(m.M.all fun p=>Nat.blt p.1 m.n)&&(m.M.all fun p=>RJ (MZ m.mem) p.2)&&RJ (MZ m.mem) m.args
theorem MI{P:Program}{g:FuncId}{m:Mm}(hs:SG P g (Ck m))(hst:MJ m=true){G:Hp}(hM:∀p∈m.M,G p.1=some (.own p.2))(hδ:∀p∈m.δ,G p.1=none):Ee P g m.args (fun u H'=>u=m.v/\H'=app G (dlf (DL m.δ))) G:=by
 unfold MJ at hst;rw[AA,AA,AA]at hst;obtain⟨⟨⟨e1,e5⟩,e7⟩,e10⟩:=hst;rw[AS]at e5 e7;have hfin:∀a,m.n<=a->m.mem.get a=none:=fun a ha=>by
  cases hx:m.mem.get a with
  |none=>rfl
  |some x=>
   obtain⟨c,_,hc⟩:=Bv hx;have:=Dd (e5 _ hc);simp only at this;omega
 have hok0:EHok P ⟨m.mem,m.n,[]⟩:=⟨hfin,fun a l hl=>by obtain⟨c,e,_⟩:=Bv hl;cases e⟩;have he:Ck m m.args ⟨m.mem,m.n,[]⟩=some (m.v,(⟨m.mem,m.n,[]⟩:EH).app (DL m.δ)):=by
  unfold Ck;rw[e1]
 obtain⟨w0,_,_⟩:=hs _ _ _ _ he hok0;have hsc:Sc m.mem.get:=fun a x hx=>by
  obtain⟨c,rfl,hc⟩:=Bv hx;rw[<-Ds];exact Ip (x:= .own c) (e7 _ hc)
 have w1:Ee P g m.args (fun u H'=>u=m.v/\H'=app m.mem.get (dlf (DL m.δ))) m.mem.get:=by
  rw[Ev,E3]at w0;exact w0
 have hsub:∀a x,m.mem.get a=some x->G a=some x:=fun a x hx=>by
  obtain⟨c,rfl,hc⟩:=Bv hx;exact hM _ hc
 refine Ee.frame w1 (G:=G) ⟨fun a x hx _=>hsub a x hx,fun a ha=>by
  unfold dom at*;cases hx:m.mem.get a with
  |none=>exact absurd hx ha
  |some x=>rw[hsub a x hx];simp⟩ hsc ⟨m.n,hfin⟩ (fun v hv=>by rw[<-Ds];exact MY (Ma _ e10 v hv)) (fun a ha=> ?_) (fun a c hc=> ?_)
 ·right;cases hx:dlf (DL m.δ) a with
  |none=>exact absurd hx ha
  |some x=>
   obtain⟨c,_,hc⟩:=CX (CD hx);exact hδ _ hc
 ·obtain⟨c',e,_⟩:=CX (CD hc);cases e
def c192:List Value:=[.int .i64 (.ofNat 2),.int .i64 (.negSucc 1)]
def c206:List Value:=[.int .i64 (.ofNat 0),.int .i64 (.ofNat 1),.int .i64 (.ofNat 0),.int .i64 (.ofNat 1),.int .i64 (.ofNat 2),.int .i64 (.ofNat 0),.int .i64 (.ofNat 1),.int .i64 (.ofNat 1),.int .i64 (.ofNat 3),.int .i64 (.ofNat 3)]
def bR:List Value:=[.int .i64 (.ofNat 0),.int .i64 (.ofNat 1)]
def vI:Value:= .agg #[.slice (some ⟨192,0,none⟩) 2 18446744073709551617,.slice (some ⟨206,0,none⟩) 2 18446744073709551621]
def vN:Value:= .slice (some ⟨290,0,none⟩) 2 18446744073709551617
def vP:Value:= .slice (some ⟨292,0,none⟩) 1 18446744073709551617
def vU:Value:= .agg #[.slice (some ⟨323,0,none⟩) 2 18446744073709551617,.slice (some ⟨333,0,none⟩) 2 18446744073709551621]
def m136:Mm:=⟨[vI,vP],[(192,c192),(206,c206),(290,bR),(292,[vN])],293,.tuple #[.slice (some ⟨552,0,none⟩) 1 1,.int .u16 (.ofNat 0)],[(410,[.int .i64 (.ofNat 1),.int .i64 (.ofNat 1)]),(547,[.int .i64 (.ofNat 2),.int .i64 (.ofNat 0)]),(552,[.int .i64 (.ofNat 1),.slice (some ⟨410,0,none⟩) 2 2,.slice (some ⟨547,0,none⟩) 2 2,.slice none 0 0,.slice none 0 0])]⟩
def E8:Mm:=⟨[vI,vN],[(192,c192),(206,c206),(290,bR)],300,.tuple #[vU,.slice (some ⟨310,0,none⟩) 2 18446744073709551617],[(310,bR),(323,c192),(333,c206)]⟩
set_option maxRecDepth 100000 in
theorem XT:ET E8 ((ev Ge 400).F 165 E8.args ⟨E8.mem,E8.n,[]⟩)=true:=kr
theorem Zr:SG Tryz.prog 165 (Ck E8):=Dz Ey 400 XT
theorem Zq:MJ E8=true:=kr
end
section
open Go.Conc Go.Proofs
variable[Md]
noncomputable def tz:TypeId->Option TI:=QU Tryz.prog
theorem Cv:TOk Tryz.prog tz:=UZ _
theorem Ce:FOk Tryz.prog tz:=QS _
noncomputable def st(t:Nat->Value)(d:Nat)(v:Value):Nat->Value:=upd t d v
noncomputable def eT(t:Nat->Value):Operand->Value
 | .tmp i=>t i
 | .const v=>v
 | .func f=> .func (.func f) #[] #[]
 | .global _=>undef
theorem EI(n:Nat)(t:Nat->Value)(ds:List Deferred):AF.ev ⟨n,t,ds⟩=eT t:=by
 funext x;cases x<;>rfl
noncomputable def Fr(H:Hp)(nf:Nat):Prop:=∀a,nf<=a->H a=none
theorem Fr.lt{H:Hp}{nf a:Nat}{x:AB}(h:Fr H nf)(k:H a=some x):a<nf:=Nat.lt_of_not_le fun e=>by rw[h a e]at k;cases k
theorem Fr.at{H:Hp}{nf:Nat}(h:Fr H nf):H nf=none:=h nf (AH _)
theorem Fr.up{H:Hp}{nf m:Nat}(h:Fr H nf)(k:nf<=m):Fr H m:=fun a ha=>h a om
theorem Fr.new{H:Hp}{nf:Nat}(h:Fr H nf)(x:AB):Fr (upd H nf (some x)) (nf+1):=fun a ha=>by
 rw[upd_ne om];exact h a om
theorem Fr.old{H:Hp}{nf b:Nat}{y:AB}(h:Fr H nf)(hb:H b=some y)(x:AB):Fr (upd H b (some x)) nf:=fun a ha=>by
 have:=h.lt hb;rw[upd_ne om];exact h a ha
noncomputable def IL(op:Op):Bool:=op.operands.toList.all okX
noncomputable def WL(top:Bool)(ops:Array Oper)(l:List Oper)(Q:AF->Hp->Prop)(A:AF)(H:Hp):Prop:=
 ∀is:List Nat,is.map (fun i=>ops[i]?)=l.map some->Dj Tryz.prog top ops is Q A H
section
variable{top:Bool}{ops:Array Oper}{l:List Oper}{Q:AF->Hp->Prop}{n nf:Nat}{t:Nat->Value}{ds:List Deferred}{H:Hp}{o:Oper}
theorem BP (h:Q ⟨n,t,ds⟩ H):WL top ops [] Q ⟨n,t,ds⟩ H:=by
 intro is e;have:is=[]:=by simpa using e
 subst this;exact Dj.nil h
theorem Fi(h:IL o.op=true):∀x∈o.op.operands,okX x=true:=fun x hx=>AS.1 h x (by simpa using hx)
theorem CL(hx:IL o.op=true)(hw:Region.wanted o (yiel ops t)=true)(h:WOp Tryz.prog o (fun v H'=>WL top ops l Q (AF.put ⟨n,t,ds⟩ o.dst v) H') (eT t) H):WL top ops (o::l) Q ⟨n,t,ds⟩ H:=by
 intro is e;cases is with
 |nil=>simp at e
 |cons i is=>
  simp only[List.map_cons,List.cons.injEq]at e;refine Dj.op e.1 (Fi hx) hw ?_;rw[EI];exact h.mono fun v H' k=>k is e.2
theorem Ld(hw:Region.wanted o (yiel ops t)=false)(h:WL top ops l Q (AF.put ⟨n,t,ds⟩ o.dst undef) H):WL top ops (o::l) Q ⟨n,t,ds⟩ H:=by
 intro is e;cases is with
 |nil=>simp at e
 |cons i is=>
  simp only[List.map_cons,List.cons.injEq]at e;exact Dj.skip e.1 hw (h is e.2)
theorem CT{d:Nat}(hn:Nat.blt d n=true)(v:Value):AF.put ⟨n,t,ds⟩ (some d) v=⟨n,st t d v,ds⟩:=by
 unfold AF.put st;rw[Nat.blt_eq]at hn;simp only[if_pos hn]
theorem BY(h:o.guard=none)(y:Nat->Option Bool):Region.wanted o y=true:=by unfold Region.wanted;rw[h]
noncomputable def ck(n:Nat)(o:Oper):Option Nat:=match o.dst,o.guard with
 |some d,none=>bif Nat.blt d n&&IL o.op then some d else none
 |_,_=>none
noncomputable def uT(o:Oper):Bool:=match o.dst,o.guard with
 |none,none=>IL o.op
 |_,_=>false
theorem M0{n d:Nat}{o:Oper}(h:ck n o=some d):o.dst=some d/\Nat.blt d n=true/\IL o.op=true/\o.guard=none:=by
 unfold ck at h;split at h
 ·rename_i d' h1 h2;cases hb: (Nat.blt d' n&&IL o.op)with
  |false=>rw[hb]at h;cases h
  |true=>
   rw[hb]at h;cases h
   rw[AA]at hb;exact⟨h1,hb.1,hb.2,h2⟩
 ·cases h
theorem oB{o:Oper}(h:uT o=true):o.dst=none/\IL o.op=true/\o.guard=none:=by
 unfold uT at h;split at h
 ·rename_i h1 h2;exact⟨h1,h,h2⟩
 ·cases h
theorem oq{d:Nat}{v:Value}(hf:Fr H nf)(hc:ck n o=some d)(h:hop tz H nf (eT t) o.op=some (v,[]))(k:WL top ops l Q ⟨n,st t d v,ds⟩ H):WL top ops (o::l) Q ⟨n,t,ds⟩ H:=by
 obtain⟨hd,hn,hx,hg⟩:=M0 hc;exact CL hx (BY hg _) (WOp.hop Cv Ce hf.at h (by rw[hd,CT hn];exact k))
theorem oa{d:Nat}{v:Value}{x:AB}(hf:Fr H nf)(hc:ck n o=some d)(h:hop tz H nf (eT t) o.op=some (v,[(nf,x)]))(k:Fr (upd H nf (some x)) (nf+1)->WL top ops l Q ⟨n,st t d v,ds⟩ (upd H nf (some x))):WL top ops (o::l) Q ⟨n,t,ds⟩ H:=by
 obtain⟨hd,hn,hx,hg⟩:=M0 hc;exact CL hx (BY hg _) (WOp.hop Cv Ce hf.at h (by rw[hd,CT hn];exact k (hf.new x)))
theorem os{v:Value}{b:Nat}{x y:AB}(hf:Fr H nf)(hc:uT o=true)(h:hop tz H nf (eT t) o.op=some (v,[(b,x)]))(hb:H b=some y)(k:Fr (upd H b (some x)) nf->WL top ops l Q ⟨n,t,ds⟩ (upd H b (some x))):WL top ops (o::l) Q ⟨n,t,ds⟩ H:=by
 obtain⟨hd,hx,hg⟩:=oB hc;exact CL hx (BY hg _) (WOp.hop Cv Ce hf.at h (by rw[hd];exact k (hf.old hb x)))
end
section
variable{top:Bool}{Q:QT}{n nf:Nat}{t:Nat->Value}{ds:List Deferred}{H:Hp}
theorem XK (ops:Array Oper): (List.range ops.size).map (fun i=>ops[i]?)=ops.toList.map some:=by
 apply List.ext_getElem?;intro i;by_cases hi:i<ops.size
 ·simp[hi]
 ·simp[hi]
theorem BQ{id:Nat}{l:List Oper}(h:WL top l.toArray l (fun A H=>Q .norm A H) ⟨n,t,ds⟩ H):WC Tryz.prog top (.region id l.toArray false) Q ⟨n,t,ds⟩ H:=
 OY (h _ (XK _))
end
end
section
open Go.Conc Go.Proofs
noncomputable def rJ(H:Hp)(p:Addr):Option Value:=match ld H p 1 with
 |some [v]=>some v
 |_=>none
noncomputable def R5(H:Hp)(p:Addr)(s:Nat)(y:Value):Option (List (Nat×AB)):=if y.cells.size=s/\y.cells.toList.all (·.oneCell')=true then(P5 H p y.cells.toList).map fun b=>[(p.block,b)]else none
noncomputable def N4(a:Nat)(l c:Int)(s b:Nat)(z:Array Value):Option (Value×List (Nat×AB)):=if 0<=l/\l<=c/\c<9223372036854775808/\c*b<=281474976710656 then some (.slice (some ⟨a,0,none⟩) l.toNat c.toNat,[(a,.own (GY z (c.toNat*s)))])else none
noncomputable def sj(k:IntKind):Value->Option Value
 | .int _ n=>some (.int k (k.wrap n))
 |_=>none
abbrev Ho(i j k:Nat):Prop:=∀(p:Addr),DW tz i j (.pointer (some p))=some (.pointer (some (p.add k)))
theorem wg:Ho 25 0 0/\Ho 25 1 1/\Ho 29 0 0/\Ho 29 1 1/\Ho 29 2 2/\Ho 29 3 3/\Ho 29 4 4/\Ho 48 0 0/\Ho 48 1 1/\Ho 48 2 2/\Ho 48 3 3/\Ho 48 4 4/\Ho 52 0 0/\Ho 52 1 1/\Ho 73 0 0/\Ho 73 1 2/\Ho 73 2 3/\Ho 73 3 4/\Ho 99 0 0/\Ho 99 1 1/\Ho 106 0 0/\Ho 106 1 1/\Ho 119 0 0/\Ho 119 1 2/\Ho 126 0 0/\Ho 126 1 1/\Ho 159 0 0/\Ho 159 1 1/\Ho 159 2 2/\Ho 159 3 3/\Ho 174 0 0/\Ho 174 1 1/\Ho 185 0 0/\Ho 185 1 5/\Ho 185 2 6:=by and_intros<;>(intro p;kernel_rfl)
abbrev Rz(i:Nat):Prop:=∀(H:Hp) (p:Addr),EC tz H i (.pointer (some p))=rJ H p
theorem rle:Rz 2/\Rz 3/\Rz 4/\Rz 5/\Rz 22/\Rz 23/\Rz 26/\Rz 27/\Rz 33/\Rz 50/\Rz 65/\Rz 71/\Rz 100/\Rz 103/\Rz 114/\Rz 172/\Rz 37:=by and_intros<;>(intro H p;kernel_rfl)
abbrev dE(i j:Nat):Prop:=∀(H:Hp) (p:Addr),EC tz H i (.pointer (some p))=(ld H p j).map fun l=> .agg ⟨l⟩
theorem wW:dE 25 2/\dE 29 5/\dE 48 5/\dE 52 2/\dE 99 2/\dE 106 2/\dE 126 2/\dE 174 2/\dE 185 7/\dE 119 3:=by and_intros<;>(intro H p;kernel_rfl)
abbrev OX(i j:Nat):Prop:=∀(H:Hp) (p:Addr) (y:Value),Jw tz H i (.pointer (some p)) y=R5 H p j y
theorem wU:OX 2 1/\OX 3 1/\OX 4 1/\OX 22 1/\OX 25 2/\OX 26 1/\OX 27 1/\OX 29 5/\OX 37 1/\OX 48 5/\OX 52 2/\OX 99 2/\OX 100 1/\OX 103 1/\OX 106 2/\OX 114 1/\OX 119 3/\OX 126 2/\OX 174 2/\OX 185 7:=by and_intros<;>(intro H p y;kernel_rfl)
theorem vh(p:Addr)(n c:Nat)(k:IntKind)(i:Int):Bg tz 22 (.slice (some p) n c) (.int k i)=if 0<=i/\i<n then some (.pointer (some (p.add (i.toNat*1))))else none:=kr
theorem rm(p:Addr)(n c:Nat)(k:IntKind)(i:Int)(h:0<=i/\i<n):Bg tz 22 (.slice (some p) n c) (.int k i)=some (.pointer (some (p.add (i.toNat*1)))):=by rw[vh,if_pos h]
theorem vg(p:Addr)(n c:Nat)(k:IntKind)(i:Int):Bg tz 23 (.slice (some p) n c) (.int k i)=if 0<=i/\i<n then some (.pointer (some (p.add (i.toNat*5))))else none:=kr
theorem rk(p:Addr)(n c:Nat)(k:IntKind)(i:Int)(h:0<=i/\i<n):Bg tz 23 (.slice (some p) n c) (.int k i)=some (.pointer (some (p.add (i.toNat*5)))):=by rw[vg,if_pos h]
theorem vf(p:Addr)(n c:Nat)(k:IntKind)(i:Int):Bg tz 26 (.slice (some p) n c) (.int k i)=if 0<=i/\i<n then some (.pointer (some (p.add (i.toNat*1))))else none:=kr
theorem ri(p:Addr)(n c:Nat)(k:IntKind)(i:Int)(h:0<=i/\i<n):Bg tz 26 (.slice (some p) n c) (.int k i)=some (.pointer (some (p.add (i.toNat*1)))):=by rw[vf,if_pos h]
theorem ve(p:Addr)(n c:Nat)(k:IntKind)(i:Int):Bg tz 27 (.slice (some p) n c) (.int k i)=if 0<=i/\i<n then some (.pointer (some (p.add (i.toNat*1))))else none:=kr
theorem rh(p:Addr)(n c:Nat)(k:IntKind)(i:Int)(h:0<=i/\i<n):Bg tz 27 (.slice (some p) n c) (.int k i)=some (.pointer (some (p.add (i.toNat*1)))):=by rw[ve,if_pos h]
theorem vc(p:Addr)(n c:Nat)(k:IntKind)(i:Int):Bg tz 30 (.slice (some p) n c) (.int k i)=if 0<=i/\i<n then some (.pointer (some (p.add (i.toNat*1))))else none:=kr
theorem rg(p:Addr)(n c:Nat)(k:IntKind)(i:Int)(h:0<=i/\i<n):Bg tz 30 (.slice (some p) n c) (.int k i)=some (.pointer (some (p.add (i.toNat*1)))):=by rw[vc,if_pos h]
theorem vb(p:Addr)(n c:Nat)(k:IntKind)(i:Int):Bg tz 71 (.slice (some p) n c) (.int k i)=if 0<=i/\i<n then some (.pointer (some (p.add (i.toNat*1))))else none:=kr
theorem re(p:Addr)(n c:Nat)(k:IntKind)(i:Int)(h:0<=i/\i<n):Bg tz 71 (.slice (some p) n c) (.int k i)=some (.pointer (some (p.add (i.toNat*1)))):=by rw[vb,if_pos h]
theorem rZ(p:Addr)(n c:Nat)(k:IntKind)(i:Int):Bg tz 103 (.slice (some p) n c) (.int k i)=if 0<=i/\i<n then some (.pointer (some (p.add (i.toNat*2))))else none:=kr
theorem jm(p:Addr)(n c:Nat)(k:IntKind)(i:Int)(h:0<=i/\i<n):Bg tz 103 (.slice (some p) n c) (.int k i)=some (.pointer (some (p.add (i.toNat*2)))):=by rw[rZ,if_pos h]
theorem rY(p:Addr)(n c:Nat)(k:IntKind)(i:Int):Bg tz 104 (.slice (some p) n c) (.int k i)=if 0<=i/\i<n then some (.pointer (some (p.add (i.toNat*3))))else none:=kr
theorem jk(p:Addr)(n c:Nat)(k:IntKind)(i:Int)(h:0<=i/\i<n):Bg tz 104 (.slice (some p) n c) (.int k i)=some (.pointer (some (p.add (i.toNat*3)))):=by rw[rY,if_pos h]
theorem rX(p:Addr)(n c:Nat)(k:IntKind)(i:Int):Bg tz 111 (.slice (some p) n c) (.int k i)=if 0<=i/\i<n then some (.pointer (some (p.add (i.toNat*2))))else none:=kr
theorem jj(p:Addr)(n c:Nat)(k:IntKind)(i:Int)(h:0<=i/\i<n):Bg tz 111 (.slice (some p) n c) (.int k i)=some (.pointer (some (p.add (i.toNat*2)))):=by rw[rX,if_pos h]
theorem rW(p:Addr)(n c:Nat)(k:IntKind)(i:Int):Bg tz 128 (.slice (some p) n c) (.int k i)=if 0<=i/\i<n then some (.pointer (some (p.add (i.toNat*2))))else none:=kr
theorem ji(p:Addr)(n c:Nat)(k:IntKind)(i:Int)(h:0<=i/\i<n):Bg tz 128 (.slice (some p) n c) (.int k i)=some (.pointer (some (p.add (i.toNat*2)))):=by rw[rW,if_pos h]
theorem rV(p:Addr)(n c:Nat)(k:IntKind)(i:Int):Bg tz 172 (.slice (some p) n c) (.int k i)=if 0<=i/\i<n then some (.pointer (some (p.add (i.toNat*2))))else none:=kr
theorem jh(p:Addr)(n c:Nat)(k:IntKind)(i:Int)(h:0<=i/\i<n):Bg tz 172 (.slice (some p) n c) (.int k i)=some (.pointer (some (p.add (i.toNat*2)))):=by rw[rV,if_pos h]
theorem rU(p:Addr)(n c:Nat)(k:IntKind)(i:Int):Bg tz 187 (.slice (some p) n c) (.int k i)=if 0<=i/\i<n then some (.pointer (some (p.add (i.toNat*1))))else none:=kr
theorem jg(p:Addr)(n c:Nat)(k:IntKind)(i:Int)(h:0<=i/\i<n):Bg tz 187 (.slice (some p) n c) (.int k i)=some (.pointer (some (p.add (i.toNat*1)))):=by rw[rU,if_pos h]
theorem w7(a:Nat): ((tz 2).map fun i=>(Value.pointer (some ⟨a,0,none⟩),[(a,AB.own i.zero.cells.toList)]))=some (.pointer (some ⟨a,0,none⟩),[(a,.own [.int .i64 0])]):=kr
theorem w6(a:Nat): ((tz 4).map fun i=>(Value.pointer (some ⟨a,0,none⟩),[(a,AB.own i.zero.cells.toList)]))=some (.pointer (some ⟨a,0,none⟩),[(a,.own [.bool false])]):=kr
theorem tf(a:Nat): ((tz 25).map fun i=>(Value.pointer (some ⟨a,0,none⟩),[(a,AB.own i.zero.cells.toList)]))=some (.pointer (some ⟨a,0,none⟩),[(a,.own [.slice none 0 0,.slice none 0 0])]):=kr
theorem te(a:Nat): ((tz 27).map fun i=>(Value.pointer (some ⟨a,0,none⟩),[(a,AB.own i.zero.cells.toList)]))=some (.pointer (some ⟨a,0,none⟩),[(a,.own [.slice none 0 0])]):=kr
theorem tc(a:Nat): ((tz 29).map fun i=>(Value.pointer (some ⟨a,0,none⟩),[(a,AB.own i.zero.cells.toList)]))=some (.pointer (some ⟨a,0,none⟩),[(a,.own [.int .i64 0,.slice none 0 0,.slice none 0 0,.slice none 0 0,.slice none 0 0])]):=kr
theorem ta(a:Nat): ((tz 37).map fun i=>(Value.pointer (some ⟨a,0,none⟩),[(a,AB.own i.zero.cells.toList)]))=some (.pointer (some ⟨a,0,none⟩),[(a,.own [.int .u16 0])]):=kr
theorem tZ(a:Nat): ((tz 48).map fun i=>(Value.pointer (some ⟨a,0,none⟩),[(a,AB.own i.zero.cells.toList)]))=some (.pointer (some ⟨a,0,none⟩),[(a,.own [.int .i64 0,.int .i64 0,.int .i64 0,.int .i64 0,.int .i64 0])]):=kr
theorem tY(a:Nat): ((tz 52).map fun i=>(Value.pointer (some ⟨a,0,none⟩),[(a,AB.own i.zero.cells.toList)]))=some (.pointer (some ⟨a,0,none⟩),[(a,.own [.int .i64 0,.int .u64 0])]):=kr
theorem tX(a:Nat): ((tz 99).map fun i=>(Value.pointer (some ⟨a,0,none⟩),[(a,AB.own i.zero.cells.toList)]))=some (.pointer (some ⟨a,0,none⟩),[(a,.own [.int .i64 0,.bool false])]):=kr
theorem kw(a:Nat): ((tz 100).map fun i=>(Value.pointer (some ⟨a,0,none⟩),[(a,AB.own i.zero.cells.toList)]))=some (.pointer (some ⟨a,0,none⟩),[(a,.own [.pointer none])]):=kr
theorem kv(a:Nat): ((tz 106).map fun i=>(Value.pointer (some ⟨a,0,none⟩),[(a,AB.own i.zero.cells.toList)]))=some (.pointer (some ⟨a,0,none⟩),[(a,.own [.int .i64 0,.bool false])]):=kr
theorem ku(a:Nat): ((tz 114).map fun i=>(Value.pointer (some ⟨a,0,none⟩),[(a,AB.own i.zero.cells.toList)]))=some (.pointer (some ⟨a,0,none⟩),[(a,.own [.nilFunc])]):=kr
theorem ks(a:Nat): ((tz 119).map fun i=>(Value.pointer (some ⟨a,0,none⟩),[(a,AB.own i.zero.cells.toList)]))=some (.pointer (some ⟨a,0,none⟩),[(a,.own [.int .i64 0,.bool false,.bool false])]):=kr
theorem kp(a:Nat): ((tz 126).map fun i=>(Value.pointer (some ⟨a,0,none⟩),[(a,AB.own i.zero.cells.toList)]))=some (.pointer (some ⟨a,0,none⟩),[(a,.own [.int .i64 0,.bool false])]):=kr
theorem km(a:Nat): ((tz 174).map fun i=>(Value.pointer (some ⟨a,0,none⟩),[(a,AB.own i.zero.cells.toList)]))=some (.pointer (some ⟨a,0,none⟩),[(a,.own [.slice none 0 0,.pointer none])]):=kr
theorem ki(a:Nat): ((tz 185).map fun i=>(Value.pointer (some ⟨a,0,none⟩),[(a,AB.own i.zero.cells.toList)]))=some (.pointer (some ⟨a,0,none⟩),[(a,.own [.int .i64 0,.int .i64 0,.int .i64 0,.int .i64 0,.int .i64 0,.int .i64 0,.int .i64 0])]):=kr
theorem qr(a:Nat)(k k2:IntKind)(l c:Int):Fz tz a 22 (.int k l) (.int k2 c)=N4 a l c 1 8 ⟨[.int .i64 0]⟩:=kr
theorem qq(a:Nat)(k k2:IntKind)(l c:Int):Fz tz a 26 (.int k l) (.int k2 c)=N4 a l c 1 1 ⟨[.bool false]⟩:=kr
theorem qp(a:Nat)(k k2:IntKind)(l c:Int):Fz tz a 27 (.int k l) (.int k2 c)=N4 a l c 1 8 ⟨[.int .i64 0]⟩:=kr
theorem qm(a:Nat)(k k2:IntKind)(l c:Int):Fz tz a 71 (.int k l) (.int k2 c)=N4 a l c 1 24 ⟨[.slice none 0 0]⟩:=kr
theorem jN(a:Nat)(k k2:IntKind)(l c:Int):Fz tz a 104 (.int k l) (.int k2 c)=N4 a l c 3 24 ⟨[.int .i64 0,.bool false,.bool false]⟩:=kr
theorem jM(a:Nat)(k k2:IntKind)(l c:Int):Fz tz a 111 (.int k l) (.int k2 c)=N4 a l c 2 16 ⟨[.int .i64 0,.bool false]⟩:=kr
theorem jL(a:Nat)(k k2:IntKind)(l c:Int):Fz tz a 172 (.int k l) (.int k2 c)=N4 a l c 2 16 ⟨[.int .i64 0,.int .u64 0]⟩:=kr
abbrev iQ(i:Nat):Prop:=∀(a:Option Addr) (n c:Nat),Fh tz .len #[i] [.slice a n c]=some (.int .i64 n)
theorem wc:iQ 22/\iQ 23/\iQ 26/\iQ 27/\iQ 30/\iQ 103/\iQ 111/\iQ 128/\iQ 187:=by and_intros<;>(intro a n c;kernel_rfl)
theorem bI(t:Nat->Value)(x:Operand):GB tz (eT t) (.convert 2 50 x)=sj .u64 (eT t x):=kr
theorem kA(t:Nat->Value)(x:Operand):GB tz (eT t) (.convert 5 2 x)=sj .i64 (eT t x):=kr
theorem j9(t:Nat->Value)(x:Operand):GB tz (eT t) (.convert 5 3 x)=sj .i64 (eT t x):=kr
theorem bH(t:Nat->Value)(x:Operand):GB tz (eT t) (.convert 50 2 x)=sj .i64 (eT t x):=kr
section
variable{Γ:TypeId->Option TI}{H:Hp}{a:Nat}{ev:Operand->Value}
theorem aL (x:Operand):hop Γ H a ev (.move x)=some (ev x,[]):=rfl
theorem RM(x:Operand):hop Γ H a ev (.assign x)=some (ev x,[]):=rfl
theorem aO(t:TypeId)(x:Operand):hop Γ H a ev (.load t x)=(EC Γ H t (ev x)).map fun v=>(v,[]):=rfl
theorem Vy(t:TypeId)(x y:Operand):hop Γ H a ev (.store t x y)=(Jw Γ H t (ev x) (ev y)).map fun δ=>(undef,δ):=rfl
theorem ju(t:TypeId)(x:Operand):hop Γ H a ev (.box t x)=some (.pointer (some ⟨a,0,none⟩),[(a,.own (ev x).cells.toList)]):=rfl
theorem V4(t:TypeId):hop Γ H a ev (.alloc t)=(Γ t).map fun i=>(Value.pointer (some ⟨a,0,none⟩),[(a,AB.own i.zero.cells.toList)]):=rfl
theorem aM(t:TypeId)(x y:Operand):hop Γ H a ev (.makeSlice t x y)=Fz Γ a t (ev x) (ev y):=rfl
theorem sF(t:TypeId)(n:Nat)(ps:Array (Nat×Operand)):hop Γ H a ev (.buildSlice t n ps)=D0 Γ a t n (ps.toList.map fun p=>(p.1,ev p.2)):=rfl
theorem jw(s x:Operand)(t u:TypeId):hop Γ H a ev (.call {callee:= .builtin .append,args:= #[s,x],argTypes:= #[t,u]})=B5 Γ H a t u (ev s) (ev x):=rfl
theorem jr(args:Array Operand)(ts:Array TypeId):hop Γ H a ev (.call {callee:= .builtin .len,args,argTypes:=ts})=(Fh Γ .len ts (args.toList.map ev)).map fun v=>(v,[]):=rfl
theorem jp(args:Array Operand)(ts:Array TypeId):hop Γ H a ev (.call {callee:= .builtin .min,args,argTypes:=ts})=(Ii (fun x y=>if y<x then y else x) (args.toList.map ev)).map fun v=>(v,[]):=rfl
theorem jq(args:Array Operand)(ts:Array TypeId):hop Γ H a ev (.call {callee:= .builtin .max,args,argTypes:=ts})=(Ii (fun x y=>if y>x then y else x) (args.toList.map ev)).map fun v=>(v,[]):=rfl
theorem aK(c x y:Operand):hop Γ H a ev (.pick c x y)=(match ev c with
  | .bool t=>some (if t then ev x else ev y)
  |_=>none).map fun v=>(v,[]):=rfl
theorem jo(x:Operand):hop Γ H a ev (.nilCheck x)=(match ev x with
  | .pointer (some _)| .func (.func _) _ _| .iface _ _=>some (ev x)
  |_=>none).map fun v=>(v,[]):=rfl
theorem js(x:Operand)(i:Nat):hop Γ H a ev (.extract x i)=(match ev x with
  | .tuple vs=>vs[i]?
  |_=>none).map fun v=>(v,[]):=rfl
theorem sD(t:TypeId)(x:Operand)(f:Nat):hop Γ H a ev (.fieldAddr t x f)=(DW Γ t f (ev x)).map fun v=>(v,[]):=rfl
theorem V2(t:TypeId)(x:Operand)(f:Nat):hop Γ H a ev (.field t x f)=(KA Γ t f (ev x)).map fun v=>(v,[]):=rfl
theorem sC(t:TypeId)(x i:Operand):hop Γ H a ev (.indexAddr t x i)=(Bg Γ t (ev x) (ev i)).map fun v=>(v,[]):=rfl
theorem sA(t:TypeId)(x i:Operand):hop Γ H a ev (.index t x i)=(Ha Γ t (ev x) (ev i)).map fun v=>(v,[]):=rfl
theorem jv(op:BinOp)(t u:TypeId)(x y:Operand):hop Γ H a ev (.binOp op t x y u)=(Cr Γ op t (ev x) (ev y)).map fun v=>(v,[]):=rfl
theorem rq(op:UnOp)(t:TypeId)(x:Operand):hop Γ H a ev (.unOp op t x)=(fD op (ev x)).map fun v=>(v,[]):=rfl
theorem sE(s d:TypeId)(x:Operand):hop Γ H a ev (.convert s d x)=(GB Γ ev (.convert s d x)).map fun v=>(v,[]):=rfl
theorem V3(t:TypeId)(ps:Array (Nat×Operand)):hop Γ H a ev (.build t ps)=(B9 Γ t (ps.toList.map fun p=>(p.1,ev p.2))).map fun v=>(v,[]):=rfl
theorem rz(f:FuncId)(x c:Array Operand):hop Γ H a ev (.makeFunc (.func f) x c)=some (.func (.func f) (x.map ev) (c.map ev),[]):=rfl
theorem Vz(t:TypeId)(x:Operand)(lo hi mx:Option Operand):hop Γ H a ev (.slice t x lo hi mx)=(Gx Γ t (ev x) (lo.map ev) (hi.map ev) (mx.map ev)).map fun v=>(v,[]):=rfl
end
section
variable(k:IntKind)(a b:Int)(t:TypeId)(Γ:TypeId->Option TI)
theorem kc:Cr Γ .add t (.int k a) (.int k b)=some (.int k (k.wrap (a+b))):=by simp[Cr]
theorem kO:Cr Γ .sub t (.int k a) (.int k b)=some (.int k (k.wrap (a - b))):=by simp[Cr]
theorem kS:Cr Γ .mul t (.int k a) (.int k b)=some (.int k (k.wrap (a*b))):=by simp[Cr]
theorem kZ:Cr Γ .eql t (.int k a) (.int k b)=some (.bool (a==b)):=by simp[Cr]
theorem kR:Cr Γ .neq t (.int k a) (.int k b)=some (.bool (a !=b)):=by simp[Cr]
theorem kT:Cr Γ .lss t (.int k a) (.int k b)=some (.bool (a<b)):=by simp[Cr]
theorem kU:Cr Γ .leq t (.int k a) (.int k b)=some (.bool (a<=b)):=by simp[Cr]
theorem kV:Cr Γ .gtr t (.int k a) (.int k b)=some (.bool (a>b)):=by simp[Cr]
theorem kW:Cr Γ .geq t (.int k a) (.int k b)=some (.bool (a >= b)):=by simp[Cr]
theorem iZ(c:Bool):fD .not (.bool c)=some (.bool !c):=rfl
theorem ia:fD .neg (.int k a)=some (.int k (k.wrap (0 - a))):=rfl
theorem WO(k2:IntKind):sj k (.int k2 a)=some (.int k (k.wrap a)):=rfl
end
section
variable{α β:Type}
def ob:Value->Option Bool
 | .bool b=>some b
 |_=>none
def gw(c:Bool)(v:Value):Value:=bif c then v else undef
theorem qg(b:Bool): (ob (.bool b)==some true)=b:=by cases b<;>rfl
theorem qh(b:Bool): (ob (.bool b)==some false)= !b:=by cases b<;>rfl
theorem jE(c b:Bool): (ob (gw c (.bool b))==some true)=(c&&b):=by cases c<;>cases b<;>rfl
theorem jF(c b:Bool): (ob (gw c (.bool b))==some false)=(c&& !b):=by cases c<;>cases b<;>rfl
theorem sG(v:Value):gw true v=v:=rfl
theorem kf(b:Bool): (true&&b)=b:=rfl
theorem jI: (!false)=true:=rfl
theorem jH: (!true)=false:=rfl
theorem ZT(b q:Bool): (if b=true then gw b (.bool q)else Value.bool false)= .bool (b&&q):=by cases b<;>rfl
theorem jD(b q:Bool): (if b=true then Value.bool true else gw (!b) (.bool q))= .bool (b||q):=by cases b<;>rfl
theorem jn(n:Nat):Int.toNat (n:Int)=n:=Aa n
theorem rP(x y:Value): (if True then x else y)=x:=by rw[if_pos trivial]
theorem rQ(x y:Value): (if False then x else y)=y:=by rw[if_neg id]
theorem tG(x y:Value): (if true=true then x else y)=x:=by rw[if_pos rfl]
theorem tH(x y:Value): (if false=true then x else y)=y:=by rw[if_neg dZ]
theorem tO: (true=true)=True:=by simp
theorem tP: (false=true)=False:=by simp
theorem qZ(b:Bool): (false||b)=b:=by cases b<;>rfl
theorem qY(b:Bool): (true||b)=true:=by cases b<;>rfl
theorem kh(b:Bool): (false&&b)=false:=by cases b<;>rfl
theorem ww(x:Value)(l:List Value): (x::l).toArray[0]? =some x:=by simp
theorem wv(x y:Value)(l:List Value): (x::y::l).toArray[1]? =some y:=by simp
theorem wu(x y z:Value)(l:List Value): (x::y::z::l).toArray[2]? =some z:=by simp
theorem Yh(t:Nat->Value)(d:Nat)(v:Value):st t d v d=v:=BU t d v
theorem Ud{t:Nat->Value}{d:Nat}{v:Value}{i:Nat}(h:i≠d):st t d v i=t i:=upd_ne h
theorem jX{α β:Type}(f:α->β)(x:α)(l:List α): (x::l).map f=f x::l.map f:=rfl
theorem jW{α β:Type}(f:α->β): ([]:List α).map f=[]:=rfl
theorem jY{α:Type}(l:List α):l.toArray.toList=l:=rfl
theorem ky{α β:Type}(f:α->β)(l:List α):l.toArray.map f=(l.map f).toArray:=by simp
theorem UP(k:IntKind)(n:Int): (Value.int k n).cells.toList=[.int k n]:=rfl
theorem UU(b:Bool): (Value.bool b).cells.toList=[.bool b]:=rfl
theorem UQ(a:Option Addr): (Value.pointer a).cells.toList=[.pointer a]:=rfl
theorem US(a:Option Addr)(n c:Nat): (Value.slice a n c).cells.toList=[.slice a n c]:=rfl
theorem UR(a:Option Nat): (Value.map a).cells.toList=[.map a]:=rfl
theorem UT(f:Fn)(x c:Array Value): (Value.func f x c).cells.toList=[.func f x c]:=rfl
theorem UV(l:List Value): (Value.agg ⟨l⟩).cells.toList=l:=rfl
theorem QI(l:List Value): (Value.agg l.toArray).cells.toList=l:=rfl
theorem ax(t:Nat->Value)(i:Nat):eT t (.tmp i)=t i:=rfl
theorem RR(t:Nat->Value)(v:Value):eT t (.const v)=v:=rfl
theorem WI(t:Nat->Value)(f:FuncId):eT t (.func f)= .func (.func f) #[] #[]:=rfl
theorem TR(b o k:Nat): (⟨b,o,none⟩:Addr).add k=⟨b,o+k,none⟩:=by
 unfold Addr.add;by_cases h:k=0
 ·subst h;rfl
 ·rw[if_neg h]
def Cs:Option AB->Nat->Nat->Option (List Value)
 |some (.own c),o,n|some (.ro c),o,n=>if o+n<=c.length then some ((c.drop o).take n)else none
 |_,_,_=>none
theorem OA(H:Hp)(b o:Nat)(s:Option Nat)(n:Nat):ld H ⟨b,o,s⟩ n=Cs (H b) o n:=by
 unfold ld Cs;cases H b with
 |none=>rfl
 |some x=>cases x<;>rfl
theorem Ez(c:List Value)(o n:Nat):Cs (some (.own c)) o n=if o+n<=c.length then some ((c.drop o).take n)else none:=rfl
def hd1:Option (List Value)->Option Value
 |some [v]=>some v
 |_=>none
theorem Z6(H:Hp)(b o:Nat)(s:Option Nat):rJ H ⟨b,o,s⟩=hd1 (Cs (H b) o 1):=by
 unfold rJ hd1;generalize hz:ld H ⟨b,o,s⟩ 1=z;rw[OA]at hz;subst hz;cases Cs (H b) o 1 with
 |none=>rfl
 |some l=>rcases l with _|⟨v,_|⟨u,l⟩⟩<;>rfl
theorem Vx(v:Value):hd1 (some [v])=some v:=rfl
def Dp:Option AB->Nat->List Value->Option AB
 |some (.own c),o,vs=>if o+vs.length<=c.length then some (.own (Cz c o vs))else none
 |_,_,_=>none
theorem Ek(H:Hp)(b o:Nat)(s:Option Nat)(n:Nat)(y:Value):R5 H ⟨b,o,s⟩ n y=if y.cells.size=n/\y.cells.toList.all (·.oneCell')=true then(Dp (H b) o y.cells.toList).map fun x=>[(b,x)]else none:=by
 unfold R5 P5 Dp;dsimp only;cases H b with
 |none=>rfl
 |some x=>cases x<;>rfl
theorem dI(c:List Value)(o:Nat)(vs:List Value):Dp (some (.own c)) o vs=if o+vs.length<=c.length then some (.own (Cz c o vs))else none:=rfl
theorem Vn(a:Value):Cs (some (.own [a])) 0 1=some [a]:=rfl
theorem UN(a x:Value):Dp (some (.own [a])) 0 [x]=some (.own [x]):=rfl
theorem Vm(a b:Value):Cs (some (.own [a,b])) 0 1=some [a]:=rfl
theorem Vk(a b:Value):Cs (some (.own [a,b])) 1 1=some [b]:=rfl
theorem Vl(a b:Value):Cs (some (.own [a,b])) 0 2=some [a,b]:=rfl
theorem UM(a b x:Value):Dp (some (.own [a,b])) 0 [x]=some (.own [x,b]):=rfl
theorem UK(a b x:Value):Dp (some (.own [a,b])) 1 [x]=some (.own [a,x]):=rfl
theorem UL(a b x y:Value):Dp (some (.own [a,b])) 0 [x,y]=some (.own [x,y]):=rfl
theorem Vj(a b c:Value):Cs (some (.own [a,b,c])) 0 1=some [a]:=rfl
theorem Vg(a b c:Value):Cs (some (.own [a,b,c])) 1 1=some [b]:=rfl
theorem Ve(a b c:Value):Cs (some (.own [a,b,c])) 2 1=some [c]:=rfl
theorem Vh(a b c:Value):Cs (some (.own [a,b,c])) 0 3=some [a,b,c]:=rfl
theorem Vi(a b c:Value):Cs (some (.own [a,b,c])) 0 2=some [a,b]:=rfl
theorem Vf(a b c:Value):Cs (some (.own [a,b,c])) 1 2=some [b,c]:=rfl
theorem UJ(a b c x:Value):Dp (some (.own [a,b,c])) 0 [x]=some (.own [x,b,c]):=rfl
theorem UG(a b c x:Value):Dp (some (.own [a,b,c])) 1 [x]=some (.own [a,x,c]):=rfl
theorem UE(a b c x:Value):Dp (some (.own [a,b,c])) 2 [x]=some (.own [a,b,x]):=rfl
theorem UH(a b c x y z:Value):Dp (some (.own [a,b,c])) 0 [x,y,z]=some (.own [x,y,z]):=rfl
theorem UI(a b c x y:Value):Dp (some (.own [a,b,c])) 0 [x,y]=some (.own [x,y,c]):=rfl
theorem UF(a b c x y:Value):Dp (some (.own [a,b,c])) 1 [x,y]=some (.own [a,x,y]):=rfl
theorem Vd(a b c d:Value):Cs (some (.own [a,b,c,d])) 0 1=some [a]:=rfl
theorem Va(a b c d:Value):Cs (some (.own [a,b,c,d])) 1 1=some [b]:=rfl
theorem VY(a b c d:Value):Cs (some (.own [a,b,c,d])) 2 1=some [c]:=rfl
theorem VX(a b c d:Value):Cs (some (.own [a,b,c,d])) 3 1=some [d]:=rfl
theorem Vb(a b c d:Value):Cs (some (.own [a,b,c,d])) 0 4=some [a,b,c,d]:=rfl
theorem Vc(a b c d:Value):Cs (some (.own [a,b,c,d])) 0 2=some [a,b]:=rfl
theorem VZ(a b c d:Value):Cs (some (.own [a,b,c,d])) 1 2=some [b,c]:=rfl
theorem UD(a b c d x:Value):Dp (some (.own [a,b,c,d])) 0 [x]=some (.own [x,b,c,d]):=rfl
theorem UA(a b c d x:Value):Dp (some (.own [a,b,c,d])) 1 [x]=some (.own [a,x,c,d]):=rfl
theorem T8(a b c d x:Value):Dp (some (.own [a,b,c,d])) 2 [x]=some (.own [a,b,x,d]):=rfl
theorem T7(a b c d x:Value):Dp (some (.own [a,b,c,d])) 3 [x]=some (.own [a,b,c,x]):=rfl
theorem UB(a b c d x y z u:Value):Dp (some (.own [a,b,c,d])) 0 [x,y,z,u]=some (.own [x,y,z,u]):=rfl
theorem UC(a b c d x y:Value):Dp (some (.own [a,b,c,d])) 0 [x,y]=some (.own [x,y,c,d]):=rfl
theorem T9(a b c d x y:Value):Dp (some (.own [a,b,c,d])) 1 [x,y]=some (.own [a,x,y,d]):=rfl
theorem VW(a b c d e:Value):Cs (some (.own [a,b,c,d,e])) 0 1=some [a]:=rfl
theorem VT(a b c d e:Value):Cs (some (.own [a,b,c,d,e])) 1 1=some [b]:=rfl
theorem VS(a b c d e:Value):Cs (some (.own [a,b,c,d,e])) 2 1=some [c]:=rfl
theorem VR(a b c d e:Value):Cs (some (.own [a,b,c,d,e])) 3 1=some [d]:=rfl
theorem VQ(a b c d e:Value):Cs (some (.own [a,b,c,d,e])) 4 1=some [e]:=rfl
theorem VU(a b c d e:Value):Cs (some (.own [a,b,c,d,e])) 0 5=some [a,b,c,d,e]:=rfl
theorem VV(a b c d e:Value):Cs (some (.own [a,b,c,d,e])) 0 2=some [a,b]:=rfl
theorem T6(a b c d e x:Value):Dp (some (.own [a,b,c,d,e])) 0 [x]=some (.own [x,b,c,d,e]):=rfl
theorem Ty(a b c d e x:Value):Dp (some (.own [a,b,c,d,e])) 1 [x]=some (.own [a,x,c,d,e]):=rfl
theorem Tx(a b c d e x:Value):Dp (some (.own [a,b,c,d,e])) 2 [x]=some (.own [a,b,x,d,e]):=rfl
theorem Tw(a b c d e x:Value):Dp (some (.own [a,b,c,d,e])) 3 [x]=some (.own [a,b,c,x,e]):=rfl
theorem Tv(a b c d e x:Value):Dp (some (.own [a,b,c,d,e])) 4 [x]=some (.own [a,b,c,d,x]):=rfl
theorem Tz(a b c d e x y z u v:Value):Dp (some (.own [a,b,c,d,e])) 0 [x,y,z,u,v]=some (.own [x,y,z,u,v]):=rfl
theorem T5(a b c d e x y:Value):Dp (some (.own [a,b,c,d,e])) 0 [x,y]=some (.own [x,y,c,d,e]):=rfl
theorem VP(a b c d e f:Value):Cs (some (.own [a,b,c,d,e,f])) 0 1=some [a]:=rfl
theorem VN(a b c d e f:Value):Cs (some (.own [a,b,c,d,e,f])) 1 1=some [b]:=rfl
theorem VM(a b c d e f:Value):Cs (some (.own [a,b,c,d,e,f])) 2 1=some [c]:=rfl
theorem VL(a b c d e f:Value):Cs (some (.own [a,b,c,d,e,f])) 3 1=some [d]:=rfl
theorem VK(a b c d e f:Value):Cs (some (.own [a,b,c,d,e,f])) 4 1=some [e]:=rfl
theorem VJ(a b c d e f:Value):Cs (some (.own [a,b,c,d,e,f])) 5 1=some [f]:=rfl
theorem VO(a b c d e f:Value):Cs (some (.own [a,b,c,d,e,f])) 0 6=some [a,b,c,d,e,f]:=rfl
theorem Tu(a b c d e f x:Value):Dp (some (.own [a,b,c,d,e,f])) 0 [x]=some (.own [x,b,c,d,e,f]):=rfl
theorem Ts(a b c d e f x:Value):Dp (some (.own [a,b,c,d,e,f])) 1 [x]=some (.own [a,x,c,d,e,f]):=rfl
theorem Tr(a b c d e f x:Value):Dp (some (.own [a,b,c,d,e,f])) 2 [x]=some (.own [a,b,x,d,e,f]):=rfl
theorem Tq(a b c d e f x:Value):Dp (some (.own [a,b,c,d,e,f])) 3 [x]=some (.own [a,b,c,x,e,f]):=rfl
theorem Tp(a b c d e f x:Value):Dp (some (.own [a,b,c,d,e,f])) 4 [x]=some (.own [a,b,c,d,x,f]):=rfl
theorem To(a b c d e f x:Value):Dp (some (.own [a,b,c,d,e,f])) 5 [x]=some (.own [a,b,c,d,e,x]):=rfl
theorem Tt(a b c d e f x y z u v w:Value):Dp (some (.own [a,b,c,d,e,f])) 0 [x,y,z,u,v,w]=some (.own [x,y,z,u,v,w]):=rfl
theorem VI(a b c d e f g:Value):Cs (some (.own [a,b,c,d,e,f,g])) 0 1=some [a]:=rfl
theorem VF(a b c d e f g:Value):Cs (some (.own [a,b,c,d,e,f,g])) 1 1=some [b]:=rfl
theorem VE(a b c d e f g:Value):Cs (some (.own [a,b,c,d,e,f,g])) 2 1=some [c]:=rfl
theorem VD(a b c d e f g:Value):Cs (some (.own [a,b,c,d,e,f,g])) 3 1=some [d]:=rfl
theorem VC(a b c d e f g:Value):Cs (some (.own [a,b,c,d,e,f,g])) 4 1=some [e]:=rfl
theorem VB(a b c d e f g:Value):Cs (some (.own [a,b,c,d,e,f,g])) 5 1=some [f]:=rfl
theorem VA(a b c d e f g:Value):Cs (some (.own [a,b,c,d,e,f,g])) 6 1=some [g]:=rfl
theorem VG(a b c d e f g:Value):Cs (some (.own [a,b,c,d,e,f,g])) 0 7=some [a,b,c,d,e,f,g]:=rfl
theorem VH(a b c d e f g:Value):Cs (some (.own [a,b,c,d,e,f,g])) 0 5=some [a,b,c,d,e]:=rfl
theorem Tn(a b c d e f g x:Value):Dp (some (.own [a,b,c,d,e,f,g])) 0 [x]=some (.own [x,b,c,d,e,f,g]):=rfl
theorem Tk(a b c d e f g x:Value):Dp (some (.own [a,b,c,d,e,f,g])) 1 [x]=some (.own [a,x,c,d,e,f,g]):=rfl
theorem Tj(a b c d e f g x:Value):Dp (some (.own [a,b,c,d,e,f,g])) 2 [x]=some (.own [a,b,x,d,e,f,g]):=rfl
theorem Ti(a b c d e f g x:Value):Dp (some (.own [a,b,c,d,e,f,g])) 3 [x]=some (.own [a,b,c,x,e,f,g]):=rfl
theorem Th(a b c d e f g x:Value):Dp (some (.own [a,b,c,d,e,f,g])) 4 [x]=some (.own [a,b,c,d,x,f,g]):=rfl
theorem Tg(a b c d e f g x:Value):Dp (some (.own [a,b,c,d,e,f,g])) 5 [x]=some (.own [a,b,c,d,e,x,g]):=rfl
theorem Tf(a b c d e f g x:Value):Dp (some (.own [a,b,c,d,e,f,g])) 6 [x]=some (.own [a,b,c,d,e,f,x]):=rfl
theorem Tl(a b c d e f g x y z u v w q:Value):Dp (some (.own [a,b,c,d,e,f,g])) 0 [x,y,z,u,v,w,q]=some (.own [x,y,z,u,v,w,q]):=rfl
theorem Tm(a b c d e f g x y z u v:Value):Dp (some (.own [a,b,c,d,e,f,g])) 0 [x,y,z,u,v]=some (.own [x,y,z,u,v,f,g]):=rfl
theorem ie(H:Hp)(b o:Nat)(s:Option Nat)(k:IntKind)(n:Int):R5 H ⟨b,o,s⟩ 1 (.int k n)=(Dp (H b) o [.int k n]).map fun x=>[(b,x)]:=by rw[Ek];exact if_pos ⟨rfl,rfl⟩
theorem ii(H:Hp)(b o:Nat)(s:Option Nat)(c:Bool):R5 H ⟨b,o,s⟩ 1 (.bool c)=(Dp (H b) o [.bool c]).map fun x=>[(b,x)]:=by rw[Ek];exact if_pos ⟨rfl,rfl⟩
theorem ib(H:Hp)(b o:Nat)(s:Option Nat)(c:Option Addr):R5 H ⟨b,o,s⟩ 1 (.pointer c)=(Dp (H b) o [.pointer c]).map fun x=>[(b,x)]:=by rw[Ek];exact if_pos ⟨rfl,rfl⟩
theorem ic(H:Hp)(b o:Nat)(s:Option Nat)(c:Option Addr)(n m:Nat):R5 H ⟨b,o,s⟩ 1 (.slice c n m)=(Dp (H b) o [.slice c n m]).map fun x=>[(b,x)]:=by rw[Ek];exact if_pos ⟨rfl,rfl⟩
theorem ig(H:Hp)(b o:Nat)(s:Option Nat)(f:Fn)(x c:Array Value):R5 H ⟨b,o,s⟩ 1 (.func f x c)=(Dp (H b) o [.func f x c]).map fun x=>[(b,x)]:=by rw[Ek];exact if_pos ⟨rfl,rfl⟩
theorem ip(H:Hp)(b o:Nat)(s:Option Nat)(a0:Option Addr)(n0 c0:Nat)(a1:Option Addr)(n1 c1:Nat):R5 H ⟨b,o,s⟩ 2 (.agg #[.slice a0 n0 c0,.slice a1 n1 c1])=(Dp (H b) o [.slice a0 n0 c0,.slice a1 n1 c1]).map fun x=>[(b,x)]:=by rw[Ek];exact if_pos ⟨rfl,rfl⟩
theorem io(H:Hp)(b o:Nat)(s:Option Nat)(k0:IntKind)(a0:Int)(a1:Option Addr)(n1 c1:Nat)(a2:Option Addr)(n2 c2:Nat)(a3:Option Addr)(n3 c3:Nat)(a4:Option Addr)(n4 c4:Nat):R5 H ⟨b,o,s⟩ 5 (.agg #[.int k0 a0,.slice a1 n1 c1,.slice a2 n2 c2,.slice a3 n3 c3,.slice a4 n4 c4])=(Dp (H b) o [.int k0 a0,.slice a1 n1 c1,.slice a2 n2 c2,.slice a3 n3 c3,.slice a4 n4 c4]).map fun x=>[(b,x)]:=by rw[Ek];exact if_pos ⟨rfl,rfl⟩
theorem il(H:Hp)(b o:Nat)(s:Option Nat)(k0:IntKind)(a0:Int)(k1:IntKind)(a1:Int)(k2:IntKind)(a2:Int)(k3:IntKind)(a3:Int)(k4:IntKind)(a4:Int):R5 H ⟨b,o,s⟩ 5 (.agg #[.int k0 a0,.int k1 a1,.int k2 a2,.int k3 a3,.int k4 a4])=(Dp (H b) o [.int k0 a0,.int k1 a1,.int k2 a2,.int k3 a3,.int k4 a4]).map fun x=>[(b,x)]:=by rw[Ek];exact if_pos ⟨rfl,rfl⟩
theorem ik(H:Hp)(b o:Nat)(s:Option Nat)(k0:IntKind)(a0:Int)(k1:IntKind)(a1:Int):R5 H ⟨b,o,s⟩ 2 (.agg #[.int k0 a0,.int k1 a1])=(Dp (H b) o [.int k0 a0,.int k1 a1]).map fun x=>[(b,x)]:=by rw[Ek];exact if_pos ⟨rfl,rfl⟩
theorem ij(H:Hp)(b o:Nat)(s:Option Nat)(k0:IntKind)(a0:Int)(a1:Bool):R5 H ⟨b,o,s⟩ 2 (.agg #[.int k0 a0,.bool a1])=(Dp (H b) o [.int k0 a0,.bool a1]).map fun x=>[(b,x)]:=by rw[Ek];exact if_pos ⟨rfl,rfl⟩
theorem Yg(H:Hp)(b o:Nat)(s:Option Nat)(k0:IntKind)(a0:Int)(a1:Bool)(a2:Bool):R5 H ⟨b,o,s⟩ 3 (.agg #[.int k0 a0,.bool a1,.bool a2])=(Dp (H b) o [.int k0 a0,.bool a1,.bool a2]).map fun x=>[(b,x)]:=by rw[Ek];exact if_pos ⟨rfl,rfl⟩
theorem Yf(H:Hp)(b o:Nat)(s:Option Nat)(a0:Option Addr)(n0 c0:Nat)(a1:Option Addr):R5 H ⟨b,o,s⟩ 2 (.agg #[.slice a0 n0 c0,.pointer a1])=(Dp (H b) o [.slice a0 n0 c0,.pointer a1]).map fun x=>[(b,x)]:=by rw[Ek];exact if_pos ⟨rfl,rfl⟩
theorem Ye(H:Hp)(b o:Nat)(s:Option Nat)(k0:IntKind)(a0:Int)(k1:IntKind)(a1:Int)(k2:IntKind)(a2:Int)(k3:IntKind)(a3:Int)(k4:IntKind)(a4:Int)(k5:IntKind)(a5:Int)(k6:IntKind)(a6:Int):R5 H ⟨b,o,s⟩ 7 (.agg #[.int k0 a0,.int k1 a1,.int k2 a2,.int k3 a3,.int k4 a4,.int k5 a5,.int k6 a6])=(Dp (H b) o [.int k0 a0,.int k1 a1,.int k2 a2,.int k3 a3,.int k4 a4,.int k5 a5,.int k6 a6]).map fun x=>[(b,x)]:=by rw[Ek];exact if_pos ⟨rfl,rfl⟩
theorem YP(H:Hp)(a:Nat)(x:Option AB):upd H a x a=x:=BU H a x
theorem Bn{H:Hp}{a b:Nat}{x:Option AB}(h:b≠a):upd H a x b=H b:=upd_ne h
theorem ZQ(a:Nat):fI a= .pointer (some ⟨a,0,none⟩):=rfl
end
theorem qc{α β:Type}(f:α->β)(x:α): (some x).map f=some (f x):=rfl
theorem wz: (((((((type_of% @qc/\(type_of% @wg/\type_of% @rle))/\(type_of% @wW/\(type_of% @wU/\type_of% @rm)))/\((type_of% @rk/\(type_of% @ri/\type_of% @rh))/\((type_of% @rg/\type_of% @re)/\(type_of% @jm/\type_of% @jk))))/\(((type_of% @jj/\(type_of% @ji/\type_of% @jh))/\((type_of% @jg/\type_of% @w7)/\(type_of% @w6/\type_of% @tf)))/\((type_of% @te/\(type_of% @tc/\type_of% @ta))/\((type_of% @tZ/\type_of% @tY)/\(type_of% @tX/\type_of% @kw)))))/\((((type_of% @kv/\(type_of% @ku/\type_of% @ks))/\((type_of% @kp/\type_of% @km)/\(type_of% @ki/\type_of% @qr)))/\((type_of% @qq/\(type_of% @qp/\type_of% @qm))/\((type_of% @jN/\type_of% @jM)/\(type_of% @jL/\type_of% @wc))))/\(((type_of% @bI/\(type_of% @kA/\type_of% @j9))/\((type_of% @bH/\type_of% @aL)/\(type_of% @RM/\type_of% @aO)))/\((type_of% @Vy/\(type_of% @ju/\type_of% @V4))/\((type_of% @aM/\type_of% @sF)/\(type_of% @jw/\type_of% @jr))))))/\(((((type_of% @jp/\(type_of% @jq/\type_of% @aK))/\((type_of% @jo/\type_of% @js)/\(type_of% @sD/\type_of% @V2)))/\((type_of% @sC/\(type_of% @sA/\type_of% @jv))/\((type_of% @rq/\type_of% @sE)/\(type_of% @V3/\type_of% @rz))))/\(((type_of% @Vz/\(type_of% @kc/\type_of% @kO))/\((type_of% @kS/\type_of% @kZ)/\(type_of% @kR/\type_of% @kT)))/\((type_of% @kU/\(type_of% @kV/\type_of% @kW))/\((type_of% @iZ/\type_of% @ia)/\(type_of% @WO/\type_of% @qg)))))/\((((type_of% @qh/\(type_of% @jE/\type_of% @jF))/\((type_of% @sG/\type_of% @kf)/\(type_of% @jI/\type_of% @jH)))/\((type_of% @ZT/\(type_of% @jD/\type_of% @jn))/\((type_of% @rP/\type_of% @rQ)/\(type_of% @tG/\type_of% @tH))))/\(((type_of% @tO/\(type_of% @tP/\type_of% @qZ))/\((type_of% @qY/\type_of% @kh)/\(type_of% @ww/\type_of% @wv)))/\((type_of% @wu/\(type_of% @Yh/\type_of% @Ud))/\((type_of% @jX/\type_of% @jW)/\(type_of% @jY/\type_of% @ky)))))))/\((((((type_of% @UP/\(type_of% @UU/\type_of% @UQ))/\(type_of% @US/\(type_of% @UR/\type_of% @UT)))/\((type_of% @UV/\(type_of% @QI/\type_of% @ax))/\((type_of% @RR/\type_of% @WI)/\(type_of% @TR/\type_of% @OA))))/\(((type_of% @Z6/\(type_of% @Vx/\type_of% @Vn))/\((type_of% @UN/\type_of% @Vm)/\(type_of% @Vk/\type_of% @Vl)))/\((type_of% @UM/\(type_of% @UK/\type_of% @UL))/\((type_of% @Vj/\type_of% @Vg)/\(type_of% @Ve/\type_of% @Vh)))))/\((((type_of% @Vi/\(type_of% @Vf/\type_of% @UJ))/\((type_of% @UG/\type_of% @UE)/\(type_of% @UH/\type_of% @UI)))/\((type_of% @UF/\(type_of% @Vd/\type_of% @Va))/\((type_of% @VY/\type_of% @VX)/\(type_of% @Vb/\type_of% @Vc))))/\(((type_of% @VZ/\(type_of% @UD/\type_of% @UA))/\((type_of% @T8/\type_of% @T7)/\(type_of% @UB/\type_of% @UC)))/\((type_of% @T9/\(type_of% @VW/\type_of% @VT))/\((type_of% @VS/\type_of% @VR)/\(type_of% @VQ/\type_of% @VU))))))/\(((((type_of% @VV/\(type_of% @T6/\type_of% @Ty))/\((type_of% @Tx/\type_of% @Tw)/\(type_of% @Tv/\type_of% @Tz)))/\((type_of% @T5/\(type_of% @VP/\type_of% @VN))/\((type_of% @VM/\type_of% @VL)/\(type_of% @VK/\type_of% @VJ))))/\(((type_of% @VO/\(type_of% @Tu/\type_of% @Ts))/\((type_of% @Tr/\type_of% @Tq)/\(type_of% @Tp/\type_of% @To)))/\((type_of% @Tt/\(type_of% @VI/\type_of% @VF))/\((type_of% @VE/\type_of% @VD)/\(type_of% @VC/\type_of% @VB)))))/\((((type_of% @VA/\(type_of% @VG/\type_of% @VH))/\((type_of% @Tn/\type_of% @Tk)/\(type_of% @Tj/\type_of% @Ti)))/\((type_of% @Th/\(type_of% @Tg/\type_of% @Tf))/\((type_of% @Tl/\type_of% @Tm)/\(type_of% @ie/\type_of% @ii))))/\(((type_of% @ib/\(type_of% @ic/\type_of% @ig))/\((type_of% @ip/\type_of% @io)/\(type_of% @il/\type_of% @ik)))/\((type_of% @ij/\(type_of% @Yg/\type_of% @Yf))/\((type_of% @Ye/\type_of% @YP)/\(type_of% @Bn/\type_of% @ZQ)))))))):=
 ⟨⟨⟨⟨⟨⟨⟨@qc,⟨@wg,@rle⟩⟩,⟨@wW,⟨@wU,@rm⟩⟩⟩,⟨⟨@rk,⟨@ri,@rh⟩⟩,⟨⟨@rg,@re⟩,⟨@jm,@jk⟩⟩⟩⟩,⟨⟨⟨@jj,⟨@ji,@jh⟩⟩,⟨⟨@jg,@w7⟩,⟨@w6,@tf⟩⟩⟩,⟨⟨@te,⟨@tc,@ta⟩⟩,⟨⟨@tZ,@tY⟩,⟨@tX,@kw⟩⟩⟩⟩⟩,⟨⟨⟨⟨@kv,⟨@ku,@ks⟩⟩,⟨⟨@kp,@km⟩,⟨@ki,@qr⟩⟩⟩,⟨⟨@qq,⟨@qp,@qm⟩⟩,⟨⟨@jN,@jM⟩,⟨@jL,@wc⟩⟩⟩⟩,⟨⟨⟨@bI,⟨@kA,@j9⟩⟩,⟨⟨@bH,@aL⟩,⟨@RM,@aO⟩⟩⟩,⟨⟨@Vy,⟨@ju,@V4⟩⟩,⟨⟨@aM,@sF⟩,⟨@jw,@jr⟩⟩⟩⟩⟩⟩,⟨⟨⟨⟨⟨@jp,⟨@jq,@aK⟩⟩,⟨⟨@jo,@js⟩,⟨@sD,@V2⟩⟩⟩,⟨⟨@sC,⟨@sA,@jv⟩⟩,⟨⟨@rq,@sE⟩,⟨@V3,@rz⟩⟩⟩⟩,⟨⟨⟨@Vz,⟨@kc,@kO⟩⟩,⟨⟨@kS,@kZ⟩,⟨@kR,@kT⟩⟩⟩,⟨⟨@kU,⟨@kV,@kW⟩⟩,⟨⟨@iZ,@ia⟩,⟨@WO,@qg⟩⟩⟩⟩⟩,⟨⟨⟨⟨@qh,⟨@jE,@jF⟩⟩,⟨⟨@sG,@kf⟩,⟨@jI,@jH⟩⟩⟩,⟨⟨@ZT,⟨@jD,@jn⟩⟩,⟨⟨@rP,@rQ⟩,⟨@tG,@tH⟩⟩⟩⟩,⟨⟨⟨@tO,⟨@tP,@qZ⟩⟩,⟨⟨@qY,@kh⟩,⟨@ww,@wv⟩⟩⟩,⟨⟨@wu,⟨@Yh,@Ud⟩⟩,⟨⟨@jX,@jW⟩,⟨@jY,@ky⟩⟩⟩⟩⟩⟩⟩,⟨⟨⟨⟨⟨⟨@UP,⟨@UU,@UQ⟩⟩,⟨@US,⟨@UR,@UT⟩⟩⟩,⟨⟨@UV,⟨@QI,@ax⟩⟩,⟨⟨@RR,@WI⟩,⟨@TR,@OA⟩⟩⟩⟩,⟨⟨⟨@Z6,⟨@Vx,@Vn⟩⟩,⟨⟨@UN,@Vm⟩,⟨@Vk,@Vl⟩⟩⟩,⟨⟨@UM,⟨@UK,@UL⟩⟩,⟨⟨@Vj,@Vg⟩,⟨@Ve,@Vh⟩⟩⟩⟩⟩,⟨⟨⟨⟨@Vi,⟨@Vf,@UJ⟩⟩,⟨⟨@UG,@UE⟩,⟨@UH,@UI⟩⟩⟩,⟨⟨@UF,⟨@Vd,@Va⟩⟩,⟨⟨@VY,@VX⟩,⟨@Vb,@Vc⟩⟩⟩⟩,⟨⟨⟨@VZ,⟨@UD,@UA⟩⟩,⟨⟨@T8,@T7⟩,⟨@UB,@UC⟩⟩⟩,⟨⟨@T9,⟨@VW,@VT⟩⟩,⟨⟨@VS,@VR⟩,⟨@VQ,@VU⟩⟩⟩⟩⟩⟩,⟨⟨⟨⟨⟨@VV,⟨@T6,@Ty⟩⟩,⟨⟨@Tx,@Tw⟩,⟨@Tv,@Tz⟩⟩⟩,⟨⟨@T5,⟨@VP,@VN⟩⟩,⟨⟨@VM,@VL⟩,⟨@VK,@VJ⟩⟩⟩⟩,⟨⟨⟨@VO,⟨@Tu,@Ts⟩⟩,⟨⟨@Tr,@Tq⟩,⟨@Tp,@To⟩⟩⟩,⟨⟨@Tt,⟨@VI,@VF⟩⟩,⟨⟨@VE,@VD⟩,⟨@VC,@VB⟩⟩⟩⟩⟩,⟨⟨⟨⟨@VA,⟨@VG,@VH⟩⟩,⟨⟨@Tn,@Tk⟩,⟨@Tj,@Ti⟩⟩⟩,⟨⟨@Th,⟨@Tg,@Tf⟩⟩,⟨⟨@Tl,@Tm⟩,⟨@ie,@ii⟩⟩⟩⟩,⟨⟨⟨@ib,⟨@ic,@ig⟩⟩,⟨⟨@ip,@io⟩,⟨@il,@ik⟩⟩⟩,⟨⟨@ij,⟨@Yg,@Yf⟩⟩,⟨⟨@Ye,@YP⟩,⟨@Bn,@ZQ⟩⟩⟩⟩⟩⟩⟩⟩
end
section
open Go.Conc Go.Proofs
variable[Md]
section
def Ext(H H':Hp):Prop:=∀a x,H a=some x->H' a=some x
theorem Ext.refl(H:Hp):Ext H H:=fun _ _ h=>h
theorem Ext.trans{H H1 H2:Hp}(h:Ext H H1)(k:Ext H1 H2):Ext H H2:=fun a x e=>k a x (h a x e)
theorem Ext.new{H H1:Hp}{nf:Nat}(h:Ext H H1)(hf:Fr H1 nf)(x:AB):Ext H (upd H1 nf (some x)):=fun a y e=>by
 have:=h a y e;rw[upd_ne (by have:=hf.lt this;omega)];exact this
theorem Ext.up{H G:Hp}{b:Nat}{x:AB}(hb:H b=none)(h:Ext H G):Ext H (upd G b (some x)):=fun a y e=>by
 rw[upd_ne (fun e2=>by rw[e2,hb]at e;cases e)];exact h a y e
theorem Ext.far{H H1:Hp}{b:Nat}(h:Ext H H1)(hb:H b=none)(x:AB):Ext H (upd H1 b (some x)):=fun a y e=>by
 rw[upd_ne (fun e2=>by rw[e2,hb]at e;cases e)];exact h a y e
variable{P:Program}
theorem Iz{f:FuncId}{args:List Value}{Q:Value->Hp->Prop}{H:Hp}(h:Sc H->(∃nf,Fr H nf)->Ee P f args Q H):Ee P f args Q H:=
 fun main K hK X O φ w args' kind cs h1 hr h3 h4=>h hr.sc hr.fin main K hK X O φ w args' kind cs h1 hr h3 h4
theorem Ee.fin{f:FuncId}{args:List Value}{Q:Value->Hp->Prop}{H:Hp}(h:Ee P f args Q H):Ee P f args (fun v H'=>Q v H'/\∃nf,Fr H' nf) H:=
 fun main K hK X O φ w args' kind cs h1 hr h3 h4=>h main K hK X O φ w args' kind cs h1 hr h3 fun v H' O' φ' w' fr q g o r e=>h4 v H' O' φ' w' fr ⟨q,r.fin⟩ g o r e
theorem Ee.dropQ{g:FuncId}{args:List Value}{Q Q2:Value->Hp->Prop}{H:Hp}(h:Ee P g args Q H)(k:∀v H1,Q v H1->∃H2,Q2 v H2/\R6 (dom H2) v/\(∀a,dom H a->dom H2 a)/\(∀a x,H2 a=some x->H1 a=some x)/\(∀a x,H2 a=some x->NU (dom H2) x)/\∃n,∀a,n<=a->H2 a=none):Ee P g args Q2 H:=by
 intro main K hK X O φ w args' kind cs hq hr hargs hk;refine h main K hK X O φ w args' kind cs hq hr hargs fun u H1 O' φ' w' fr q g o r rets=> ?_
 obtain⟨H2,q2,hv,hd,hs,hm,hfin⟩:=k u H1 q;refine hk u H2 O' φ' w' fr q2 (fun a ha=>⟨hd a ha,(g a ha).2⟩) o ⟨hfin,r.frame,fun a x ha hx=> ?_,fun a c ha=> ?_,fun a b x y ha hb=>r.inj a b x y (hs a x ha) (hs b y hb)⟩ ⟨rets.mode,rets.defers,rets.fn,rets.kind,?_⟩
 ·obtain⟨h1,h2,ob,h3,h4⟩:=r.own a x (hs a x ha) hx;exact⟨h1,h2,ob,h3,(hm a x ha).1 _ _ _ _ h4⟩
 ·obtain⟨C,e,z,h1,h2⟩:=r.ro a c (hs a _ ha);exact⟨C,e,z,h1,(hm a _ ha).2 c rfl _ _ _ _ h2⟩
 ·obtain⟨fn,h1,h2⟩:=rets.res;refine⟨fn,h1,fun w₁ k=> ?_⟩;obtain⟨v',h3,h4⟩:=h2 w₁ k;exact⟨v',h3,hv _ _ _ h4⟩
def x7(f:FuncId):Prop:=∃(fn:Func) (c:Code),Tryz.prog.funcs[f]? =some fn/\fn.body=some c
def Ct(f:FuncId)(args:List Value)(Q:Value->Hp->Prop)(H:Hp):Prop:=x7 f/\Ee Tryz.prog f args Q H
def Pure(f:FuncId)(args:List Value)(v:Value)(H:Hp):Prop:=Ct f args (fun u H'=>u=v/\H'=H) H
def GQ(fn:Func)(Q:Value->Hp->Prop):QT
 | .exit _,_,_=>False
 |_,A,H=>A.d=[]/\∃v,Dn tz H A fn.results.toList=some v/\Q v H
section
variable{f:FuncId}{fn:Func}{c:Code}{args:List Value}{Q:Value->Hp->Prop}{H:Hp}{v:Value}
theorem Ml (hf:Tryz.prog.funcs[f]? =some fn) (hb:fn.body=some c) {n:Nat} (hn:max args.length fn.ntmps=n) (h:∀nf,Fr H nf->Sc H->WC Tryz.prog true c (GQ fn Q) ⟨n,fun i=>args.getD i undef,[]⟩ H):Ee Tryz.prog f args Q H:=by
 refine Iz fun hs ⟨nf,hnf⟩=>Ee.body hf hb ?_
 rw[hn];refine(h nf hnf hs).mono fun ex A H' q=> ?_
 cases ex with
 |exit id=>exact q.elim
 |norm=>exact NA.done Cv hf q.1 q.2.choose_spec.1 q.2.choose_spec.2
 |ret=>exact NA.done Cv hf q.1 q.2.choose_spec.1 q.2.choose_spec.2
theorem Pure.of(hv:plainV v=true)(h:Ct f args (fun u H'=>u=v/\Ext H H') H):Pure f args v H:=by
 refine⟨h.1,Iz fun hs hfin=>h.2.dropQ ?_⟩;rintro u H1 ⟨rfl,he⟩;exact⟨H,⟨rfl,rfl⟩,Gc hv,fun _=>id,he,hs,hfin⟩
def Hs(t:Nat->Value)(l:List Value):Prop:=∀i v,l[i]? =some v->t i=v
theorem PY(l:List Value):Hs (fun i=>l.getD i undef) l:=fun i v h=>by simp[List.getD,h]
theorem BV(hf:Tryz.prog.funcs[f]? =some fn)(hb:fn.body=some c)(n:Nat)(hn:max args.length fn.ntmps=n)(h:∀nf t,Fr H nf->Sc H->Hs t args->WC Tryz.prog true c (GQ fn Q) ⟨n,t,[]⟩ H):Ct f args Q H:=
 ⟨⟨fn,c,hf,hb⟩,Ml hf hb hn fun nf h1 h2=>h nf _ h1 h2 (PY args)⟩
variable{n:Nat}{t:Nat->Value}
theorem Iq {ex:Ex} (he:∀id,ex≠ .exit id) (hv:Dn tz H ⟨n,t,[]⟩ fn.results.toList=some v) (h:Q v H):GQ fn Q ex ⟨n,t,[]⟩ H:=by
 cases ex with
 |exit id=>exact absurd rfl (he id)
 |norm=>exact⟨rfl,v,hv,h⟩
 |ret=>exact⟨rfl,v,hv,h⟩
theorem BW{k:Tmp}(hr:fn.results= #[.tmp k])(h:Q (t k) H):GQ fn Q .ret ⟨n,t,[]⟩ H:=Iq (by simp) (by rw[hr];rfl) h
theorem TA{k j:Tmp}(hr:fn.results= #[.tmp k,.tmp j])(h:Q (.tuple #[t k,t j]) H):GQ fn Q .ret ⟨n,t,[]⟩ H:=Iq (by simp) (by rw[hr];rfl) h
theorem HQ(hr:fn.results= #[])(h:Q (.tuple #[]) H):GQ fn Q .ret ⟨n,t,[]⟩ H:=Iq (by simp) (by rw[hr];rfl) h
theorem Ji{ex:Ex}(h:GQ fn Q .ret ⟨n,t,[]⟩ H)(he:ex= .norm):GQ fn Q ex ⟨n,t,[]⟩ H:=by subst he;exact h
theorem Ch{k ty:Nat}(hr:fn.results= #[.cell k ty]){u:Value}(hl:EC tz H ty (t k)=some u)(h:Q u H):GQ fn Q .ret ⟨n,t,[]⟩ H:=Iq (v:=u) (by simp) (by rw[hr];simp[Dn,NR,hl]) h
end
section
variable{top:Bool}{Q:QT}{n:Nat}{t:Nat->Value}{ds:List Deferred}{H:Hp}
theorem pN {c:Operand} {x y:Code} {b:Bool} (hx:okX c=true) (hc:eT t c= .bool b) (h1:b=true->WC Tryz.prog top x Q ⟨n,t,ds⟩ H) (h2:b=false->WC Tryz.prog top y Q ⟨n,t,ds⟩ H):WC Tryz.prog top (.cond c x y) Q ⟨n,t,ds⟩ H:=by
 refine Pt hx (b:=b) (by rw[EI];exact hc) ?_;cases b
 ·exact h2 rfl
 ·exact h1 rfl
theorem wL{c:Operand}{x y:Code}{p:Prop}[Decidable p](hx:okX c=true)(hc:eT t c= .bool (decide p))(h1:p->WC Tryz.prog top x Q ⟨n,t,ds⟩ H)(h2:¬p->WC Tryz.prog top y Q ⟨n,t,ds⟩ H):WC Tryz.prog top (.cond c x y) Q ⟨n,t,ds⟩ H:=
 pN hx hc (fun e=>h1 (BA e)) (fun e=>h2 (BL e))
theorem By{c:Code}(h:∀T,(∀j,T j=t j)->WC Tryz.prog top c Q ⟨n,T,ds⟩ H):WC Tryz.prog top c Q ⟨n,t,ds⟩ H:=h t fun _=>rfl
theorem TZ{c:Code}(H0:Hp)(e:Ext H0 H)(h:Ext H0 H->WC Tryz.prog top c Q ⟨n,t,ds⟩ H):WC Tryz.prog top c Q ⟨n,t,ds⟩ H:=h e
theorem qN{next:AF->Hp->Prop}{A:AF}(h:Q .ret A H):I5 next Q .ret A H:=h
theorem qO{id:Nat}{A:AF}(h:Q .ret A H):HD id Q .ret A H:=h
theorem nW{next:AF->Hp->Prop}{A:AF}{id:Nat}(h:Q (.exit id) A H):I5 next Q (.exit id) A H:=h
theorem ab{id:Nat}{A:AF}(h:Q .norm A H):HD id Q (.exit id) A H:=by
 show(if id=id then Q .norm A H else Q (.exit id) A H)
 rw[if_pos rfl];exact h
theorem aa{i id:Nat}{A:AF}(hn:Nat.beq i id=false)(h:Q (.exit i) A H):HD id Q (.exit i) A H:=by
 show(if i=id then Q .norm A H else Q (.exit i) A H)
 rw[if_neg (fun e=>by subst e;rw[Nat.beq_refl]at hn;cases hn)];exact h
theorem R4{c:Operand}{x y:Code}(hx:okX c=true)(hc:eT t c= .bool true)(h:WC Tryz.prog top x Q ⟨n,t,ds⟩ H):WC Tryz.prog top (.cond c x y) Q ⟨n,t,ds⟩ H:=
 pN hx hc (fun _=>h) (fun e=>by cases e)
theorem oy{c:Operand}{x y:Code}(hx:okX c=true)(hc:eT t c= .bool false)(h:WC Tryz.prog top y Q ⟨n,t,ds⟩ H):WC Tryz.prog top (.cond c x y) Q ⟨n,t,ds⟩ H:=
 pN hx hc (fun e=>by cases e) (fun _=>h)
theorem wN{c:Operand}{x y:Code}{a b:Int}(hx:okX c=true)(hc:eT t c= .bool (a==b))(h1:a=b->WC Tryz.prog top x Q ⟨n,t,ds⟩ H)(h2:¬a=b->WC Tryz.prog top y Q ⟨n,t,ds⟩ H):WC Tryz.prog top (.cond c x y) Q ⟨n,t,ds⟩ H:=
 pN hx hc (fun e=>h1 (by simpa using e)) (fun e=>h2 (by simpa using e))
theorem wM{c:Operand}{x y:Code}{a b:Int}(hx:okX c=true)(hc:eT t c= .bool (a !=b))(h1:¬a=b->WC Tryz.prog top x Q ⟨n,t,ds⟩ H)(h2:a=b->WC Tryz.prog top y Q ⟨n,t,ds⟩ H):WC Tryz.prog top (.cond c x y) Q ⟨n,t,ds⟩ H:=
 pN hx hc (fun e=>h1 (by simpa using e)) (fun e=>h2 (by simpa using e))
end
theorem C4{g:FuncId}{fn:Func}(hf:Tryz.prog.funcs[g]? =some fn): (fn.name=="runtime.NumGoroutine")=false:=by
 have h:=AS.1 My fn (by rw[<-Ae]at hf;exact Ao hf);simpa using h
section
variable{top:Bool}{ops:Array Oper}{l:List Oper}{Q:AF->Hp->Prop}{n nf:Nat}{t:Nat->Value}{ds:List Deferred}{H:Hp}{o:Oper}
noncomputable def oA(n:Nat)(o:Oper):Option (Nat×FuncId×List Operand):=match o.dst,o.guard,o.op with
 |some d,none,.call {callee:= .value (.func g),args,.. }=>bif Nat.blt d n&&IL o.op then some (d,g,args.toList)else none
 |_,_,_=>none
theorem TG{n d:Nat}{g:FuncId}{args:List Operand}{o:Oper}(h:oA n o=some (d,g,args)):o.dst=some d/\Nat.blt d n=true/\IL o.op=true/\o.guard=none/\∃ats,o.op= .call {callee:= .value (.func g),args:=⟨args⟩,argTypes:=ats}:=by
 unfold oA at h;split at h
 ·rename_i d' g' args' ats h1 h2 h3;cases hb: (Nat.blt d' n&&IL o.op)with
  |false=>rw[hb]at h;cases h
  |true=>
   rw[hb]at h;cases h
   rw[AA]at hb;exact⟨h1,hb.1,hb.2,h2,ats,h3⟩
 ·cases h
theorem oc{d:Nat}{g:FuncId}{args:List Operand}{vs:List Value}{QF:Value->Hp->Prop}(hf0:Fr H nf)(hc:oA n o=some (d,g,args))(hv:args.map (eT t)=vs)(h:Ct g vs QF H)(k:∀v H' nf',nf<=nf'->QF v H'->Fr H' nf'->WL top ops l Q ⟨n,st t d v,ds⟩ H'):WL top ops (o::l) Q ⟨n,t,ds⟩ H:=by
 obtain⟨hd,hn,hx,hg,ats,hop⟩:=TG hc;obtain⟨⟨fn,c,hf,hb⟩,h⟩:=h;refine CL hx (BY hg _) (WOp.call (first:= #[]) (cap:= #[]) hop rfl hf hb (C4 hf) ?_);have e: (#[]:Array Value).toList++args.map (eT t)++(#[]:Array Value).toList=vs:=by simpa using hv
 dsimp only;rw[e];exact h.fin.mono fun v H' q=>by rw[hd,CT hn];obtain⟨q,nf2,hf⟩:=q;exact k v H' _ (Nat.le_max_right nf2 nf) q (hf.up (Nat.le_max_left _ _))
theorem op{d:Nat}{g:FuncId}{args:List Operand}{vs:List Value}{v:Value}(hc:oA n o=some (d,g,args))(hv:args.map (eT t)=vs)(h:Pure g vs v H)(k:WL top ops l Q ⟨n,st t d v,ds⟩ H):WL top ops (o::l) Q ⟨n,t,ds⟩ H:=by
 obtain⟨hd,hn,hx,hg,ats,hop⟩:=TG hc;obtain⟨⟨fn,c,hf,hb⟩,h⟩:=h;refine CL hx (BY hg _) (WOp.call (first:= #[]) (cap:= #[]) hop rfl hf hb (C4 hf) ?_);have e: (#[]:Array Value).toList++args.map (eT t)++(#[]:Array Value).toList=vs:=by simpa using hv
 dsimp only;rw[e];exact h.mono fun u H' q=>by obtain⟨rfl,rfl⟩:=q;rw[hd,CT hn];exact k
noncomputable def dD(ops:Array Oper)(n:Nat)(o:Oper):Option (Nat×Nat×Bool):=match o.dst,o.guard with
 |some d,some (j,w)=>match(ops[j]?).bind (·.dst)with
  |some dj=>bif Nat.blt d n&&IL o.op then some (d,dj,w)else none
  |none=>none
 |_,_=>none
theorem Oe{j dj:Nat}(h: (ops[j]?).bind (·.dst)=some dj):yiel ops t j=ob (t dj):=by
 unfold yiel ob;rw[h];simp only[AU];split
 ·rename_i b hb;rw[AC hb]
 ·rename_i hb;split
  ·rename_i b hb2;exact absurd (congrArg some hb2) (hb b)
  ·rfl
theorem Mz{d dj:Nat}{w:Bool}(h:dD ops n o=some (d,dj,w)):o.dst=some d/\Nat.blt d n=true/\IL o.op=true/\Region.wanted o (yiel ops t)=(ob (t dj)==some w):=by
 unfold dD at h;split at h
 ·rename_i d' j w' h1 h2;split at h
  ·rename_i dj' h3;cases hb: (Nat.blt d' n&&IL o.op)with
   |false=>rw[hb]at h;cases h
   |true=>
    rw[hb]at h;cases h
    rw[AA]at hb;refine⟨h1,hb.1,hb.2,?_⟩;unfold Region.wanted;rw[h2];dsimp only;rw[Oe h3]
  ·cases h
 ·cases h
theorem og{d dj:Nat}{w c:Bool}{v:Value}(hf:Fr H nf)(hc:dD ops n o=some (d,dj,w))(hg: (ob (t dj)==some w)=c)(h:c=true->hop tz H nf (eT t) o.op=some (v,[]))(k:WL top ops l Q ⟨n,st t d (gw c v),ds⟩ H):WL top ops (o::l) Q ⟨n,t,ds⟩ H:=by
 obtain⟨hd,hn,hx,hw⟩:=Mz (t:=t) hc;rw[hg]at hw;cases c with
 |true=>exact CL hx hw (WOp.hop Cv Ce hf.at (h rfl) (by rw[hd,CT hn];exact k))
 |false=>exact Ld hw (by rw[hd,CT hn];exact k)
theorem xN{d dj:Nat}{w c:Bool}{g:FuncId}{args:Array Operand}{ats:Array TypeId}{vs:List Value}{v:Value}(hc:dD ops n o=some (d,dj,w))(hop:o.op= .call {callee:= .value (.func g),args,argTypes:=ats})(hg: (ob (t dj)==some w)=c)(hv:c=true->args.toList.map (eT t)=vs)(h:c=true->Pure g vs v H)(k:WL top ops l Q ⟨n,st t d (gw c v),ds⟩ H):WL top ops (o::l) Q ⟨n,t,ds⟩ H:=by
 obtain⟨hd,hn,hx,hw⟩:=Mz (t:=t) hc;rw[hg]at hw;cases c with
 |true=>
  obtain⟨⟨fn,c,hf,hb⟩,h⟩:=h rfl;refine CL hx hw (WOp.call (first:= #[]) (cap:= #[]) hop rfl hf hb (C4 hf) ?_);have e: (#[]:Array Value).toList++args.toList.map (eT t)++(#[]:Array Value).toList=vs:=by simpa using hv rfl
  rw[e];exact h.mono fun u H' q=>by obtain⟨rfl,rfl⟩:=q;rw[hd,CT hn];exact k
 |false=>exact Ld hw (by rw[hd,CT hn];exact k)
end
end
section
variable{H G:Hp}
variable{l:List Value}
theorem LS (h:Ext H G) {p:Addr} {n:Nat}  (k:ld H p n=some l):ld G p n=some l:=by
 unfold ld at k⊢;cases hb:H p.block with
 |none=>rw[hb]at k;cases k
 |some x=>rw[hb]at k;rw[h _ _ hb];exact k
variable{t:TypeId}
theorem SV(h:Ext H G){x v:Value}(k:EC tz H t x=some v):EC tz G t x=some v:=by
 unfold EC at k⊢;split at k
 ·rename_i i p hi;split at k
  ·rename_i ha;cases hl:ld H p i.size with
   |none=>rw[hl]at k;cases k
   |some l=>rw[hl]at k;simp only[hi,ha,Ag,LS h hl];exact k
  ·rename_i ha;cases hl:ld H p 1 with
   |none=>rw[hl]at k;cases k
   |some l=>rw[hl]at k;simp only[hi,ha,LS h hl];exact k
 ·cases k
theorem YH(h:Ext H G){p:Addr}{vs:List Value}{b:AB}(k:P5 H p vs=some b):P5 G p vs=some b:=by
 unfold P5 at k⊢;cases hb:H p.block with
 |none=>rw[hb]at k;cases k
 |some x=>rw[hb]at k;rw[h _ _ hb];exact k
theorem XE(h:Ext H G){s k:Nat}{v:Value}(q:ER H s k v=some l):ER G s k v=some l:=by
 unfold ER at q⊢;split at q
 ·rename_i a n c;by_cases hk:k=0
  ·simp only[hk,Ag]at q⊢;exact q
  ·simp only[hk,Ab]at q⊢;cases a with
   |none=>cases q
   |some p=>
    dsimp only at q⊢;by_cases hn:k<=n
    ·simp only[hn,Ag]at q⊢;exact LS h q
    ·simp only[hn,Ab]at q;cases q
 ·cases q
theorem SB(h:Ext H G){m k v:Value}{ok:Bool}(q:F0 tz H t m k ok=some v):F0 tz G t m k ok=some v:=by
 unfold F0 at q⊢;split at q
 ·rename_i kt et hd;by_cases hk:P6 tz kt k=true
  ·simp only[hk,Ag]at q⊢;split at q
   ·exact q
   ·rename_i r;cases hb:H r with
    |none=>rw[hb]at q;cases q
    |some x=>rw[hb]at q;rw[h _ _ hb];exact q
   ·cases q
  ·simp only[hk]at q;cases q
 ·cases q
variable{r:Value×List (Nat×AB)}
theorem Wt(h:Ext H G){a:Nat}{q:TI}{s:Value}{k:Nat}{xs:List Value}(e:K5 H a q s k xs=some r):K5 G a q s k xs=some r:=by
 unfold K5 at e⊢;split at e
 ·rename_i base n c;by_cases h1:k=0
  ·simp only[h1,Ag]at e⊢;exact e
  ·simp only[h1,Ab]at e⊢;by_cases h2:c<CJ/\n+k<=c
   ·simp only[h2,and_self,Ag]at e⊢;cases base with
    |none=>cases e
    |some p=>
     dsimp only at e⊢;cases hw:P5 H (p.add (n*q.size)) xs with
     |none=>rw[hw]at e;cases e
     |some b=>rw[hw]at e;rw[YH h hw];exact e
   ·simp only[h2,Ab]at e⊢;by_cases h3: (2*(n+k)+1000)*q.bytes<=281474976710656/\n+k<4611686018427387904/\q.size≠0
    ·rw[if_pos h3]at e⊢;by_cases h4:n=0/\c<CJ
     ·rw[if_pos h4]at e⊢;exact e
     ·rw[if_neg h4]at e⊢;cases base with
      |none=>cases e
      |some p=>
       dsimp only at e⊢;cases hl:ld H p (n*q.size)with
       |none=>rw[hl]at e;cases e
       |some old=>
        rw[hl]at e;rw[LS h hl];dsimp only at e⊢;by_cases h5:c<CJ
        ·rw[if_pos h5]at e⊢;exact e
        ·rw[if_neg h5]at e⊢;by_cases h6:c=CJ+q.size/\c<i5
         ·rw[if_pos h6]at e⊢;cases hb:H p.block with
          |none=>rw[hb]at e;cases e
          |some x=>rw[hb]at e;rw[h _ _ hb];exact e
         ·rw[if_neg h6]at e;cases e
    ·rw[if_neg h3]at e;cases e
 ·cases e
theorem Oh(h:Ext H G){a:Nat}{u:TypeId}{s x:Value}(e:B5 tz H a t u s x=some r):B5 tz G a t u s x=some r:=by
 unfold B5 at e⊢;by_cases ht:t=u
 ·simp only[ht,Ag]at e⊢;split at e
  ·rename_i el a2 k c hd;cases hq:tz el with
   |none=>rw[hq]at e;cases e
   |some q=>
    rw[hq]at e;dsimp only at e⊢;cases hr:ER H q.size k (.slice a2 k c)with
    |none=>rw[hr]at e;cases e
    |some xs=>
     rw[hr]at e;rw[XE h hr];dsimp only at e⊢;by_cases ho:xs.all (·.oneCell')=true
     ·rw[if_pos ho]at e⊢;exact Wt h e
     ·rw[if_neg ho]at e;cases e
  ·cases e
 ·rw[if_neg ht]at e;cases e
def HM:Op->Bool
 | .store .. | .mapUpdate .. | .insert .. =>false
 | .call {callee:= .builtin .copy,.. }=>false
 |_=>true
theorem PH{α β:Type}{o:Option α}{f:α->β}{b:β}(h:o.map f=some b):∃a,o=some a/\f a=b:=AZ.1 h
theorem Mc(h:Ext H G){a:Nat}{ev:Operand->Value}{op:Op}(hr:HM op=true)(e:hop tz H a ev op=some r):hop tz G a ev op=some r:=by
 unfold hop at e⊢;split at e
 ·exact e
 ·exact e
 ·exact e
 ·obtain⟨v,h1,h2⟩:=PH e;rw[SV h h1];exact congrArg some h2
 ·cases hr
 ·exact e
 ·exact e
 ·obtain⟨v,h1,h2⟩:=PH e;rw[SB h h1];exact congrArg some h2
 ·cases hr
 ·cases hr
 ·exact Oh h e
 ·cases hr
 ·rename_i op h1 h2 h3 h4 h5 h6 h7 h8 h9 h10 h11 h12;exact e
end
end
end Go.Proofs.YtjlallgaadmeaaaGreatDoor
