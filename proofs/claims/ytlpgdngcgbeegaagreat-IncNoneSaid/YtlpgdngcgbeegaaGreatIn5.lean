/- Merged by pack.py: GxNQ, GxLK, IntK, GxN, DepA, UntB, UntC, GxOH, RefC, RefD, DepB, GxLC, IntC, GxLX, IntX, DepC, GxNR, DepD, MxA, GxNT, DepE, DepF, GxNL, DepG, GxOI, GreA, GxOJ, RsgA, SrAI, GxSGA, SrAJ, RsgB, ArcC, RsgC, RsgD, RsgE, RsgF, RsgG, FairP, FairQ, RsgH, GxOX. -/
import Derived.Test.YtlpgdngcgbeegaaGreatIn1
import Derived.Test.YtlpgdngcgbeegaaGreatIn2
import Derived.Test.YtlpgdngcgbeegaaGreatIn3
import Derived.Test.YtlpgdngcgbeegaaGreatIn4
namespace Go.Proofs.YtlpgdngcgbeegaaGreat.Gx
open Go
set_option linter.unusedVariables false
set_option maxRecDepth 100000
theorem F165_ok(t0:Int×Int×Int×Bool×Sl×Sl)(t1:Int×Int×Int×Bool×Sl×Sl)(w:World)(R:RV)(h:AllocP w (Obj.cells (lC53 t0).toArray 53) fun b1 w2=>AllocP w2 (Obj.cells (lC53 t1).toArray 53) fun b3 w4=>Qi w4 b1 (0+0) fun n5=>Qi w4 b3 (0+0) fun n6=>IfB (n5 != n6) (Qs w4 b1 (0+5) fun s7=>Qs w4 b3 (0+4) fun s8=>Qv' 138 #[Qy s7,Qy s8] w4 fun t11 w10=>IfB t11 (R (Value.bool true) w10) (Qs w10 b1 (0+5) fun s12=>Qs w10 b3 (0+5) fun s13=>Qv' 138 #[Qy s12,Qy s13] w10 fun t16 w15=>IfB t16 (R (Value.bool true) w15) (Qs w15 b1 (0+4) fun s17=>Qs w15 b3 (0+5) fun s18=>Qv' 138 #[Qy s17,Qy s18] w15 fun t21 w20=>R (Value.bool t21) w20))) (R (Value.bool false) w4)):Cw 165 #[(.agg (lC53 t0).toArray),(.agg (lC53 t1).toArray)] w R:=
 ckF Tryz.func165 .nil h (by kernel_rfl) (by kernel_rfl)
theorem F160_ok(t0:Int×Int×Int×Bool×Sl×Sl)(t1:Int×Int×Int×Bool×Sl×Sl)(w:World)(R:RV)(h:AllocP w (Obj.cells (lC53 t0).toArray 53) fun b1 w2=>AllocP w2 (Obj.cells (lC53 t1).toArray 53) fun b3 w4=>Qi w4 b1 (0+0) fun n5=>Qi w4 b3 (0+0) fun n6=>IfB (n5 == n6) (R (Value.bool true) w4) (∃(x7:Int×Int×Int×Bool×Sl×Sl),CellsAt w4 b1 0 (lC53 x7)/\∃(x8:Int×Int×Int×Bool×Sl×Sl),CellsAt w4 b3 0 (lC53 x8)/\Qv' 165 #[Value.agg (lC53 x7).toArray,Value.agg (lC53 x8).toArray] w4 fun t11 w10=>R (Value.bool t11) w10)):Cw 160 #[(.agg (lC53 t0).toArray),(.agg (lC53 t1).toArray)] w R:=
 ckF Tryz.func160 .nil h (by kernel_rfl) (by kernel_rfl)
noncomputable def R152_0:Code:=codeAt [1,1,1,0,1,0] (bodyOf Tryz.f152)
def R152_0a:An:=.node (.join [(27,ob)] (rg [19,27]) .nil .nil) (nd (nd (.loop [(36,oi)] (rg [12,12,36,43]) .nil)))
theorem R152_0ok1:okC tb Tryz.f152.ntmps (rA R152_0) .nil=true:=by kernel_rfl
theorem R152_0ok2:okC tb Tryz.f152.ntmps (rB R152_0) R152_0a=true:=by kernel_rfl
theorem R152_0okp:(rP R152_0).toList.all (fun p=>Nat.blt p Tryz.f152.ntmps)=true:=by kernel_rfl
theorem F152_ok(t0:Sl)(t1:Sl)(t2:Int×Int×Int×Bool×Sl×Sl)(w:World)(R:RV)(h:AllocP w (Obj.cells #[Qy t0] 102) fun b1 w2=>AllocP w2 (Obj.cells (lC53 t2).toArray 53) fun b3 w4=>AllocP w4 (Obj.map #[] 0) fun b5 w6=>AllocP w6 (Obj.cells #[Value.map none] 149) fun b7 w8=>#[Value.map (some b5)].size=1/\StoreP w8 b7 0 [Value.map (some b5)] fun w9=>AllocP w9 (Obj.cells #[Value.nilFunc] 223) fun b10 w11=>#[Value.func (Fn.func 202) #[] #[Value.pointer (some ⟨b7,0,none⟩)]].size=1/\StoreP w11 b10 0 [Value.func (Fn.func 202) #[] #[Value.pointer (some ⟨b7,0,none⟩)]] fun w12=>Cx 153 #[Qy t1] w12 fun v13 w14=>∃(x15:Nat×Array Value),v13=Value.func (Fn.func x15.1) #[] x15.2/\∀(y16:Nat->Value),RangeP Tryz.prog tb (nat_lit 47) none R152_0a (rG R152_0) (rP R152_0) (rA R152_0) (rB R152_0) (frC y16 [(3,Value.pointer (some ⟨b1,0,none⟩)),(5,Value.pointer (some ⟨b3,0,none⟩)),(6,Value.slice none 0 0),(7,Value.pointer (some ⟨b7,0,none⟩)),(8,Value.pointer (some ⟨b10,0,none⟩)),(16,Value.func (Fn.func x15.1) #[] x15.2)]) [] w14 (fun(l17:List Nat) (w18:World)=>∃(p19:Option Nat),w18.cell? ⟨b7,0,none⟩=some (Value.map p19)/\Cx 124 #[Value.map p19] w18 fun v20 w21=>∃(x22:Nat×Array Value),v20=Value.func (Fn.func x22.1) #[] x22.2/\Qu' 123 #[Value.func (Fn.func x22.1) #[] x22.2] w21 fun s25 w24=>marksP w24 l17 fun w26=>R (Qy s25) w26) (fun(l27:List Nat) (w28:World)=>marksP w28 l27 fun w29=>R (Value.slice none 0 0) w29) fun(b30:Nat) (l31:List Nat) (w32:World)=>match b30.beq 0 with|true=>∃(p34:Option Nat),w32.cell? ⟨b7,0,none⟩=some (Value.map p34)/\Cx 124 #[Value.map p34] w32 fun v35 w36=>∃(x37:Nat×Array Value),v35=Value.func (Fn.func x37.1) #[] x37.2/\Qu' 123 #[Value.func (Fn.func x37.1) #[] x37.2] w36 fun s40 w39=>marksP w39 l31 fun w41=>R (Qy s40) w41|false=>False):Cw 152 #[Qy t0,Qy t1,(.agg (lC53 t2).toArray)] w R:=
 ckF Tryz.func152 (nd (nd (nd (.node (nd (.rng [(3,.one (.box)),(5,.one (.box)),(6,.one (.sl)),(7,.one (.box)),(8,.one (.box)),(16,.one (.clo))] (.node (.join [(27,ob)] (rg [19,27]) .nil .nil) (nd (nd (.loop [(36,oi)] (rg [12,12,36,43]) .nil)))))) .nil)))) h (by kernel_rfl) (by kernel_rfl)
def F152b0j2(t8:Nat)(Jn:World->Prop)(w12:World)(s48:Sl)(y49:Nat->Int->World->Prop)(b51:Nat)(n52:Int)(w53:World)(l:Nat)(D:Nat):Prop:=IfB (decide (n52<(s48.n:Int))) (Qx s48.1 n52 (s48.2:Int) fun b56 b57=>Qi w53 b56 (b57+n52.toNat) fun n58=>∃(x59:Nat×Array Value),w53.cell? ⟨t8,0,none⟩=some (Value.func (Fn.func x59.1) #[] x59.2)/\Cx x59.1 { toList:=Qz n58::x59.snd.1 } w53 fun v60 w61=>∃y62:Unit,v60=Value.tuple #[]/\Qn y49 b51 (IntKind.i64.wrap (n52+1)) w61) ((w53.1[l]? =w12.1[l]? /\w53.1[D]? =w12.1[D]?)/\Jn w53)
def F152b0j1(t3:Nat)(t8:Nat)(x17:Int)(Jn:World->Prop)(w12:World)(t29:Bool)(w30:World)(l:Nat)(D:Nat):Prop:=IfB t29 ((w30.1[l]? =w12.1[l]? /\w30.1[D]? =w12.1[D]?)/\Jn w30) (∃(x41:Nat×Array Value),w30.cell? ⟨t8,0,none⟩=some (Value.func (Fn.func x41.1) #[] x41.2)/\Cx x41.1 { toList:=Qz x17::x41.snd.1 } w30 fun v42 w43=>∃y44:Unit,v42=Value.tuple #[]/\∃s45:Sl,w43.cell? ⟨t3,0,none⟩=some (Qy s45)/\Qx s45.1 x17 (s45.2:Int) fun b46 b47=>Qs w43 b46 (b47+x17.toNat) fun s48=>Ql (α:=Int) 0 w43 fun y49 b51 n52 w53=>(F152b0j2 t8 Jn w12 s48 y49 b51 n52 w53 l D))
theorem F152b0_ok(t3:Nat)(t5:Nat)(t6:Sl)(t7:Nat)(t8:Nat)(t16:Nat×Array Value)(x17:Int)(x18:Int×Int×Int×Bool×Sl×Sl)(l D n₀:Nat)(Jn:World->Prop)(Jx:Code->World->Prop)(W:World){g:Nat->Value}(h:AllocP W (Obj.cells #[Qz 0,Qz 0,Qz 0,Value.bool false,Value.slice none 0 0,Value.slice none 0 0] 53) fun b1 w2=>(lC53 x18).toArray.size=6/\StoreP w2 b1 0 (lC53 x18) fun w3=>([]:List Nat)=[]/\(w3.1[l]? =W.1[l]? /\w3.1[D]? =W.1[D]?)/\∀(w12:World),Stb n₀ w3 w12->Its w3 w12->(∃y15:Loop,w12.1[l]? =some (Obj.loop y15))->∃(y19:Bool->World->Prop),(∃(p20:Option Nat),w12.cell? ⟨t7,0,none⟩=some (Value.map p20)/\MapGetP (TypeDesc.int IntKind.i64) w12 (Value.map p20) (Qz x17) (Value.bool false) fun(v21:Value) (t22:Bool)=>∃t23:Bool,v21=Value.bool t23/\IfB t23 (([]:List Nat)=[]/\y19 true w12) (∃(x24:Int×Int×Int×Bool×Sl×Sl),CellsAt w12 t5 0 (lC53 x24)/\∃(x25:Int×Int×Int×Bool×Sl×Sl),CellsAt w12 b1 0 (lC53 x25)/\Qv' 160 #[Value.agg (lC53 x24).toArray,Value.agg (lC53 x25).toArray] w12 fun t28 w27=>([]:List Nat)=[]/\y19 (!t28) w27))/\∀(t29:Bool)(w30:World)(y31:Nat->Value),y19 t29 w30->(F152b0j1 t3 t8 x17 Jn w12 t29 w30 l D)):
  BodyP Tryz.prog tb Tryz.f152.ntmps l D n₀ R152_0a (rP R152_0) (rA R152_0) (rB R152_0) (frC g [(3,Value.pointer (some ⟨t3,0,none⟩)),(5,Value.pointer (some ⟨t5,0,none⟩)),(6,Value.slice t6.1 t6.2 t6.3),(7,Value.pointer (some ⟨t7,0,none⟩)),(8,Value.pointer (some ⟨t8,0,none⟩)),(16,Value.func (Fn.func t16.1) #[] t16.2)]) Jn Jx [Value.int IntKind.i64 x17,(.agg (lC53 x18).toArray)] W:=
 Eq.mp (by kernel_rfl) h
theorem F202_ok(t0:Int)(t1:Nat)(w:World)(R:RV)(h:∃(p1:Option Nat),w.cell? ⟨t1,0,none⟩=some (Value.map p1)/\MapSetP (TypeDesc.int IntKind.i64) w (Value.map p1) (Qz t0) (Value.bool true) fun w2=>R (Value.tuple #[]) w2):Cw 202 #[Qz t0,Value.pointer (some ⟨t1,0,none⟩)] w R:=
 ckF Tryz.func202 .nil h (by kernel_rfl) (by kernel_rfl)
theorem F153_ok(t0:Sl)(w:World)(R:RV)(h:AllocP w (Obj.cells #[Qy t0] 39) fun b1 w2=>R (Value.func (Fn.func 203) #[] #[Value.pointer (some ⟨b1,0,none⟩)]) w2):Cw 153 #[Qy t0] w R:=
 ckF Tryz.func153 .nil h (by kernel_rfl) (by kernel_rfl)
def F203j1(t0:Nat)(t1:Nat)(R:RV)(y2:Nat->Int->World->Prop)(b4:Nat)(n5:Int)(w6:World):Prop:=IfB (decide (0<=n5)) (∃s9:Sl,w6.cell? ⟨t1,0,none⟩=some (Qy s9)/\Qx s9.1 n5 (s9.2:Int) fun b10 b11=>∃(x12:Int×Int×Int×Bool×Sl×Sl),CellsAt w6 b10 (b11+n5.toNat*6) (lC53 x12)/\YW Tryz.prog t0 #[Qz n5,Value.agg (lC53 x12).toArray] w6 fun(t13:Bool) (w14:World)=>IfB (!t13) (R (Value.tuple #[]) w14) (Qn y2 b4 (IntKind.i64.wrap (n5-1)) w14)) (R (Value.tuple #[]) w6)
theorem F203_ok(t0:Nat)(t1:Nat)(w:World)(R:RV)(h:∃s1:Sl,w.cell? ⟨t1,0,none⟩=some (Qy s1)/\Ql (α:=Int) (IntKind.i64.wrap ((s1.2:Int)-1)) w fun y2 b4 n5 w6=>(F203j1 t0 t1 R y2 b4 n5 w6)):Cw 203 #[Value.func (Fn.yield t0) #[] #[],Value.pointer (some ⟨t1,0,none⟩)] w R:=
 ckF Tryz.func203 (nd (.loop [(3,oi)] (rg [3,3,7,18]) .nil)) h (by kernel_rfl) (by kernel_rfl)
def F85j1(t0:Sl)(R:RV)(y1:Nat->Sl×Int->World->Prop)(b3:Nat)(x4:Sl×Int)(w5:World):Prop:=IfB (decide (x4.snd<(t0.n:Int))) (Qx t0.1 x4.2 (t0.2:Int) fun b8 b9=>∃(x10:Int×Int×Int×Bool×Sl×Sl),CellsAt w5 b8 (b9+x4.2.toNat*6) (lC53 x10)/\AllocP w5 (Obj.cells #[Qz 0,Qz 0,Qz 0,Value.bool false,Value.slice none 0 0,Value.slice none 0 0] 53) fun b11 w12=>(lC53 x10).toArray.size=6/\StoreP w12 b11 0 (lC53 x10) fun w13=>(0<=x4.2/\x4.2<=(t0.3:Int))/\∃(x14:Int×Int×Int×Bool×Sl×Sl),CellsAt w13.drew b11 0 (lC53 x14)/\Qu' 152 #[Qy x4.fst,Value.slice (slAddr t0.1 t0.3 0 6) x4.2.toNat t0.3,Value.agg (lC53 x14).toArray] w13.drew fun s17 w16=>1*1<=16777216/\AllocP w16 (Obj.cells #[Qy s17] 30) fun b18 w19=>∃(l20:List Value),ReadC w19 (some ⟨b18,0,none⟩) (1*1) l20/\AppendP tt30 30 w19 x4.fst.1 x4.fst.2 x4.fst.3 1 l20 fun s21 w22=>Qn y1 b3 ({ p:=s21.1,n:=s21.2,c:=s21.3 },IntKind.i64.wrap (x4.2+1)) w22) (R (Qy x4.fst) w5)
theorem F85_ok(t0:Sl)(w:World)(R:RV)(h:Ql (α:=Sl×Int) ({ p:=none,n:=0,c:=0 },0) w fun y1 b3 x4 w5=>(F85j1 t0 R y1 b3 x4 w5)):Cw 85 #[Qy t0] w R:=
 ckF Tryz.func85 (nd (nd (.node (nd (.loop [(3,.one (.sl)),(8,oi)] (rg [3,5,8,22]) (nd (nd (.node (nd (.draw (sts [0,1,2,3,4,5] (.ac 6 [0] (.ac 7 [0] (.ac 8 [] (.st 9 .fin) .non) .non) .non)))) .nil))))) .nil))) h (by kernel_rfl) (by kernel_rfl)
def F118j1(t1:Sl)(R:RV)(b1:Nat)(s5:Sl)(y6:Nat->Sl×Int->World->Prop)(b8:Nat)(x9:Sl×Int)(w10:World):Prop:=IfB (decide (x9.snd<(s5.n:Int))) (Qx s5.1 x9.2 (s5.2:Int) fun b13 b14=>Qs w10 b13 (b14+x9.2.toNat) fun s15=>Qu' 111 #[Qy s15] w10 fun s18 w17=>1*1<=16777216/\AllocP w17 (Obj.cells #[Qy s18] 30) fun b19 w20=>∃(l21:List Value),ReadC w20 (some ⟨b19,0,none⟩) (1*1) l21/\AppendP tt30 30 w20 x9.fst.1 x9.fst.2 x9.fst.3 1 l21 fun s22 w23=>Qn y6 b8 ({ p:=s22.1,n:=s22.2,c:=s22.3 },IntKind.i64.wrap (x9.2+1)) w23) (∃(x25:Int×Int×Int×Bool×Sl×Sl),CellsAt w10 b1 0 (lC53 x25)/\Qu' 152 #[Qy s5,Qy t1,Value.agg (lC53 x25).toArray] w10 fun s28 w27=>1*1<=16777216/\AllocP w27 (Obj.cells #[Qy s28] 30) fun b29 w30=>∃(l31:List Value),ReadC w30 (some ⟨b29,0,none⟩) (1*1) l31/\AppendP tt30 30 w30 x9.fst.1 x9.fst.2 x9.fst.3 1 l31 fun s32 w33=>R (Qy s32) w33)
def F118j2(t0:Sl)(t1:Sl)(R:RV)(b1:Nat)(y34:Nat->Sl×Int->World->Prop)(b36:Nat)(x37:Sl×Int)(w38:World):Prop:=IfB (decide (x37.snd<(t0.n:Int))) (Qx t0.1 x37.2 (t0.2:Int) fun b41 b42=>Qs w38 b41 (b42+x37.2.toNat) fun s43=>Qu' 111 #[Qy s43] w38 fun s46 w45=>1*1<=16777216/\AllocP w45 (Obj.cells #[Qy s46] 30) fun b47 w48=>∃(l49:List Value),ReadC w48 (some ⟨b47,0,none⟩) (1*1) l49/\AppendP tt30 30 w48 x37.fst.1 x37.fst.2 x37.fst.3 1 l49 fun s50 w51=>Qn y34 b36 ({ p:=s50.1,n:=s50.2,c:=s50.3 },IntKind.i64.wrap (x37.2+1)) w51) (∃(x53:Int×Int×Int×Bool×Sl×Sl),CellsAt w38 b1 0 (lC53 x53)/\Qu' 152 #[Qy t0,Qy t1,Value.agg (lC53 x53).toArray] w38 fun s56 w55=>1*1<=16777216/\AllocP w55 (Obj.cells #[Qy s56] 30) fun b57 w58=>∃(l59:List Value),ReadC w58 (some ⟨b57,0,none⟩) (1*1) l59/\AppendP tt30 30 w58 x37.fst.1 x37.fst.2 x37.fst.3 1 l59 fun s60 w61=>R (Qy s60) w61)
theorem F118_ok(t0:Sl)(t1:Sl)(t2:Int×Int×Int×Bool×Sl×Sl)(w:World)(R:RV)(h:AllocP w (Obj.cells (lC53 t2).toArray 53) fun b1 w2=>IfB ((t0.2:Int) != (t1.2:Int)) (Qu' 85 #[Qy t1] w2 fun s5 w4=>Ql (α:=Sl×Int) ({ p:=none,n:=0,c:=0 },0) w4 fun y6 b8 x9 w10=>(F118j1 t1 R b1 s5 y6 b8 x9 w10)) (Ql (α:=Sl×Int) ({ p:=none,n:=0,c:=0 },0) w2 fun y34 b36 x37 w38=>(F118j2 t0 t1 R b1 y34 b36 x37 w38))):Cw 118 #[Qy t0,Qy t1,(.agg (lC53 t2).toArray)] w R:=
 ckF Tryz.func118 (nd (nd (nd (.node (nd (.loop [(7,.one (.sl)),(19,oi)] (rg [7,7,9,9,19,28]) .nil)) .nil)))) h (by kernel_rfl) (by kernel_rfl)
theorem F124_ok(t0:Option Nat)(w:World)(R:RV)(h:AllocP w (Obj.cells #[Value.map t0] 149) fun b1 w2=>R (Value.func (Fn.func 180) #[] #[Value.pointer (some ⟨b1,0,none⟩)]) w2):Cw 124 #[Value.map t0] w R:=
 ckF Tryz.func124 .nil h (by kernel_rfl) (by kernel_rfl)
def F180(t0:Nat)(t1:Nat)(w:World)(R:RV):Prop:=∃(p1:Option Nat),w.cell? ⟨t1,0,none⟩=some (Value.map p1)/\MapItP w (Value.map p1) fun b2 w3=>Ql (α:=Unit) PUnit.unit w3 fun y4 b6 y7 w8=>NextP w8 b2 (fun w11=>R (Value.tuple #[]) w11) fun(v12 v13:Value) (w14:World)=>EntryP w14 b2 fun(v15 v16:Value)=>YW Tryz.prog t0 #[v15] w14 fun(t17:Bool) (w18:World)=>IfB (!t17) (R (Value.tuple #[]) w18) (Qn y4 b6 PUnit.unit w18)
theorem F180_ok(t0:Nat)(t1:Nat)(w:World)(R:RV)(h:F180 t0 t1 w R):Cw 180 #[Value.func (Fn.yield t0) #[] #[],Value.pointer (some ⟨t1,0,none⟩)] w R:=
 ckF Tryz.func180 (nd (.loop [] (rg [3,3,6,13]) .nil)) h (by kernel_rfl) (by kernel_rfl)
set_option linter.unusedSimpArgs false
theorem F180_eq(l b:Nat)(W:World)(R:RV):F180 l b W R=KeysF Tryz.prog l b W R:=rfl
theorem it180{w:World}{b1:Nat}{mo:MO}{ks:List Int}(hI:KeysI b1 mo w)(hks:KeysE mo ks)(hl:ks.length<=1000000):IntIt 180 #[.pointer (some ⟨b1,0,none⟩)] w fun xs=>xs.Perm ks:=
 keysIt en180 (fun l W R h=>F180_ok l b1 W R (by rw[F180_eq];exact h)) hI hks hl
section
variable {β:Type} {enc:β->Value}
end
abbrev NdV:=Int×Int×Int×Bool×Sl×Sl
abbrev nC(x:NdV):List Value:=[.int .i64 x.1,.int .i64 x.2.1,.int .i64 x.2.2.1,.bool x.2.2.2.1,.slice x.2.2.2.2.1.1 x.2.2.2.2.1.2 x.2.2.2.2.1.3,.slice x.2.2.2.2.2.1 x.2.2.2.2.2.2 x.2.2.2.2.2.3]
abbrev ndV(x:NdV):Value:=.agg #[.int .i64 x.1,.int .i64 x.2.1,.int .i64 x.2.2.1,.bool x.2.2.2.1,.slice x.2.2.2.2.1.1 x.2.2.2.2.1.2 x.2.2.2.2.1.3,.slice x.2.2.2.2.2.1 x.2.2.2.2.2.2 x.2.2.2.2.2.3]
theorem nC_len(x:NdV):(nC x).length=6:=rfl
theorem nC_one(x:NdV):One (nC x):=by intro v hv;simp at hv;rcases hv with rfl|rfl|rfl|rfl|rfl|rfl<;>rfl
structure Nd where
 v:NdV
 rs:List Spn
 ws:List Spn
abbrev nL(x:Nd):List Value:=nC x.v
theorem nL_len(x:Nd):(nL x).length=6:=rfl
theorem nL_one(x:Nd):One (nL x):=nC_one x.v
structure NdOk(w:World)(n:Nd):Prop where
 rs:Rd w n.v.2.2.2.2.1 2 (n.rs.flatMap sv)
 ws:Rd w n.v.2.2.2.2.2 2 (n.ws.flatMap sv)
 rl:n.rs.length<=1000000
 wl:n.ws.length<=1000000
theorem NdOk.ext{w w':World}{n:Nd}(h:NdOk w n)(e:Ext w w'):NdOk w' n:=⟨h.rs.ext e,h.ws.ext e,h.rl,h.wl⟩
theorem boxNd{w:World}{x:NdV}{z:Array Value}{T:TypeId}(hz:z.size=6){K:Nat->World->Prop}(hK:∀b w',w.heap.size=b->w'.heap.size=b+1->w'.heap[b]? =some (.cells (nC x).toArray T (0,0))->Ext w w'->(∀n,n<=w.heap.size->Stb n w w')->K b w'):
  AllocP w (.cells z T) fun b w2=>#[Value.int .i64 x.1,.int .i64 x.2.1,.int .i64 x.2.2.1,.bool x.2.2.2.1,.slice x.2.2.2.2.1.1 x.2.2.2.2.1.2 x.2.2.2.2.1.3,.slice x.2.2.2.2.2.1 x.2.2.2.2.2.2 x.2.2.2.2.2.3].size=6/\StoreP w2 b 0 (nC x) (K b):=
 boxCells (vs:=nC x) rfl (nC_one x) hz hK
def mtP(xs ys:List Spn):Prop:=∃k,hasS xs k/\hasS ys k
def cnfP(a b:Nd):Prop:=a.v.1≠b.v.1/\(mtP a.ws b.rs\/mtP a.ws b.ws\/mtP a.rs b.ws)
def dirP(a b:Nd):Prop:=a.v.1=b.v.1\/cnfP a b
theorem c165{w:World}{a b:Nd}(ha:NdOk w a)(hb:NdOk w b):
  Cw 165 #[ndV a.v,ndV b.v] w fun v w'=>∃r,v=.bool r/\(r=true↔cnfP a b)/\Ext w w':=by
 refine F165_ok a.v b.v w _ fun b1 w2 h2 b3 w4 h4=>?_
 have e4:Ext w w4:=(h2.ch _).trans (h4.ch _)
 have H1:=h4.at h2.new
 have H3:=h4.new
 have q1:∀ {W:World}(o:Nat),Ext w4 W->W.cell? ⟨b1,0+o,none⟩=(nC a.v)[o]? :=fun o e=>by rw[cell_of (e.at H1),Nat.zero_add];exact List.getElem?_toArray ..
 have q3:∀ {W:World}(o:Nat),Ext w4 W->W.cell? ⟨b3,0+o,none⟩=(nC b.v)[o]? :=fun o e=>by rw[cell_of (e.at H3),Nat.zero_add];exact List.getElem?_toArray ..
 refine⟨_,q1 0 (Ch.refl _ _),_,q3 0 (Ch.refl _ _),IfB.intro (fun hne=>?_) fun he=>?_⟩
 ·have hne:a.v.1≠b.v.1:=by simpa using hne
  refine⟨_,q1 5 (Ch.refl _ _),_,q3 4 (Ch.refl _ _),(c138 (ha.ws.ext e4) (hb.rs.ext e4) ha.wl hb.rl).use ?_⟩
  rintro _ w10 ⟨r1,rfl,hr1,e10⟩
  refine⟨r1,rfl,IfB.intro (fun h=>⟨true,rfl,?_,e4.trans e10⟩) fun h=>?_⟩
  ·exact⟨fun _=>⟨hne,.inl (hr1.1 h)⟩,fun _=>rfl⟩
  have n1:¬mtP a.ws b.rs:=fun h'=>by rw[hr1.2 h'] at h;cases h
  have e410:=e4.trans e10
  refine⟨_,q1 5 e10,_,q3 5 e10,(c138 (ha.ws.ext e410) (hb.ws.ext e410) ha.wl hb.wl).use ?_⟩
  rintro _ w15 ⟨r2,rfl,hr2,e15⟩
  refine⟨r2,rfl,IfB.intro (fun h=>⟨true,rfl,?_,e410.trans e15⟩) fun h=>?_⟩
  ·exact⟨fun _=>⟨hne,.inr (.inl (hr2.1 h))⟩,fun _=>rfl⟩
  have n2:¬mtP a.ws b.ws:=fun h'=>by rw[hr2.2 h'] at h;cases h
  have e415:=e410.trans e15
  refine⟨_,q1 4 (e10.trans e15),_,q3 5 (e10.trans e15),(c138 (ha.rs.ext e415) (hb.ws.ext e415) ha.rl hb.wl).use ?_⟩
  rintro _ w20 ⟨r3,rfl,hr3,e20⟩
  refine⟨r3,rfl,r3,rfl,?_,e415.trans e20⟩
  rw[hr3]
  exact⟨fun h=>⟨hne,.inr (.inr h)⟩,fun h=>by
   rcases h.2 with h|h|h
   ·exact absurd h n1
   ·exact absurd h n2
   ·exact h⟩
 ·have he:a.v.1=b.v.1:=by simpa using he
  exact⟨false,rfl,⟨fun h=>(by cases h),fun h=>absurd he h.1⟩,e4⟩
theorem c160{w:World}{a b:Nd}(ha:NdOk w a)(hb:NdOk w b):
  Cw 160 #[ndV a.v,ndV b.v] w fun v w'=>∃r,v=.bool r/\(r=true↔dirP a b)/\Ext w w':=by
 refine F160_ok a.v b.v w _ fun b1 w2 h2 b3 w4 h4=>?_
 have e4:Ext w w4:=(h2.ch _).trans (h4.ch _)
 have H1:=h4.at h2.new
 have H3:=h4.new
 refine⟨a.v.1,by rw[cell_of H1];rfl,b.v.1,by rw[cell_of H3];rfl,IfB.intro (fun he=>?_) fun hne=>?_⟩
 ·have he:a.v.1=b.v.1:=by simpa using he
  exact⟨true,rfl,⟨fun _=>.inl he,fun _=>rfl⟩,e4⟩
 ·have hne:a.v.1≠b.v.1:=by simpa using hne
  refine⟨a.v,cellsAt_of H1 fun i v hv=>by simpa using hv,b.v,cellsAt_of H3 fun i v hv=>by simpa using hv,(c165 (ha.ext e4) (hb.ext e4)).use ?_⟩
  rintro _ w10 ⟨r,rfl,hr,e10⟩
  exact⟨r,rfl,r,rfl,hr.trans ⟨.inr,fun h=>h.resolve_left hne⟩,e4.trans e10⟩
structure Hst(w:World)(t:Sl)(hs:List Nd):Prop where
 rd:Rd w t 6 (hs.flatMap nL)
 ok:∀n∈hs,NdOk w n
 len:hs.length<=1000000
 cap:t.n<=t.c
theorem Hst.ext{w w':World}{t:Sl}{hs:List Nd}(h:Hst w t hs)(e:Ext w w'):Hst w' t hs:=⟨h.rd.ext e,fun n hn=>(h.ok n hn).ext e,h.len,h.cap⟩
theorem Hst.n{w:World}{t:Sl}{hs:List Nd}(h:Hst w t hs):t.n=hs.length:=rdN nL_len (by omega) h.rd
theorem Hst.at{w:World}{t:Sl}{hs:List Nd}(h:Hst w t hs){i:Nat}{x:Nd}(hx:hs[i]? =some x):∃b o,t.p=some ⟨b,o,none⟩/\CellsAt w b (o+i*6) (nC x.v):=
 h.rd.elem (i:=i) (by have:=h.n;have:=(List.getElem?_eq_some_iff.1 hx).1;omega) (by omega) (flatGet nL_len hx)
theorem Hst.get{w:World}{t:Sl}{hs:List Nd}(h:Hst w t hs){i:Nat}{x:Nd}(hx:hs[i]? =some x):NdOk w x:=h.ok x (List.mem_of_getElem? hx)
theorem Hst.cut{w:World}{t:Sl}{hs:List Nd}(h:Hst w t hs){k:Nat}(hk:k<=hs.length):Hst w ⟨t.p,k,t.c⟩ (hs.take k):=by
 refine⟨?_,fun n hn=>h.ok n (List.mem_of_mem_take hn),by rw[List.length_take];have:=h.len;omega,by have:=h.cap;have:=h.n;dsimp only;omega⟩
 have:=h.rd.cut (k:=k) (by have:=h.n;omega)
 rw[flatTake nL_len] at this
 exact this
def EdP(hs:List Nd)(i k:Nat):Prop:=k<i/\∃a b,hs[i]? =some a/\hs[k]? =some b/\dirP a b
abbrev bkA(x:Int×NdV):Array Value:=#[iv x.1,ndV x.2]
structure InvB(b:Nat)(t:Sl)(vs:List NdV)(W:World):Prop where
 box:∃T,W.heap[b]? =some (.cells #[slV t] T (0,0))
 rd:Rd W t 6 (vs.flatMap nC)
theorem InvB.stb{n b:Nat}{t:Sl}{vs:List NdV}{W W':World}(h:InvB b t vs W)(hS:Stb n W W'):InvB b t vs W':=by
 obtain⟨⟨T,h1⟩,h2⟩:=h
 exact⟨⟨T,hS.keep _ _ h1 rfl⟩,rd_stb h2 hS⟩
theorem itB(b:Nat)(t:Sl)(vs:List NdV)(hl:vs.length<=1000000):
  Iter Tryz.prog 203 #[.pointer (some ⟨b,0,none⟩)] bkA false (fun pre x=>∃i:Nat,pre.length+i+1=vs.length/\x.1=(i:Int)/\vs[i]? =some x.2) (fun xs=>xs.length=vs.length) (InvB b t vs):=by
 refine⟨en203,fun l J Jx W hJ hJx hInv hSz _ hstep h0=>?_⟩
 have hI0:=hInv _ _ h0
 have hn:=rdN nC_len (by omega) hI0.rd
 obtain⟨T1,hT1⟩:=hI0.box
 refine F203_ok l b W _ ⟨t,by rw[cell_of hT1];rfl,fun n x w6=>∃pre:List (Int×NdV),pre.length<=vs.length/\n+pre.length=vs.length/\x=(vs.length:Int)-1-(pre.length:Int)/\J pre w6,⟨vs.length,[],Nat.zero_le _,rfl,?_,h0⟩,?_⟩
 ·rw[wrap_of (by omega) (by omega),hn];simp
 rintro n _ w6 g ⟨pre,hp,hnp,rfl,hj⟩
 have hI:=hInv _ _ hj
 obtain⟨T2,hT2⟩:=hI.box
 unfold F203j1
 refine IfB.dec (fun hge=>?_) fun hlt=>?_
 ·obtain⟨i,hi⟩:∃i:Nat,pre.length+i+1=vs.length:=⟨vs.length-1-pre.length,by omega⟩
  have hx:vs[i]? =some vs[i]:=List.getElem?_eq_getElem (by omega)
  generalize vs[i]=x at hx
  have hie:(vs.length:Int)-1-(pre.length:Int)=(i:Int):=by omega
  rw[hie]
  obtain⟨a,o,ha,hc⟩:=hI.rd.elem (i:=i) (by omega) (by omega) (flatGet nC_len hx)
  refine⟨t,by rw[cell_of hT2];rfl,a,o,ha,(⟨by omega,by omega⟩:(0:Int)<=(i:Int)/\(i:Int)<(t.n:Int)),x,by rw[Int.toNat_natCast];exact hc,(hstep pre ((i:Int),x) w6 hj ⟨i,hi,rfl,hx⟩).mono fun r w14 hr=>?_⟩
  cases r with
  | false=>exact IfB.yes rfl (.inr ⟨_,hr⟩)
  | true=>
   refine IfB.no rfl ⟨rfl,n-1,by omega,pre++[((i:Int),x)],by simp;omega,by simp;omega,?_,hr.1⟩
   rw[wrap_of (by omega) (by omega)]
   simp
   omega
 ·exact .inl ⟨pre,by omega,hj⟩
theorem c153(t:Sl)(w:World):Cw 153 #[slV t] w fun v w'=>∃b T,v=.func (.func 203) #[] #[.pointer (some ⟨b,0,none⟩)]/\IsAlloc w (.cells #[slV t] T (0,0)) b w':=
 F153_ok t w _ fun b w' a=>⟨b,_,rfl,a⟩
def encB(b:Bool):Value:=.bool b
theorem c202{w:World}{b r:Nat}{f:List (Int×Bool)}(k:Int)(hb:∃T,w.heap[b]? =some (.cells #[.map (some r)] T (0,0)))(hM:Mp encB w r f):
  Cw 202 #[iv k,.pointer (some ⟨b,0,none⟩)] w fun v w'=>v=.tuple #[]/\∃f',(∀k',getM f' k'=if k=k' then some true else getM f k')/\Mp encB w' r f'/\Ch (fun i=>i=r) w w':=by
 obtain⟨T,hT⟩:=hb
 refine F202_ok k b w _ ⟨some r,by rw[cell_of hT];rfl,Mp.set (enc:=encB) (v:=true) hM fun f' w' h1 h2 h3=>⟨rfl,f',h1,h2,h3⟩⟩
def dOf(n:Nd):Int×Int×Int×Bool×List Spn×List Spn:=(n.v.1,n.v.2.1,n.v.2.2.1,n.v.2.2.2.1,n.rs,n.ws)
def ownL(hs:List Nd)(sa:Int):List Nd:=hs.filter fun n=>n.v.1 == sa
theorem ownL_len(hs:List Nd)(sa:Int):(ownL hs sa).length<=hs.length:=List.length_filter_le _ _
def SpsOk(l:List Spn):Prop:=l.length<=40/\∀s∈l,mayS s
def nextP(o:Option Nd)(n:Nd)(steps:Int):Prop:=match o with
 | none=>n.v.2.2.2.1=false/\n.v.2.2.1=0
 | some m=>n.v.2.1=m.v.2.1/\match n.v.2.2.2.1,m.v.2.2.2.1 with
  | false,false=>n.v.2.2.1=m.v.2.2.1+1/\n.v.2.2.1<steps
  | false,true=>False
  | true,false=>n.v.2.2.1=m.v.2.2.1
  | true,true=>n.v.2.2.1=m.v.2.2.1-1
structure NodeOk(x:CatD)(o:Option Nd)(n:Nd):Prop where
 s0:0<=n.v.1
 c0:0<=n.v.2.1
 cn:n.v.2.1<(x.1.length:Int)
 st0:0<=n.v.2.2.1
 rs:SpsOk n.rs
 ws:SpsOk n.ws
 nx:nextP o n (nSt x n.v.2.1.toNat)
def lastOwn(hs:List Nd)(i:Nat)(s:Int):Option Nd:=(ownL (hs.take i) s).getLast?
structure HMay(x:CatD)(hs:List Nd):Prop where
 cat:CatOk x
 len:hs.length<=100
 ok:∀(i:Nat) n,hs[i]? =some n->NodeOk x (lastOwn hs i n.v.1) n
theorem c199{w:World}{t:Sl}{xs:List Spn}{t1:Nat×Array Value}{q:Spn->Bool}(h:Rd w t 2 (xs.flatMap sv))(hl:xs.length<=1000000)
  (hq:∀(x:Spn)(W:World),x∈xs->Ext w W->∀R':RV,(∀w',Ext W w'->R' (.bool (q x)) w')->Cx t1.1 { toList:=spV x::t1.2.toList } W R'):
  Cw 199 #[slV t,.func (.func t1.1) #[] t1.2] w fun v w'=>v=.bool (xs.any q)/\Ext w w':=
 F199_ok t t1 w _ ((c241 h hl hq).use fun v w' ⟨hv,e⟩=>⟨_,hv,by rw[any_idx],e⟩)
theorem c200(x:Spn)(w:World):Cw 200 #[spV x] w fun v w'=>v=.bool (bq (¬mayS x))/\Ext w w':=by
 refine F200_ok x w _ fun b1 w2 a2=>⟨x,boxAll (cs:=sv x) a2.new (Ch.refl _ _),(c201 x w2).use ?_⟩
 rintro _ w5 ⟨rfl,e5⟩
 exact⟨_,rfl,by rw[bq_neg decide_eq_true_iff],Ch.trans (a2.ch _) e5⟩
theorem c150{w:World}{t:Sl}{l:List Spn}(h:Rd w t 2 (l.flatMap sv)):Cw 150 #[slV t] w fun v w'=>∃r,v=.bool r/\(r=true↔SpsOk l)/\Ext w w':=by
 have hn:=rdN sv_len (by omega) h
 refine F150_ok t w _ (IfB.dec (fun h1=>?_) fun h1=>⟨false,rfl,⟨fun h=>(by cases h),fun h=>absurd h.1 (by omega)⟩,Ch.refl _ _⟩)
 refine(c199 (t1:=(200,#[])) (q:=fun x=>bq (¬mayS x)) h (by omega) fun x W _ e R' hR=>(c200 x W).use fun v w' ⟨hv,e'⟩=>hv ▸ hR w' e').use ?_
 rintro _ w2 ⟨rfl,e2⟩
 refine⟨_,rfl,_,rfl,?_,e2⟩
 rw[Bool.not_eq_true',any_bq]
 exact⟨fun h=>⟨by omega,h⟩,fun h=>h.2⟩
theorem c151{w:World}{t:Sl}{os:List Nd}(h:Rd w t 6 (os.flatMap nL))(hl:os.length<=1000)(n:Nd)(steps:Int)(hr:∀m∈os,0<=m.v.2.2.1/\m.v.2.2.1<=1000):
  Cw 151 #[slV t,ndV n.v,iv steps] w fun v w'=>∃r,v=.bool r/\(r=true↔nextP os.getLast? n steps)/\Ext w w':=by
 have hn:=rdN nL_len (by omega) h
 refine F151_ok t n.v steps w _ fun b1 w2 a2=>?_
 have e2:Ext w w2:=a2.ch _
 have q:=fun{W:World} (o:Nat) (e:Ext w2 W)=>boxAt (cs:=nC n.v) a2.new o e
 have r2:=Ch.refl (fun _=>False) w2
 refine IfB.intro (fun h0=>?_) fun h0=>?_
 ·have h0:t.n=0:=by
   have:(t.n:Int)=0:=by simpa using h0
   omega
  have:os=[]:=List.eq_nil_of_length_eq_zero (by omega)
  subst this
  refine⟨_,q 3 r2,IfB.intro (fun h1=>⟨_,q 2 r2,_,rfl,?_,e2⟩) fun h1=>⟨false,rfl,⟨fun h=>(by cases h),fun h=>?_⟩,e2⟩⟩
  ·have h1:n.v.2.2.2.1=false:=by simpa using h1
   rw[beq_iff_eq];exact⟨fun h=>⟨h1,h⟩,fun h=>h.2⟩
  ·have h1:n.v.2.2.2.1=true:=by simpa using h1
   have:=h.1;rw[h1] at this;cases this
 ·have h0:0<os.length:=by
   have:¬(t.n:Int)=0:=by simpa using h0
   omega
  have hx:os[os.length-1]? =some (os[os.length-1]'(by omega)):=List.getElem?_eq_getElem _
  have hlast:os.getLast?=some (os[os.length-1]'(by omega)):=by rw[List.getLast?_eq_getElem?];exact hx
  rw[hlast]
  have hm:=hr _ (List.getElem_mem (show os.length-1<os.length by omega))
  generalize os[os.length-1]'_=m at hx hm
  clear hlast
  have hw:IntKind.i64.wrap ((t.n:Int)-1)=((os.length-1:Nat):Int):=by rw[wrap_of (by omega) (by omega)];omega
  unfold F151k1
  rw[hw]
  obtain⟨b,o,hp,hc⟩:=(h.ext e2).elem (i:=os.length-1) (by omega) (by omega) (flatGet nL_len hx)
  refine⟨b,o,hp,⟨by omega,by omega⟩,m.v,by rw[Int.toNat_natCast];exact hc,fun b8 w9 a9=>⟨rfl,store_all (vs:=nC m.v) a9.new rfl (nC_one m.v) fun w10 u10=>?_⟩⟩
  have e10:Ext w2 w10:=Ext.fresh a9 u10
  have E10:Ext w w10:=e2.trans e10
  have p:=fun(o:Nat)=>boxAt (cs:=nC m.v) u10.new o (Ch.refl _ _)
  have w1:IntKind.i64.wrap (m.v.2.2.1+1)=m.v.2.2.1+1:=wrap_of (by omega) (by omega)
  have w0:IntKind.i64.wrap (m.v.2.2.1-1)=m.v.2.2.1-1:=wrap_of (by omega) (by omega)
  have no:¬nextP (some m) n steps->∃r,Value.bool false=.bool r/\(r=true↔nextP (some m) n steps)/\Ext w w10:=fun h=>⟨false,rfl,⟨fun h=>(by cases h),fun h'=>absurd h' h⟩,E10⟩
  refine⟨_,q 1 e10,_,p 1,IfB.intro (fun h1=>no fun h=>?_) fun h1=>?_⟩
  ·have h1:n.v.2.1≠m.v.2.1:=by simpa using h1
   exact h1 h.1
  have h1:n.v.2.1=m.v.2.1:=by simpa using h1
  refine⟨_,q 3 e10,IfB.intro (fun h2=>?_) fun h2=>?_⟩
  ·have h2:n.v.2.2.2.1=false:=by simpa using h2
   refine⟨_,p 3,IfB.intro (fun h3=>?_) fun h3=>no fun h=>?_⟩
   ·have h3:m.v.2.2.2.1=false:=by simpa using h3
    refine⟨_,q 2 e10,_,p 2,?_⟩
    try dsimp only
    rw[w1]
    refine IfB.intro (fun h4=>⟨_,q 2 e10,_,rfl,?_,E10⟩) fun h4=>no fun h=>?_
    ·have h4:n.v.2.2.1=m.v.2.2.1+1:=by simpa using h4
     rw[decide_eq_true_eq]
     simp only[nextP,h2,h3]
     exact⟨fun h=>⟨h1,h4,h⟩,fun h=>h.2.2⟩
    ·have h4:¬n.v.2.2.1=m.v.2.2.1+1:=by simpa using h4
     simp only[nextP,h2,h3] at h
     exact h4 h.2.1
   ·have h3:m.v.2.2.2.1=true:=by simpa using h3
    simp only[nextP,h2,h3] at h
    exact h.2
  ·have h2:n.v.2.2.2.1=true:=by simpa using h2
   refine⟨_,p 3,IfB.intro (fun h3=>⟨_,q 2 e10,_,p 2,_,rfl,?_,E10⟩) fun h3=>⟨_,q 2 e10,_,p 2,_,rfl,?_,E10⟩⟩
   ·have h3:m.v.2.2.2.1=false:=by simpa using h3
    simp only[nextP,h2,h3,beq_iff_eq]
    exact⟨fun h=>⟨h1,h⟩,fun h=>h.2⟩
   ·have h3:m.v.2.2.2.1=true:=by simpa using h3
    simp only[nextP,h2,h3,w0,beq_iff_eq]
    exact⟨fun h=>⟨h1,h⟩,fun h=>h.2⟩
def slE(t:Sl):Value:=slV t
def ownT(f:List (Int×Sl))(s:Int):Sl:=(getM f s).getD ⟨none,0,0⟩
structure OwM(W:World)(r lo:Nat)(hs:List Nd)(f:List (Int×Sl)):Prop where
 mp:Mp slE W r f
 ow:∀s,OwS W (ownT f s) 6 ((ownL hs s).flatMap nL)
 lo:∀s,∀j∈blk (ownT f s),lo<=j/\j≠r
 dj:∀s s',s≠s'->∀j∈blk (ownT f s),j∉blk (ownT f s')
theorem OwM.ext{W W':World}{r lo:Nat}{hs:List Nd}{f:List (Int×Sl)}(h:OwM W r lo hs f)(e:Ext W W'):OwM W' r lo hs f:=⟨h.mp.ext e,fun s=>(h.ow s).ext e,h.lo,h.dj⟩
theorem OwM.get{W:World}{r lo:Nat}{hs:List Nd}{f:List (Int×Sl)}(h:OwM W r lo hs f)(s:Int){K:Value->Bool->Prop}(hK:∀t,K (slV (ownT f s)) t):MapGetP (.int .i64) W (.map (some r)) (.int .i64 s) (.slice none 0 0) K:=by
 refine h.mp.get ?_
 have:=hK
 unfold ownT at this
 cases hg:getM f s with
 | none=>rw[hg] at this;exact this false
 | some t=>rw[hg] at this;exact this true
theorem OwM.add{W W1:World}{r lo bl:Nat}{hs:List Nd}{f:List (Int×Sl)}(h:OwM W r lo hs f)(hlo:lo<=W.heap.size)(hl:hs.length<=1000){n:Nd}{T:TypeId}(e1:Ext W W1)(hb:W1.heap[bl]? =some (.cells (nC n.v).toArray T (0,0)))(hbl:W.heap.size<=bl){K:World->Prop}
  (hK:∀W' f',OwM W' r lo (hs++[n]) f'->Ch (fun i=>lo<=i/\i<W.heap.size) W1 W'->K W'){b21:Nat}{cs21:List Value}{T21:TypeId}(h21:W.heap[b21]? =some (.cells cs21.toArray T21 (0,0)))(h21n:∀s,b21∉blk (ownT f s))(h21r:b21≠r)(hr:lo<=r):
  ∃l,ReadC W1 (some ⟨bl,0,none⟩) (1*6) l/\AppendP tt53 53 W1 (ownT f n.v.1).1 (ownT f n.v.1).2 (ownT f n.v.1).3 1 l fun s W2=>W2.cell? ⟨b21,0+0,none⟩=cs21[0]? /\MapSetP (.int .i64) W2 (.map (some r)) (.int .i64 n.v.1) (slV s) K:=by
 have hr0:=h.mp.lt
 have h1:=h.ext e1
 have hon:=owsN nL_len (by omega) (h.ow n.v.1)
 have hol:=ownL_len hs n.v.1
 have zz:=e1.size
 refine(h1.ow n.v.1).lit (new:=nC n.v) hb rfl (nC_one n.v) rfl rfl (by omega) (by decide) fun sx W2 ho' hn' hC' hbk=>⟨?_,?_⟩
 ·have k1:=e1.at h21
  rw[cell_of (hC'.at k1 (h21n n.v.1)),Nat.zero_add];exact List.getElem?_toArray ..
 have hM2:Mp slE W2 r f:=h1.mp.ch hC' fun hi=>(h1.lo n.v.1 r hi).2 rfl
 refine Mp.set (enc:=slE) (v:=sx) hM2 fun f' W3 hf' hM3 hC3=>hK W3 f' ⟨hM3,fun s=>?_,fun s j hj=>?_,fun s s' hne j hj=>?_⟩ ?_
 ·have hb':∀j∈blk sx,j≠r:=fun j hj e=>(hbk j hj).elim (fun h'=>(h1.lo _ j h').2 e) fun h'=>by omega
  by_cases hsa:n.v.1=s
  ·have:ownT f' s=sx:=by unfold ownT;rw[hf',if_pos hsa];rfl
   rw[this]
   have e2:ownL (hs++[n]) s=ownL hs s++[n]:=by unfold ownL;rw[List.filter_append];simp[hsa]
   rw[e2,List.flatMap_append,List.flatMap_singleton,<-hsa]
   exact ho'.ch hC3 fun j hj=>hb' j hj
  ·have:ownT f' s=ownT f s:=by unfold ownT;rw[hf',if_neg hsa]
   rw[this]
   have e2:ownL (hs++[n]) s=ownL hs s:=by unfold ownL;rw[List.filter_append];simp[hsa]
   rw[e2]
   exact((h1.ow s).ch hC' fun j hj hi=>h1.dj s n.v.1 (fun e=>hsa e.symm) j hj hi).ch hC3 fun j hj=>(h1.lo s j hj).2
 ·by_cases hsa:n.v.1=s
  ·have:ownT f' s=sx:=by unfold ownT;rw[hf',if_pos hsa];rfl
   rw[this] at hj
   rcases hbk j hj with h'|h'
   ·exact h1.lo _ j h'
   ·exact⟨by omega,by omega⟩
  ·have:ownT f' s=ownT f s:=by unfold ownT;rw[hf',if_neg hsa]
   rw[this] at hj;exact h1.lo s j hj
 ·have up:∀q,n.v.1≠q->∀j∈blk sx,j∉blk (ownT f q):=fun q hq j hj hi=>(hbk j hj).elim (fun h'=>h1.dj _ _ hq j h' hi) fun h'=>by have:=(h.ow q).lt j hi;omega
  by_cases h1':n.v.1=s
  ·have a1:ownT f' s=sx:=by unfold ownT;rw[hf',if_pos h1'];rfl
   have h2':¬n.v.1=s':=fun e=>hne (h1'.symm.trans e)
   have a2:ownT f' s'=ownT f s':=by unfold ownT;rw[hf',if_neg h2']
   rw[a1] at hj;rw[a2];exact up s' h2' j hj
  ·have a1:ownT f' s=ownT f s:=by unfold ownT;rw[hf',if_neg h1']
   rw[a1] at hj
   by_cases h2':n.v.1=s'
   ·have a2:ownT f' s'=sx:=by unfold ownT;rw[hf',if_pos h2'];rfl
    rw[a2];exact fun hi=>up s h1' j hi hj
   ·have a2:ownT f' s'=ownT f s':=by unfold ownT;rw[hf',if_neg h2']
    rw[a2];exact h1.dj s s' hne j hj
 ·exact(hC'.mono fun j hj1 hj=>⟨(h1.lo _ j hj).1,(h.ow _).lt j hj⟩).trans (hC3.mono fun j _ e=>by subst e;exact⟨hr,hr0⟩)
theorem lastOwn_at{hs:List Nd}{i:Nat}{s:Int}{m:Nd}(h:lastOwn hs i s=some m):∃j,j<i/\hs[j]? =some m/\m.v.1=s:=by
 have hm:=List.mem_of_getLast? h
 obtain⟨h1,h2⟩:=List.mem_filter.1 hm
 obtain⟨j,hj,rfl⟩:=List.getElem_of_mem h1
 rw[List.length_take] at hj
 refine⟨j,by omega,?_,by simpa using h2⟩
 rw[List.getElem_take];exact List.getElem?_eq_getElem _
def MayT(x:CatD)(hs:List Nd)(i:Nat):Prop:=∀(k:Nat) n,k<i->hs[k]? =some n->NodeOk x (lastOwn hs k n.v.1) n
theorem MayT.step{x:CatD}{hs:List Nd}{i:Nat}(hk:CatOk x)(h:MayT x hs i):∀(k:Nat) n,k<i->hs[k]? =some n->n.v.2.2.1<(nSt x n.v.2.1.toNat:Int):=by
 intro k
 induction k using Nat.strongRecOn with
 | ind k ih=>
  intro n hki hn
  have hN:=h k n hki hn
  have hc:n.v.2.1.toNat<x.1.length:=by have:=hN.c0;have:=hN.cn;omega
  have hx:x.1[n.v.2.1.toNat]? =some x.1[n.v.2.1.toNat]:=List.getElem?_eq_getElem hc
  have hl:=(hk.cls _ (List.getElem_mem hc)).l1
  have hns:=nSt_of hx
  have hnx:=hN.nx
  cases hl':lastOwn hs k n.v.1 with
  | none=>
   rw[hl'] at hnx
   have:=hnx.2
   omega
  | some m=>
   rw[hl'] at hnx
   obtain⟨j,hj,hm,_⟩:=lastOwn_at hl'
   have hmj:=ih j hj m (by omega) hm
   obtain⟨h1,h2⟩:=hnx
   rw[h1]
   cases hb:n.v.2.2.2.1<;>cases hb':m.v.2.2.2.1<;>simp only[hb,hb'] at h2
   ·rw[<-h1];exact h2.2
   ·omega
   ·omega
theorem steps_le{x:CatD}(hk:CatOk x)(c:Nat):nSt x c<=4:=by
 unfold nSt
 split
 ·rename_i y hy;exact(hk.cls y (List.mem_of_getElem? hy)).l4
 ·omega
theorem c84{w:World}{v:CatV}{x:CatD}{t:Sl}{hs:List Nd}(h:CatM w v x)(hH:Hst w t hs):
  Cw 84 #[cxV v,slV t] w fun r w'=>∃b,r=.bool b/\(b=true↔HMay x hs)/\Ext w w':=by
 have htn:=hH.n
 refine F84_ok v t w _ fun b1 w2 a2=>?_
 have e2:Ext w w2:=a2.ch _
 have no:∀ {V:World},¬HMay x hs->Ext w V->∃b,Value.bool false=.bool b/\(b=true↔HMay x hs)/\Ext w V:=fun h e=>⟨false,rfl,⟨fun h=>(by cases h),fun h'=>absurd h' h⟩,e⟩
 refine⟨v,cxN h a2.new (Ch.refl _ _),(c75 (h.ext e2)).use ?_⟩
 rintro _ w7 ⟨r,rfl,hr,e7⟩
 have e27:=e2.trans e7
 refine⟨r,rfl,IfB.intro (fun h1=>no (fun k=>?_) e27) fun h1=>IfB.dec (fun h2=>no (fun k=>by have:=k.len;omega) e27) fun h2=>?_⟩
 ·have h1:r=false:=by simpa using h1
  rw[hr.2 k.cat] at h1;cases h1
 have hk:=hr.1 (by simpa using h1)
 have h4:=hk.n4
 have hn:=cat_cl h
 intro b9 w10 a10
 have p10:=a10.here;have z10:=a10.size
 have E10:Ext w w10:=e27.trans (a10.ch _)
 have x10:Ext w2 w10:=Ch.trans e7 (a10.ch _)
 have zz2:=e2.size;have zz7:=e7.size
 refine⟨fun m n W=>∃(i:Nat)(f:List (Int×Sl)),i<=hs.length/\m+i=hs.length/\n=(i:Int)/\MayT x hs i/\OwM W b9 b9 (hs.take i) f/\Ext w2 W/\Ext w W/\b9<W.heap.size,
  ⟨hs.length,0,[],Nat.zero_le _,rfl,rfl,fun k n hk=>by omega,⟨.new a10,fun s=>.nil _ _,fun s j hj=>by simp[ownT,getM_nil,blk] at hj,fun s s' _ j hj=>by simp[ownT,getM_nil,blk] at hj⟩,x10,E10,by omega⟩,?_⟩
 rintro m _ W g ⟨i,f,hi,hmi,rfl,hT,hO,xW,XW,hbW⟩
 unfold F84j1
 refine IfB.dec (fun hlt=>?_) fun hge=>?_
 case refine_2=>
  have hi':i=hs.length:=by omega
  subst hi'
  exact⟨true,rfl,⟨fun _=>⟨hk,by omega,fun k n hn=>hT k n (List.getElem?_eq_some_iff.1 hn).1 hn⟩,fun _=>rfl⟩,XW⟩
 have hi':i<hs.length:=by omega
 have hx:hs[i]? =some hs[i]:=List.getElem?_eq_getElem hi'
 have htk:=take_succ_get hx
 generalize hs[i]=n at hx htk
 have noN:∀ {V:World},¬NodeOk x (lastOwn hs i n.v.1) n->Ext w V->∃b,Value.bool false=.bool b/\(b=true↔HMay x hs)/\Ext w V:=fun h e=>no (fun k=>h (k.ok i n hx)) e
 obtain⟨b18,o18,hp18,hc18⟩:=(hH.ext XW).at hx
 refine⟨b18,o18,hp18,⟨by omega,by omega⟩,n.v,by rw[Int.toNat_natCast];exact hc18,fun b21 w22 a22=>⟨rfl,store_all (vs:=nC n.v) a22.new rfl (nC_one n.v) fun w23 u23=>?_⟩⟩
 have p22:=a22.here
 have e23:Ext W w23:=Ext.fresh a22 u23
 have ed:=extDrew w23
 have e23d:Ext W w23.drew:=e23.trans ed
 have B21:=u23.new
 have q:=fun{V:World} (o:Nat) (e:Ext w23 V)=>boxAt (cs:=nC n.v) B21 o e
 refine⟨_,q 0 ed,IfB.dec (fun h1=>noN (fun k=>by have:=k.s0;omega) (XW.trans e23d)) fun h1=>⟨v,cxN h a2.new (xW.trans e23d),_,q 1 ed,(c149 (h.ext (XW.trans e23d)) n.v.2.1).use ?_⟩⟩
 rintro _ w30 ⟨rfl,e30⟩
 have f30:Ext w23 w30:=ed.trans e30
 have E30:Ext W w30:=e23.trans f30
 refine⟨_,rfl,IfB.intro (fun h2=>noN (fun k=>?_) (XW.trans E30)) fun h2=>⟨_,q 2 f30,IfB.dec (fun h3=>noN (fun k=>by have:=k.st0;omega) (XW.trans E30)) fun h3=>?_⟩⟩
 ·rw[decide_eq_true (show 0<=n.v.2.1/\n.v.2.1<(x.1.length:Int)/\n.v.2.1<4 by have:=k.c0;have:=k.cn;omega)] at h2;cases h2
 have hcl:0<=n.v.2.1/\n.v.2.1<(x.1.length:Int):=by
  have:=(by simpa using h2:0<=n.v.2.1/\n.v.2.1<(x.1.length:Int)/\n.v.2.1<4);omega
 unfold F84k2
 have hnd:=fun{V:World} (e:Ext w V)=>(hH.ext e).get hx
 refine⟨_,q 4 f30,(c150 (hnd (XW.trans E30)).rs).use ?_⟩
 rintro _ w35 ⟨r1,rfl,hr1,e35⟩
 have f35:=f30.trans e35
 have E35:Ext W w35:=E30.trans e35
 refine⟨r1,rfl,IfB.intro (fun h5=>noN (fun k=>?_) (XW.trans E35)) fun h5=>⟨_,q 5 f35,(c150 (hnd (XW.trans E35)).ws).use ?_⟩⟩
 ·have h5:r1=false:=by simpa using h5
  rw[hr1.2 k.rs] at h5;cases h5
 rintro _ w39 ⟨r2,rfl,hr2,e39⟩
 have f39:=f35.trans e39
 have E39:Ext W w39:=E35.trans e39
 refine⟨r2,rfl,IfB.intro (fun h6=>noN (fun k=>?_) (XW.trans E39)) fun h6=>?_⟩
 ·have h6:r2=false:=by simpa using h6
  rw[hr2.2 k.ws] at h6;cases h6
 have k1:=hr1.1 (by simpa using h5)
 have k2:=hr2.1 (by simpa using h6)
 obtain⟨C,hC⟩:=Int.eq_ofNat_of_zero_le hcl.1
 have hCl:C<x.1.length:=by omega
 have hxc:x.1[C]? =some x.1[C]:=List.getElem?_eq_getElem hCl
 generalize x.1[C]=y at hxc
 have hns:=nSt_of hxc
 obtain⟨pb,ob,sb,hpb,hcb,hsb,_⟩:=steps_at h hxc (XW.trans E39)
 have q1:w39.cell? ⟨b1,0+0,none⟩=some (slV v.1):=boxAt (cs:=cxC v) a2.new 0 (xW.trans E39)
 have n44:w39.cell? ⟨b21,0+1,none⟩=some (.int .i64 n.v.2.1):=q 1 f39
 have hcb':w39.cell? ⟨pb,ob+n.v.2.1.toNat*5+2,none⟩=some (slV sb):=by rw[hC,Int.toNat_natCast];exact hcb
 have nb:=boxAll (cs:=nC n.v) B21 f39
 have hO39:=hO.ext E39
 refine⟨_,q 0 f39,n.v,nb,v.1,q1,_,n44,pb,ob,hpb,⟨by omega,by omega⟩,sb,hcb',hO39.get n.v.1 fun _=>⟨ownT f n.v.1,rfl,hcb',n44,q1,nb,?_⟩⟩
 have hol:=ownL_len (hs.take i) n.v.1
 rw[List.length_take] at hol
 have hst:∀mm∈ownL (hs.take i) n.v.1,0<=mm.v.2.2.1/\mm.v.2.2.1<=1000:=fun mm hmm=>by
  obtain⟨g1,g2⟩:=List.mem_filter.1 hmm
  obtain⟨j,hj,rfl⟩:=List.getElem_of_mem g1
  rw[List.length_take] at hj
  have hj':hs[j]? =some (hs.take i)[j]:=by rw[List.getElem_take];exact List.getElem?_eq_getElem _
  have l1:=(hT j _ (by omega) hj').st0
  have l2:=MayT.step hk hT j _ (by omega) hj'
  have l3:=steps_le hk ((hs.take i)[j].v.2.1.toNat)
  omega
 refine(c151 (hO39.ow n.v.1).rd (by omega) n (sb.n:Int) hst).use ?_
 rintro _ w52 ⟨r3,rfl,hr3,e52⟩
 have f52:=f39.trans e52
 have E52:Ext W w52:=E39.trans e52
 have hsteps:(sb.n:Int)=(nSt x n.v.2.1.toNat:Int):=by rw[hC,Int.toNat_natCast,hns,hsb]
 rw[hsteps] at hr3
 refine⟨r3,rfl,IfB.intro (fun h7=>noN (fun k=>?_) (XW.trans E52)) fun h7=>?_⟩
 ·have h7:r3=false:=by simpa using h7
  rw[hr3.2 k.nx] at h7;cases h7
 have hNode:NodeOk x (lastOwn hs i n.v.1) n:=⟨by omega,hcl.1,hcl.2,by omega,k1,k2,hr3.1 (by simpa using h7)⟩
 have ed52:=extDrew w52
 have E52d:Ext W w52.drew:=E52.trans ed52
 have f52d:Ext w23 w52.drew:=f52.trans ed52
 have hOd:=hO.ext E52d
 have zE:=E52d.size;have zf:=f52d.size
 have z23:=e23.size
 have B21d:=f52d.at B21
 have h21n:∀s,b21∉blk (ownT f s):=fun s hj=>by have:=(hO.ow s).lt _ hj;omega
 have fin:∀ {W1:World},Ext w52.drew W1->∀(W':World)(f':List (Int×Sl)),OwM W' b9 b9 (hs.take i++[n]) f'->Ch (fun j=>b9<=j/\j<w52.drew.heap.size) W1 W'->
   ([]:List Nat)=[]/\∃b,b<m/\∃(i':Nat)(f:List (Int×Sl)),i'<=hs.length/\b+i'=hs.length/\IntKind.i64.wrap ((i:Int)+1)=(i':Int)/\MayT x hs i'/\OwM W' b9 b9 (hs.take i') f/\Ext w2 W'/\Ext w W'/\b9<W'.heap.size:=fun{W1} e1 W' f' hO' hC'=>by
  refine⟨rfl,m-1,by omega,i+1,f',hi',by omega,by rw[wrap_of (by omega) (by omega)];rfl,fun k n' hk' hn'=>?_,by rw[htk];exact hO',((xW.trans E52d).trans e1).chN hC' fun j hj=>by omega,((XW.trans E52d).trans e1).chN hC' fun j hj=>by omega,?_⟩
  ·rcases Nat.lt_or_ge k i with h'|h'
   ·exact hT k n' h' hn'
   ·have:k=i:=by omega
    subst this
    rw[hx] at hn';cases hn';exact hNode
  ·have:=hC'.size;have:=e1.size;omega
 have hsl:(hs.take i).length<=1000:=by rw[List.length_take];omega
 unfold F84k1
 refine⟨_,q 0 f52d,_,q 0 f52d,n.v,boxAll (cs:=nC n.v) B21 f52d,?_,by decide,fun b67 w68 a68=>?_⟩
 ·refine hOd.get n.v.1 fun _=>⟨ownT f n.v.1,rfl,boxAll (cs:=nC n.v) B21 f52d,q 0 f52d,by decide,fun b60 w61 a61=>⟨q 0 (f52d.trans (a61.ch _)),?_⟩⟩
  have p61:=a61.here
  exact hOd.add (by omega) hsl (a61.ch _) a61.new (by omega) (fun W' f' hO' hC'=>fin (a61.ch _) W' f' hO' hC') (b21:=b21) (cs21:=nC n.v) B21d h21n (by omega) (Nat.le_refl _)
 ·have p68:=a68.here
  have e68:Ext w52.drew w68:=a68.ch _
  refine⟨q 0 (f52d.trans e68),q 0 (f52d.trans e68),(hOd.ext e68).get n.v.1 fun _=>⟨ownT f n.v.1,rfl,q 0 (f52d.trans e68),?_⟩⟩
  exact hOd.add (by omega) hsl e68 a68.new (by omega) (fun W' f' hO' hC'=>fin e68 W' f' hO' hC') (b21:=b21) (cs21:=nC n.v) B21d h21n (by omega) (Nat.le_refl _)
def uN(x:CatD)(c d:Int)(k:Nat):Nat:=if 0<=c/\0<=d then unitN x c.toNat d.toNat k else 0
theorem lastOwn_succ{hs:List Nd}{k:Nat}{y:Nd}(hx:hs[k]? =some y)(s:Int):lastOwn hs (k+1) s=if y.v.1=s then some y else lastOwn hs k s:=by
 unfold lastOwn ownL
 rw[take_succ_get hx,List.filter_append]
 by_cases h:y.v.1=s<;>simp[h]
def InP(x:CatD)(hs:List Nd)(i k:Nat)(d:Int):Prop:=i=k\/∃a b,hs[i]? =some a/\hs[k]? =some b/\a.v.1=b.v.1/\a.v.2.2.2.1=false/\b.v.2.2.2.1=false/\uN x a.v.2.1 d a.v.2.2.1.toNat=uN x a.v.2.1 d b.v.2.2.1.toNat
theorem HMay.step{x:CatD}{hs:List Nd}(h:HMay x hs){i:Nat}{n:Nd}(hn:hs[i]? =some n):0<=n.v.2.2.1/\n.v.2.2.1<(nSt x n.v.2.1.toNat:Int)/\n.v.2.2.1<4:=by
 have h1:=(h.ok i n hn).st0
 have h2:=MayT.step h.cat (i:=hs.length) (fun k' n' _ hn'=>h.ok k' n' hn') i n (List.getElem?_eq_some_iff.1 hn).1 hn
 have h3:=steps_le h.cat n.v.2.1.toNat
 exact⟨h1,h2,by omega⟩
abbrev Dp(hs:List Nd):Nat->Nat->Prop:=TC (EdP hs)
theorem Dp_lt{hs:List Nd}{i k:Nat}(h:Dp hs i k):k<i:=by
 induction h with
 | one h=>exact h.1
 | more _ h ih=>exact Nat.lt_trans h.1 ih
structure RowOf(hs:List Nd)(i:Nat)(xs:List Int):Prop where
 srt:xs.Pairwise (· < ·)
 mem:∀k:Int,k∈xs↔∃k':Nat,k=(k':Int)/\Dp hs i k'
theorem sorted_nodup{xs:List Int}(h:xs.Pairwise (· < ·)):xs.Nodup:=h.imp fun h e=>by omega
theorem RowOf.len{hs:List Nd}{i:Nat}{xs:List Int}(h:RowOf hs i xs):xs.length<=i:=by
 have:=nodup_le (a:=xs) (b:=(List.range i).map fun k:Nat=>(k:Int)) (sorted_nodup h.srt) fun k hk=>by
  obtain⟨k',rfl,hd⟩:=(h.mem k).1 hk
  exact List.mem_map.2 ⟨k',List.mem_range.2 (Dp_lt hd),rfl⟩
 simpa using this
def FsP(hs:List Nd)(len j:Nat)(k:Int):Prop:=∃m k':Nat,k=(k':Int)/\j<=m/\EdP hs len m/\(k'=m\/Dp hs m k')
theorem FsP_top{hs:List Nd}{len:Nat}(k:Int):¬FsP hs len len k:=fun⟨m,_,_,h,h2,_⟩=>by have:=h2.1;omega
theorem FsP_zero{hs:List Nd}{len:Nat}(k:Int):FsP hs len 0 k↔∃k':Nat,k=(k':Int)/\Dp hs len k':=by
 constructor
 ·rintro⟨m,k',rfl,_,h,rfl|h'⟩
  ·exact⟨_,rfl,.one h⟩
  ·exact⟨_,rfl,(TC.one h).trans h'⟩
 ·rintro⟨k',rfl,h⟩
  obtain⟨c,hc,h⟩:=h.first
  exact⟨c,k',rfl,Nat.zero_le _,hc,h.imp Eq.symm id⟩
theorem FsP_mono{hs:List Nd}{len j:Nat}{k:Int}(h:FsP hs len (j+1) k):FsP hs len j k:=by
 obtain⟨m,k',h1,h2,h3⟩:=h
 exact⟨m,k',h1,by omega,h3⟩
theorem FsP_found{hs:List Nd}{len j:Nat}(h:FsP hs len (j+1) (j:Int))(k:Int):FsP hs len j k↔FsP hs len (j+1) k:=by
 refine⟨fun⟨m,k',h1,h2,h3,h4⟩=>?_,FsP_mono⟩
 by_cases hm:m=j
 ·subst hm
  obtain⟨m0,j',e,h5,h6,h7⟩:=h
  have e:j'=m:=by omega
  subst e
  rcases h7 with h7|h7
  ·omega
  ·refine⟨m0,k',h1,h5,h6,.inr ?_⟩
   rcases h4 with rfl|h4
   ·exact h7
   ·exact h7.trans h4
 ·exact⟨m,k',h1,by omega,h3,h4⟩
theorem FsP_not{hs:List Nd}{len j:Nat}(h:¬EdP hs len j)(k:Int):FsP hs len j k↔FsP hs len (j+1) k:=by
 refine⟨fun⟨m,k',h1,h2,h3,h4⟩=>⟨m,k',h1,?_,h3,h4⟩,FsP_mono⟩
 have:m≠j:=fun e=>h (e ▸ h3)
 omega
theorem FsP_add{hs:List Nd}{len j:Nat}(h:EdP hs len j)(k:Int):FsP hs len j k↔FsP hs len (j+1) k\/k=(j:Int)\/∃k':Nat,k=(k':Int)/\Dp hs j k':=by
 constructor
 ·rintro⟨m,k',h1,h2,h3,h4⟩
  by_cases hm:m=j
  ·subst hm
   rcases h4 with rfl|h4
   ·exact .inr (.inl h1)
   ·exact .inr (.inr ⟨k',h1,h4⟩)
  ·exact .inl ⟨m,k',h1,by omega,h3,h4⟩
 ·rintro(h'|h'|⟨k',h1,h2⟩)
  ·exact FsP_mono h'
  ·exact⟨j,j,h',Nat.le_refl _,h,.inl rfl⟩
  ·exact⟨j,k',h1,Nat.le_refl _,h,.inr h2⟩
def Fnd(W:World)(r:Nat)(P:Int->Prop):Prop:=∃f:List (Int×Bool),Mp encB W r f/\∀k,(getM f k=some true/\P k)\/(getM f k=none/\¬P k)
theorem Fnd.iff{W:World}{r:Nat}{P Q:Int->Prop}(h:Fnd W r P)(hq:∀k,Q k↔P k):Fnd W r Q:=by
 obtain⟨f,h1,h2⟩:=h
 exact⟨f,h1,fun k=>(h2 k).imp (fun h=>⟨h.1,(hq k).2 h.2⟩) fun h=>⟨h.1,fun h'=>h.2 ((hq k).1 h')⟩⟩
theorem Fnd.ch{F:Nat->Prop}{W W':World}{r:Nat}{P:Int->Prop}(h:Fnd W r P)(hc:Ch F W W')(hF:¬F r):Fnd W' r P:=by
 obtain⟨f,h1,h2⟩:=h
 exact⟨f,h1.ch hc hF,h2⟩
theorem Fnd.ext{W W':World}{r:Nat}{P:Int->Prop}(h:Fnd W r P)(hc:Ext W W'):Fnd W' r P:=h.ch hc id
theorem Fnd.stb{n:Nat}{W W':World}{r:Nat}{P:Int->Prop}(h:Fnd W r P)(hc:Stb n W W'):Fnd W' r P:=by
 obtain⟨f,h1,h2⟩:=h
 exact⟨f,h1.stb hc,h2⟩
theorem Fnd.put{W:World}{r b:Nat}{P:Int->Prop}(h:Fnd W r P)(k:Int)(hb:∃T,W.heap[b]? =some (.cells #[.map (some r)] T (0,0))):
  Cw 202 #[iv k,.pointer (some ⟨b,0,none⟩)] W fun v w'=>v=.tuple #[]/\Fnd w' r (fun k'=>P k'\/k'=k)/\Ch (fun i=>i=r) W w':=by
 obtain⟨f,h1,h2⟩:=h
 refine(c202 k hb h1).mono ?_
 rintro _ w' ⟨rfl,f',hf',hM,hC⟩
 refine⟨rfl,⟨f',hM,fun k'=>?_⟩,hC⟩
 rw[hf']
 by_cases hk:k=k'
 ·rw[if_pos hk];exact .inl ⟨rfl,.inr hk.symm⟩
 ·rw[if_neg hk]
  exact(h2 k').imp (fun h=>⟨h.1,.inl h.2⟩) fun h=>⟨h.1,fun h'=>h'.elim h.2 fun e=>hk e.symm⟩
theorem mpKeys{β:Type}{enc:β->Value}{w:World}{r:Nat}{f:List (Int×β)}(h:Mp enc w r f):∃es ck,w.heap[r]? =some (.map es ck)/\KeysE (some (r,es,ck)) (f.map (·.1)):=by
 obtain⟨es,ck,h1,h2,h3,h4,h5⟩:=h
 refine⟨es,ck,h1,?_,h3,h4,h5⟩
 have:=congrArg (List.map Prod.fst) h2
 rw[List.map_map,List.map_map] at this
 rw[List.map_map];exact this
theorem pw_le_lt{xs:List Int}(h:xs.Pairwise (· <=·))(hn:xs.Nodup):xs.Pairwise (· < ·):=(h.and hn).imp fun⟨h1,h2⟩=>by omega
theorem Fnd.keysL{W:World}{r:Nat}{P:Int->Prop}{l:List Int}(h:Fnd W r P)(hP:∀k,P k->k∈l)(hn:l.length<=1000000){K:RV}
  (hK:∀(t:Sl)(xs:List Int)(w':World),xs.Pairwise (· < ·)->(∀k,k∈xs↔P k)->OwS w' t 1 (xs.map iv)->Ext W w'->(∀j∈blk t,W.heap.size<=j)->K (slV t) w'):
  Cx 124 #[.map (some r)] W fun v w1=>∃x:Nat×Array Value,v=.func (.func x.1) #[] x.2/\Cx 123 #[.func (.func x.1) #[] x.2] w1 K:=by
 obtain⟨f,h1,h2⟩:=h
 obtain⟨es,ck,hr,hks⟩:=mpKeys h1
 have hnd:(f.map (·.1)).Nodup:=hks.2.1
 have hkm:∀k,k∈f.map (·.1)↔P k:=fun k=>by
  rw[getM_key]
  rcases h2 k with ⟨e,h⟩|⟨e,h⟩
  ·simp[e,h]
  ·simp[e,h]
 have hlen:(f.map (·.1)).length<=1000000:=by
  have:=nodup_le (a:=f.map (·.1)) (b:=l) hnd fun k hk=>hP k ((hkm k).1 hk)
  simp at this
  simp;omega
 refine CW.use (F124_ok (some r) W (fun v w'=>∃b1 T,v=.func (.func 180) #[] #[.pointer (some ⟨b1,0,none⟩)]/\IsAlloc W (.cells #[.map (some r)] T (0,0)) b1 w') fun b1 w' a=>⟨b1,_,rfl,a⟩) ?_
 rintro _ w5 ⟨b1,T,rfl,a5⟩
 have e5:Ext W w5:=a5.ch _
 have hKI:KeysI b1 (some (r,es,ck)) w5:=⟨⟨T,a5.new⟩,e5.at hr⟩
 refine⟨(180,_),rfl,(sorted_of (it180 hKI hks hlen)).use ?_⟩
 rintro _ w8 ⟨t,xs,ys,rfl,hp,hp2,_,hs,ho,e8,hb⟩
 have hpp:=hp2.trans hp
 exact hK t xs w8 (pw_le_lt hs (hpp.nodup_iff.2 hnd)) (fun k=>hpp.mem_iff.trans (hkm k)) ho (e5.trans e8) fun j hj=>by have:=hb j hj;have:=e5.size;omega
theorem Fnd.keys{W:World}{r n:Nat}{P:Int->Prop}(h:Fnd W r P)(hP:∀k,P k->0<=k/\k<(n:Int))(hn:n<=1000000){K:RV}
  (hK:∀(t:Sl)(xs:List Int)(w':World),xs.Pairwise (· < ·)->(∀k,k∈xs↔P k)->OwS w' t 1 (xs.map iv)->Ext W w'->(∀j∈blk t,W.heap.size<=j)->K (slV t) w'):
  Cx 124 #[.map (some r)] W fun v w1=>∃x:Nat×Array Value,v=.func (.func x.1) #[] x.2/\Cx 123 #[.func (.func x.1) #[] x.2] w1 K:=
 h.keysL (l:=(List.range n).map fun k:Nat=>(k:Int)) (fun k hk=>by
  have:=hP k hk
  exact List.mem_map.2 ⟨k.toNat,List.mem_range.2 (by omega),by omega⟩) (by simp;exact hn) hK
abbrev RwL:=Sl×List Int
abbrev hR(x:RwL):Value:=slV x.1
structure Rws(w:World)(t:Sl)(rows:List RwL):Prop where
 rd:Rd w t 1 (rows.map hR)
 row:∀r∈rows,Rd w r.1 1 (r.2.map iv)
theorem Rws.ext{w w':World}{t:Sl}{rows:List RwL}(h:Rws w t rows)(e:Ext w w'):Rws w' t rows:=⟨h.rd.ext e,fun r hr=>(h.row r hr).ext e⟩
theorem Rws.n{w:World}{t:Sl}{rows:List RwL}(h:Rws w t rows):t.n=rows.length:=by rw[h.rd.len1,List.length_map]
theorem Rws.at{w:World}{t:Sl}{rows:List RwL}(h:Rws w t rows){i:Nat}{x:RwL}(hx:rows[i]? =some x):(∃b o,t.p=some ⟨b,o,none⟩/\w.cell? ⟨b,o+i,none⟩=some (slV x.1))/\Rd w x.1 1 (x.2.map iv)/\x.1.n=x.2.length:=by
 have hr:=h.row x (List.mem_of_getElem? hx)
 refine⟨h.rd.elem1 (i:=i) (v:=hR x) (by rw[List.getElem?_map,hx];rfl),hr,by rw[hr.len1,List.length_map]⟩
theorem c152{w:World}{tl t:Sl}{rows:List RwL}{hs:List Nd}{n:Nd}(hL:Rws w tl rows)(hH:Hst w t hs)(hn:NdOk w n)(hrl:rows.length=hs.length)(hrow:∀i x,rows[i]? =some x->RowOf (hs++[n]) i x.2):
  Cw 152 #[slV tl,slV t,ndV n.v] w fun v w'=>∃t' xs,v=slV t'/\RowOf (hs++[n]) hs.length xs/\OwS w' t' 1 (xs.map iv)/\Ext w w'/\∀j∈blk t',w.heap.size<=j:=by
 have hlen:=hH.len
 have hsn:=hH.n
 have hln:=hL.n
 have hEd:∀i x,hs[i]? =some x->(EdP (hs++[n]) hs.length i↔dirP n x):=fun i x hx=>by
  have hi:=(List.getElem?_eq_some_iff.1 hx).1
  unfold EdP
  rw[List.getElem?_append_right (Nat.le_refl _),Nat.sub_self,List.getElem?_append_left hi,hx]
  constructor
  ·rintro⟨_,a,b,ha,hb,hd⟩
   cases ha;cases hb;exact hd
  ·exact fun hd=>⟨hi,n,x,rfl,rfl,hd⟩
 refine F152_ok tl t n.v w _ fun b1 w2 a2 b3 w4 a4 b5 w6 a6 b7 w8 a8=>⟨rfl,store_one a8.new (by simp) rfl fun w9 u9 b10 w11 a11=>⟨rfl,store_one a11.new (by simp) rfl fun w12 u12=>?_⟩⟩
 have z2:=a2.size;have z4:=a4.size;have z6:=a6.size;have z8:=a8.size;have z9:=u9.size;have z11:=a11.size;have z12:=u12.size
 have p2:=a2.here;have p4:=a4.here;have p6:=a6.here;have p8:=a8.here;have p11:=a11.here
 have x8:Ext w w8:=(((a2.ch _).trans (a4.ch _)).trans (a6.ch _)).trans (a8.ch _)
 have x9:Ext w w9:=x8.chN u9.ch fun i e=>by omega
 have x12:Ext w w12:=(x9.trans (a11.ch _)).chN u12.ch fun i e=>by omega
 refine(c153 t w12).use ?_
 rintro _ w14 ⟨pb,T,rfl,a14⟩
 have p14:=a14.here;have z14:=a14.size
 have x14:Ext w w14:=x12.trans (a14.ch _)
 have c14:Ext w12 w14:=a14.ch _
 have k1:w14.heap[b1]? =some (.cells #[slV tl] 102 (0,0)):=c14.at (u12.at (a11.at (u9.at (a8.at (a6.at (a4.at a2.new))) (by omega))) (by omega))
 have k3:w14.heap[b3]? =some (.cells (nC n.v).toArray 53 (0,0)):=c14.at (u12.at (a11.at (u9.at (a8.at (a6.at a4.new)) (by omega))) (by omega))
 have k7:w14.heap[b7]? =some (.cells #[.map (some b5)] 149 (0,0)):=c14.at (u12.at (a11.at u9.new) (by omega))
 have k10:w14.heap[b10]? =some (.cells #[.func (.func 202) #[] #[.pointer (some ⟨b7,0,none⟩)]] 223 (0,0)):=c14.at u12.new
 have hF0:Fnd w14 b5 (FsP (hs++[n]) hs.length hs.length):=⟨[],((((Mp.new a6).ext (a8.ch _)).ch u9.ch (by omega)).ext (a11.ch _)).ch (u12.ch.then c14 fun _ _ h=>h.elim) (by omega),fun k=>.inr ⟨rfl,FsP_top k⟩⟩
 refine⟨(203,#[.pointer (some ⟨pb,0,none⟩)]),rfl,fun g=>?_⟩
 obtain⟨vs,hvs⟩:∃vs,vs=hs.map (·.v):=⟨_,rfl⟩
 have hvl:vs.length=hs.length:=by rw[hvs,List.length_map]
 have hvf:hs.flatMap nL=vs.flatMap nC:=by rw[hvs,List.flatMap_map]
 let G:List (Int×NdV)->World->Prop:=fun pre W=>pre.length<=hs.length/\InvB pb t vs W/\Fnd W b5 (FsP (hs++[n]) hs.length (hs.length-pre.length))/\
  (W.heap[b1]? =some (.cells #[slV tl] 102 (0,0))/\W.heap[b3]? =some (.cells (nC n.v).toArray 53 (0,0))/\W.heap[b7]? =some (.cells #[.map (some b5)] 149 (0,0))/\W.heap[b10]? =some (.cells #[.func (.func 202) #[] #[.pointer (some ⟨b7,0,none⟩)]] 223 (0,0)))/\Ext w W
 refine range_none tbOk mixed (gf:=203) (lb:=#[.pointer (some ⟨pb,0,none⟩)]) rfl (itB pb t vs (by omega)) R152_0ok1 R152_0ok2 R152_0okp (fun _=>rfl) G (fun _ _ _=>False) ?_ (fun _ _ _ _ h=>h.elim) ?_ (fun h=>by cases h) ?_ ?_ ?_ (fun _ _ _ h=>h.elim)
 ·rintro pre A B ⟨h1,h2,h3,⟨q1,q3,q7,q10⟩,h4⟩ hS
  exact⟨h1,h2.stb hS,h3.stb hS,⟨hS.keep _ _ q1 rfl,hS.keep _ _ q3 rfl,hS.keep _ _ q7 rfl,hS.keep _ _ q10 rfl⟩,h4.stbE hS (by omega)⟩
 ·rintro pre W ⟨_,h,_⟩;exact h
 ·exact⟨Nat.zero_le _,⟨⟨T,a14.new⟩,by rw[<-hvf];exact hH.rd.ext x14⟩,hF0,⟨k1,k3,k7,k10⟩,x14⟩
 ·rintro pre ⟨xi,xv⟩ W ⟨hpl,hIB,hFn,⟨q1,q3,q7,q10⟩,hX⟩ ⟨i,hi,hxi,hxv⟩ hW
  dsimp only at hxi hxv
  subst hxi
  have hi':i<hs.length:=by omega
  have hnd:hs[i]? =some hs[i]:=List.getElem?_eq_getElem hi'
  generalize hs[i]=nd at hnd
  have hxe:xv=nd.v:=by
   rw[hvs,List.getElem?_map,hnd] at hxv
   exact(Option.some.inj hxv).symm
  subst hxe
  have hj1:hs.length-pre.length=i+1:=by omega
  have hj0:hs.length-(pre++[((i:Int),nd.v)]).length=i:=by simp;omega
  rw[hj1] at hFn
  refine F152b0_ok b1 b3 ⟨none,0,0⟩ b7 b10 (203,#[.pointer (some ⟨pb,0,none⟩)]) (i:Int) nd.v _ _ _ _ _ W ?_
  refine boxNd rfl fun bb w3 hbb hs3 h3 e3 hS3=>⟨rfl,⟨e3.old _ (by omega) id,e3.old _ (by omega) id⟩,fun w12' hS hIt hL'=>?_⟩
  have zS:=hS.size
  have e12:Ext w w12':=(hX.trans e3).stbE hS (by omega)
  have r1:=hS.keep _ _ (e3.at q1) rfl
  have r3:=hS.keep _ _ (e3.at q3) rfl
  have r7:=hS.keep _ _ (e3.at q7) rfl
  have r10:=hS.keep _ _ (e3.at q10) rfl
  have rb:=hS.keep _ _ h3 rfl
  have hFn12:=(hFn.ext e3).stb hS
  have hIB12:=(hIB.stb (hS3 w14.heap.size (by omega))).stb hS
  refine⟨fun r W30=>Ext w12' W30/\(r=true->∀k,FsP (hs++[n]) hs.length i k↔FsP (hs++[n]) hs.length (i+1) k)/\(r=false->EdP (hs++[n]) hs.length i),?_,?_⟩
  ·refine⟨some b5,by rw[cell_of r7];rfl,?_⟩
   obtain⟨f,hM,hf⟩:=hFn12
   refine hM.get ?_
   rcases hf (i:Int) with ⟨hg,hP⟩|⟨hg,hP⟩
   ·rw[hg]
    exact⟨true,rfl,IfB.yes rfl ⟨rfl,Ch.refl _ _,fun _=>FsP_found hP,fun h=>by cases h⟩⟩
   ·rw[hg]
    refine⟨false,rfl,IfB.no rfl ⟨n.v,cellsAt_of r3 fun q v hv=>by simpa using hv,nd.v,cellsAt_of rb fun q v hv=>by simpa using hv,(c160 (hn.ext e12) ((hH.get hnd).ext e12)).use ?_⟩⟩
    rintro _ w27 ⟨r,rfl,hr,e27⟩
    refine⟨r,rfl,rfl,e27,fun h=>FsP_not fun hE=>?_,fun h=>(hEd i nd hnd).2 (hr.1 (by simpa using h))⟩
    rw[hr.2 ((hEd i nd hnd).1 hE)] at h
    cases h
  ·rintro r w30 g ⟨e30,hrt,hrf⟩
   have X30:=e12.trans e30
   have z30:=e30.size
   have s1:=e30.at r1
   have s3:=e30.at r3
   have s7:=e30.at r7
   have s10:=e30.at r10
   unfold F152b0j1
   have hItW:Its W w12':=(Its.ext e3).trans hIt
   refine IfB.intro (fun h=>?_) fun h=>?_
   ·refine⟨⟨e30.old _ (by omega) id,e30.old _ (by omega) id⟩,⟨by simp;omega,⟨⟨_,e30.at hIB12.box.choose_spec⟩,hIB12.rd.ext e30⟩,?_,⟨s1,s3,s7,s10⟩,X30⟩,hItW.trans (Its.ext e30)⟩
    rw[hj0]
    exact(hFn12.ext e30).iff (hrt h)
   ·have hE:=hrf h
    refine⟨(202,#[.pointer (some ⟨b7,0,none⟩)]),by rw[cell_of s10];rfl,((hFn12.ext e30).put (i:Int) ⟨_,s7⟩).use ?_⟩
    rintro _ w43 ⟨rfl,hF43,hC43⟩
    have X43:Ext w w43:=X30.chN hC43 fun j e=>by omega
    have hrw:rows[i]? =some rows[i]:=List.getElem?_eq_getElem (by omega)
    generalize rows[i]=rw' at hrw
    obtain⟨⟨ba,oa,hpa,hca⟩,hrr,hrn⟩:=(hL.ext X43).at hrw
    have hRow:=hrow i rw' hrw
    have hRl:=hRow.len
    have t1:=hC43.at s1 (by omega)
    have t3:=hC43.at s3 (by omega)
    have t7:=hC43.at s7 (by omega)
    have t10:=hC43.at s10 (by omega)
    refine⟨(),rfl,tl,by rw[cell_of t1];rfl,ba,oa,hpa,⟨by omega,by omega⟩,rw'.1,by rw[Int.toNat_natCast];exact hca,fun m x W'=>∃q:Nat,q<=rw'.2.length/\m+q=rw'.2.length/\x=(q:Int)/\Ch (fun j=>j=b5) w43 W'/\Fnd W' b5 (fun k=>(FsP (hs++[n]) hs.length (i+1) k\/k=(i:Int))\/k∈rw'.2.take q),
     ⟨rw'.2.length,0,Nat.zero_le _,rfl,rfl,Ch.refl _ _,hF43.iff fun k=>by simp⟩,?_⟩
    rintro m _ w53 g ⟨q,hq,hmq,rfl,hC53,hF53⟩
    have X53:Ext w w53:=X43.chN hC53 fun j e=>by omega
    have u1:=hC53.at t1 (by omega)
    have u3:=hC53.at t3 (by omega)
    have u7:=hC53.at t7 (by omega)
    have u10:=hC53.at t10 (by omega)
    unfold F152b0j2
    refine IfB.dec (fun hlt=>?_) fun hge=>?_
    ·have hq':q<rw'.2.length:=by omega
     have hy:rw'.2[q]? =some rw'.2[q]:=List.getElem?_eq_getElem hq'
     generalize rw'.2[q]=y at hy
     obtain⟨bc,oc,hpc,hcc⟩:=((hL.ext X53).at hrw).2.1.elem1 (i:=q) (v:=iv y) (by rw[List.getElem?_map,hy];rfl)
     refine⟨bc,oc,hpc,⟨by omega,hlt⟩,y,by rw[Int.toNat_natCast];exact hcc,(202,#[.pointer (some ⟨b7,0,none⟩)]),by rw[cell_of u10];rfl,(hF53.put y ⟨_,u7⟩).use ?_⟩
     rintro _ w61 ⟨rfl,hF61,hC61⟩
     refine⟨(),rfl,rfl,m-1,by omega,q+1,hq',by omega,by rw[wrap_of (by omega) (by omega)];rfl,hC53.trans hC61,hF61.iff fun k=>?_⟩
     rw[take_succ_get hy,List.mem_append,List.mem_singleton]
     simp only[or_assoc]
    ·have hq':q=rw'.2.length:=by omega
     subst hq'
     rw[List.take_length] at hF53
     have hA:Ch (fun j=>j=b5) w12' w53:=(((e30.mono fun _ _ h=>h.elim).trans hC43).trans hC53)
     have hb5n:∀j m s q t,j=b5->w12'.heap[j]? ≠some (.mapIter m s q t):=fun j m s q t e=>by
      subst e
      obtain⟨f,⟨es,ck,hh,_⟩,_⟩:=hFn12
      rw[hh];simp
     refine⟨⟨hA.old _ (by omega) (by omega),hA.old _ (by omega) (by omega)⟩,⟨by simp;omega,⟨⟨_,hA.at hIB12.box.choose_spec (by omega)⟩,hIB12.rd.ch0 hA ?_⟩,?_,⟨u1,u3,u7,u10⟩,X53⟩,hItW.trans (Its.ch hA fun j e m s q t=>hb5n j m s q t e)⟩
     ·intro h0 j hj e
      have:=rd_lt hH.rd (by omega) h0 j hj
      omega
     ·rw[hj0]
      refine hF53.iff fun k=>?_
      rw[FsP_add hE k,or_assoc,<-hRow.mem]
 ·rintro xs W hxs ⟨hpl,hIB,hFn,⟨q1,q3,q7,q10⟩,hX⟩ hD
  rw[hxs,hvl,Nat.sub_self] at hFn
  refine⟨some b5,by rw[cell_of q7];rfl,hFn.keys (n:=hs.length) (fun k hk=>?_) hlen fun t' ys w' h1 h2 h3 h4 h5=>⟨t',rfl,marks_one (h4.at hD) fun w'' hu=>?_⟩⟩
  ·obtain⟨m,k',rfl,_,hE,h⟩:=hk
   have:=hE.1
   rcases h with rfl|h
   ·omega
   ·have:=Dp_lt h;omega
  ·refine⟨t',ys,rfl,⟨h1,fun k=>(h2 k).trans (FsP_zero k)⟩,h3.ch hu.ch fun j hj e=>?_,(hX.trans h4).chN hu.ch fun j e=>by omega,fun j hj=>?_⟩
   ·have:=h5 j hj;have:=heap_lt hD;omega
   ·have:=h5 j hj;have:=hX.size;omega
def F111(t0:Sl)(w:World)(R:RV):Prop:=IfB t0.1.isNone (R (Value.slice none 0 0) w) (0*1<=16777216/\AllocP w (Obj.cells #[] 3) fun b1 w2=>∃(l3:List Value),ReadC w2 t0.1 (t0.2*1) l3/\AppendP tt3 3 w2 (some ⟨b1,0,none⟩) 0 0 t0.2 l3 fun s4 w5=>R (Qy s4) w5)
theorem F111_ok(t0:Sl)(w:World)(R:RV)(h:F111 t0 w R):Cw 111 #[Qy t0] w R:=
 ckF Tryz.func111 .nil h (by kernel_rfl) (by kernel_rfl)
theorem c111{w:World}{t:Sl}{xs:List Int}(h:Rd w t 1 (xs.map iv))(hl:xs.length<=1000000):Cw 111 #[slV t] w fun v w'=>∃t',v=slV t'/\OwS w' t' 1 (xs.map iv)/\Ext w w'/\∀i∈blk t',w.heap.size<=i:=by
 have hn:=rdI h
 refine F111_ok t w _ ?_
 have e:∀R,F111 t w R=CloneF tt3 3 1 t w R:=fun _=>rfl
 rw[e]
 refine CloneF_of h rfl rfl (fun v hv=>by obtain⟨x,_,rfl⟩:=List.mem_map.1 hv;rfl) ⟨by omega,?_⟩ (fun s' w' h1 h2 h3 h4=>⟨s',rfl,h1,h3,h4⟩) fun hp=>?_
 ·show 2*t.n*8<=_
  omega
 ·have h2:=h.2
  rw[hp] at h2
  have:xs.map iv=[]:=h2
  rw[hn,List.map_eq_nil_iff.1 this];rfl
theorem EdP_take{hs:List Nd}{m i k:Nat}(hi:i<m):EdP (hs.take m) i k↔EdP hs i k:=by
 unfold EdP
 constructor
 ·rintro⟨h,a,b,ha,hb,hd⟩
  rw[List.getElem?_take,if_pos hi] at ha
  rw[List.getElem?_take,if_pos (by omega)] at hb
  exact⟨h,a,b,ha,hb,hd⟩
 ·rintro⟨h,a,b,ha,hb,hd⟩
  exact⟨h,a,b,by rw[List.getElem?_take,if_pos hi];exact ha,by rw[List.getElem?_take,if_pos (by omega)];exact hb,hd⟩
theorem Dp_take{hs:List Nd}{m i k:Nat}(hi:i<m):Dp (hs.take m) i k↔Dp hs i k:=by
 constructor
 ·intro h
  induction h with
  | one h=>exact .one ((EdP_take hi).1 h)
  | more h1 h2 ih=>exact .more ih ((EdP_take (by have:=Dp_lt h1;omega)).1 h2)
 ·intro h
  induction h with
  | one h=>exact .one ((EdP_take hi).2 h)
  | more h1 h2 ih=>exact .more ih ((EdP_take (by have:=Dp_lt h1;omega)).2 h2)
theorem RowOf_take{hs:List Nd}{m i:Nat}{xs:List Int}(hi:i<m):RowOf (hs.take m) i xs↔RowOf hs i xs:=
 ⟨fun h=>⟨h.srt,fun k=>(h.mem k).trans (exists_congr fun k'=>and_congr_right fun _=>Dp_take hi)⟩,
  fun h=>⟨h.srt,fun k=>(h.mem k).trans (exists_congr fun k'=>and_congr_right fun _=>(Dp_take hi).symm)⟩⟩
structure OwR(w:World)(n:Nat)(t:Sl)(rows:List RwL):Prop where
 own:OwS w t 1 (rows.map hR)
 row:∀r∈rows,OwS w r.1 1 (r.2.map iv)
 apart:∀r∈rows,∀j∈blk r.1,j∉blk t
 new:∀j∈blk t,n<=j
 rnew:∀r∈rows,∀j∈blk r.1,n<=j
theorem OwR.ext{w w':World}{n:Nat}{t:Sl}{rows:List RwL}(h:OwR w n t rows)(e:Ext w w'):OwR w' n t rows:=⟨h.own.ext e,fun r hr=>(h.row r hr).ext e,h.apart,h.new,h.rnew⟩
theorem OwR.rws{w:World}{n:Nat}{t:Sl}{rows:List RwL}(h:OwR w n t rows):Rws w t rows:=⟨h.own.rd,fun r hr=>(h.row r hr).rd⟩
theorem OwR.n{w:World}{m:Nat}{t:Sl}{rows:List RwL}(h:OwR w m t rows):t.n=rows.length:=h.rws.n
theorem OwR.nil(w:World)(n:Nat):OwR w n ⟨none,0,0⟩ []:=⟨.nil _ _,by simp,by simp,by simp[blk],by simp⟩
theorem OwR.add{w:World}{n:Nat}{t s:Sl}{rows:List RwL}{xs:List Int}{T:TypeId}{K:Sl->World->Prop}(h:OwR w n t rows)(hs:OwS w s 1 (xs.map iv))(hnew:∀j∈blk s,n<=j)(hap:∀j∈blk s,j∉blk t)(hn:n<=w.heap.size)(hl:rows.length<=999999)
  (hK:∀s' w',OwR w' n s' (rows++[(s,xs)])->Ch (fun i=>i∈blk t) w w'->K s' w'):
  AllocP w (.cells #[slV s] T) fun b w1=>∃l,ReadC w1 (some ⟨b,0,none⟩) (1*1) l/\AppendP tt30 30 w1 t.p t.n t.c 1 l K:=by
 intro b w1 a
 have e1:Ext w w1:=a.ch _
 have htn:=h.n
 refine(h.own.ext e1).lit (new:=[slV s]) (T':=T) a.new rfl (by intro v hv;rw[List.mem_singleton.1 hv];rfl) rfl rfl (by omega) (by decide) fun s' w' ho hn' hC hb=>hK s' w' ?_ ((e1.mono fun _ _ h=>h.elim).then hC fun _ _ h=>h)
 have hz:=a.size
 have up:∀j∈blk s',j∈blk t\/w.heap.size<=j:=fun j hj=>(hb j hj).imp id fun h=>by omega
 refine⟨by rw[List.map_append];exact ho,fun r hr=>?_,fun r hr j hj hj'=>?_,fun j hj=>?_,fun r hr j hj=>?_⟩
 ·rcases List.mem_append.1 hr with hr|hr
  ·exact((h.row r hr).ext e1).ch hC fun j hj=>h.apart r hr j hj
  ·rw[List.mem_singleton.1 hr];exact(hs.ext e1).ch hC fun j hj=>hap j hj
 ·rcases List.mem_append.1 hr with hr|hr
  ·rcases up j hj' with h'|h'
   ·exact h.apart r hr j hj h'
   ·have:=(h.row r hr).lt j hj;omega
  ·rw[List.mem_singleton.1 hr] at hj
   rcases up j hj' with h'|h'
   ·exact hap j hj h'
   ·have:=hs.lt j hj;omega
 ·rcases up j hj with h'|h'
  ·exact h.new j h'
  ·omega
 ·rcases List.mem_append.1 hr with hr|hr
  ·exact h.rnew r hr j hj
  ·rw[List.mem_singleton.1 hr] at hj;exact hnew j hj
theorem c85{w:World}{t:Sl}{hs:List Nd}(hH:Hst w t hs)(hl:hs.length<=1000):
  Cw 85 #[slV t] w fun v w'=>∃t' rows,v=slV t'/\rows.length=hs.length/\(∀i x,rows[i]? =some x->RowOf hs i x.2)/\OwR w' w.heap.size t' rows/\Ext w w':=by
 have hn:=hH.n
 refine F85_ok t w _ ⟨fun m x W=>∃(i:Nat)(so:Sl)(rows:List RwL),i<=hs.length/\m+i=hs.length/\x=(so,(i:Int))/\rows.length=i/\(∀i x,rows[i]? =some x->RowOf hs i x.2)/\OwR W w.heap.size so rows/\Ext w W,
  ⟨hs.length,0,⟨none,0,0⟩,[],Nat.zero_le _,rfl,rfl,rfl,by simp,.nil _ _,Ch.refl _ _⟩,?_⟩
 rintro m _ W g ⟨i,so,rows,hi,hmi,rfl,hrl,hrow,hO,hE⟩
 unfold F85j1
 refine IfB.dec (fun hlt=>?_) fun hge=>?_
 ·have hi':i<hs.length:=by dsimp only at hlt;omega
  have hx:hs[i]? =some hs[i]:=List.getElem?_eq_getElem hi'
  have htk:=take_succ_get hx
  generalize hs[i]=nd at hx htk
  have hW:=hH.ext hE
  obtain⟨a,o,hp,hc⟩:=hW.at hx
  refine⟨a,o,hp,(⟨by omega,by omega⟩:(0:Int)<=(i:Int)/\(i:Int)<(t.n:Int)),nd.v,by rw[Int.toNat_natCast];exact hc,boxNd rfl fun b11 w13 hb hs13 h13 e13 _=>?_⟩
  have ed:=extDrew w13
  have e1:Ext W w13.drew:=e13.trans ed
  have E1:Ext w w13.drew:=hE.trans e1
  refine⟨(⟨by omega,by have:=hH.cap;omega⟩:(0:Int)<=(i:Int)/\(i:Int)<=(t.c:Int)),nd.v,cellsAt_of (ed.at h13) fun q v hv=>by simpa using hv,?_⟩
  have hcut:=(hW.ext e1).cut (k:=i) (by omega)
  dsimp only
  rw[Int.toNat_natCast,slAddr_zero]
  refine(c152 (tl:=so) (t:=⟨t.p,i,t.c⟩) (rows:=rows) (n:=nd) (hO.rws.ext e1) hcut ((hW.get hx).ext e1) (by rw[List.length_take];omega) fun j x hjx=>?_).use ?_
  ·rw[<-htk]
   have:=(List.getElem?_eq_some_iff.1 hjx).1
   exact(RowOf_take (by omega)).2 (hrow j x hjx)
  rintro _ w16 ⟨s17,xs,rfl,hxs,ho,e16,hb17⟩
  rw[<-htk,List.length_take,Nat.min_eq_left hi] at hxs
  have hxs:=(RowOf_take (by omega)).1 hxs
  have e2:=e1.trans e16
  have hO16:=hO.ext e2
  have z1:=E1.size
  have z2:=e16.size
  have z3:=e1.size
  refine⟨s17,rfl,by decide,hO16.add ho (fun j hj=>by have:=hb17 j hj;omega) (fun j hj h=>by have:=hb17 j hj;have:=hO.own.lt j h;omega) (by omega) (by omega) fun s' w' hO' hC'=>⟨rfl,m-1,by omega,i+1,s',rows++[(s17,xs)],hi',by omega,by rw[wrap_of (by omega) (by omega)];rfl,by simp[hrl],fun j x hjx=>?_,hO',(E1.trans e16).chN hC' fun j hj=>hO.new j hj⟩⟩
  by_cases hj:j<i
  ·rw[List.getElem?_append_left (by omega)] at hjx
   exact hrow j x hjx
  ·have:=(List.getElem?_eq_some_iff.1 hjx).1
   simp at this
   have hji:j=i:=by omega
   subst hji
   rw[List.getElem?_append_right (by omega),hrl,Nat.sub_self] at hjx
   cases hjx
   exact hxs
 ·have hi':i=hs.length:=by dsimp only at hge;omega
  subst hi'
  exact⟨so,rows,rfl,hrl,hrow,hO,hE⟩
theorem addRow{w:World}{m:Nat}{tl t so:Sl}{rows out:List RwL}{hs:List Nd}{n:Nd}(hL:Rws w tl rows)(hH:Hst w t hs)(hn:NdOk w n)(hrl:rows.length=hs.length)(hrow:∀i x,rows[i]? =some x->RowOf (hs++[n]) i x.2)
  (hO:OwR w m so out)(hol:out.length=hs.length)(hout:∀i x,out[i]? =some x->RowOf (hs++[n]) i x.2)(hm:m<=w.heap.size)(hl:hs.length<=1000){T:TypeId}{K:Sl->World->Prop}
  (hK:∀s' rows' w',rows'.length=hs.length+1->(∀i x,rows'[i]? =some x->RowOf (hs++[n]) i x.2)->OwR w' m s' rows'->Ch (fun i=>i∈blk so) w w'->K s' w'):
  Cx 152 #[slV tl,slV t,ndV n.v] w fun v w1=>∃s:Sl,v=slV s/\1*1<=16777216/\AllocP w1 (.cells #[slV s] T) fun b w2=>∃l,ReadC w2 (some ⟨b,0,none⟩) (1*1) l/\AppendP tt30 30 w2 so.p so.n so.c 1 l K:=by
 refine(c152 hL hH hn hrl hrow).use ?_
 rintro _ w1 ⟨s,xs,rfl,hxs,ho,e1,hb⟩
 have z1:=e1.size
 refine⟨s,rfl,by decide,(hO.ext e1).add ho (fun j hj=>by have:=hb j hj;omega) (fun j hj h=>by have:=hb j hj;have:=hO.own.lt j h;omega) (by omega) (by omega) fun s' w' hO' hC'=>hK s' _ w' (by simp[hol]) (fun i x hix=>?_) hO' ((e1.mono fun _ _ h=>h.elim).then hC' fun _ _ h=>h)⟩
 by_cases hi:i<out.length
 ·rw[List.getElem?_append_left hi] at hix
  exact hout i x hix
 ·have:=(List.getElem?_eq_some_iff.1 hix).1
  simp at this
  have hie:i=out.length:=by omega
  subst hie
  rw[List.getElem?_append_right (Nat.le_refl _),Nat.sub_self] at hix
  cases hix
  rw[hol];exact hxs
theorem c118{w:World}{tl t:Sl}{rows:List RwL}{hs:List Nd}{n:Nd}(hL:Rws w tl rows)(hH:Hst w t hs)(hn:NdOk w n)(hrl:rows.length=hs.length)(hrow:∀i x,rows[i]? =some x->RowOf hs i x.2)(hl:hs.length<=1000):
  Cw 118 #[slV tl,slV t,ndV n.v] w fun v w'=>∃t' rows',v=slV t'/\rows'.length=hs.length+1/\(∀i x,rows'[i]? =some x->RowOf (hs++[n]) i x.2)/\OwR w' w.heap.size t' rows'/\Ext w w':=by
 have htn:=hL.n
 have hhn:=hH.n
 have hrow':∀i x,rows[i]? =some x->RowOf (hs++[n]) i x.2:=fun i x hx=>by
  have hi:=(List.getElem?_eq_some_iff.1 hx).1
  have:=hrow i x hx
  rw[<-RowOf_take (hs:=hs++[n]) (m:=hs.length) (by omega),List.take_append_of_le_length (Nat.le_refl _),List.take_length]
  exact this
 refine F118_ok tl t n.v w _ fun b1 w2 a2=>IfB.no (by simp;omega) ?_
 have e2:Ext w w2:=a2.ch _
 have p2:=a2.here;have z2:=a2.size
 refine⟨fun m x W=>∃(i:Nat)(so:Sl)(out:List RwL),i<=hs.length/\m+i=hs.length/\x=(so,(i:Int))/\out.length=i/\(∀j x,out[j]? =some x->RowOf (hs++[n]) j x.2)/\OwR W w2.heap.size so out/\Ext w2 W,
  ⟨hs.length,0,⟨none,0,0⟩,[],Nat.zero_le _,rfl,rfl,rfl,by simp,.nil _ _,Ch.refl _ _⟩,?_⟩
 rintro m _ W g ⟨i,so,out,hi,hmi,rfl,hol,hout,hO,hE⟩
 have E:=e2.trans hE
 have zE:=hE.size
 unfold F118j2
 refine IfB.dec (fun hlt=>?_) fun hge=>?_
 ·have hi':i<rows.length:=by dsimp only at hlt;omega
  have hx:rows[i]? =some rows[i]:=List.getElem?_eq_getElem hi'
  generalize rows[i]=row at hx
  obtain⟨⟨b,o,hp,hc⟩,hrr,hrn⟩:=(hL.ext E).at hx
  have hR:=hrow' i row hx
  have hRl:=hR.len
  refine⟨b,o,hp,(⟨by omega,by omega⟩:(0:Int)<=(i:Int)/\(i:Int)<(tl.n:Int)),row.1,by rw[Int.toNat_natCast];exact hc,(c111 hrr (by omega)).use ?_⟩
  rintro _ w45 ⟨s,rfl,ho,e45,hb⟩
  have z45:=e45.size
  refine⟨s,rfl,by decide,(hO.ext e45).add ho (fun j hj=>by have:=hb j hj;omega) (fun j hj h=>by have:=hb j hj;have:=hO.own.lt j h;omega) (by omega) (by omega) fun s' w' hO' hC'=>⟨rfl,m-1,by omega,i+1,s',out++[(s,row.2)],by omega,by omega,by rw[wrap_of (by omega) (by omega)];rfl,by simp[hol],fun j x hjx=>?_,hO',(hE.trans e45).chN hC' fun j hj=>hO.new j hj⟩⟩
  by_cases hj:j<i
  ·rw[List.getElem?_append_left (by omega)] at hjx
   exact hout j x hjx
  ·have:=(List.getElem?_eq_some_iff.1 hjx).1
   simp at this
   have hji:j=i:=by omega
   subst hji
   rw[List.getElem?_append_right (by omega),hol,Nat.sub_self] at hjx
   cases hjx
   exact hR
 ·have hi':i=hs.length:=by dsimp only at hge;omega
  refine⟨n.v,cellsAt_of (hE.at a2.new) fun q v hv=>by simpa using hv,addRow (hL.ext E) (hH.ext E) (hn.ext E) hrl hrow' hO (by omega) hout (by omega) hl fun s' rows' w' h1 h2 h3 h4=>⟨s',rows',rfl,h1,h2,⟨h3.own,h3.row,h3.apart,fun j hj=>by have:=h3.new j hj;omega,fun r hr j hj=>by have:=h3.rnew r hr j hj;omega⟩,E.chN h4 fun j hj=>by have:=hO.new j hj;omega⟩⟩
section
variable {E:Nat->Nat->Prop}
def Fw(E:Nat->Nat->Prop):Nat->Nat->Nat->Prop
 | 0,i,k=>E i k
 | m+1,i,k=>Fw E m i k\/(Fw E m i m/\Fw E m m k)
theorem Fw_tc:∀ {m i k:Nat},Fw E m i k->TC E i k
 | 0,_,_,h=>.one h
 | m+1,_,_,.inl h=>Fw_tc h
 | m+1,_,_,.inr ⟨h1,h2⟩=>(Fw_tc h1).trans (Fw_tc h2)
theorem Fw_trans:∀ {m i j k:Nat},j<m->Fw E m i j->Fw E m j k->Fw E m i k
 | 0,_,_,_,h,_,_=>by omega
 | m+1,i,j,k,h,h1,h2=>by
  by_cases hj:j=m
  ·subst hj
   refine .inr ⟨?_,?_⟩
   ·rcases h1 with h|h
    ·exact h
    ·exact h.1
   ·rcases h2 with h|h
    ·exact h
    ·exact h.2
  ·have hj':j<m:=by omega
   rcases h1 with h1|⟨h1,h1'⟩
   ·rcases h2 with h2|⟨h2,h2'⟩
    ·exact .inl (Fw_trans hj' h1 h2)
    ·exact .inr ⟨Fw_trans hj' h1 h2,h2'⟩
   ·rcases h2 with h2|⟨h2,h2'⟩
    ·exact .inr ⟨h1,Fw_trans hj' h1' h2⟩
    ·exact .inr ⟨h1,h2'⟩
theorem Fw_zero{i k:Nat}(h:E i k):∀m,Fw E m i k
 | 0=>h
 | m+1=>.inl (Fw_zero h m)
theorem Fw_all{n i k:Nat}(hE:∀a b,E a b->b<n)(h:TC E i k):Fw E n i k:=by
 induction h with
 | one h=>exact Fw_zero h n
 | more h1 h2 ih=>
  refine Fw_trans ?_ ih (Fw_zero h2 n)
  obtain⟨c,hc,_⟩:=h1.last
  exact hE _ _ hc
theorem Fw_iff{n i k:Nat}(hE:∀a b,E a b->b<n):Fw E n i k↔TC E i k:=⟨Fw_tc,Fw_all hE⟩
end
theorem zc_all{z:Array Value}{v:Value}(h:∀x∈z.toList,x=v)(n:Nat):zc z n=List.replicate (n*z.size) v:=by
 refine List.eq_replicate_iff.2 ⟨zc_len z n,fun x hx=>?_⟩
 unfold zc Builtin.zeroCells at hx
 rw[Array.mem_toList_iff,Array.mem_map] at hx
 obtain⟨i,hi,rfl⟩:=hx
 rw[Array.mem_range] at hi
 have h0:0<z.size:=by
  rcases Nat.eq_zero_or_pos z.size with h0|h0
  ·rw[h0,Nat.mul_zero] at hi;omega
  ·exact h0
 have hm:=Nat.mod_lt i h0
 rw[getElem!_pos z _ hm]
 exact h _ (by simp)
abbrev MxR:=Sl×List Bool
abbrev hM(x:MxR):Value:=slV x.1
abbrev nilS:Sl:=⟨none,0,0⟩
abbrev tySp:Ty:=.pair (.int .i64) (.int .i64)
abbrev tyNd:Ty:=.pair (.int .i64) (.pair (.int .i64) (.pair (.int .i64) (.pair .bool (.pair (.sl tySp) (.sl tySp)))))
theorem pickAll{α:Type}{f:α->List Value}{Q:α->Prop}:∀ {css:List (List Value)},(∀c∈css,∃n,c=f n/\Q n)->∃ns:List α,css=ns.map f/\∀n∈ns,Q n
 | [],_=>⟨[],rfl,by simp⟩
 | c::css,h=>by
  obtain⟨n,hn,hq⟩:=h c (by simp)
  obtain⟨ns,hns,hqs⟩:=pickAll (css:=css) fun c hc=>h c (List.mem_cons_of_mem _ hc)
  exact⟨n::ns,by rw[hn,hns];rfl,fun m hm=>(List.mem_cons.1 hm).elim (fun e=>e ▸ hq) (hqs m)⟩
theorem rep_each{A:Nat->Prop}{w:World}{e:Ty}{l:List e.den}{css:List (List Value)}(hl:css.length=l.length)(hr:∀(i:Nat) c x,css[i]? =some c->l[i]? =some x->rep A w e x c):∀c∈css,∃x,rep A w e x c:=fun c hc=>by
 obtain⟨i,hi,rfl⟩:=List.getElem_of_mem hc
 exact⟨_,hr i _ _ (List.getElem?_eq_getElem hi) (List.getElem?_eq_getElem (by omega))⟩
theorem rep_spans{A:Nat->Prop}{w:World}{l:List tySp.den}{cs:List Value}(h:rep A w (.sl tySp) l cs):∃(s:Sl)(xs:List Spn),cs=[slV s]/\Rd w s 2 (xs.flatMap sv)/\s.n<=s.c/\s.n<=maxLen:=by
 obtain⟨s,rfl,h1,h2,h3,h4,css,h5,h6,h7⟩:=h
 obtain⟨ns,hns,_⟩:=pickAll (f:=sv) (Q:=fun _=>True) fun c hc=>by
  obtain⟨x,c1,c2,rfl,hx1,hx2⟩:=rep_each h5 h6 c hc
  obtain⟨rfl,_⟩:=hx1
  obtain⟨rfl,_⟩:=hx2
  exact⟨x,rfl,trivial⟩
 refine⟨s,ns,rfl,?_,h2,h3⟩
 rw[List.flatMap_def,<-hns];exact h7
structure NdIn(w:World)(n:Nd):Prop where
 rs:Rd w n.v.2.2.2.2.1 2 (n.rs.flatMap sv)
 ws:Rd w n.v.2.2.2.2.2 2 (n.ws.flatMap sv)
theorem rep_nd{A:Nat->Prop}{w:World}{x:tyNd.den}{cs:List Value}(h:rep A w tyNd x cs):∃n:Nd,cs=nL n/\NdIn w n:=by
 obtain⟨c1,d1,rfl,⟨rfl,_⟩,c2,d2,rfl,⟨rfl,_⟩,c3,d3,rfl,⟨rfl,_⟩,c4,d4,rfl,h4,c5,d5,rfl,h5,h6⟩:=h
 obtain⟨s,xs,rfl,hxs,_⟩:=rep_spans h5
 obtain⟨t,ys,rfl,hys,_⟩:=rep_spans h6
 have h4:c4=[.bool x.2.2.2.1]:=h4
 subst h4
 exact⟨⟨(x.1,x.2.1,x.2.2.1,x.2.2.2.1,s,t),xs,ys⟩,rfl,hxs,hys⟩
theorem stC_all(ss:List (Sl×Sl)):One (ss.flatMap stC):=by
 intro v hv
 obtain⟨x,_,hx⟩:=List.mem_flatMap.1 hv
 exact stC_one x v hx
def F154k1(t1:Sl)(x21:Int×Int×Int)(w22:World)(t2:Int)(b20:Nat)(y18:Nat->Int×Int×Int->World->Prop)(x17:Int×Int×Bool):Prop:=Qx t1.1 x21.snd.2 (t1.2:Int) fun b25 b26=>∃(x27:Int×Int×Int×Bool×Sl×Sl),CellsAt w22 b25 (b26+Int.toNat x21.snd.2*6) (lC53 x27)/\AllocP w22 (Obj.cells #[Qz 0,Qz 0,Qz 0,Value.bool false,Value.slice none 0 0,Value.slice none 0 0] 53) fun b28 w29=>(lC53 x27).toArray.size=6/\StoreP w29 b28 0 (lC53 x27) fun w30=>Qi w30.drew b28 (0+0) fun n31=>Qx t1.1 t2 (t1.2:Int) fun b32 b33=>Qi w30.drew b32 (b33+t2.toNat*6+0) fun n34=>IfB (n31 != n34) (Qn y18 b20 (x21.1,x21.snd.1,IntKind.i64.wrap (x21.snd.2+1)) w30.drew) (Qb w30.drew b28 (0+3) fun t36=>IfB t36 (Qn y18 b20 (x21.1,x21.snd.1,IntKind.i64.wrap (x21.snd.2+1)) w30.drew) (Qi w30.drew b28 (0+2) fun n38=>IfB (decide (n38<x17.fst)) (Qn y18 b20 (x21.1,x21.snd.1,IntKind.i64.wrap (x21.snd.2+1)) w30.drew) (Qi w30.drew b28 (0+2) fun n40=>IfB (decide (x17.snd.fst<n40)) (Qn y18 b20 (x21.1,x21.snd.1,IntKind.i64.wrap (x21.snd.2+1)) w30.drew) (Qn y18 b20 (if x21.snd.snd<x21.fst then x21.snd.2 else x21.1,if x21.snd.fst<x21.snd.snd then x21.snd.2 else x21.snd.1,IntKind.i64.wrap (x21.snd.2+1)) w30.drew))))
def F154j1(t1:Sl)(t2:Int)(R:RV)(x17:Int×Int×Bool)(y18:Nat->Int×Int×Int->World->Prop)(b20:Nat)(x21:Int×Int×Int)(w22:World):Prop:=IfB (decide (x21.snd.snd<(t1.n:Int))) (F154k1 t1 x21 w22 t2 b20 y18 x17) (R (Value.tuple #[Qz x21.1,Qz x21.snd.1]) w22)
theorem F154_ok(t0:Sl×List Value)(t1:Sl)(t2:Int)(t3:Int)(w:World)(R:RV)(h:AllocP w (Obj.cells { toList:=Qy t0.fst::t0.2 } 26) fun b1 w2=>Qx t1.1 t2 (t1.2:Int) fun b3 b4=>Qb w2 b3 (b4+t2.toNat*6+3) fun t5=>IfB t5 (R (Value.tuple #[Qz t2,Qz t2]) w2) (∃(x6:Sl×List Value),CellsN w2.drew b1 0 17 (Qy x6.fst::x6.2)/\Qx t1.1 t2 (t1.2:Int) fun b9 b10=>Qi w2.drew b9 (b10+t2.toNat*6+1) fun n11=>Qx t1.1 t2 (t1.2:Int) fun b12 b13=>Qi w2.drew b12 (b13+t2.toNat*6+2) fun n14=>Cx 136 #[Value.agg { toList:=Qy x6.fst::x6.2 },Qz n11,Qz t3,Qz n14] w2.drew fun v15 w16=>∃(x17:Int×Int×Bool),v15=Value.tuple #[Qz x17.1,Qz x17.snd.1,Value.bool x17.snd.2]/\Ql (α:=Int×Int×Int) (t2,t2,0) w16 fun y18 b20 x21 w22=>(F154j1 t1 t2 R x17 y18 b20 x21 w22))):Cw 154 #[Value.agg { toList:=Qy t0.fst::t0.2 },Qy t1,Qz t2,Qz t3] w R:=
 ckF Tryz.func154 (nd (nd (.node (.draw (sts [0,1,2,3,4,5,6,7,8,9,10,11] (.ac 12 [] (sts [13,14,15,16,17,18,19] .fin) .non))) (nd (.node (nd (.loop [(13,oi),(14,oi),(45,oi)] (rg [13,16,45,80]) (nd (nd (.node (nd (.node (.node (.draw (sts [0,1,2,3,4,5,6,7,8,9,10,11,12,13,14,15,16,17,18,19,20,21,22,23] .fin)) .nil) .nil)) .nil))))) .nil))))) h (by kernel_rfl) (by kernel_rfl)
noncomputable def R86_0:Code:=codeAt [1,0,1,0] (bodyOf Tryz.f86)
def R86_0a:An:=.node (.draw (sts [0,1,2,3,4,5,6,7] .fin)) .nil
theorem R86_0ok1:okC tb Tryz.f86.ntmps (rA R86_0) .nil=true:=by kernel_rfl
theorem R86_0ok2:okC tb Tryz.f86.ntmps (rB R86_0) R86_0a=true:=by kernel_rfl
theorem R86_0okp:(rP R86_0).toList.all (fun p=>Nat.blt p Tryz.f86.ntmps)=true:=by kernel_rfl
theorem F86_ok(t0:Sl)(t1:Int)(w:World)(R:RV)(h:AllocP w (Obj.cells #[Qy t0] 39) fun b1 w2=>AllocP w2 (Obj.cells #[Qz t1] 3) fun b3 w4=>AllocP w4 (Obj.cells #[Value.slice none 0 0] 41) fun b5 w6=>Qs w6 b1 0 fun s7=>Qi w6 b3 0 fun n8=>(0<=n8/\n8<=(s7.3:Int))/\Cx 153 #[Value.slice (slAddr s7.1 s7.3 0 6) n8.toNat s7.3] w6 fun v9 w10=>∃(x11:Nat×Array Value),v9=Value.func (Fn.func x11.1) #[] x11.2/\∀(y12:Nat->Value),RangeP Tryz.prog tb (nat_lit 25) none R86_0a (rG R86_0) (rP R86_0) (rA R86_0) (rB R86_0) (frC y12 [(2,Value.pointer (some ⟨b1,0,none⟩)),(3,Value.pointer (some ⟨b3,0,none⟩)),(4,Value.pointer (some ⟨b5,0,none⟩)),(10,Value.func (Fn.func x11.1) #[] x11.2)]) [] w10 (fun(l13:List Nat) (w14:World)=>#[Value.slice none 0 0].size=1/\StoreP w14 b5 0 [Value.slice none 0 0] fun w15=>marksP w15 l13 fun w16=>Qs w16 b5 0 fun s17=>R (Qy s17) w16) (fun(l18:List Nat) (w19:World)=>marksP w19 l18 fun w20=>Qs w20 b5 0 fun s21=>R (Qy s21) w20) fun(b22:Nat) (l23:List Nat) (w24:World)=>match b22.beq 0 with|true=>#[Value.slice none 0 0].size=1/\StoreP w24 b5 0 [Value.slice none 0 0] fun w26=>marksP w26 l23 fun w27=>Qs w27 b5 0 fun s28=>R (Qy s28) w27|false=>False):Cw 86 #[Qy t0,Qz t1] w R:=
 ckF Tryz.func86 (nd (.node (nd (.rng [(2,.one (.box)),(3,.one (.box)),(4,.one (.box)),(10,.one (.clo))] (.node (.draw (sts [0,1,2,3,4,5,6,7] .fin)) .nil))) .nil)) h (by kernel_rfl) (by kernel_rfl)
theorem F86b0_ok(t2:Nat)(t3:Nat)(t4:Nat)(t10:Nat×Array Value)(x11:Int)(x12:Int×Int×Int×Bool×Sl×Sl)(l D n₀:Nat)(Jn:World->Prop)(Jx:Code->World->Prop)(W:World){g:Nat->Value}(h:AllocP W (Obj.cells #[Qz 0,Qz 0,Qz 0,Value.bool false,Value.slice none 0 0,Value.slice none 0 0] 53) fun b1 w2=>(lC53 x12).toArray.size=6/\StoreP w2 b1 0 (lC53 x12) fun w3=>([]:List Nat)=[]/\(w3.1[l]? =W.1[l]? /\w3.1[D]? =W.1[D]?)/\∀(w12:World),Stb n₀ w3 w12->Its w3 w12->(∃y15:Loop,w12.1[l]? =some (Obj.loop y15))->Qi w12.drew b1 (0+0) fun n19=>∃s20:Sl,w12.drew.cell? ⟨t2,0,none⟩=some (Qy s20)/\∃n21:Int,w12.drew.cell? ⟨t3,0,none⟩=some (Qz n21)/\Qx s20.1 n21 (s20.2:Int) fun b22 b23=>Qi w12.drew b22 (b23+n21.toNat*6+0) fun n24=>IfB (n19 == n24) (∃n25:Int,w12.drew.cell? ⟨t3,0,none⟩=some (Qz n25)/\1*3<=16777216/\AllocP w12.drew (Obj.cells #[Qz x11,Qz n25,Qz 1] 44) fun b26 w27=>#[Value.slice (some ⟨b26,0,none⟩) 1 1].size=1/\StoreP w27 t4 0 [Value.slice (some ⟨b26,0,none⟩) 1 1] fun w28=>(w28.1[l]? =w12.1[l]? /\w28.1[D]? =w12.1[D]?)/\Jx Code.ret w28) ((w12.drew.1[l]? =w12.1[l]? /\w12.drew.1[D]? =w12.1[D]?)/\Jn w12.drew)):
  BodyP Tryz.prog tb Tryz.f86.ntmps l D n₀ R86_0a (rP R86_0) (rA R86_0) (rB R86_0) (frC g [(2,Value.pointer (some ⟨t2,0,none⟩)),(3,Value.pointer (some ⟨t3,0,none⟩)),(4,Value.pointer (some ⟨t4,0,none⟩)),(10,Value.func (Fn.func t10.1) #[] t10.2)]) Jn Jx [Value.int IntKind.i64 x11,(.agg (lC53 x12).toArray)] W:=
 Eq.mp (by kernel_rfl) h
theorem F87_ok(t0:Sl×List Value)(t1:Sl)(t2:Int)(t3:Int)(w:World)(R:RV)(h:AllocP w (Obj.cells { toList:=Qy t0.fst::t0.2 } 26) fun b1 w2=>∃(x3:Sl×List Value),CellsN w2.drew b1 0 17 (Qy x3.fst::x3.2)/\Qx t1.1 t3 (t1.2:Int) fun b6 b7=>Qi w2.drew b6 (b7+t3.toNat*6+1) fun n8=>Cx 154 #[Value.agg { toList:=Qy x3.fst::x3.2 },Qy t1,Qz t2,Qz n8] w2.drew fun v9 w10=>∃(x11:Int×Int),v9=Value.tuple #[Qz x11.1,Qz x11.2]/\∃(x12:Sl×List Value),CellsN w10.drew b1 0 17 (Qy x12.fst::x12.2)/\Qx t1.1 t2 (t1.2:Int) fun b15 b16=>Qi w10.drew b15 (b16+t2.toNat*6+1) fun n17=>Cx 154 #[Value.agg { toList:=Qy x12.fst::x12.2 },Qy t1,Qz t3,Qz n17] w10.drew fun v18 w19=>∃(x20:Int×Int),v18=Value.tuple #[Qz x20.1,Qz x20.2]/\3*3<=16777216/\AllocP w19 (Obj.cells #[Qz t2,Qz t3,Qz 2,Qz x11.2,Qz t3,Qz 3,Qz t2,Qz x20.1,Qz 4] 44) fun b21 w22=>R (Value.slice (some ⟨b21,0,none⟩) 3 3) w22):Cw 87 #[Value.agg { toList:=Qy t0.fst::t0.2 },Qy t1,Qz t2,Qz t3] w R:=
 ckF Tryz.func87 (nd (.node (.draw (sts [0,1,2,3,4,5,6,7] (.ac 8 [] (sts [9,10,11,12,13] .fin) .non))) (.node (.draw (sts [0,1,2,3,4,5,6,7] (.ac 8 [] (sts [9,10,11,12,13] .fin) .non))) .nil))) h (by kernel_rfl) (by kernel_rfl)
def F157j1(t0:Sl)(R:RV)(y1:Nat->Int->World->Prop)(b3:Nat)(n4:Int)(w5:World):Prop:=IfB (decide (n4<(t0.n:Int))) (Qx t0.1 n4 (t0.2:Int) fun b8 b9=>Qi w5 b8 (b9+n4.toNat) fun n10=>IfB (n10 != 0) (R (Qz n10) w5) (Qn y1 b3 (IntKind.i64.wrap (n4+1)) w5)) (R (Qz 0) w5)
theorem F157_ok(t0:Sl)(w:World)(R:RV)(h:Ql (α:=Int) 0 w fun y1 b3 n4 w5=>(F157j1 t0 R y1 b3 n4 w5)):Cw 157 #[Qy t0] w R:=
 ckF Tryz.func157 (nd (nd (.node (nd (.loop [(8,oi)] (rg [2,2,5,5,8,16]) .nil)) .nil))) h (by kernel_rfl) (by kernel_rfl)
theorem F89_ok(t0:Int×Int×Int)(t1:Int×Int×Int)(w:World)(R:RV)(h:AllocP w (Obj.cells (lC44 t0).toArray 44) fun b1 w2=>AllocP w2 (Obj.cells (lC44 t1).toArray 44) fun b3 w4=>Qi w4.drew b1 (0+0) fun n5=>Qi w4.drew b3 (0+0) fun n6=>Qi w4.drew b1 (0+1) fun n7=>Qi w4.drew b3 (0+1) fun n8=>Qi w4.drew b1 (0+2) fun n9=>Qi w4.drew b3 (0+2) fun n10=>Qw' 158 #[Qz n5,Qz n6] w4.drew fun n13 w12=>w12.cell? ⟨b3,0+2,none⟩=some (Qz n10)/\w12.cell? ⟨b1,0+2,none⟩=some (Qz n9)/\w12.cell? ⟨b3,0+1,none⟩=some (Qz n8)/\w12.cell? ⟨b1,0+1,none⟩=some (Qz n7)/\Qw' 158 #[Qz n7,Qz n8] w12 fun n16 w15=>w15.cell? ⟨b3,0+2,none⟩=some (Qz n10)/\w15.cell? ⟨b1,0+2,none⟩=some (Qz n9)/\Qw' 158 #[Qz n9,Qz n10] w15 fun n19 w18=>3*1<=16777216/\AllocP w18 (Obj.cells #[Qz n13,Qz n16,Qz n19] 3) fun b20 w21=>Qw' 157 #[Value.slice (some ⟨b20,0,none⟩) 3 3] w21 fun n24 w23=>R (Qz n24) w23):Cw 89 #[(.agg (lC44 t0).toArray),(.agg (lC44 t1).toArray)] w R:=
 ckF Tryz.func89 (nd (.node (.draw (sts [0,1,2,3,5,6,7,8,10,11,12,13] (.ac 4 (rg [5,8,10,13]) (.ac 9 [13,12,11,10] (.ac 14 [] (.ac 15 [] (.ac 16 [] (.st 17 .fin) .non) .non) .non) .non) .non))) .nil)) h (by kernel_rfl) (by kernel_rfl)
def F90j2(t0:Sl)(R:RV)(n4:Int)(y15:Nat->Int×Int->World->Prop)(b17:Nat)(x18:Int×Int)(w19:World):Prop:=IfB (decide (x18.snd<(((t0.n-n4.toNat:Nat):Int):Int))) (Qx (slAddr t0.1 t0.3 n4.toNat 3) x18.2 ((t0.2-n4.toNat:Nat):Int) fun b22 b23=>∃(x24:Int×Int×Int),CellsAt w19.drew b22 (b23+x18.2.toNat*3) (lC44 x24)/\Qx (slAddr t0.1 t0.3 n4.toNat 3) (IntKind.i64.wrap (x18.2-1)) ((t0.2-n4.toNat:Nat):Int) fun b25 b26=>∃(x27:Int×Int×Int),CellsAt w19.drew b25 (b26+(IntKind.i64.wrap (x18.2-1)).toNat*3) (lC44 x27)/\∃t28:Bool,EqAt Tryz.prog 44 ((.agg (lC44 x24).toArray)) ((.agg (lC44 x27).toArray)) t28/\IfB (!t28) (Qx (slAddr t0.1 t0.3 n4.toNat 3) x18.2 ((t0.2-n4.toNat:Nat):Int) fun b29 b30=>∃(x31:Int×Int×Int),CellsAt w19.drew b29 (b30+x18.2.toNat*3) (lC44 x31)/\Qx t0.1 x18.1 (t0.2:Int) fun b32 b33=>(lC44 x31).toArray.size=3/\StoreP w19.drew b32 (b33+x18.1.toNat*3) (lC44 x31) fun w34=>Qn y15 b17 (IntKind.i64.wrap (x18.1+1),IntKind.i64.wrap (x18.2+1)) w34) (Qn y15 b17 (x18.1,IntKind.i64.wrap (x18.2+1)) w19.drew)) ((0<=x18.1/\x18.1<=(t0.2:Int))/\match slAddr t0.1 t0.3 x18.1.toNat 3 with|none=>(0<=x18.1/\x18.1<=(t0.3:Int))/\R (Value.slice (slAddr t0.1 t0.3 0 3) x18.1.toNat t0.3) w19|some ({ block:=b38,off:=b39,spot:=none }:Addr)=>StoreP w19 b38 b39 (zc #[Qz 0,Qz 0,Qz 0] (t0.2-x18.1.toNat)) fun w40=>(0<=x18.1/\x18.1<=(t0.3:Int))/\R (Value.slice (slAddr t0.1 t0.3 0 3) x18.1.toNat t0.3) w40|some y41=>False)
def F90j1(t0:Sl)(R:RV)(y1:Nat->Int->World->Prop)(b3:Nat)(n4:Int)(w5:World):Prop:=IfB (decide (n4<(t0.n:Int))) (Qx t0.1 n4 (t0.2:Int) fun b8 b9=>∃(x10:Int×Int×Int),CellsAt w5.drew b8 (b9+n4.toNat*3) (lC44 x10)/\Qx t0.1 (IntKind.i64.wrap (n4-1)) (t0.2:Int) fun b11 b12=>∃(x13:Int×Int×Int),CellsAt w5.drew b11 (b12+(IntKind.i64.wrap (n4-1)).toNat*3) (lC44 x13)/\∃t14:Bool,EqAt Tryz.prog 44 ((.agg (lC44 x10).toArray)) ((.agg (lC44 x13).toArray)) t14/\IfB t14 ((0<=n4/\n4<=(t0.2:Int))/\Ql (α:=Int×Int) (n4,1) w5.drew fun y15 b17 x18 w19=>(F90j2 t0 R n4 y15 b17 x18 w19)) (Qn y1 b3 (IntKind.i64.wrap (n4+1)) w5.drew)) (R (Qy t0) w5)
theorem F90_ok(t0:Sl)(w:World)(R:RV)(h:IfB (decide ((t0.n:Int)<2)) (R (Qy t0) w) (Ql (α:=Int) 1 w fun y1 b3 n4 w5=>(F90j1 t0 R y1 b3 n4 w5))):Cw 90 #[Qy t0] w R:=
 ckF Tryz.func90 (nd (nd (.node (nd (.loop [(3,oi)] (rg [2,5,10,59]) (nd (.node (.node (.draw (sts [0,1,2,3,4,5,6,7,8,9] .fin)) (.node (nd (.node (nd (.loop [(3,oi),(5,oi)] (rg [3,3,5,5,29,53]) (nd (.node (.node (.draw (sts [0,1,2,3,4,5,6,7,8,9] .fin)) .nil) .nil)))) .nil)) .nil)) .nil)))) .nil))) h (by kernel_rfl) (by kernel_rfl)
def F30j2(t1:Sl)(b1:Nat)(y12:Nat->Sl×Int->World->Prop)(b14:Nat)(x15:Sl×Int)(s21:Sl)(y28:Nat->Sl×Int->World->Prop)(b30:Nat)(x31:Sl×Int)(w32:World):Prop:=IfB (decide (x31.snd<(s21.n:Int))) (Qx s21.1 x31.2 (s21.2:Int) fun b35 b36=>Qi w32 b35 (b36+x31.2.toNat) fun n37=>Qx t1.1 n37 (t1.2:Int) fun b38 b39=>Qi w32.drew b38 (b39+n37.toNat*6+0) fun n40=>Qx t1.1 x15.2 (t1.2:Int) fun b41 b42=>Qi w32.drew b41 (b42+x15.2.toNat*6+0) fun n43=>IfB (n40 != n43) (∃(x44:Sl×List Value),CellsN w32.drew b1 0 17 (Qy x44.fst::x44.2)/\Qu' 87 #[Value.agg { toList:=Qy x44.fst::x44.2 },Qy t1,Qz n37,Qz x15.2] w32.drew fun s49 w48=>∃(l50:List Value),ReadC w48 s49.1 (s49.2*3) l50/\AppendP tt44 44 w48 x31.fst.1 x31.fst.2 x31.fst.3 s49.2 l50 fun s51 w52=>Qn y28 b30 ({ p:=s51.1,n:=s51.2,c:=s51.3 },IntKind.i64.wrap (x31.2+1)) w52) (Qn y28 b30 ({ p:=x31.fst.1,n:=x31.fst.2,c:=x31.fst.3 },IntKind.i64.wrap (x31.2+1)) w32.drew)) (Qn y12 b14 ({ p:=x31.fst.1,n:=x31.fst.2,c:=x31.fst.3 },IntKind.i64.wrap (x15.2+1)) w32)
def F30j1(t1:Sl)(R:RV)(b1:Nat)(s11:Sl)(y12:Nat->Sl×Int->World->Prop)(b14:Nat)(x15:Sl×Int)(w16:World):Prop:=IfB (decide (x15.snd<(s11.n:Int))) (Qx s11.1 x15.2 (s11.2:Int) fun b19 b20=>Qs w16 b19 (b20+x15.2.toNat) fun s21=>Qu' 86 #[Qy t1,Qz x15.2] w16 fun s24 w23=>∃(l25:List Value),ReadC w23 s24.1 (s24.2*3) l25/\AppendP tt44 44 w23 x15.fst.1 x15.fst.2 x15.fst.3 s24.2 l25 fun s26 w27=>Ql (α:=Sl×Int) ({ p:=s26.1,n:=s26.2,c:=s26.3 },0) w27 fun y28 b30 x31 w32=>(F30j2 t1 b1 y12 b14 x15 s21 y28 b30 x31 w32)) (Cx 88 #[Qy x15.fst,Value.func (Fn.func 89) #[] #[]] w16 fun v56 w57=>∃y58:Unit,v56=Value.tuple #[]/\Qu' 90 #[Qy x15.fst] w57 fun s61 w60=>R (Qy s61) w60)
theorem F30_ok(t0:Sl×List Value)(t1:Sl)(w:World)(R:RV)(h:AllocP w (Obj.cells { toList:=Qy t0.fst::t0.2 } 26) fun b1 w2=>∃(x3:Sl×List Value),CellsN w2 b1 0 17 (Qy x3.fst::x3.2)/\Qv' 84 #[Value.agg { toList:=Qy x3.fst::x3.2 },Qy t1] w2 fun t8 w7=>IfB (!t8) (R (Value.slice none 0 0) w7) (Qu' 85 #[Qy t1] w7 fun s11 w10=>Ql (α:=Sl×Int) ({ p:=none,n:=0,c:=0 },0) w10 fun y12 b14 x15 w16=>(F30j1 t1 R b1 s11 y12 b14 x15 w16))):Cw 30 #[Value.agg { toList:=Qy t0.fst::t0.2 },Qy t1] w R:=
 ckF Tryz.func30 (nd (nd (nd (.node (nd (.loop [(5,.one (.sl)),(17,oi)] (rg [5,7,9,9,17,52]) (nd (nd (.node (nd (nd (nd (.loop [(5,.one (.sl)),(29,oi)] (rg [5,5,9,9,29,51]) (nd (nd (.node (nd (.node (.draw (sts [0,1,2,3,4,5,6,7,8,9,10] .fin)) .nil)) .nil))))))) .nil))))) .nil)))) h (by kernel_rfl) (by kernel_rfl)
theorem own_class{x:CatD}{hs:List Nd}(h:HMay x hs)(s:Int):∀i,i<=hs.length->match lastOwn hs i s with
  | none=>∀k b,k<i->hs[k]? =some b->b.v.1≠s
  | some m=>∀k b,k<i->hs[k]? =some b->b.v.1=s->b.v.2.1=m.v.2.1:=by
 intro i
 induction i with
 | zero=>
  intro _
  have:lastOwn hs 0 s=none:=by unfold lastOwn ownL;simp
  rw[this]
  exact fun k b hk=>absurd hk (Nat.not_lt_zero _)
 | succ i ih=>
  intro hi
  have ih:=ih (by omega)
  have hx:hs[i]? =some hs[i]:=List.getElem?_eq_getElem (by omega)
  generalize hs[i]=y at hx
  have hnx:=(h.ok i y hx).nx
  rw[lastOwn_succ hx]
  by_cases hys:y.v.1=s
  ·rw[if_pos hys]
   intro k b hk hb hbs
   rcases Nat.lt_or_ge k i with h'|h'
   ·rw[hys] at hnx
    cases hl:lastOwn hs i s with
    | none=>rw[hl] at ih;exact absurd hbs (ih k b h' hb)
    | some m=>
     rw[hl] at ih hnx
     exact(ih k b h' hb hbs).trans hnx.1.symm
   ·have:k=i:=by omega
    subst this
    rw[hx] at hb;cases hb;rfl
  ·rw[if_neg hys]
   have old:∀k b,k<i+1->hs[k]? =some b->b.v.1=s->k<i:=fun k b hk hb hbs=>by
    rcases Nat.lt_or_ge k i with h'|h'
    ·exact h'
    ·have:k=i:=by omega
     subst this
     rw[hx] at hb;cases hb;exact absurd hbs hys
   cases hl:lastOwn hs i s with
   | none=>
    rw[hl] at ih
    intro k b hk hb hbs
    exact ih k b (old k b hk hb hbs) hb hbs
   | some m=>
    rw[hl] at ih
    intro k b hk hb hbs
    exact ih k b (old k b hk hb hbs) hb hbs
theorem HMay.cls{x:CatD}{hs:List Nd}(h:HMay x hs){i k:Nat}{a b:Nd}(ha:hs[i]? =some a)(hb:hs[k]? =some b)(he:a.v.1=b.v.1):a.v.2.1=b.v.2.1:=by
 have hia:=(List.getElem?_eq_some_iff.1 ha).1
 have hkb:=(List.getElem?_eq_some_iff.1 hb).1
 have:=own_class h b.v.1 hs.length (Nat.le_refl _)
 cases hl:lastOwn hs hs.length b.v.1 with
 | none=>rw[hl] at this;exact absurd rfl (this k b hkb hb)
 | some m=>rw[hl] at this;exact(this i a hia ha he).trans (this k b hkb hb rfl).symm
def FstP(x:CatD)(hs:List Nd)(i:Nat)(d:Int)(f:Nat):Prop:=InP x hs i f d/\∀k,InP x hs i k d->f<=k
def LstP(x:CatD)(hs:List Nd)(i:Nat)(d:Int)(l:Nat):Prop:=InP x hs i l d/\∀k,InP x hs i k d->k<=l
theorem InP.lt{x:CatD}{hs:List Nd}{i k:Nat}{d:Int}(h:InP x hs i k d)(hi:i<hs.length):k<hs.length:=by
 rcases h with rfl|⟨_,b,_,hb,_⟩
 ·exact hi
 ·exact(List.getElem?_eq_some_iff.1 hb).1
theorem uN_of{x:CatD}{c d:Int}(hc:0<=c)(hd:0<=d)(k:Nat):uN x c d k=unitN x c.toNat d.toNat k:=by unfold uN;rw[if_pos ⟨hc,hd⟩]
theorem c154{w:World}{v:CatV}{x:CatD}{t:Sl}{hs:List Nd}(h:CatM w v x)(hH:Hst w t hs)(hM:HMay x hs){i:Nat}(hi:i<hs.length){d:Int}(hd:0<=d/\d<(x.1.length:Int)):
  Cw 154 #[cxV v,slV t,iv i,iv d] w fun r w'=>∃f l:Nat,r=.tuple #[iv f,iv l]/\FstP x hs i d f/\LstP x hs i d l/\Ext w w':=by
 have htn:=hH.n
 have hl100:=hM.len
 have ha:hs[i]? =some hs[i]:=List.getElem?_eq_getElem hi
 generalize hs[i]=a at ha
 have sa:=hM.step ha
 have oa:=hM.ok i a ha
 have hbd:(0:Int)<=(i:Int)/\(i:Int)<(t.n:Int):=⟨by omega,by omega⟩
 refine F154_ok v t (i:Int) d w _ fun b1 w2 a2=>?_
 have e2:Ext w w2:=a2.ch _
 obtain⟨p1,o1,hp1,hc1⟩:=(hH.ext e2).at ha
 refine⟨p1,o1,hp1,hbd,a.v.2.2.2.1,by rw[Int.toNat_natCast];exact hc1 3 _ rfl,IfB.intro (fun h1=>⟨i,i,rfl,⟨.inl rfl,fun k hk=>?_⟩,⟨.inl rfl,fun k hk=>?_⟩,e2⟩) fun h1=>?_⟩
 ·rcases hk with rfl|⟨a',b',ha',_,_,hb',_⟩
  ·exact Nat.le_refl _
  ·rw[ha] at ha';cases ha';rw[h1] at hb';cases hb'
 ·rcases hk with rfl|⟨a',b',ha',_,_,hb',_⟩
  ·exact Nat.le_refl _
  ·rw[ha] at ha';cases ha';rw[h1] at hb';cases hb'
 have ed:=extDrew w2
 have E2:=e2.trans ed
 obtain⟨p2,o2,hp2,hc2⟩:=(hH.ext E2).at ha
 refine⟨v,cxN h a2.new ed,p2,o2,hp2,hbd,a.v.2.1,by rw[Int.toNat_natCast];exact hc2 1 _ rfl,p2,o2,hp2,hbd,a.v.2.2.1,by rw[Int.toNat_natCast];exact hc2 2 _ rfl,(c136 (h.ext E2) hM.cat a.v.2.1 d a.v.2.2.1).use ?_⟩
 rintro _ w16 ⟨lo,up,b,rfl,hb,hlu,e16⟩
 have E16:=E2.trans e16
 obtain⟨l,u,rfl,rfl,hB⟩:=hlu (hb.2 ⟨⟨oa.c0,oa.cn⟩,hd,sa.1,sa.2.1⟩)
 have hin:∀ {k:Nat}{n:Nd},hs[k]? =some n->(InP x hs i k d↔n.v.1=a.v.1/\n.v.2.2.2.1=false/\(l:Int)<=n.v.2.2.1/\n.v.2.2.1<=(u:Int)):=fun{k n} hn=>by
  have sn:=hM.step hn
  have key:n.v.1=a.v.1->(uN x a.v.2.1 d a.v.2.2.1.toNat=uN x a.v.2.1 d n.v.2.2.1.toNat↔(l:Int)<=n.v.2.2.1/\n.v.2.2.1<=(u:Int)):=fun he=>by
   have hcl:=hM.cls hn ha he
   rw[uN_of oa.c0 hd.1,uN_of oa.c0 hd.1,eq_comm,hB.iff (by rw[<-hcl];omega)]
   omega
  constructor
  ·rintro(rfl|⟨a',b',ha',hb',h2,h3,h4,h5⟩)
   ·rw[ha] at hn;cases hn
    have:=hB.l;have:=hB.h
    exact⟨rfl,h1,by omega,by omega⟩
   ·rw[ha] at ha';rw[hn] at hb'
    cases ha';cases hb'
    exact⟨h2.symm,h4,(key h2.symm).1 h5⟩
  ·rintro⟨h2,h3,h4⟩
   exact .inr ⟨a,n,ha,hn,h2.symm,h1,h3,(key h2).2 h4⟩
 refine⟨((l:Int),(u:Int),b),rfl,fun m z W=>∃k f e:Nat,k<=hs.length/\m+k=hs.length/\z=((f:Int),(e:Int),(k:Int))/\(InP x hs i f d/\InP x hs i e d/\∀j,j<k->InP x hs i j d->f<=j/\j<=e)/\Ext w W,⟨hs.length,0,i,i,Nat.zero_le _,rfl,rfl,⟨.inl rfl,.inl rfl,fun j hj=>absurd hj (Nat.not_lt_zero _)⟩,E16⟩,?_⟩
 rintro m _ W g ⟨k,f,e,hk,hm,rfl,⟨hf,he,hall⟩,eW⟩
 unfold F154j1
 refine IfB.dec (fun hlt=>?_) fun hge=>?_
 ·dsimp only at hlt
  have hk':k<hs.length:=by omega
  have hn:hs[k]? =some hs[k]:=List.getElem?_eq_getElem hk'
  generalize hs[k]=n at hn
  have hbk:(0:Int)<=(k:Int)/\(k:Int)<(t.n:Int):=⟨by omega,by omega⟩
  obtain⟨p3,o3,hp3,hc3⟩:=(hH.ext eW).at hn
  unfold F154k1
  refine⟨p3,o3,hp3,hbk,n.v,by dsimp only;rw[Int.toNat_natCast];exact hc3,fun b28 w29 a29=>⟨rfl,store_all (vs:=nC n.v) a29.new rfl (nC_one n.v) fun w30 u30=>?_⟩⟩
  have e30:Ext W w30:=Ext.fresh a29 u30
  have ed30:=extDrew w30
  have E30:Ext w w30.drew:=(eW.trans e30).trans ed30
  have q:=fun(o:Nat)=>boxAt (cs:=nC n.v) u30.new o ed30
  obtain⟨p4,o4,hp4,hc4⟩:=(hH.ext E30).at ha
  have hw:IntKind.i64.wrap ((k:Int)+1)=((k+1:Nat):Int):=by rw[wrap_of (by omega) (by omega)];rfl
  have step:∀ {f' e':Nat},(InP x hs i f' d/\InP x hs i e' d/\∀j,j<k+1->InP x hs i j d->f'<=j/\j<=e')->([]:List Nat)=[]/\∃b,b<m/\∃k' f e:Nat,k'<=hs.length/\b+k'=hs.length/\((f':Int),(e':Int),IntKind.i64.wrap ((k:Int)+1))=((f:Int),(e:Int),(k':Int))/\(InP x hs i f d/\InP x hs i e d/\∀j,j<k'->InP x hs i j d->f<=j/\j<=e)/\Ext w w30.drew:=fun{f' e'} hh=>⟨rfl,m-1,by omega,k+1,f',e',hk',by omega,by rw[hw],hh,E30⟩
  have skip:=fun(hno:¬InP x hs i k d)=>step (f':=f) (e':=e) ⟨hf,he,fun j hj hj'=>by
   rcases Nat.lt_or_ge j k with h'|h'
   ·exact hall j h' hj'
   ·exact absurd hj' (by rw[show j=k by omega];exact hno)⟩
  refine⟨_,q 0,p4,o4,hp4,hbd,a.v.1,by rw[Int.toNat_natCast];exact hc4 0 _ rfl,IfB.intro (fun g1=>skip fun k'=>?_) fun g1=>⟨_,q 3,IfB.intro (fun g2=>skip fun k'=>?_) fun g2=>⟨_,q 2,IfB.dec (fun g3=>skip fun k'=>?_) fun g3=>⟨_,q 2,IfB.dec (fun g4=>skip fun k'=>?_) fun g4=>?_⟩⟩⟩⟩
  ·have g1:n.v.1≠a.v.1:=by simpa using g1
   exact g1 ((hin hn).1 k').1
  ·rw[((hin hn).1 k').2.1] at g2;cases g2
  ·have:=((hin hn).1 k').2.2.1
   dsimp only at g3;omega
  ·have:=((hin hn).1 k').2.2.2
   dsimp only at g4;omega
  ·have g1:n.v.1=a.v.1:=by simpa using g1
   dsimp only at g3 g4
   have hik:InP x hs i k d:=(hin hn).2 ⟨g1,g2,by omega,by omega⟩
   have em:(if (k:Int)<(f:Int) then (k:Int) else (f:Int))=((min f k:Nat):Int):=by split<;>omega
   have eM:(if (e:Int)<(k:Int) then (k:Int) else (e:Int))=((max e k:Nat):Int):=by split<;>omega
   dsimp only
   rw[em,eM]
   refine step ⟨?_,?_,fun j hj hj'=>?_⟩
   ·rcases Nat.le_total f k with h'|h'
    ·rw[Nat.min_eq_left h'];exact hf
    ·rw[Nat.min_eq_right h'];exact hik
   ·rcases Nat.le_total e k with h'|h'
    ·rw[Nat.max_eq_right h'];exact hik
    ·rw[Nat.max_eq_left h'];exact he
   ·rcases Nat.lt_or_ge j k with h'|h'
    ·have:=hall j h' hj';omega
    ·omega
 ·dsimp only at hge
  have hk':k=hs.length:=by omega
  subst hk'
  exact⟨f,e,rfl,⟨hf,fun j hj=>(hall j (hj.lt hi) hj).1⟩,⟨he,fun j hj=>(hall j (hj.lt hi) hj).2⟩,eW⟩
end Go.Proofs.YtlpgdngcgbeegaaGreat.Gx
namespace Go.Proofs.YtlpgdngcgbeegaaGreat.Gx.SfA
open Go Go.Proofs.YtlpgdngcgbeegaaGreat.Gx
abbrev El:=Int×Int×Int
def key(x:El):Int:=x.1*1000000+x.2.1*1000+x.2.2
def Q(x:El):Prop:=(0<=x.1/\x.1<=999)/\(0<=x.2.1/\x.2.1<=999)/\0<=x.2.2/\x.2.2<=999
@[reducible] def ins:SrtC El:=⟨fun i=>[88,155,204,205,206,207,208,209,210,211,242,245,246,278].getD i 0,fun x=>[.int .i64 x.1,.int .i64 x.2.1,.int .i64 x.2.2],3,(0,0,0),key,Q⟩
set_option linter.unusedVariables false
set_option maxRecDepth 100000
theorem k0(t0:Sl)(t1:Nat×Array Value)(w:World)(R:RV)(h: @G0 El ins t0 t1 w R):Cw 88 #[Value.slice t0.1 t0.2 t0.3,Value.func (Fn.func t1.1) #[] t1.2] w R:=
 call_of tbOk mixed en88 Tryz.func88 rfl .nil (by kernel_rfl) (Nat.le_of_ble_eq_true (by kernel_rfl)) (Eq.mp (α:= @G0 El ins t0 t1 w R) (by kernel_rfl) h)
theorem k1(t0:Sl)(t1:Int)(t2:Int)(t3:Int)(t4:Nat×Array Value)(w:World)(R:RV)(h: @G1 El ins t0 t1 t2 t3 t4 w R):Cw 155 #[Value.slice t0.1 t0.2 t0.3,Value.int IntKind.i64 t1,Value.int IntKind.i64 t2,Value.int IntKind.i64 t3,Value.func (Fn.func t4.1) #[] t4.2] w R:=
 call_of tbOk mixed en155 Tryz.func155 rfl (nd (nd (.loop [(1,oi),(2,oi),(3,oi),(10,ob),(11,ob)] (rg [1,3,10,147]) (nd (nd (nd (.join [(3,oi)] (rg [3,3,38,46]) .nil (nd (.join [(13,oi),(14,oi)] (rg [13,14,55,67]) .nil (.join [] (rg [68,80]) .nil (.node (.node (.draw (sts [0,1,2,3,4,5,6,7,8,9,10,11,12] (.ac 13 [] (sts [14,15,16] .fin) .non))) .nil) .nil))))))))))) (by kernel_rfl) (Nat.le_of_ble_eq_true (by kernel_rfl)) (Eq.mp (α:= @G1 El ins t0 t1 t2 t3 t4 w R) (by kernel_rfl) h)
theorem k2(t0:Sl)(t1:Int)(t2:Int)(t3:Nat×Array Value)(w:World)(R:RV)(h: @G2 El ins t0 t1 t2 t3 w R):Cw 204 #[Value.slice t0.1 t0.2 t0.3,Value.int IntKind.i64 t1,Value.int IntKind.i64 t2,Value.func (Fn.func t3.1) #[] t3.2] w R:=
 call_of tbOk mixed en204 Tryz.func204 rfl (nd (.loop [(8,oi)] (rg [8,9,12,52]) (nd (.node (nd (.loop [(9,oi)] (rg [9,9,18,52]) (.node (.node (.draw (sts [0,1,2,3,4,5,6,7,8,9,10,11,12,13] (.ac 14 [] (sts [15,16] .fin) .non))) .nil) (.node (.draw (sts [0,1,2,3,4,5,6,7,8,9,10,11,12,13,14] (.ac 15 [4,3,2] (.st 16 (.ac 17 [] .fin .non)) .non))) .nil)))) .nil)))) (by kernel_rfl) (Nat.le_of_ble_eq_true (by kernel_rfl)) (Eq.mp (α:= @G2 El ins t0 t1 t2 t3 w R) (by kernel_rfl) h)
theorem k3(t0:Sl)(t1:Int)(t2:Int)(t3:Nat×Array Value)(w:World)(R:RV)(h: @G3 El ins t0 t1 t2 t3 w R):Cw 205 #[Value.slice t0.1 t0.2 t0.3,Value.int IntKind.i64 t1,Value.int IntKind.i64 t2,Value.func (Fn.func t3.1) #[] t3.2] w R:=
 call_of tbOk mixed en205 Tryz.func205 rfl (nd (nd (nd (.node (nd (.loop [(11,oi)] (rg [11,11,20,29]) .nil)) (nd (.loop [(12,oi)] (rg [12,12,32,59]) (nd (.node (.node (.draw (sts [0,1,2,3,4,5,6,7,8,9,10,11,12,13,14,15,16] (.ac 17 [5,4,3,2] (.st 18 (.ac 19 [] .fin .non)) .non))) .nil) .nil)))))))) (by kernel_rfl) (Nat.le_of_ble_eq_true (by kernel_rfl)) (Eq.mp (α:= @G3 El ins t0 t1 t2 t3 w R) (by kernel_rfl) h)
theorem k4(t0:Sl)(t1:Int)(t2:Int)(t3:Nat×Array Value)(w:World)(R:RV)(h: @G4 El ins t0 t1 t2 t3 w R):Cw 206 #[Value.slice t0.1 t0.2 t0.3,Value.int IntKind.i64 t1,Value.int IntKind.i64 t2,Value.func (Fn.func t3.1) #[] t3.2] w R:=
 call_of tbOk mixed en206 Tryz.func206 rfl (nd (nd (.node (nd (nd (nd (.loop [(11,oi)] (rg [11,12,28,66]) (nd (.node (nd (.join [(12,oi)] (rg [12,12,43,48]) .nil (.draw (sts [0,1,2,3,4,5,6,7,8,9,10,11,12,13,14,15,16] (.ac 17 [5,4,3,2] (.st 18 (.ac 19 [] .fin .non)) .non))))) .nil)))))) .nil))) (by kernel_rfl) (Nat.le_of_ble_eq_true (by kernel_rfl)) (Eq.mp (α:= @G4 El ins t0 t1 t2 t3 w R) (by kernel_rfl) h)
theorem k5(t0:Sl)(t1:Int)(t2:Int)(t3:Nat×Array Value)(w:World)(R:RV)(h: @G5 El ins t0 t1 t2 t3 w R):Cw 207 #[Value.slice t0.1 t0.2 t0.3,Value.int IntKind.i64 t1,Value.int IntKind.i64 t2,Value.func (Fn.func t3.1) #[] t3.2] w R:=
 call_of tbOk mixed en207 Tryz.func207 rfl (nd (nd (nd (nd (nd (nd (.join [(13,oi)] (rg [12,14,33,54]) (nd (.node (.join [(12,oi),(13,oi),(14,oi)] (rg [12,14,35,48]) .nil .nil) .nil)) .nil))))))) (by kernel_rfl) (Nat.le_of_ble_eq_true (by kernel_rfl)) (Eq.mp (α:= @G5 El ins t0 t1 t2 t3 w R) (by kernel_rfl) h)
theorem k6(t0:Sl)(t1:Int)(t2:Int)(t3:Nat×Array Value)(w:World)(R:RV)(h: @G6 El ins t0 t1 t2 t3 w R):Cw 208 #[Value.slice t0.1 t0.2 t0.3,Value.int IntKind.i64 t1,Value.int IntKind.i64 t2,Value.func (Fn.func t3.1) #[] t3.2] w R:=
 call_of tbOk mixed en208 Tryz.func208 rfl (nd (nd (.loop [(8,oi),(9,oi)] (rg [8,9,13,33]) (nd (.node (.draw (sts [0,1,2,3,4,5,6,7,8,9,10,11,12] (.ac 13 [3,2] (.st 14 (.ac 15 [] .fin .non)) .non))) .nil))))) (by kernel_rfl) (Nat.le_of_ble_eq_true (by kernel_rfl)) (Eq.mp (α:= @G6 El ins t0 t1 t2 t3 w R) (by kernel_rfl) h)
theorem k7(t0:Sl)(t1:Int)(t2:Int)(t3:Nat×Array Value)(w:World)(R:RV)(h: @G7 El ins t0 t1 t2 t3 w R):Cw 209 #[Value.slice t0.1 t0.2 t0.3,Value.int IntKind.i64 t1,Value.int IntKind.i64 t2,Value.func (Fn.func t3.1) #[] t3.2] w R:=
 call_of tbOk mixed en209 Tryz.func209 rfl (nd (nd (.node (nd (.loop [(9,oi),(10,oi)] (rg [8,12,15,140]) (nd (.node (.join [(9,oi)] (rg [9,9,19,38]) (.loop [(9,oi)] (rg [9,9,19,38]) (.node (.node (.draw (sts [0,1,2,3,4,5,6,7,8,9,10,11,12,13] (.ac 14 [] (sts [15,16,17] .fin) .non))) .nil) .nil)) (nd (nd (.node (.draw (sts [0,1,2,3,4,5,6,7,8,9,10,11,12,13,14] (.ac 15 [4,3,2] (.st 16 (.ac 17 [] .fin .non)) .non))) (.join [] (rg [11,11,62,100]) (nd (.node (nd (.loop [(11,oi)] (rg [11,11,68,100]) (nd (.node (.node (.node (.draw (sts [0,1,2,3,4,5,6,7,8,9] (.ac 10 [] (sts [11,12] .fin) .non))) .nil) (.draw (sts [0,1,2,3,4,5,6,7,8,9,10,11,12,13,14] (.ac 15 [4,3,2] (.st 16 (.ac 17 [] .fin .non)) .non)))) .nil)))) .nil)) (.join [(104,ob)] [101,102,103,104] .nil (.node (nd (.loop [(12,oi)] (rg [12,12,107,140]) (nd (.node (.node (.node (.draw (sts [0,1,2,3,4,5,6,7,8,9] (.ac 10 [] (sts [11,12] .fin) .non))) .nil) (.draw (sts [0,1,2,3,4,5,6,7,8,9,10,11,12,13,14] (.ac 15 [4,3,2] (.st 16 (.ac 17 [] .fin .non)) .non)))) .nil)))) .nil))))))) .nil)))) .nil))) (by kernel_rfl) (Nat.le_of_ble_eq_true (by kernel_rfl)) (Eq.mp (α:= @G7 El ins t0 t1 t2 t3 w R) (by kernel_rfl) h)
theorem k8(t0:Sl)(t1:Int)(t2:Int)(t3:Int)(t4:Nat×Array Value)(w:World)(R:RV)(h: @G8 El ins t0 t1 t2 t3 t4 w R):Cw 210 #[Value.slice t0.1 t0.2 t0.3,Value.int IntKind.i64 t1,Value.int IntKind.i64 t2,Value.int IntKind.i64 t3,Value.func (Fn.func t4.1) #[] t4.2] w R:=
 call_of tbOk mixed en210 Tryz.func210 rfl (nd (.node (.draw (sts [0,1,2,3,4,5,6,7,8,9,10,11,12] (.ac 13 [3,2] (.st 14 (.ac 15 [] .fin .non)) .non))) (nd (.node (.loop [(11,oi),(12,oi)] (rg [11,12,31,88]) (.join [(11,oi)] (rg [11,11,31,49]) (.loop [(11,oi)] (rg [11,11,31,49]) (.node (.node (.draw (sts [0,1,2,3,4,5,6,7,8,9,10,11,12] (.ac 13 [] (sts [14,15,16] .fin) .non))) .nil) .nil)) (.join [(12,oi)] (rg [12,12,50,67]) (.loop [(12,oi)] (rg [12,12,50,67]) (.node (.node (.draw (sts [0,1,2,3,4,5,6,7,8,9,10,11,12] (.ac 13 [] (sts [14,15] .fin) .non))) .nil) .nil)) (nd (.node (.draw (sts [0,1,2,3,4,5,6,7,8,9,10,11,12] (.ac 13 [3,2] (.st 14 (.ac 15 [] .fin .non)) .non))) .nil))))) .nil)))) (by kernel_rfl) (Nat.le_of_ble_eq_true (by kernel_rfl)) (Eq.mp (α:= @G8 El ins t0 t1 t2 t3 t4 w R) (by kernel_rfl) h)
theorem k9(t0:Sl)(t1:Int)(t2:Int)(t3:Int)(t4:Nat×Array Value)(w:World)(R:RV)(h: @G9 El ins t0 t1 t2 t3 t4 w R):Cw 211 #[Value.slice t0.1 t0.2 t0.3,Value.int IntKind.i64 t1,Value.int IntKind.i64 t2,Value.int IntKind.i64 t3,Value.func (Fn.func t4.1) #[] t4.2] w R:=
 call_of tbOk mixed en211 Tryz.func211 rfl (nd (.node (.draw (sts [0,1,2,3,4,5,6,7,8,9,10,11,12] (.ac 13 [3,2] (.st 14 (.ac 15 [] .fin .non)) .non))) (nd (.join [(12,oi)] (rg [12,12,32,49]) (.loop [(12,oi)] (rg [12,12,32,49]) (.node (.node (.draw (sts [0,1,2,3,4,5,6,7,8,9,10,11,12] (.ac 13 [] (sts [14,15] .fin) .non))) .nil) .nil)) (.join [(13,oi)] (rg [13,13,50,68]) (.loop [(13,oi)] (rg [13,13,50,68]) (.node (.node (.draw (sts [0,1,2,3,4,5,6,7,8,9,10,11,12] (.ac 13 [] (sts [14,15,16] .fin) .non))) .nil) .nil)) (.node (nd (.node (.node (.draw (sts [0,1,2,3,4,5,6,7,8,9,10,11,12] (.ac 13 [3,2] (.st 14 (.ac 15 [] .fin .non)) .non))) .nil) .nil)) (.node (.draw (sts [0,1,2,3,4,5,6,7,8,9,10,11,12] (.ac 13 [3,2] (.st 14 (.ac 15 [] .fin .non)) .non))) (nd (nd (.node (.loop [(12,oi),(13,oi)] (rg [12,13,105,162]) (.join [(12,oi)] (rg [12,12,105,122]) (.loop [(12,oi)] (rg [12,12,105,122]) (.node (.node (.draw (sts [0,1,2,3,4,5,6,7,8,9,10,11,12] (.ac 13 [] (sts [14,15] .fin) .non))) .nil) .nil)) (.join [(13,oi)] (rg [13,13,123,141]) (.loop [(13,oi)] (rg [13,13,123,141]) (.node (.node (.draw (sts [0,1,2,3,4,5,6,7,8,9,10,11,12] (.ac 13 [] (sts [14,15,16] .fin) .non))) .nil) .nil)) (nd (.node (.draw (sts [0,1,2,3,4,5,6,7,8,9,10,11,12] (.ac 13 [3,2] (.st 14 (.ac 15 [] .fin .non)) .non))) .nil))))) (.node (.draw (sts [0,1,2,3,4,5,6,7,8,9,10,11,12] (.ac 13 [3,2] (.st 14 (.ac 15 [] .fin .non)) .non))) .nil))))))))))) (by kernel_rfl) (Nat.le_of_ble_eq_true (by kernel_rfl)) (Eq.mp (α:= @G9 El ins t0 t1 t2 t3 t4 w R) (by kernel_rfl) h)
theorem k10(t0:Sl)(t1:Int)(t2:Int)(t3:Int)(t4:Nat×Array Value)(w:World)(R:RV)(h: @G10 El ins t0 t1 t2 t3 t4 w R):Cw 242 #[Value.slice t0.1 t0.2 t0.3,Value.int IntKind.i64 t1,Value.int IntKind.i64 t2,Value.int IntKind.i64 t3,Value.func (Fn.func t4.1) #[] t4.2] w R:=
 call_of tbOk mixed en242 Tryz.func242 rfl (nd (.loop [(10,oi)] (rg [10,11,13,81]) (nd (nd (.join [(11,oi)] (rg [11,11,19,42]) (.node (.draw (sts [0,1,2,3,4,5,6,7,8,9,10,11,12,13,14,15,16,17,18] (.ac 19 [] (sts [20,21] .fin) .non))) .nil) (.node (.node (.draw (sts [0,1,2,3,4,5,6,7,8,9,10,11,12] (.ac 13 [] (sts [14,15] .fin) .non))) .nil) (.node (.draw (sts [0,1,2,3,4,5,6,7,8,9,10,11,12,13,14,15,16,17,18,19,20] (.ac 21 [7,6,5,4] (.st 22 (.ac 23 [] .fin .non)) .non))) .nil))))))) (by kernel_rfl) (Nat.le_of_ble_eq_true (by kernel_rfl)) (Eq.mp (α:= @G10 El ins t0 t1 t2 t3 t4 w R) (by kernel_rfl) h)
theorem k11(t0:Sl)(t1:Int)(t2:Option Addr)(t3:Nat×Array Value)(w:World)(R:RV)(h: @G11 El ins t0 t1 t2 t3 w R):Cw 245 #[Value.slice t0.1 t0.2 t0.3,Value.int IntKind.i64 t1,Value.pointer t2,Value.func (Fn.func t3.1) #[] t3.2] w R:=
 call_of tbOk mixed en245 Tryz.func245 rfl .nil (by kernel_rfl) (Nat.le_of_ble_eq_true (by kernel_rfl)) (Eq.mp (α:= @G11 El ins t0 t1 t2 t3 w R) (by kernel_rfl) h)
theorem k12(t0:Sl)(t1:Int)(t2:Int)(t3:Int)(t4:Option Addr)(t5:Nat×Array Value)(w:World)(R:RV)(h: @G12 El ins t0 t1 t2 t3 t4 t5 w R):Cw 246 #[Value.slice t0.1 t0.2 t0.3,Value.int IntKind.i64 t1,Value.int IntKind.i64 t2,Value.int IntKind.i64 t3,Value.pointer t4,Value.func (Fn.func t5.1) #[] t5.2] w R:=
 call_of tbOk mixed en246 Tryz.func246 rfl .nil (by kernel_rfl) (Nat.le_of_ble_eq_true (by kernel_rfl)) (Eq.mp (α:= @G12 El ins t0 t1 t2 t3 t4 t5 w R) (by kernel_rfl) h)
theorem k13(t0:Sl)(t1:Int)(t2:Int)(t3:Option Addr)(t4:Nat×Array Value)(w:World)(R:RV)(h: @G13 El ins t0 t1 t2 t3 t4 w R):Cw 278 #[Value.slice t0.1 t0.2 t0.3,Value.int IntKind.i64 t1,Value.int IntKind.i64 t2,Value.pointer t3,Value.func (Fn.func t4.1) #[] t4.2] w R:=
 call_of tbOk mixed en278 Tryz.func278 rfl (nd (.node (.node (.draw (sts [0,1,2,3,4,5,6,7,8] (.ac 9 [] (.st 10 .fin) .non))) .nil) .nil)) (by kernel_rfl) (Nat.le_of_ble_eq_true (by kernel_rfl)) (Eq.mp (α:= @G13 El ins t0 t1 t2 t3 t4 w R) (by kernel_rfl) h)
theorem ok: @SrtOk El ins:= @SrtOk.mk El ins k0 k1 k2 k3 k4 k5 k6 k7 k8 k9 k10 k11 k12 k13
abbrev sv(x:El):List Value:=[.int .i64 x.1,.int .i64 x.2.1,.int .i64 x.2.2]
theorem ol: @SfG.SrtL El ins:= @SfG.SrtL.mk El ins (fun _=>rfl) (fun x=>by intro v hv;change v∈sv x at hv;simp at hv;rcases hv with rfl|rfl|rfl<;>rfl) (by decide)
def CmpP(cl:Nat×Array Value):Prop:=∀(x y:El)(W:World),Q x->Q y->Cw cl.1 { toList:=Value.agg (sv x).toArray::Value.agg (sv y).toArray::cl.2.toList } W fun v w'=>∃n:Int,v=iv n/\(n<0↔key x<key y)/\Ext W w'
theorem c88{cl:Nat×Array Value}(hcp:CmpP cl){w:World}{s:Sl}{xs:List El}(h:OwS w s 3 (xs.flatMap sv))(hl:xs.length<=1000000)(hq:∀x∈xs,Q x):
  Cw 88 #[slV s,.func (.func cl.1) #[] cl.2] w fun v w'=>v=.tuple #[]/\∃ys:List El,ys.Perm xs/\ys.Pairwise (fun x y=>key x<=key y)/\OwS w' s 3 (ys.flatMap sv)/\Ch (fun i=>i∈blk s) w w':=
 @SfG.q0 El ins ok ol cl (hcp) w s xs h hl hq
end Go.Proofs.YtlpgdngcgbeegaaGreat.Gx.SfA
namespace Go.Proofs.YtlpgdngcgbeegaaGreat.Gx
open Go
set_option linter.unusedSimpArgs false
set_option linter.unusedVariables false
abbrev ArcD:=Int×Int×Int
abbrev aC(x:ArcD):List Value:=[.int .i64 x.1,.int .i64 x.2.1,.int .i64 x.2.2]
theorem aC_len(x:ArcD):(aC x).length=3:=rfl
theorem aC_one(x:ArcD):One (aC x):=by intro v hv;simp at hv;rcases hv with rfl|rfl|rfl<;>rfl
theorem cmpZ(x y:Int)(w:World):Cw 158 #[.int .i64 x,.int .i64 y] w fun v w'=>∃n:Int,v=iv n/\(n<0↔x<y)/\(n=0↔x=y)/\w=w':=by
 refine F158_ok _ _ _ _ ((c214 x w).use ?_)
 rintro _ _ ⟨rfl,rfl⟩
 refine⟨false,rfl,(c214 y w).use ?_⟩
 rintro _ _ ⟨rfl,rfl⟩
 refine⟨false,rfl,IfB.no rfl (IfB.no rfl (IfB.dec (fun h=>⟨_,rfl,by simp;omega,by simp;omega,rfl⟩) fun h=>IfB.dec (fun h'=>⟨_,rfl,by simp;omega,by simp;omega,rfl⟩) fun h'=>⟨_,rfl,by simp;omega,by simp;omega,rfl⟩))⟩
def orI:List Int->Int
 | []=>0
 | x::l=>if x≠0 then x else orI l
theorem c157{w:World}{t:Sl}{xs:List Int}(h:Rd w t 1 (xs.map iv))(hl:xs.length<=1000000):Cw 157 #[slV t] w fun v w'=>v=iv (orI xs)/\w=w':=by
 have hn:=rdI h
 refine F157_ok t w _ ⟨fun m z W=>∃k:Nat,k<=xs.length/\m+k=xs.length/\z=(k:Int)/\orI xs=orI (xs.drop k)/\w=W,⟨_,0,Nat.zero_le _,rfl,rfl,rfl,rfl⟩,?_⟩
 rintro m _ _ g ⟨k,hk,hm,rfl,ho,rfl⟩
 unfold F157j1
 refine IfB.dec (fun hlt=>?_) fun hge=>?_
 ·have hk':k<xs.length:=by omega
  have hx:xs[k]? =some xs[k]:=List.getElem?_eq_getElem hk'
  have hd:=List.drop_eq_getElem_cons hk'
  generalize xs[k]=y at hx hd
  obtain⟨b,o,hp,hc⟩:=h.elem1 (i:=k) (v:=iv y) (by rw[List.getElem?_map,hx];rfl)
  have ho:orI xs=if y≠0 then y else orI (xs.drop (k+1)):=by rw[ho,hd,orI]
  refine⟨b,o,hp,⟨by omega,by omega⟩,y,by rw[Int.toNat_natCast];exact hc,IfB.intro (fun h1=>⟨?_,rfl⟩) fun h1=>⟨rfl,m-1,by omega,k+1,hk',by omega,by rw[wrap_of (by omega) (by omega)];rfl,?_,rfl⟩⟩
  ·have h1:y≠0:=by simpa using h1
   rw[if_pos h1] at ho
   rw[ho]
  ·have h1:¬y≠0:=by simpa using h1
   rw[if_neg h1] at ho
   exact ho
 ·have hk':k=xs.length:=by omega
  subst hk'
  rw[List.drop_length] at ho
  exact⟨by rw[ho];rfl,rfl⟩
theorem c89:SfA.CmpP (89,#[]):=by
 intro x y w hx hy
 refine F89_ok x y w _ fun b1 w2 a2 b3 w4 a4=>?_
 have e4:Ext w w4:=(a2.ch _).trans (a4.ch _)
 have ed:=extDrew w4
 have q1:=fun(o:Nat)=>boxAt (cs:=aC x) (a4.at a2.new) o ed
 have q3:=fun(o:Nat)=>boxAt (cs:=aC y) a4.new o ed
 refine⟨_,q1 0,_,q3 0,_,q1 1,_,q3 1,_,q1 2,_,q3 2,(cmpZ x.1 y.1 _).use ?_⟩
 rintro _ _ ⟨n1,rfl,h1,z1,rfl⟩
 refine⟨n1,rfl,q3 2,q1 2,q3 1,q1 1,(cmpZ x.2.1 y.2.1 _).use ?_⟩
 rintro _ _ ⟨n2,rfl,h2,z2,rfl⟩
 refine⟨n2,rfl,q3 2,q1 2,(cmpZ x.2.2 y.2.2 _).use ?_⟩
 rintro _ _ ⟨n3,rfl,h3,z3,rfl⟩
 refine⟨n3,rfl,by decide,fun b20 w21 a21=>?_⟩
 refine(c157 (xs:=[n1,n2,n3]) (OwS.new (sz:=1) (n:=3) (cs:=[iv n1,iv n2,iv n3]) a21 rfl).rd (by simp)).use ?_
 rintro _ _ ⟨rfl,rfl⟩
 refine⟨_,rfl,_,rfl,?_,(e4.trans ed).trans (a21.ch _)⟩
 obtain⟨k1,k2,k3⟩:=hx
 obtain⟨g1,g2,g3⟩:=hy
 unfold SfA.key
 simp only[orI]
 split
 ·omega
 ·split
  ·omega
  ·split<;>omega
def BtwP(x:CatD)(hs:List Nd)(a b:Nat)(xs:List ArcD):Prop:=∃na nb l f,hs[a]? =some na/\hs[b]? =some nb/\LstP x hs a nb.v.2.1 l/\FstP x hs b na.v.2.1 f/\xs=[((a:Int),(b:Int),2),((l:Int),(b:Int),3),((a:Int),(f:Int),4)]
theorem c87{w:World}{v:CatV}{x:CatD}{t:Sl}{hs:List Nd}(h:CatM w v x)(hH:Hst w t hs)(hM:HMay x hs){a b:Nat}(ha:a<hs.length)(hb:b<hs.length):
  Cw 87 #[cxV v,slV t,iv a,iv b] w fun r w'=>∃t' xs,r=slV t'/\BtwP x hs a b xs/\OwS w' t' 3 (xs.flatMap aC)/\Ext w w'/\∀j∈blk t',w.heap.size<=j:=by
 have htn:=hH.n
 have ga:hs[a]? =some hs[a]:=List.getElem?_eq_getElem ha
 have gb:hs[b]? =some hs[b]:=List.getElem?_eq_getElem hb
 generalize hs[a]=na at ga
 generalize hs[b]=nb at gb
 have oa:=hM.ok a na ga
 have ob:=hM.ok b nb gb
 refine F87_ok v t (a:Int) (b:Int) w _ fun b1 w2 a2=>?_
 have e2:Ext w w2:=a2.ch _
 have ed:=extDrew w2
 have E2:=e2.trans ed
 obtain⟨p1,o1,hp1,hc1⟩:=(hH.ext E2).at gb
 refine⟨v,cxN h a2.new ed,p1,o1,hp1,⟨by omega,by omega⟩,nb.v.2.1,by rw[Int.toNat_natCast];exact hc1 1 _ rfl,(c154 (h.ext E2) (hH.ext E2) hM ha ⟨ob.c0,ob.cn⟩).use ?_⟩
 rintro _ w10 ⟨f1,l1,rfl,_,hl1,e10⟩
 have ed10:=extDrew w10
 have x10:Ext w2 w10.drew:=(ed.trans e10).trans ed10
 have E10:=e2.trans x10
 obtain⟨p2,o2,hp2,hc2⟩:=(hH.ext E10).at ga
 refine⟨((f1:Int),(l1:Int)),rfl,v,cxN h a2.new x10,p2,o2,hp2,⟨by omega,by omega⟩,na.v.2.1,by rw[Int.toNat_natCast];exact hc2 1 _ rfl,(c154 (h.ext E10) (hH.ext E10) hM hb ⟨oa.c0,oa.cn⟩).use ?_⟩
 rintro _ w19 ⟨f2,l2,rfl,hf2,_,e19⟩
 refine⟨((f2:Int),(l2:Int)),rfl,by decide,fun b21 w22 a22=>⟨⟨some ⟨b21,0,none⟩,3,3⟩,[((a:Int),(b:Int),2),((l1:Int),(b:Int),3),((a:Int),(f2:Int),4)],rfl,⟨na,nb,l1,f2,ga,gb,hl1,hf2,rfl⟩,OwS.new (sz:=3) (n:=3) a22 rfl,(E10.trans e19).trans (a22.ch _),fun j hj=>?_⟩⟩
 have hj:j=b21:=by simpa [blk] using hj
 have:=a22.here;have:=(E10.trans e19).size
 omega
def OwnA(hs:List Nd)(i:Nat)(xs:List ArcD):Prop:=∃n,hs[i]? =some n/\((xs=[]/\∀k m,k<i->hs[k]? =some m->m.v.1≠n.v.1)\/∃k m,k<i/\hs[k]? =some m/\m.v.1=n.v.1/\xs=[((k:Int),(i:Int),1)]/\∀j m,k<j->j<i->hs[j]? =some m->m.v.1≠n.v.1)
theorem c86{w:World}{t:Sl}{hs:List Nd}(hH:Hst w t hs){i:Nat}(hi:i<hs.length):
  Cw 86 #[slV t,iv i] w fun r w'=>∃t' xs,r=slV t'/\OwnA hs i xs/\OwS w' t' 3 (xs.flatMap aC)/\Ext w w'/\∀j∈blk t',w.heap.size<=j:=by
 have htn:=hH.n
 have hlen:=hH.len
 have hcap:=hH.cap
 have ga:hs[i]? =some hs[i]:=List.getElem?_eq_getElem hi
 generalize hs[i]=n at ga
 refine F86_ok t (i:Int) w _ fun b1 w2 a2 b3 w4 a4 b5 w6 a6=>?_
 obtain⟨T1,a2⟩:∃T,IsAlloc w (.cells #[slV t] T (0,0)) b1 w2:=⟨_,a2⟩
 obtain⟨T5,a6⟩:∃T,IsAlloc w4 (.cells #[slV ⟨none,0,0⟩] T (0,0)) b5 w6:=⟨_,a6⟩
 have z2:=a2.size;have z4:=a4.size;have z6:=a6.size
 have p2:=a2.here;have p4:=a4.here;have p6:=a6.here
 have e6:Ext w w6:=((a2.ch _).trans (a4.ch _)).trans (a6.ch _)
 have k1:=a6.at (a4.at a2.new)
 have k3:=a6.at a4.new
 have k5:=a6.new
 refine⟨t,by rw[cell_of k1];rfl,(i:Int),by rw[cell_of k3];rfl,⟨by omega,by omega⟩,?_⟩
 rw[Int.toNat_natCast,slAddr_zero]
 refine(c153 ⟨t.p,i,t.c⟩ w6).use ?_
 rintro _ w10 ⟨pb,T,rfl,a10⟩
 have p10:=a10.here;have z10:=a10.size
 have x10:Ext w6 w10:=a10.ch _
 have e10:Ext w w10:=e6.trans x10
 refine⟨(203,#[.pointer (some ⟨pb,0,none⟩)]),rfl,fun g=>?_⟩
 obtain⟨vs,hvs⟩:∃vs,vs=(hs.take i).map (·.v):=⟨_,rfl⟩
 have hvl:vs.length=i:=by rw[hvs,List.length_map,List.length_take];omega
 have hvf:(hs.take i).flatMap nL=vs.flatMap nC:=by rw[hvs,List.flatMap_map]
 have hcut:=(hH.ext e10).cut (k:=i) (by omega)
 let Bx:World->Prop:=fun W=>W.heap[b1]? =some (.cells #[slV t] T1 (0,0))/\W.heap[b3]? =some (.cells #[iv i] 3 (0,0))
 let nil5:World->Prop:=fun W=>W.heap[b5]? =some (.cells #[slV ⟨none,0,0⟩] T5 (0,0))
 refine range_none tbOk mixed (gf:=203) (lb:=#[.pointer (some ⟨pb,0,none⟩)]) rfl (itB pb ⟨t.p,i,t.c⟩ vs (by omega)) R86_0ok1 R86_0ok2 R86_0okp (fun _=>rfl)
  (fun pre W=>pre.length<=i/\InvB pb ⟨t.p,i,t.c⟩ vs W/\(∀k m,i-pre.length<=k->k<i->hs[k]? =some m->m.v.1≠n.v.1)/\Bx W/\nil5 W/\Ext w W)
  (fun c pre W=>c=.ret/\∃t' xs,OwnA hs i xs/\OwS W t' 3 (xs.flatMap aC)/\W.heap[b5]? =some (.cells #[slV t'] T5 (0,0))/\(∀j∈blk t',w10.heap.size+2<=j)/\Ext w W) ?_ ?_ (fun _ _ h=>h.2.1) (fun h=>by cases h) ?_ ?_ ?_ ?_
 ·rintro pre A B ⟨h1,h2,h3,⟨q1,q3⟩,q5,h6⟩ hS
  exact⟨h1,h2.stb hS,h3,⟨hS.keep _ _ q1 rfl,hS.keep _ _ q3 rfl⟩,hS.keep _ _ q5 rfl,h6.stbE hS (by omega)⟩
 ·rintro c pre A B ⟨h1,t',xs,h2,h3,h4,h5,h6⟩ hS
  exact⟨h1,t',xs,h2,h3.stb hS,hS.keep _ _ h4 rfl,h5,h6.stbE hS (by omega)⟩
 ·exact⟨Nat.zero_le _,⟨⟨T,a10.new⟩,by rw[<-hvf];exact hcut.rd⟩,fun k m h1 h2=>by simp at h1;omega,⟨x10.at k1,x10.at k3⟩,x10.at k5,e10⟩
 ·rintro pre ⟨xi,xv⟩ W ⟨hpl,hIB,hno,⟨q1,q3⟩,q5,hX⟩ ⟨k,hk,hxi,hxv⟩ hW
  dsimp only at hxi hxv
  subst hxi
  have hki:k<i:=by omega
  have hnd:hs[k]? =some hs[k]:=List.getElem?_eq_getElem (by omega)
  generalize hs[k]=nd at hnd
  have hxe:xv=nd.v:=by
   rw[hvs,List.getElem?_map,List.getElem?_take_of_lt hki,hnd] at hxv
   exact(Option.some.inj hxv).symm
  subst hxe
  refine F86b0_ok b1 b3 b5 (203,#[.pointer (some ⟨pb,0,none⟩)]) (k:Int) nd.v _ _ _ _ _ W ?_
  refine boxNd rfl fun bb w3 hbb hs3 h3 e3 hS3=>⟨rfl,⟨e3.old _ (by omega) id,e3.old _ (by omega) id⟩,fun w12 hS hIt hL'=>?_⟩
  have zS:=hS.size
  have e12:Ext w w12:=(hX.trans e3).stbE hS (by omega)
  have r1:=hS.keep _ _ (e3.at q1) rfl
  have r3:=hS.keep _ _ (e3.at q3) rfl
  have r5:=hS.keep _ _ (e3.at q5) rfl
  have rb:=hS.keep _ _ h3 rfl
  have hIB12:=(hIB.stb (hS3 w10.heap.size (by omega))).stb hS
  have hItW:Its W w12:=(Its.ext e3).trans hIt
  have ed:=extDrew w12
  have ed':Ext w12 w12.drew:=ed
  have E12:Ext w w12.drew:=e12.trans ed
  obtain⟨pa,oa,hpa,hca⟩:=(hH.ext E12).at ga
  refine⟨_,boxAt (cs:=nC nd.v) rb 0 ed,t,by rw[cell_of (ed'.at r1)];rfl,(i:Int),by rw[cell_of (ed'.at r3)];rfl,pa,oa,hpa,⟨by omega,by omega⟩,n.v.1,by rw[Int.toNat_natCast];exact hca 0 _ rfl,IfB.intro (fun hq=>⟨(i:Int),by rw[cell_of (ed'.at r3)];rfl,by decide,fun b26 w27 a27=>?_⟩) fun hq=>?_⟩
  ·have hq:nd.v.1=n.v.1:=by simpa using hq
   have p27:=a27.here;have z27:=a27.size
   have zd:w12.drew.heap.size=w12.heap.size:=rfl
   have e27:Ext w12 w27:=ed'.trans (a27.ch _)
   refine⟨rfl,store_one (e27.at r5) (by simp) rfl fun w28 u28=>⟨⟨?_,?_⟩,rfl,⟨some ⟨b26,0,none⟩,1,1⟩,[((k:Int),(i:Int),1)],⟨n,ga,.inr ⟨k,nd,hki,hnd,hq,rfl,fun j m h1 h2 h3=>hno j m (by omega) h2 h3⟩⟩,?_,u28.new,fun j hj=>?_,(e12.trans e27).chN u28.ch fun j e=>by omega⟩⟩
   ·exact(u28.old _ (by omega)).trans (e27.old _ (by omega) id)
   ·exact(u28.old _ (by omega)).trans (e27.old _ (by omega) id)
   ·exact(OwS.new (sz:=3) (n:=1) (cs:=aC ((k:Int),(i:Int),1)) a27 rfl).ch u28.ch fun j hj e=>by
     have hj:j=b26:=by simpa [blk] using hj
     omega
   ·have hj:j=b26:=by simpa [blk] using hj
    omega
  ·have hq:¬nd.v.1=n.v.1:=by simpa using hq
   refine⟨⟨rfl,rfl⟩,⟨by simp;omega,⟨⟨_,ed'.at hIB12.box.choose_spec⟩,hIB12.rd.ext ed⟩,fun j m h1 h2 h3=>?_,⟨ed'.at r1,ed'.at r3⟩,ed'.at r5,E12⟩,hItW.trans (Its.ext ed)⟩
   rw[List.length_append,List.length_singleton] at h1
   rcases Nat.lt_or_ge k j with h'|h'
   ·exact hno j m (by omega) h2 h3
   ·have:j=k:=by omega
    subst this
    rw[hnd] at h3;cases h3;exact hq
 ·rintro xs W hfin ⟨h1,h2,hno,⟨q1,q3⟩,q5,hX⟩ hD
  have hxl:xs.length=i:=by rw[hfin,hvl]
  refine⟨rfl,store_one q5 (by simp) rfl fun w15 u15=>?_⟩
  refine marks_one (u15.at hD (by omega)) fun w16 u16=>?_
  exact⟨⟨none,0,0⟩,by rw[cell_of (u16.at u15.new (by omega))];rfl,⟨none,0,0⟩,[],rfl,⟨n,ga,.inl ⟨rfl,fun k m h1 h2=>hno k m (by omega) h1 h2⟩⟩,.nil _ _,(hX.chN u15.ch fun j e=>by omega).chN u16.ch fun j e=>by omega,by simp[blk]⟩
 ·rintro c pre W ⟨rfl,t',xs,h2,h3,h4,h5,h6⟩ hD
  refine marks_one hD fun w20 u20=>⟨t',by rw[cell_of (u20.at h4 (by omega))];rfl,t',xs,rfl,h2,h3.ch u20.ch fun j hj e=>?_,h6.chN u20.ch fun j e=>by omega,fun j hj=>by have:=h5 j hj;omega⟩
  have:=h5 j hj;omega
theorem eqArc(x y:ArcD):EqAt Tryz.prog 44 (.agg (aC x).toArray) (.agg (aC y).toArray) (x == y):=by
 have h:=eqAt_struct tbOk (d:=2) (by decide) (t:=44) (xs:=#[.int .i64 x.1,.int .i64 x.2.1,.int .i64 x.2.2]) (ys:=#[.int .i64 y.1,.int .i64 y.2.1,.int .i64 y.2.2]) (b:=(x.1 == y.1)&&((x.2.1 == y.2.1)&&((x.2.2 == y.2.2)&&true))) (by kernel_rfl) (by kernel_rfl)
 have e:(x == y)=((x.1 == y.1)&&((x.2.1 == y.2.1)&&((x.2.2 == y.2.2)&&true))):=by rw[Bool.and_true];rfl
 rw[e];exact h
section
variable {α:Type} [DecidableEq α]
def cpt1:α->List α->List α
 | _,[]=>[]
 | p,y::l=>if y=p then cpt1 y l else y::cpt1 y l
def cptL:List α->List α
 | []=>[]
 | x::l=>x::cpt1 x l
theorem cpt1_mem:∀ {l:List α}{p x:α},x∈p::cpt1 p l↔x∈p::l
 | [],p,x=>Iff.rfl
 | y::l,p,x=>by
  unfold cpt1
  have ih:=cpt1_mem (l:=l) (p:=y) (x:=x)
  simp only[List.mem_cons] at ih
  by_cases h:y=p
  ·rw[if_pos h]
   subst h
   simp only[List.mem_cons,ih]
   constructor
   ·rintro(h|h)<;>simp[h]
   ·rintro(h|h|h)<;>simp[h]
  ·rw[if_neg h]
   simp only[List.mem_cons,ih]
theorem cptL_mem{l:List α}{x:α}:x∈cptL l↔x∈l:=by
 cases l with
 | nil=>rfl
 | cons y l=>exact cpt1_mem
theorem cpt1_sorted{key:α->Int}:∀ {l:List α}{p:α},(∀x y,x∈p::l->y∈p::l->key x=key y->x=y)->(p::l).Pairwise (fun x y=>key x<=key y)->(p::cpt1 p l).Pairwise (fun x y=>key x<key y)
 | [],p,_,_=>by simp[cpt1]
 | y::l,p,hinj,h=>by
  obtain⟨h1,h2⟩:=List.pairwise_cons.1 h
  unfold cpt1
  have ih:=cpt1_sorted (key:=key) (fun a b ha hb=>hinj a b (List.mem_cons_of_mem _ ha) (List.mem_cons_of_mem _ hb)) h2
  by_cases he:y=p
  ·rw[if_pos he];subst he;exact ih
  ·rw[if_neg he]
   refine List.pairwise_cons.2 ⟨fun z hz=>?_,ih⟩
   have hpy:=h1 y (by simp)
   have hne:key p≠key y:=fun hk=>he (hinj p y (by simp) (by simp) hk).symm
   have hyz:=cpt1_mem.1 hz
   rcases List.mem_cons.1 hyz with rfl|hz'
   ·omega
   ·have:=(List.pairwise_cons.1 h2).1 z hz';omega
theorem cptL_sorted{key:α->Int}{l:List α}(hinj:∀x y,x∈l->y∈l->key x=key y->x=y)(h:l.Pairwise (fun x y=>key x<=key y)):(cptL l).Pairwise (fun x y=>key x<key y):=by
 cases l with
 | nil=>exact .nil
 | cons x l=>exact cpt1_sorted hinj h
theorem cpt1_len:∀(l:List α)(p:α),(cpt1 p l).length<=l.length
 | [],_=>Nat.le_refl _
 | y::l,p=>by
  unfold cpt1
  have:=cpt1_len l y
  split
  ·rw[List.length_cons];omega
  ·rw[List.length_cons,List.length_cons];omega
theorem cptL_len(l:List α):(cptL l).length<=l.length:=by
 cases l with
 | nil=>exact Nat.le_refl _
 | cons x l=>have:=cpt1_len l x;simp only[cptL,List.length_cons];omega
theorem cpt1_append:∀(l:List α)(p y:α),cpt1 p (l++[y])=cpt1 p l++if (p::l).getLast?=some y then [] else [y]
 | [],p,y=>by
  simp only[List.nil_append,cpt1,List.getLast?_singleton,Option.some.injEq]
  by_cases h:y=p
  ·rw[if_pos h,if_pos h.symm]
  ·rw[if_neg h,if_neg fun e=>h e.symm]
 | x::l,p,y=>by
  rw[List.cons_append]
  unfold cpt1
  rw[cpt1_append l x y,List.getLast?_cons_cons]
  split<;>rfl
theorem cptL_append{l:List α}{y:α}:cptL (l++[y])=cptL l++if l.getLast?=some y then [] else [y]:=by
 cases l with
 | nil=>rfl
 | cons x l=>
  show x::cpt1 x (l++[y])=(x::cpt1 x l)++_
  rw[cpt1_append];rfl
end
theorem c90{w:World}{t:Sl}{xs:List ArcD}(ho:OwS w t 3 (xs.flatMap aC))(hl:xs.length<=1000000):Cw 90 #[slV t] w fun v w'=>∃t',v=slV t'/\OwS w' t' 3 ((cptL xs).flatMap aC)/\t'.p=t.p/\Ch (fun i=>i∈blk t) w w':=by
 have hn:=owsN aC_len (by omega) ho
 have hcap:=ho.cap
 refine F90_ok t w _ (IfB.dec (fun h2=>?_) fun h2=>?_)
 ·have:cptL xs=xs:=by
   match xs,hn with
   | [],_=>rfl
   | [x],_=>rfl
   | x::y::l,hn=>simp at hn;omega
  exact⟨t,rfl,by rw[this];exact ho,rfl,Ch.refl _ _⟩
 ·have hx2:2<=xs.length:=by omega
  obtain⟨b,hp⟩:=ho.ptr (by omega)
  have hbk:blk t=[b]:=by simp[blk,hp]
  have last_take:∀ {m:Nat}{x:ArcD},xs[m]? =some x->(xs.take (m+1)).getLast?=some x:=fun h=>by rw[take_succ_get h,List.getLast?_append];rfl
  have step:∀ {m:Nat}{x y:ArcD},xs[m]? =some x->xs[m+1]? =some y->cptL (xs.take (m+2))=cptL (xs.take (m+1))++if x=y then [] else [y]:=fun hx hy=>by
   rw[take_succ_get hy,cptL_append,last_take hx]
   simp
  refine⟨fun n x W=>∃k:Nat,x=(k:Int)/\1<=k/\n+k=xs.length/\cptL (xs.take k)=xs.take k/\Ext w W,⟨xs.length-1,1,rfl,by omega,by omega,?_,Ch.refl _ _⟩,?_⟩
  ·match xs,hx2 with
   | x::y::l,_=>rfl
  ·rintro n _ W g ⟨k,rfl,hk1,hnk,hcp,eW⟩
   unfold F90j1
   refine IfB.dec (fun hlt=>?_) fun hge=>?_
   ·have hk:k<xs.length:=by omega
    obtain⟨m,rfl⟩:∃m,k=m+1:=⟨k-1,by omega⟩
    have hy:xs[m+1]? =some xs[m+1]:=List.getElem?_eq_getElem hk
    have hx:xs[m]? =some (xs[m]'(by omega)):=List.getElem?_eq_getElem _
    generalize xs[m+1]=y at hy
    generalize xs[m]'(by omega)=x at hx
    have hst:=step hx hy
    have ed:=extDrew W
    have eW':=eW.trans ed
    obtain⟨a,ha,hcy⟩:=(ho.ext eW').elem (i:=m+1) (by omega) (flatGet aC_len hy)
    obtain⟨a',ha',hcx⟩:=(ho.ext eW').elem (i:=m) (by omega) (flatGet aC_len hx)
    rw[hp] at ha ha';cases ha;cases ha'
    have hm1:IntKind.i64.wrap (((m+1:Nat):Int)-(1:Int))=(m:Int):=by rw[wrap_of (by omega) (by omega)];omega
    rw[hm1]
    refine⟨b,0,hp,⟨by omega,hlt⟩,y,by rw[Int.toNat_natCast,Nat.zero_add];exact hcy,b,0,hp,⟨by omega,by omega⟩,x,by rw[Int.toNat_natCast,Nat.zero_add];exact hcx,_,eqArc y x,IfB.intro (fun he=>?_) fun he=>?_⟩
    ·have he:y=x:=by simpa using he
     subst he
     rw[if_pos rfl,List.append_nil,hcp] at hst
     refine⟨⟨by omega,by omega⟩,?_⟩
     refine⟨fun n' x' W'=>∃(j:Nat)(gs:List ArcD),1<=j/\n'+(m+1+j)=xs.length/\(cptL (xs.take (m+1+j))).length+gs.length=m+j/\x'=(((cptL (xs.take (m+1+j))).length:Int),(j:Int))/\OwS W' t 3 ((cptL (xs.take (m+1+j))++gs++xs.drop (m+j)).flatMap aC)/\Ch (fun i=>i∈blk t) w W',
      ⟨xs.length-(m+2),1,[],by omega,by omega,?_,?_,?_,eW'.mono fun _ _ h=>h.elim⟩,?_⟩
     ·rw[hst,List.length_take];simp;omega
     ·rw[hst,List.length_take,Nat.min_eq_left (by omega)];rfl
     ·rw[hst,List.append_nil,List.take_append_drop];exact ho.ext eW'
     ·rintro n' _ W' g' ⟨j,gs,hj1,hnj,hlen,rfl,hO,hC⟩
      generalize hkd:cptL (xs.take (m+1+j))=kd at hlen hO
      have hsa:slAddr t.p t.c (((m+1:Nat):Int)).toNat 3=some ⟨b,(m+1)*3,none⟩:=by
       rw[Int.toNat_natCast,hp,slAddr_some,if_neg (by omega)];simp
      unfold F90j2
      refine IfB.dec (fun hlt'=>?_) fun hge'=>?_
      ·rw[Int.toNat_natCast] at hlt'
       have hlt'':m+1+j<xs.length:=by dsimp only at hlt';omega
       have hz:xs[m+1+j]? =some xs[m+1+j]:=List.getElem?_eq_getElem hlt''
       have hv:xs[m+j]? =some (xs[m+j]'(by omega)):=List.getElem?_eq_getElem _
       have hd1:xs.drop (m+j)=xs[m+j]'(by omega)::xs.drop (m+1+j):=by rw[show m+1+j=m+j+1 by omega];exact List.drop_eq_getElem_cons _
       have hd2:xs.drop (m+1+j)=xs[m+1+j]::xs.drop (m+1+(j+1)):=by rw[show m+1+(j+1)=m+1+j+1 by omega];exact List.drop_eq_getElem_cons _
       generalize xs[m+1+j]=z at hz hd2
       generalize xs[m+j]'(by omega)=v at hv hd1
       have hst2:cptL (xs.take (m+1+(j+1)))=kd++if v=z then [] else [z]:=by
        have:=step (m:=m+j) hv (by rw[show m+j+1=m+1+j by omega];exact hz)
        rw[show m+j+2=m+1+(j+1) by omega,show m+j+1=m+1+j by omega,hkd] at this
        exact this
       have hLz:(kd++gs++xs.drop (m+j))[m+1+j]? =some z:=by
        rw[List.getElem?_append_right (by rw[List.length_append];omega),List.length_append,show m+1+j-(kd.length+gs.length)=1 by omega,hd1,hd2];rfl
       have hLv:(kd++gs++xs.drop (m+j))[m+j]? =some v:=by
        rw[List.getElem?_append_right (by rw[List.length_append];omega),List.length_append,show m+j-(kd.length+gs.length)=0 by omega,hd1];rfl
       have ed':=extDrew W'
       have hOd:=hO.ext ed'
       obtain⟨a,ha,hcz⟩:=hOd.elem (i:=m+1+j) (by omega) (flatGet aC_len hLz)
       obtain⟨a',ha',hcv⟩:=hOd.elem (i:=m+j) (by omega) (flatGet aC_len hLv)
       rw[hp] at ha ha';cases ha;cases ha'
       have hj1':IntKind.i64.wrap ((j:Int)-(1:Int))=((j-1:Nat):Int):=wm1 (by omega) (by omega)
       have hL:(kd++gs++xs.drop (m+j)).length=xs.length:=by rw[List.length_append,List.length_append,List.length_drop];omega
       dsimp only
       rw[hj1',hsa]
       simp only[Int.toNat_natCast]
       have hzc:CellsAt W'.drew b ((m+1)*3+j*3) (aC z):=by rw[show (m+1)*3+j*3=(m+1+j)*3 by omega];exact hcz
       have hvc:CellsAt W'.drew b ((m+1)*3+(j-1)*3) (aC v):=by rw[show (m+1)*3+(j-1)*3=(m+j)*3 by omega];exact hcv
       refine⟨b,(m+1)*3,rfl,⟨by omega,by omega⟩,z,hzc,b,(m+1)*3,rfl,⟨by omega,by omega⟩,v,hvc,_,eqArc z v,IfB.intro (fun hne=>?_) fun heq=>?_⟩
       ·have hne:z≠v:=by simpa using hne
        rw[if_neg (fun h=>hne h.symm)] at hst2
        refine⟨b,(m+1)*3,rfl,⟨by omega,by omega⟩,z,hzc,b,0,hp,⟨by omega,by show (kd.length:Int)<(t.n:Int);omega⟩,rfl,?_⟩
        rw[Nat.zero_add]
        refine hOd.store (vs:=aC z) hp (by rw[aC_len];omega) (aC_one z) fun w32 hO32 hC32=>⟨(by trivial),n'-1,by omega,j+1,(gs++[v]).tail,by omega,by omega,?_,?_,?_,(hC.then ed' fun _ _ h=>h.elim).then hC32 fun i _ e=>by rw[hbk,e];simp⟩
        ·rw[hst2];simp;omega
        ·rw[hst2,wp1 (by omega),wp1 (by omega)];simp
        ·rw[aC_len,flatSet aC_len (by omega)] at hO32
         rw[hst2]
         have:(kd++gs++xs.drop (m+j)).set kd.length z=kd++[z]++(gs++[v]).tail++xs.drop (m+(j+1)):=by
          rw[hd1,show m+(j+1)=m+1+j by omega]
          cases gs with
          | nil=>simp
          | cons g0 gs=>simp
         rw[<-this];exact hO32
       ·have heq:z=v:=by simpa using heq
        subst heq
        rw[if_pos rfl,List.append_nil] at hst2
        refine⟨(by trivial),n'-1,by omega,j+1,gs++[z],by omega,by omega,by rw[hst2];simp;omega,?_,?_,hC.then ed' fun _ _ h=>h.elim⟩
        ·rw[hst2,wp1 (by omega)]
        ·rw[hst2]
         rw[hd1] at hOd
         rw[show m+(j+1)=m+1+j by omega]
         simpa using hOd
      ·rw[Int.toNat_natCast] at hge'
       dsimp only at hge'
       have hjn:m+1+j=xs.length:=by omega
       rw[hjn,List.take_length] at hkd
       have hkl:kd.length<t.n:=by omega
       refine⟨⟨by dsimp only;omega,by show (kd.length:Int)<=(t.n:Int);omega⟩,?_⟩
       dsimp only
       rw[Int.toNat_natCast,hp,slAddr_some]
       have hcut:=hO.cut (k:=kd.length) (by omega)
       rw[flatTake aC_len,List.append_assoc,List.take_append_of_le_length (Nat.le_refl _),List.take_length] at hcut
       dsimp only
       rw[if_neg (by omega),Nat.zero_add]
       refine hcut.storeTail hp (Nat.le_refl _) (by rw[zc_len];show kd.length*3+(t.n-kd.length)*3<=t.c*3;omega) (zc_one (by intro x hx;simp at hx;rcases hx with rfl|rfl|rfl<;>rfl) _) fun w25 hO25 hC25=>⟨⟨by omega,by omega⟩,?_⟩
       rw[<-hp,slAddr_zero]
       exact⟨⟨t.p,kd.length,t.c⟩,rfl,by rw[hkd];exact hO25,rfl,hC.then hC25 fun i _ e=>by rw[hbk,e];simp⟩
    ·have hne:x≠y:=by intro h;subst h;simp at he
     rw[if_neg hne] at hst
     refine⟨rfl,n-1,by omega,m+2,wp1 (by omega),by omega,by omega,?_,eW'⟩
     rw[hst,hcp,take_succ_get hy]
   ·have:k=xs.length:=by omega
    subst this
    rw[List.take_length] at hcp
    exact⟨t,rfl,by rw[hcp];exact ho.ext eW,rfl,eW.mono fun _ _ h=>h.elim⟩
theorem aC_all(xs:List ArcD):One (xs.flatMap aC):=by
 intro v hv
 obtain⟨x,_,hx⟩:=List.mem_flatMap.1 hv
 exact aC_one x v hx
theorem OwnA.uniq{hs:List Nd}{i:Nat}{xs ys:List ArcD}(h:OwnA hs i xs)(k:OwnA hs i ys):xs=ys:=by
 obtain⟨n,hn,h⟩:=h
 obtain⟨n',hn',k⟩:=k
 rw[hn] at hn';cases hn'
 rcases h with ⟨rfl,h⟩|⟨a,ma,a1,a2,a3,rfl,a4⟩<;>rcases k with ⟨rfl,k⟩|⟨b,mb,b1,b2,b3,rfl,b4⟩
 ·rfl
 ·exact absurd b3 (h b mb b1 b2)
 ·exact absurd a3 (k a ma a1 a2)
 ·have:a=b:=by
   rcases Nat.lt_trichotomy a b with h'|h'|h'
   ·exact absurd b3 (a4 b mb h' b1 b2)
   ·exact h'
   ·exact absurd a3 (b4 a ma h' a1 a2)
  rw[this]
theorem FstP.uniq{x:CatD}{hs:List Nd}{i:Nat}{d:Int}{f f':Nat}(h:FstP x hs i d f)(k:FstP x hs i d f'):f=f':=by
 have:=h.2 _ k.1;have:=k.2 _ h.1;omega
theorem LstP.uniq{x:CatD}{hs:List Nd}{i:Nat}{d:Int}{f f':Nat}(h:LstP x hs i d f)(k:LstP x hs i d f'):f=f':=by
 have:=h.2 _ k.1;have:=k.2 _ h.1;omega
theorem BtwP.uniq{x:CatD}{hs:List Nd}{a b:Nat}{xs ys:List ArcD}(h:BtwP x hs a b xs)(k:BtwP x hs a b ys):xs=ys:=by
 obtain⟨na,nb,l,f,h1,h2,h3,h4,rfl⟩:=h
 obtain⟨na',nb',l',f',k1,k2,k3,k4,rfl⟩:=k
 rw[h1] at k1;rw[h2] at k2;cases k1;cases k2
 rw[h3.uniq k3,h4.uniq k4]
def TwoP(hs:List Nd)(i k:Nat):Prop:=∃a b,hs[i]? =some a/\hs[k]? =some b/\b.v.1≠a.v.1
def ArcI(x:CatD)(hs:List Nd)(i:Nat)(e:ArcD):Prop:=(∃xs,OwnA hs i xs/\e∈xs)\/∃k xs,Dp hs i k/\TwoP hs i k/\BtwP x hs k i xs/\e∈xs
def ArcIn(x:CatD)(hs:List Nd)(e:ArcD):Prop:=∃i,i<hs.length/\ArcI x hs i e
structure ArcsP(x:CatD)(hs:List Nd)(ys:List ArcD):Prop where
 srt:ys.Pairwise fun a b=>SfA.key a<SfA.key b
 mem:HMay x hs->∀e,e∈ys↔ArcIn x hs e
 no:¬HMay x hs->ys=[]
theorem ArcIn.q{x:CatD}{hs:List Nd}{e:ArcD}(h:ArcIn x hs e):(0<=e.1/\e.1<(hs.length:Int))/\(0<=e.2.1/\e.2.1<(hs.length:Int))/\1<=e.2.2/\e.2.2<=4:=by
 obtain⟨i,hi,⟨xs,⟨n,hn,h⟩,he⟩|⟨k,xs,hd,_,⟨na,nb,l,f,h1,h2,h3,h4,rfl⟩,he⟩⟩:=h
 ·rcases h with ⟨rfl,_⟩|⟨k,m,k1,k2,k3,rfl,_⟩
  ·cases he
  ·rw[List.mem_singleton.1 he]
   exact⟨⟨by dsimp only;omega,by dsimp only;omega⟩,⟨by dsimp only;omega,by dsimp only;omega⟩,by dsimp only;omega,by dsimp only;omega⟩
 ·have hk:=Dp_lt hd
  have hl:=h3.1.lt (by omega)
  have hf:=h4.1.lt hi
  simp only[List.mem_cons,List.not_mem_nil,or_false] at he
  rcases he with rfl|rfl|rfl<;>exact⟨⟨by dsimp only;omega,by dsimp only;omega⟩,⟨by dsimp only;omega,by dsimp only;omega⟩,by dsimp only;omega,by dsimp only;omega⟩
theorem ArcIn.Q{x:CatD}{hs:List Nd}{e:ArcD}(h:ArcIn x hs e)(hl:hs.length<=100):SfA.Q e:=by
 obtain⟨h1,h2,h3⟩:=h.q
 exact⟨⟨by omega,by omega⟩,⟨by omega,by omega⟩,by omega,by omega⟩
theorem arcKey_inj{a b:ArcD}(ha:SfA.Q a)(hb:SfA.Q b)(h:SfA.key a=SfA.key b):a=b:=by
 obtain⟨a1,a2,a3⟩:=a
 obtain⟨b1,b2,b3⟩:=b
 obtain⟨h1,h2,h3⟩:=ha
 obtain⟨g1,g2,g3⟩:=hb
 unfold SfA.key at h
 dsimp only at*
 have e1:a1=b1:=by omega
 have e2:a2=b2:=by omega
 have e3:a3=b3:=by omega
 rw[e1,e2,e3]
set_option maxRecDepth 20000 in
theorem c30{w:World}{v:CatV}{x:CatD}{t:Sl}{hs:List Nd}(h:CatM w v x)(hH:Hst w t hs):
  Cw 30 #[cxV v,slV t] w fun r w'=>∃t' ys,r=slV t'/\ArcsP x hs ys/\OwS w' t' 3 (ys.flatMap aC)/\ys.length<=100000/\Ext w w'/\∀j∈blk t',w.heap.size<=j:=by
 have htn:=hH.n
 refine F30_ok v t w _ fun b1 w2 a2=>?_
 have e2:Ext w w2:=a2.ch _
 refine⟨v,cxN h a2.new (Ch.refl _ _),(c84 (h.ext e2) (hH.ext e2)).use ?_⟩
 rintro _ w7 ⟨r,rfl,hr,e7⟩
 have e27:=e2.trans e7
 refine⟨r,rfl,IfB.intro (fun h1=>⟨⟨none,0,0⟩,[],rfl,⟨.nil,fun hM=>?_,fun _=>rfl⟩,.nil _ _,by simp,e27,by simp[blk]⟩) fun h1=>?_⟩
 ·have h1:r=false:=by simpa using h1
  rw[hr.2 hM] at h1;cases h1
 have hM:=hr.1 (by simpa using h1)
 have hl100:=hM.len
 refine(c85 (hH.ext e27) (by omega)).use ?_
 rintro _ w10 ⟨tl,rows,rfl,hrl,hrow,hO,e10⟩
 have x10:Ext w2 w10:=e7.trans e10
 have E10:Ext w w10:=e27.trans e10
 have hR:=hO.rws
 have hRn:=hR.n
 have zz:=E10.size
 refine⟨tl,rfl,fun m z W=>∃(i:Nat)(so:Sl)(acc:List ArcD),i<=hs.length/\m+i=hs.length/\z=(so,(i:Int))/\OwS W so 3 (acc.flatMap aC)/\acc.length<=i*301/\(∀e,e∈acc↔∃i',i'<i/\ArcI x hs i' e)/\(∀j∈blk so,w10.heap.size<=j)/\Ext w10 W,
  ⟨hs.length,0,⟨none,0,0⟩,[],Nat.zero_le _,rfl,rfl,.nil _ _,by simp,fun e=>⟨fun h=>(by cases h),fun⟨i',h,_⟩=>absurd h (Nat.not_lt_zero _)⟩,by simp[blk],Ch.refl _ _⟩,?_⟩
 rintro m _ W g ⟨i,so,acc,hi,hm,rfl,ho,hal,hmem,hbk,eW⟩
 unfold F30j1
 have hon:=owsN aC_len (by omega) ho
 refine IfB.dec (fun hlt=>?_) fun hge=>?_
 ·dsimp only at hlt
  have hi':i<hs.length:=by omega
  have hrx:rows[i]? =some rows[i]:=List.getElem?_eq_getElem (by omega)
  generalize rows[i]=rw' at hrx
  have hRow:=hrow i rw' hrx
  have hRl:=hRow.len
  obtain⟨⟨pa,oa,hpa,hca⟩,_,hrn⟩:=(hR.ext eW).at hrx
  have ga:hs[i]? =some hs[i]:=List.getElem?_eq_getElem hi'
  generalize hs[i]=na at ga
  refine⟨pa,oa,hpa,⟨by dsimp only;omega,hlt⟩,rw'.1,by dsimp only;rw[Int.toNat_natCast];exact hca,(c86 (hH.ext (E10.trans eW)) hi').use ?_⟩
  rintro _ w23 ⟨s24,xo,rfl,hxo,hos,e23,hb23⟩
  have E23:Ext w10 w23:=eW.trans e23
  have hsn:=owsN aC_len (by omega) hos
  have hxl:xo.length<=1:=by
   obtain⟨n,_,⟨rfl,_⟩|⟨_,_,_,_,_,rfl,_⟩⟩:=hxo<;>simp
  refine⟨s24,rfl,_,hos.rd.2,OwS.append (new:=xo.flatMap aC) (cnt:=s24.n) (ho.ext e23) rfl rfl (by rw[flatLen aC_len,hsn]) (aC_all xo) ⟨by dsimp only;omega,Nat.le_trans (Nat.mul_le_mul (show 2*(so.n+s24.n)<=100000 by omega) (show _<=100000 by decide)) (by decide)⟩ fun s26 w27 ho27 hn27 hC27 hb27 _=>?_⟩
  rw[<-List.flatMap_append] at ho27
  have E27:Ext w10 w27:=E23.chN hC27 fun j hj=>hbk j hj
  have hbk27:∀j∈blk s26,w10.heap.size<=j:=fun j hj=>by
   rcases hb27 j hj with h'|h'
   ·exact hbk j h'
   ·have:=E23.size;omega
  refine⟨fun m' z V=>∃(q:Nat)(sq:Sl)(ac:List ArcD),q<=rw'.2.length/\m'+q=rw'.2.length/\z=(sq,(q:Int))/\OwS V sq 3 (ac.flatMap aC)/\ac.length<=i*301+1+q*3/\(∀e,e∈ac↔e∈acc\/e∈xo\/∃k:Nat,(k:Int)∈rw'.2.take q/\TwoP hs i k/\∃xs,BtwP x hs k i xs/\e∈xs)/\(∀j∈blk sq,w10.heap.size<=j)/\Ext w10 V,
   ⟨rw'.2.length,0,s26,acc++xo,Nat.zero_le _,rfl,rfl,ho27,by rw[List.length_append];omega,fun e=>by simp,hbk27,E27⟩,?_⟩
  rintro m' _ V g' ⟨q,sq,ac,hq,hmq,rfl,hoq,hql,hqm,hqb,eV⟩
  unfold F30j2
  have hqn:=owsN aC_len (by omega) hoq
  refine IfB.dec (fun hlt2=>?_) fun hge2=>?_
  ·dsimp only at hlt2
   have hq':q<rw'.2.length:=by omega
   have hk:rw'.2[q]? =some rw'.2[q]:=List.getElem?_eq_getElem hq'
   have hkm:rw'.2[q]∈rw'.2:=List.getElem_mem hq'
   have htk:=take_succ_get hk
   generalize rw'.2[q]=kz at hk hkm htk
   obtain⟨k,rfl,hdk⟩:=(hRow.mem kz).1 hkm
   have hki:=Dp_lt hdk
   have gb:hs[k]? =some hs[k]:=List.getElem?_eq_getElem (by omega)
   generalize hs[k]=nb at gb
   obtain⟨_,hrd,_⟩:=(hR.ext eV).at hrx
   obtain⟨pb,ob,hpb,hcb⟩:=hrd.elem1 (i:=q) (v:=iv (k:Int)) (by rw[List.getElem?_map,hk];rfl)
   have ed:=extDrew V
   have EV:Ext w V.drew:=(E10.trans eV).trans ed
   obtain⟨pc,oc,hpc,hcc⟩:=(hH.ext EV).at gb
   obtain⟨pd,od,hpd,hcd⟩:=(hH.ext EV).at ga
   have hw:IntKind.i64.wrap ((q:Int)+1)=((q+1:Nat):Int):=by rw[wrap_of (by omega) (by omega)];rfl
   refine⟨pb,ob,hpb,⟨by dsimp only;omega,by dsimp only;omega⟩,(k:Int),by dsimp only;rw[Int.toNat_natCast];exact hcb,pc,oc,hpc,⟨by omega,by omega⟩,nb.v.1,by rw[Int.toNat_natCast];exact hcc 0 _ rfl,pd,od,hpd,⟨by dsimp only;omega,by dsimp only;omega⟩,na.v.1,by dsimp only;rw[Int.toNat_natCast];exact hcd 0 _ rfl,IfB.intro (fun hne=>?_) fun heq=>?_⟩
   ·have hne:nb.v.1≠na.v.1:=by simpa using hne
    refine⟨v,cxN h a2.new ((x10.trans eV).trans ed),(c87 (h.ext EV) (hH.ext EV) hM (show k<hs.length by omega) hi').use ?_⟩
    rintro _ w48 ⟨s49,xb,rfl,hxb,hob,e48,hb48⟩
    have E48:Ext w10 w48:=(eV.trans ed).trans e48
    have hbn:=owsN aC_len (by omega) hob
    have hbl:xb.length=3:=by
     obtain⟨_,_,_,_,_,_,_,_,rfl⟩:=hxb;rfl
    refine⟨s49,rfl,_,hob.rd.2,OwS.append (new:=xb.flatMap aC) (cnt:=s49.n) ((hoq.ext ed).ext e48) rfl rfl (by rw[flatLen aC_len,hbn]) (aC_all xb) ⟨by dsimp only;omega,Nat.le_trans (Nat.mul_le_mul (show 2*(sq.n+s49.n)<=100000 by omega) (show _<=100000 by decide)) (by decide)⟩ fun s51 w52 ho52 hn52 hC52 hb52 _=>⟨rfl,m'-1,by omega,q+1,s51,ac++xb,hq',by omega,by dsimp only;rw[hw],by rw[<-List.flatMap_append] at ho52;exact ho52,by rw[List.length_append];omega,fun e=>?_,fun j hj=>?_,E48.chN hC52 fun j hj=>hqb j hj⟩⟩
    ·rw[List.mem_append,hqm,htk]
     constructor
     ·rintro((h'|h'|⟨k',h1,h2⟩)|h')
      ·exact .inl h'
      ·exact .inr (.inl h')
      ·exact .inr (.inr ⟨k',List.mem_append.2 (.inl h1),h2⟩)
      ·exact .inr (.inr ⟨k,by simp,⟨na,nb,ga,gb,hne⟩,xb,hxb,h'⟩)
     ·rintro(h'|h'|⟨k',h1,h2,xs,h3,h4⟩)
      ·exact .inl (.inl h')
      ·exact .inl (.inr (.inl h'))
      ·rcases List.mem_append.1 h1 with h1|h1
       ·exact .inl (.inr (.inr ⟨k',h1,h2,xs,h3,h4⟩))
       ·have:k'=k:=Int.ofNat.inj (List.mem_singleton.1 h1)
        subst this
        rw[hxb.uniq h3];exact .inr h4
    ·rcases hb52 j hj with h'|h'
     ·exact hqb j h'
     ·have:=E48.size;omega
   ·have heq:nb.v.1=na.v.1:=by simpa using heq
    refine⟨rfl,m'-1,by omega,q+1,sq,ac,hq',by omega,by dsimp only;rw[hw],hoq.ext ed,by omega,fun e=>?_,hqb,eV.trans ed⟩
    rw[hqm,htk]
    constructor
    ·rintro(h'|h'|⟨k',h1,h2⟩)
     ·exact .inl h'
     ·exact .inr (.inl h')
     ·exact .inr (.inr ⟨k',List.mem_append.2 (.inl h1),h2⟩)
    ·rintro(h'|h'|⟨k',h1,h2,xs,h3,h4⟩)
     ·exact .inl h'
     ·exact .inr (.inl h')
     ·rcases List.mem_append.1 h1 with h1|h1
      ·exact .inr (.inr ⟨k',h1,h2,xs,h3,h4⟩)
      ·have:k'=k:=Int.ofNat.inj (List.mem_singleton.1 h1)
       subst this
       obtain⟨a',b',g1,g2,g3⟩:=h2
       rw[ga] at g1;rw[gb] at g2;cases g1;cases g2
       exact absurd heq g3
  ·dsimp only at hge2
   have hwi:IntKind.i64.wrap ((i:Int)+1)=((i+1:Nat):Int):=by rw[wrap_of (by omega) (by omega)];rfl
   have hq':q=rw'.2.length:=by omega
   subst hq'
   have hal':ac.length<=(i+1)*301:=by omega
   refine⟨rfl,m-1,by omega,i+1,sq,ac,hi',by omega,by dsimp only;rw[hwi],hoq,hal',fun e=>?_,hqb,eV⟩
   rw[hqm,List.take_length,hmem]
   constructor
   ·rintro(⟨i',h1,h2⟩|h'|⟨k,h1,h2,xs,h3,h4⟩)
    ·exact⟨i',by omega,h2⟩
    ·exact⟨i,by omega,.inl ⟨xo,hxo,h'⟩⟩
    ·obtain⟨k',hk',hd⟩:=(hRow.mem (k:Int)).1 h1
     have:k=k':=Int.ofNat.inj hk'
     subst this
     exact⟨i,by omega,.inr ⟨k,xs,hd,h2,h3,h4⟩⟩
   ·rintro⟨i',h1,h2⟩
    rcases Nat.lt_or_ge i' i with h'|h'
    ·exact .inl ⟨i',h',h2⟩
    ·have:i'=i:=by omega
     subst this
     rcases h2 with ⟨xs,h3,h4⟩|⟨k,xs,hd,h3,h4,h5⟩
     ·rw[hxo.uniq h3];exact .inr (.inl h4)
     ·exact .inr (.inr ⟨k,(hRow.mem (k:Int)).2 ⟨k,rfl,hd⟩,h3,xs,h4,h5⟩)
 ·dsimp only at hge
  have hi':i=hs.length:=by omega
  subst hi'
  have hQ:∀e∈acc,SfA.Q e:=fun e he=>ArcIn.Q (x:=x) ((hmem e).1 he) hl100
  refine(SfA.c88 (cl:=(89,#[])) c89 ho (by omega) hQ).use ?_
  rintro _ w57 ⟨rfl,ys,hp,hsrt,ho57,hC57⟩
  have hpl:=hp.length_eq
  refine⟨(),rfl,(c90 ho57 (by omega)).use ?_⟩
  rintro _ w60 ⟨s61,rfl,ho60,hp60,hC60⟩
  have hcl:=cptL_len ys
  have hb61:∀j∈blk s61,w10.heap.size<=j:=fun j hj=>hbk j (by unfold blk at hj ⊢;rw[hp60] at hj;exact hj)
  refine⟨s61,rfl,s61,cptL ys,rfl,⟨cptL_sorted (fun a b ha hb=>arcKey_inj (hQ a (hp.mem_iff.1 ha)) (hQ b (hp.mem_iff.1 hb))) hsrt,fun _ e=>?_,fun hno=>absurd hM hno⟩,ho60,by omega,((E10.trans eW).chN hC57 fun j hj=>?_).chN hC60 fun j hj=>?_,fun j hj=>?_⟩
  ·rw[cptL_mem,hp.mem_iff,hmem];rfl
  ·have:=hbk j hj;omega
  ·have:=hbk j hj;omega
  ·have:=hb61 j hj;omega
def holdB(out:List Nat)(j:Nat)(e:ArcD):Bool:=e.2.1 == (j:Int) && !(out.any fun k=>e.1 == (k:Int))
def holds(arcs:List ArcD)(out:List Nat)(j:Nat):Nat:=arcs.countP (holdB out j)
inductive TRun(arcs:List ArcD)(n:Nat):List Nat->Prop
 | nil:TRun arcs n []
 | snoc {out:List Nat} {i:Nat}:TRun arcs n out->i<n->i∉out->holds arcs out i=0->(∀j,j<i->j∈out\/0<holds arcs out j)->TRun arcs n (out++[i])
structure ToldP(arcs:List ArcD)(n:Nat)(out:List Nat):Prop where
 run:TRun arcs n out
 all:∀j,j<n->j∈out\/0<holds arcs out j
theorem TRun.nodup{arcs:List ArcD}{n:Nat}{out:List Nat}(h:TRun arcs n out):out.Nodup/\∀i∈out,i<n:=by
 induction h with
 | nil=>simp
 | snoc h hi hn _ _ ih=>
  refine⟨List.nodup_append.2 ⟨ih.1,by simp,fun a ha b hb=>?_⟩,fun j hj=>?_⟩
  ·rw[List.mem_singleton.1 hb];exact fun e=>hn (e ▸ ha)
  ·rcases List.mem_append.1 hj with hj|hj
   ·exact ih.2 j hj
   ·rw[List.mem_singleton.1 hj];exact hi
theorem TRun.len{arcs:List ArcD}{n:Nat}{out:List Nat}(h:TRun arcs n out):out.length<=n:=by
 have:=nodup_le (a:=out) (b:=List.range n) h.nodup.1 fun i hi=>List.mem_range.2 (h.nodup.2 i hi)
 simpa using this
theorem TRun.at{arcs:List ArcD}{n:Nat}{L:List Nat}(h:TRun arcs n L):∀ {p q:List Nat}{a:Nat},L=p++a::q->a<n/\a∉p/\holds arcs p a=0/\∀j,j<a->j∈p\/0<holds arcs p j:=by
 induction h with
 | nil=>intro p q a h;simp at h
 | @snoc out i h1 h2 h3 h4 h5 ih=>
  intro p q a h
  rcases List.eq_nil_or_concat q with rfl|⟨q',z,rfl⟩
  ·obtain⟨e1,e2⟩:=List.append_inj' h rfl
   cases e2;subst e1
   exact⟨h2,h3,h4,h5⟩
  ·have:out++[i]=(p++a::q')++[z]:=by rw[h];simp
   exact ih (List.append_inj' this rfl).1
theorem least{P:Nat->Prop}:∀ {n k:Nat},k<=n->P k->∃f,P f/\∀j,P j->f<=j:=by
 intro n
 induction n with
 | zero=>intro k hk h;exact⟨k,h,fun j _=>by omega⟩
 | succ n ih=>
  intro k hk h
  by_cases hx:∃j,j<=n/\P j
  ·obtain⟨j,hj,hp⟩:=hx;exact ih hj hp
  ·refine⟨k,h,fun j hj=>?_⟩
   rcases Nat.lt_or_ge j k with h'|h'
   ·exact absurd ⟨j,by omega,hj⟩ hx
   ·exact h'
theorem greatest{P:Nat->Prop}{n k:Nat}(h:P k)(hb:∀j,P j->j<n):∃l,P l/\∀j,P j->j<=l:=by
 obtain⟨m,⟨j,hj,hm⟩,hmin⟩:=least (P:=fun m=>∃j,P j/\m+j=n) (n:=n) (k:=n-k) (by omega) ⟨k,h,by have:=hb k h;omega⟩
 refine⟨j,hj,fun i hi=>?_⟩
 have h1:=hb i hi
 have h2:=hmin (n-i) ⟨i,hi,by omega⟩
 omega
theorem get_lt{α:Type}{l:List α}{i:Nat}{a:α}(h:l[i]? =some a):i<l.length:=(List.getElem?_eq_some_iff.1 h).1
theorem InP.sym{x:CatD}{hs:List Nd}(hM:HMay x hs){i k:Nat}{d:Int}(h:InP x hs i k d):InP x hs k i d:=by
 rcases h with rfl|⟨a,b,ha,hb,h1,h2,h3,h4⟩
 ·exact .inl rfl
 ·exact .inr ⟨b,a,hb,ha,h1.symm,h3,h2,by rw[hM.cls hb ha h1.symm];exact h4.symm⟩
theorem InP.tr{x:CatD}{hs:List Nd}(hM:HMay x hs){i j k:Nat}{d:Int}(h:InP x hs i j d)(g:InP x hs j k d):InP x hs i k d:=by
 rcases h with rfl|⟨a,b,ha,hb,h1,h2,h3,h4⟩
 ·exact g
 ·rcases g with rfl|⟨b',c,hb',hc,g1,g2,g3,g4⟩
  ·exact .inr ⟨a,b,ha,hb,h1,h2,h3,h4⟩
  ·rw[hb] at hb';cases hb'
   exact .inr ⟨a,c,ha,hc,h1.trans g1,h2,g3,h4.trans (by rw[hM.cls ha hb h1];exact g4)⟩
theorem InP.saga{x:CatD}{hs:List Nd}{i k:Nat}{d:Int}{a:Nd}(h:InP x hs i k d)(ha:hs[i]? =some a):∃b,hs[k]? =some b/\b.v.1=a.v.1:=by
 rcases h with rfl|⟨a',b,ha',hb,h1,_⟩
 ·exact⟨a,ha,rfl⟩
 ·rw[ha] at ha';cases ha';exact⟨b,hb,h1.symm⟩
theorem LstP.ex{x:CatD}{hs:List Nd}{i:Nat}(hi:i<hs.length)(d:Int):∃l,LstP x hs i d l:=greatest (P:=fun k=>InP x hs i k d) (.inl rfl) fun _ h=>h.lt hi
theorem FstP.ex{x:CatD}{hs:List Nd}{i:Nat}(hi:i<hs.length)(d:Int):∃l,FstP x hs i d l:=least (P:=fun k=>InP x hs i k d) (Nat.le_refl i) (.inl rfl)
def ArcE(x:CatD)(hs:List Nd)(a b:Nat):Prop:=∃c:Int,ArcIn x hs ((a:Int),(b:Int),c)
theorem arc_own{x:CatD}{hs:List Nd}:∀ {n i k:Nat}{m nd:Nd},i<=n->hs[k]? =some m->hs[i]? =some nd->m.v.1=nd.v.1->k<i->TC (ArcE x hs) k i:=by
 intro n
 induction n with
 | zero=>intro i k m nd h1 h2 h3 h4 h5;omega
 | succ n ih=>
  intro i k m nd h1 h2 h3 h4 h5
  obtain⟨j,⟨hj,nj,hnj,hsj⟩,hmax⟩:=greatest (P:=fun j=>j<i/\∃nj,hs[j]? =some nj/\nj.v.1=nd.v.1) (n:=i) (k:=k) ⟨h5,m,h2,h4⟩ fun j h=>h.1
  have harc:ArcE x hs j i:=⟨1,i,get_lt h3,.inl ⟨_,⟨nd,h3,.inr ⟨j,nj,hj,hnj,hsj,rfl,fun q mq g1 g2 g3 g4=>by have:=hmax q ⟨g2,mq,g3,g4⟩;omega⟩⟩,by simp⟩⟩
  have hkj:=hmax k ⟨h5,m,h2,h4⟩
  rcases Nat.lt_or_ge k j with h|h
  ·exact(ih (by omega) h2 hnj (h4.trans hsj.symm) h).more harc
  ·have:k=j:=by omega
   subst this;exact .one harc
theorem arc_btw{x:CatD}{hs:List Nd}{i k l f:Nat}{ni nk:Nd}(hd:Dp hs i k)(hi:hs[i]? =some ni)(hk:hs[k]? =some nk)(hne:nk.v.1≠ni.v.1)(hl:LstP x hs k ni.v.2.1 l)(hf:FstP x hs i nk.v.2.1 f):ArcE x hs k i/\ArcE x hs l i/\ArcE x hs k f:=by
 have h0:BtwP x hs k i [((k:Int),(i:Int),2),((l:Int),(i:Int),3),((k:Int),(f:Int),4)]:=⟨nk,ni,l,f,hk,hi,hl,hf,rfl⟩
 have h1:∀e,e∈[((k:Int),(i:Int),(2:Int)),((l:Int),(i:Int),3),((k:Int),(f:Int),4)]->ArcIn x hs e:=fun e he=>⟨i,get_lt hi,.inr ⟨k,_,hd,⟨ni,nk,hi,hk,hne⟩,h0,he⟩⟩
 exact⟨⟨2,h1 _ (by simp)⟩,⟨3,h1 _ (by simp)⟩,⟨4,h1 _ (by simp)⟩⟩
theorem arc_inv{x:CatD}{hs:List Nd}{a b:Nat}(h:ArcE x hs a b):(∃m n,a<b/\hs[a]? =some m/\hs[b]? =some n/\m.v.1=n.v.1)\/∃i k ni nk l f,Dp hs i k/\hs[i]? =some ni/\hs[k]? =some nk/\nk.v.1≠ni.v.1/\LstP x hs k ni.v.2.1 l/\FstP x hs i nk.v.2.1 f/\((a=k/\b=i)\/(a=l/\b=i)\/(a=k/\b=f)):=by
 obtain⟨c,i,hi,h⟩:=h
 rcases h with ⟨xs,⟨n,hn,h⟩,he⟩|⟨k,xs,hd,⟨ni,nk,h1,h2,h3⟩,⟨nk',ni',l,f,g1,g2,g3,g4,rfl⟩,he⟩
 ·rcases h with ⟨rfl,_⟩|⟨k,m,k1,k2,k3,rfl,_⟩
  ·cases he
  ·have:=List.mem_singleton.1 he
   simp only[Prod.mk.injEq] at this
   have ea:a=k:=by omega
   have eb:b=i:=by omega
   subst ea eb
   exact .inl ⟨m,n,k1,k2,hn,k3⟩
 ·rw[h2] at g1;rw[h1] at g2;cases g1;cases g2
  refine .inr ⟨i,k,ni,nk,l,f,hd,h1,h2,h3,g3,g4,?_⟩
  simp only[List.mem_cons,List.not_mem_nil,or_false,Prod.mk.injEq] at he
  omega
structure FairR(x:CatD)(hs:List Nd)(r:Nat->Nat):Prop where
 inj:∀i j,i<hs.length->j<hs.length->r i=r j->i=j
 keep:∀i k,EdP hs i k->r k<r i
 fair:∀o a b u no na,hs[o]? =some no->hs[a]? =some na->na.v.1≠no.v.1->InP x hs a b no.v.2.1->r a<=r o->r o<=r b->InP x hs a u no.v.2.1->¬(Dp hs o u\/Dp hs u o)
theorem dp_rank{hs:List Nd}{r:Nat->Nat}(h:∀i k,EdP hs i k->r k<r i){i k:Nat}(hd:Dp hs i k):r k<r i:=by
 induction hd with
 | one e=>exact h _ _ e
 | more _ e ih=>have:=h _ _ e;omega
theorem FairR.arc{x:CatD}{hs:List Nd}{r:Nat->Nat}(hM:HMay x hs)(h:FairR x hs r){a b:Nat}(e:ArcE x hs a b):r a<r b:=by
 rcases arc_inv e with ⟨m,n,h1,h2,h3,h4⟩|⟨i,k,ni,nk,l,f,hd,hi,hk,hne,hl,hf,hab⟩
 ·exact h.keep _ _ ⟨h1,n,m,h3,h2,.inl h4.symm⟩
 ·have hki:=dp_rank h.keep hd
  rcases hab with ⟨rfl,rfl⟩|⟨rfl,rfl⟩|⟨rfl,rfl⟩
  ·exact hki
  ·apply Nat.lt_of_not_le;intro hle
   exact h.fair b k a k ni nk hi hk hne hl.1 (by omega) hle (.inl rfl) (.inl hd)
  ·apply Nat.lt_of_not_le;intro hle
   obtain⟨nf,hnf,hsf⟩:=hf.1.saga hi
   exact h.fair a b i i nk nf hk hnf (by rw[hsf];exact fun e=>hne e.symm) (hf.1.sym hM) hle (by omega) (hf.1.sym hM) (.inr hd)
theorem tc_rank{E:Nat->Nat->Prop}{r:Nat->Nat}(h:∀a b,E a b->r a<r b){a b:Nat}(t:TC E a b):r a<r b:=by
 induction t with
 | one e=>exact h _ _ e
 | more _ e ih=>have:=h _ _ e;omega
theorem fair_of{x:CatD}{hs:List Nd}{r:Nat->Nat}(hM:HMay x hs)(inj:∀i j,i<hs.length->j<hs.length->r i=r j->i=j)(hr:∀a b,ArcE x hs a b->r a<r b):FairR x hs r:=by
 have own:∀ {k i:Nat}{m n:Nd},hs[k]? =some m->hs[i]? =some n->m.v.1=n.v.1->k<i->r k<r i:=fun h1 h2 h3 h4=>tc_rank hr (arc_own (Nat.le_refl _) h1 h2 h3 h4)
 have dp:∀ {i k:Nat},Dp hs i k->k<hs.length->i<hs.length->r k<r i:=fun{i k} hd hk hi=>by
  have hlt:=Dp_lt hd
  have gi:hs[i]? =some hs[i]:=List.getElem?_eq_getElem hi
  have gk:hs[k]? =some hs[k]:=List.getElem?_eq_getElem hk
  by_cases he:hs[k].v.1=hs[i].v.1
  ·exact own gk gi he hlt
  ·obtain⟨l,hl⟩:=LstP.ex (x:=x) hk hs[i].v.2.1
   obtain⟨f,hf⟩:=FstP.ex (x:=x) hi hs[k].v.2.1
   exact hr _ _ (arc_btw hd gi gk he hl hf).1
 refine⟨inj,fun i k h=>?_,fun o a b u no na ho ha hne hab h1 h2 hau hd=>?_⟩
 ·obtain⟨hlt,a,b,ga,gb,_⟩:=id h
  exact dp (.one h) (get_lt gb) (get_lt ga)
 ·obtain⟨nu,hu,hsu⟩:=hau.saga ha
  obtain⟨nb,hb,hsb⟩:=hab.saga ha
  rcases hd with hd|hd
  ·obtain⟨l,hl⟩:=LstP.ex (x:=x) (get_lt hu) no.v.2.1
   obtain⟨f,hf⟩:=FstP.ex (x:=x) (get_lt ho) nu.v.2.1
   have h3:=hr _ _ (arc_btw hd ho hu (by rw[hsu];exact hne) hl hf).2.1
   have hbl:=hl.2 b ((hau.sym hM).tr hM hab)
   obtain⟨nl,hnl,hsl⟩:=hl.1.saga hu
   rcases Nat.lt_or_ge b l with h'|h'
   ·have:=own hb hnl (hsb.trans (hsu.symm.trans hsl.symm)) h';omega
   ·have:b=l:=by omega
    subst this;omega
  ·obtain⟨l,hl⟩:=LstP.ex (x:=x) (get_lt ho) nu.v.2.1
   obtain⟨f,hf⟩:=FstP.ex (x:=x) (get_lt hu) no.v.2.1
   have h3:=hr _ _ (arc_btw hd hu ho (by rw[hsu];exact fun e=>hne e.symm) hl hf).2.2
   have hfa:=hf.2 a (hau.sym hM)
   obtain⟨nf,hnf,hsf⟩:=hf.1.saga hu
   rcases Nat.lt_or_ge f a with h'|h'
   ·have:=own hnf ha (hsf.trans hsu) h';omega
   ·have:f=a:=by omega
    subst this;omega
def pos:List Nat->Nat->Nat
 | [],_=>0
 | x::l,i=>if x=i then 0 else pos l i+1
theorem pos_mem:∀ {p:List Nat}{a:Nat}(q:List Nat),a∈p->pos (p++q) a<p.length
 | x::p,a,q,h=>by
  rw[List.cons_append,pos,List.length_cons]
  by_cases e:x=a
  ·rw[if_pos e];omega
  ·rw[if_neg e]
   have:=pos_mem (p:=p) q ((List.mem_cons.1 h).resolve_left fun h=>e h.symm)
   omega
theorem pos_not:∀ {p:List Nat}{b:Nat}(q:List Nat),b∉p->pos (p++b::q) b=p.length
 | [],b,q,_=>by rw[List.nil_append,pos,if_pos rfl];rfl
 | x::p,b,q,h=>by
  rw[List.cons_append,pos,if_neg (fun e=>h (by rw[e];exact List.mem_cons_self ..)),pos_not q fun h'=>h (List.mem_cons_of_mem _ h'),List.length_cons]
theorem pos_get:∀ {l:List Nat}{a:Nat},a∈l->l[pos l a]? =some a
 | x::l,a,h=>by
  rw[pos]
  by_cases e:x=a
  ·rw[if_pos e,e];rfl
  ·rw[if_neg e,List.getElem?_cons_succ]
   exact pos_get ((List.mem_cons.1 h).resolve_left fun h=>e h.symm)
theorem full_mem{out:List Nat}{n:Nat}(hn:out.Nodup)(hl:∀i∈out,i<n)(h:out.length=n){i:Nat}(hi:i<n):i∈out:=by
 refine Classical.byContradiction fun hno=>?_
 have:=nodup_le (a:=i::out) (b:=List.range n) (List.nodup_cons.2 ⟨hno,hn⟩) fun j hj=>by
  rcases List.mem_cons.1 hj with rfl|hj
  ·exact List.mem_range.2 hi
  ·exact List.mem_range.2 (hl j hj)
 rw[List.length_cons,List.length_range] at this
 omega
theorem full_miss{out:List Nat}{n:Nat}(h:out.length<n):∃i,i<n/\i∉out:=by
 refine Classical.byContradiction fun hno=>?_
 have:=nodup_le (a:=List.range n) (b:=out) List.nodup_range fun j hj=>Classical.byContradiction fun h'=>hno ⟨j,List.mem_range.1 hj,h'⟩
 rw[List.length_range] at this
 omega
theorem holds_pos{arcs:List ArcD}{out:List Nat}{j:Nat}:0<holds arcs out j↔∃e∈arcs,e.2.1=(j:Int)/\∀k∈out,e.1≠(k:Int):=by
 unfold holds
 rw[List.countP_pos_iff]
 refine exists_congr fun e=>and_congr_right fun _=>?_
 unfold holdB
 rw[Bool.and_eq_true,beq_iff_eq,Bool.not_eq_true']
 refine and_congr_right fun _=>⟨fun h k hk he=>?_,fun h=>?_⟩
 ·rw[List.any_eq_false] at h
  exact h k hk (beq_iff_eq.2 he)
 ·rw[List.any_eq_false]
  exact fun k hk he=>h k hk (beq_iff_eq.1 he)
theorem told_rank{arcs:List ArcD}{n:Nat}{out:List Nat}(hT:ToldP arcs n out)(hl:out.length=n){a b:Nat}{c:Int}(he:((a:Int),(b:Int),c)∈arcs)(hb:b<n):pos out a<pos out b:=by
 have hnd:=hT.run.nodup
 obtain⟨p,q,hpq⟩:=List.append_of_mem (full_mem hnd.1 hnd.2 hl hb)
 obtain⟨h1,h2,h3,_⟩:=hT.run.at hpq
 have:¬0<holds arcs p b:=by omega
 rw[holds_pos] at this
 have ha:a∈p:=Classical.byContradiction fun h=>this ⟨_,he,rfl,fun k hk e=>h (by rw[show a=k from Int.ofNat.inj e];exact hk)⟩
 rw[hpq,pos_not q h2]
 exact pos_mem _ ha
theorem told_full{arcs:List ArcD}{n:Nat}{out:List Nat}(hT:ToldP arcs n out){r:Nat->Nat}(hr:∀e∈arcs,∃a b:Nat,e.1=(a:Int)/\e.2.1=(b:Int)/\a<n/\r a<r b):out.length=n:=by
 have hlen:=hT.run.len
 refine Classical.byContradiction fun hne=>?_
 obtain⟨i0,h0,h0'⟩:=full_miss (out:=out) (n:=n) (by omega)
 obtain⟨m,⟨i,hi,hio,rfl⟩,hmin⟩:=least (P:=fun m=>∃i,i<n/\i∉out/\r i=m) (Nat.le_refl _) ⟨i0,h0,h0',rfl⟩
 obtain⟨e,he,h1,h2⟩:=holds_pos.1 ((hT.all i hi).resolve_left hio)
 obtain⟨a,b,ha,hb,han,hab⟩:=hr e he
 have:b=i:=Int.ofNat.inj (hb.symm.trans h1)
 subst this
 have:=hmin (r a) ⟨a,han,fun h=>h2 a h ha,rfl⟩
 omega
theorem TRun.ex{arcs:List ArcD}{n:Nat}:∀ {m:Nat}{out:List Nat},TRun arcs n out->m+out.length=n->∃out',ToldP arcs n out':=by
 intro m
 induction m with
 | zero=>
  intro out h hm
  have hnd:=h.nodup
  exact⟨out,h,fun j hj=>.inl (full_mem hnd.1 hnd.2 (by omega) hj)⟩
 | succ m ih=>
  intro out h hm
  by_cases hx:∀j,j<n->j∈out\/0<holds arcs out j
  ·exact⟨out,h,hx⟩
  ·have:∃j,j<n/\j∉out/\holds arcs out j=0:=Classical.byContradiction fun hno=>hx fun j hj=>by
    by_cases hm:j∈out
    ·exact .inl hm
    ·exact .inr (Nat.pos_of_ne_zero fun h0=>hno ⟨j,hj,hm,h0⟩)
   obtain⟨j0,hj0⟩:=this
   obtain⟨i,⟨hi,hio,hi0⟩,hmin⟩:=least (P:=fun j=>j<n/\j∉out/\holds arcs out j=0) (Nat.le_refl _) hj0
   refine ih (h.snoc hi hio hi0 fun j hj=>?_) (by rw[List.length_append,List.length_singleton];omega)
   by_cases hm:j∈out
   ·exact .inl hm
   ·exact .inr (Nat.pos_of_ne_zero fun h0=>by have:=hmin j ⟨by omega,hm,h0⟩;omega)
theorem told_ex(arcs:List ArcD)(n:Nat):∃out,ToldP arcs n out:=TRun.ex (m:=n) .nil rfl
theorem arc_of{x:CatD}{hs:List Nd}{ys:List ArcD}(hM:HMay x hs)(hA:ArcsP x hs ys){e:ArcD}(he:e∈ys):∃a b:Nat,e.1=(a:Int)/\e.2.1=(b:Int)/\a<hs.length/\b<hs.length/\ArcE x hs a b:=by
 have h:=(hA.mem hM e).1 he
 obtain⟨⟨h1,h2⟩,⟨h3,h4⟩,_⟩:=h.q
 obtain⟨e1,e2,e3⟩:=e
 obtain⟨a,rfl⟩:=Int.eq_ofNat_of_zero_le h1
 obtain⟨b,rfl⟩:=Int.eq_ofNat_of_zero_le h3
 exact⟨a,b,rfl,rfl,by dsimp only at h2;omega,by dsimp only at h4;omega,e3,h⟩
theorem ArcE.lt{x:CatD}{hs:List Nd}{a b:Nat}(h:ArcE x hs a b):a<hs.length/\b<hs.length:=by
 obtain⟨c,h⟩:=h
 have:=h.q
 dsimp only at this
 omega
theorem told_fair{x:CatD}{hs:List Nd}{ys:List ArcD}{out:List Nat}(hM:HMay x hs)(hA:ArcsP x hs ys)(hT:ToldP ys hs.length out)(hl:out.length=hs.length):FairR x hs (pos out):=by
 have hnd:=hT.run.nodup
 refine fair_of hM (fun i j hi hj e=>?_) fun a b ⟨c,h⟩=>told_rank hT hl ((hA.mem hM _).2 h) (ArcE.lt ⟨c,h⟩).2
 have h1:=pos_get (full_mem hnd.1 hnd.2 hl hi)
 have h2:=pos_get (full_mem hnd.1 hnd.2 hl hj)
 rw[e,h2] at h1
 exact(Option.some.inj h1).symm
theorem told_iff{x:CatD}{hs:List Nd}{ys:List ArcD}{out:List Nat}(hM:HMay x hs)(hA:ArcsP x hs ys)(hT:ToldP ys hs.length out):out.length=hs.length↔∃r,FairR x hs r:=
 ⟨fun h=>⟨_,told_fair hM hA hT h⟩,fun⟨r,h⟩=>told_full hT (r:=r) fun e he=>by
  obtain⟨a,b,h1,h2,h3,h4,h5⟩:=arc_of hM hA he
  exact⟨a,b,h1,h2,h3,h.arc hM h5⟩⟩
theorem TC.flip{α:Type}{E:α->α->Prop}{a b:α}(h:TC (fun x y=>E y x) a b):TC E b a:=by
 induction h with
 | one e=>exact .one e
 | more _ e ih=>exact(TC.one e).trans ih
theorem acyc_iff{x:CatD}{hs:List Nd}{ys:List ArcD}(hM:HMay x hs)(hA:ArcsP x hs ys):(∀i,¬TC (ArcE x hs) i i)↔∃r,FairR x hs r:=by
 constructor
 ·intro h
  obtain⟨out,hT⟩:=told_ex ys hs.length
  refine(told_iff hM hA hT).1 (Classical.byContradiction fun hne=>?_)
  have hlen:=hT.run.len
  obtain⟨i,hi,hio⟩:=full_miss (out:=out) (n:=hs.length) (by omega)
  have pred:∀j,j<hs.length->j∉out->∃a,a∉out/\ArcE x hs a j:=fun j hj hjo=>by
   obtain⟨e,he,h1,h2⟩:=holds_pos.1 ((hT.all j hj).resolve_left hjo)
   obtain⟨a,b,g1,g2,g3,g4,g5⟩:=arc_of hM hA he
   have:b=j:=Int.ofNat.inj (g2.symm.trans h1)
   subst this
   exact⟨a,fun h=>h2 a h g1,g5⟩
  obtain⟨a,⟨b,hb⟩,hall⟩:=acyc_some (E:=fun b a=>b∉out/\a∉out/\ArcE x hs a b) (keys:=List.range hs.length) (fun k hk=>h k (TC.flip (hk.mono fun _ _ h=>h.2.2))) (fun a b h=>List.mem_range.2 h.2.2.lt.2) (k:=i) (by
   obtain⟨a,h1,h2⟩:=pred i hi hio
   exact⟨a,hio,h1,h2⟩)
  obtain⟨c,h1,h2⟩:=pred b hb.2.2.lt.1 hb.2.1
  exact hall b hb c ⟨hb.2.1,h1,h2⟩
 ·rintro⟨r,h⟩ i hi
  have:=tc_rank (fun a b e=>h.arc hM e) hi
  omega
theorem InP.take{x:CatD}{hs:List Nd}{m i k:Nat}{d:Int}(h:InP x (hs.take m) i k d):InP x hs i k d:=by
 rcases h with rfl|⟨a,b,ha,hb,h'⟩
 ·exact .inl rfl
 ·rw[List.getElem?_take] at ha hb
  split at ha
  ·split at hb
   ·exact .inr ⟨a,b,ha,hb,h'⟩
   ·cases hb
  ·cases ha
theorem take_get{hs:List Nd}{m i:Nat}{a:Nd}(h:(hs.take m)[i]? =some a):i<m/\hs[i]? =some a:=by
 rw[List.getElem?_take] at h
 split at h
 ·exact⟨‹_›,h⟩
 ·cases h
theorem FairR.take{x:CatD}{hs:List Nd}{r:Nat->Nat}(h:FairR x hs r)(m:Nat):FairR x (hs.take m) r:=by
 refine⟨fun i j hi hj=>h.inj i j (by rw[List.length_take] at hi;omega) (by rw[List.length_take] at hj;omega),fun i k e=>?_,fun o a b u no na ho ha hne hab h1 h2 hau hd=>?_⟩
 ·obtain⟨hlt,a,b,ga,gb,hd⟩:=e
  exact h.keep i k ⟨hlt,a,b,(take_get ga).2,(take_get gb).2,hd⟩
 ·obtain⟨ho1,ho2⟩:=take_get ho
  obtain⟨ha1,ha2⟩:=take_get ha
  obtain⟨nu,hu,_⟩:=hau.saga ha
  have hu1:=(take_get hu).1
  refine h.fair o a b u no na ho2 ha2 hne hab.take h1 h2 hau.take (hd.imp (fun h=>?_) fun h=>?_)
  ·exact(Dp_take ho1).1 h
  ·exact(Dp_take hu1).1 h
theorem HMay.take{x:CatD}{hs:List Nd}(h:HMay x hs)(m:Nat):HMay x (hs.take m):=by
 refine⟨h.cat,by have:=h.len;rw[List.length_take];omega,fun i n hn=>?_⟩
 obtain⟨h1,h2⟩:=take_get hn
 have:=h.ok i n h2
 unfold lastOwn at this ⊢
 rw[List.take_take,Nat.min_eq_left (by omega)]
 exact this
theorem TC.lt{x:CatD}{hs:List Nd}{a b:Nat}(h:TC (ArcE x hs) a b):a<hs.length/\b<hs.length:=by
 induction h with
 | one e=>exact e.lt
 | more _ e ih=>exact⟨ih.1,e.lt.2⟩
def ArE(ys:List ArcD)(a b:Nat):Prop:=∃c:Int,((a:Int),(b:Int),c)∈ys
theorem ArcsP.are{x:CatD}{hs:List Nd}{ys:List ArcD}(hM:HMay x hs)(h:ArcsP x hs ys)(a b:Nat):ArE ys a b↔ArcE x hs a b:=exists_congr fun c=>h.mem hM _
set_option maxRecDepth 100000
theorem F116_ok(t0:Sl×List Value)(w:World)(R:RV)(h:AllocP w (Obj.cells { toList:=Qy t0.fst::t0.2 } 26) fun b1 w2=>AllocP w2 (Obj.cells #[Value.slice none 0 0,Qz 0,Qz 0,Qz 0,Qz 0,Qz 0,Qz 0,Qz 0,Qz 0,Qz 0,Qz 0,Qz 0,Qz 0,Qz 0,Qz 0,Qz 0,Qz 0] 26) fun b3 w4=>∃(x5:Sl×List Value),CellsN w4 b1 0 17 (Qy x5.fst::x5.2)/\Cx 50 #[Value.agg { toList:=Qy x5.fst::x5.2 }] w4 fun v8 w9=>∃(x10:Sl×List Value),v8=Value.agg { toList:=Qy x10.fst::x10.2 }/\AllocP w9 (Obj.cells #[Value.slice none 0 0,Qz 0,Qz 0,Qz 0,Qz 0,Qz 0,Qz 0,Qz 0,Qz 0,Qz 0,Qz 0,Qz 0,Qz 0,Qz 0,Qz 0,Qz 0,Qz 0] 26) fun b11 w12=>(Array.mk (Qy x10.fst::x10.2 )).size=17/\StoreP w12 b11 0 (Qy x10.fst::x10.2) fun w13=>∃(l14:List Value),CellsN w13 b1 (0+1) 16 l14/\(Array.mk (l14 )).size=16/\StoreP w13 b11 (0+1) l14 fun w17=>∃(x18:Sl×List Value),CellsN w17 b11 0 17 (Qy x18.fst::x18.2)/\(Array.mk (Qy x18.fst::x18.2 )).size=17/\StoreP w17 b3 0 (Qy x18.fst::x18.2) fun w21=>∃(x22:Sl×List Value),CellsN w21 b3 0 17 (Qy x22.fst::x22.2)/\R (Value.agg { toList:=Qy x22.fst::x22.2 }) w21):Cw 116 #[Value.agg { toList:=Qy t0.fst::t0.2 }] w R:=
 ckF Tryz.func116 .nil h (by kernel_rfl) (by kernel_rfl)
def F119j1(R:RV)(s3:Sl)(y4:Nat->Int->World->Prop)(b6:Nat)(n7:Int)(w8:World):Prop:=IfB (decide (n7<(s3.n:Int))) (Qx s3.1 n7 (s3.2:Int) fun b11 b12=>∃(x13:Int×Int×Int×Bool×Sl×Sl),CellsAt w8 b11 (b12+n7.toNat*6) (lC53 x13)/\AllocP w8 (Obj.cells #[Qz 0,Qz 0,Qz 0,Value.bool false,Value.slice none 0 0,Value.slice none 0 0] 53) fun b14 w15=>(lC53 x13).toArray.size=6/\StoreP w15 b14 0 (lC53 x13) fun w16=>Qs w16.drew b14 (0+4) fun s17=>Qs w16.drew b14 (0+5) fun s18=>Qu' 176 #[Qy s17] w16.drew fun s21 w20=>w20.cell? ⟨b14,0+5,none⟩=some (Qy s18)/\Qu' 176 #[Qy s18] w20 fun s24 w23=>Qx s3.1 n7 (s3.2:Int) fun b25 b26=>#[Qy s21].size=1/\StoreP w23 b25 (b26+n7.toNat*6+4) [Qy s21] fun w27=>Qx s3.1 n7 (s3.2:Int) fun b28 b29=>#[Qy s24].size=1/\StoreP w27 b28 (b29+n7.toNat*6+5) [Qy s24] fun w30=>Qn y4 b6 (IntKind.i64.wrap (n7+1)) w30) (R (Qy s3) w8)
theorem F119_ok(t0:Sl)(w:World)(R:RV)(h:Cx 96 #[Qy t0] w fun v1 w2=>∃s3:Sl,v1=Qy s3/\Ql (α:=Int) 0 w2 fun y4 b6 n7 w8=>(F119j1 R s3 y4 b6 n7 w8)):Cw 119 #[Qy t0] w R:=
 ckF Tryz.func119 (nd (nd (.node (nd (.loop [(10,oi)] (rg [4,5,10,29]) (nd (nd (.node (nd (.draw (sts [0,1,2,3,4,5,7,8] (.ac 6 [8,7,3,2,1,0] (.ac 9 [3,2,1,0] (sts [10,11] (.ac 12 [3,2] (sts [13,14] (.ac 15 [] .fin .non)) .non)) .non) .non)))) .nil))))) .nil))) h (by kernel_rfl) (by kernel_rfl)
def F174j3(t0:Int)(b1:Nat)(y29:Nat->Int->World->Prop)(b31:Nat)(n32:Int)(y36:Nat->Int->World->Prop)(b38:Nat)(n39:Int)(w40:World):Prop:=IfB (decide (n39<(t0.toNat:Int))) (Qx (some ⟨b1,0,none⟩) n39 (t0.toNat:Int) fun b43 b44=>∃(x45:Int×Int),CellsAt w40 b43 (b44+n39.toNat*2) [Value.int IntKind.u64 x45.1,Value.int IntKind.u64 x45.2]/\AllocP w40 (Obj.cells #[Value.int IntKind.u64 0,Value.int IntKind.u64 0] 147) fun b46 w47=>#[Value.int IntKind.u64 x45.1,Value.int IntKind.u64 x45.2].size=2/\StoreP w47 b46 0 [Value.int IntKind.u64 x45.1,Value.int IntKind.u64 x45.2] fun w48=>∃(x49:Int×Int),CellsAt w48 b46 0 [Value.int IntKind.u64 x49.1,Value.int IntKind.u64 x49.2]/\Qv' 129 #[Value.agg #[Value.int IntKind.u64 x49.1,Value.int IntKind.u64 x49.2],Qz n32] w48 fun t52 w51=>IfB t52 (∃(x53:Int×Int),CellsAt w51.drew b46 0 [Value.int IntKind.u64 x53.1,Value.int IntKind.u64 x53.2]/\Qx (some ⟨b1,0,none⟩) n32 (t0.toNat:Int) fun b54 b55=>∃(x56:Int×Int),CellsAt w51.drew b54 (b55+n32.toNat*2) [Value.int IntKind.u64 x56.1,Value.int IntKind.u64 x56.2]/\Cx 221 #[Value.agg #[Value.int IntKind.u64 x53.1,Value.int IntKind.u64 x53.2],Value.agg #[Value.int IntKind.u64 x56.1,Value.int IntKind.u64 x56.2]] w51.drew fun v57 w58=>∃(x59:Int×Int),v57=Value.agg #[Value.int IntKind.u64 x59.1,Value.int IntKind.u64 x59.2]/\Qx (some ⟨b1,0,none⟩) n39 (t0.toNat:Int) fun b60 b61=>#[Value.int IntKind.u64 x59.1,Value.int IntKind.u64 x59.2].size=2/\StoreP w58 b60 (b61+n39.toNat*2) [Value.int IntKind.u64 x59.1,Value.int IntKind.u64 x59.2] fun w62=>Qn y36 b38 (IntKind.i64.wrap (n39+1)) w62) (Qn y36 b38 (IntKind.i64.wrap (n39+1)) w51)) (Qn y29 b31 (IntKind.i64.wrap (n32+1)) w40)
def F174j1(t0:Int)(t1:Sl)(R:RV)(b1:Nat)(y3:Nat->Int->World->Prop)(b5:Nat)(n6:Int)(w7:World):Prop:=IfB (decide (n6<(t1.n:Int))) (Qx t1.1 n6 (t1.2:Int) fun b10 b11=>∃(x12:Int×Int×Int),CellsAt w7 b10 (b11+n6.toNat*3) (lC44 x12)/\AllocP w7 (Obj.cells #[Qz 0,Qz 0,Qz 0] 44) fun b13 w14=>(lC44 x12).toArray.size=3/\StoreP w14 b13 0 (lC44 x12) fun w15=>Qi w15.drew b13 (0+0) fun n16=>Qi w15.drew b13 (0+0) fun n17=>Qx (some ⟨b1,0,none⟩) n17 (t0.toNat:Int) fun b18 b19=>∃(x20:Int×Int),CellsAt w15.drew b18 (b19+n17.toNat*2) [Value.int IntKind.u64 x20.1,Value.int IntKind.u64 x20.2]/\Qi w15.drew b13 (0+1) fun n21=>Cx 220 #[Value.agg #[Value.int IntKind.u64 x20.1,Value.int IntKind.u64 x20.2],Qz n21] w15.drew fun v22 w23=>∃(x24:Int×Int),v22=Value.agg #[Value.int IntKind.u64 x24.1,Value.int IntKind.u64 x24.2]/\w23.cell? ⟨b13,0+0,none⟩=some (Qz n16)/\Qx (some ⟨b1,0,none⟩) n16 (t0.toNat:Int) fun b25 b26=>#[Value.int IntKind.u64 x24.1,Value.int IntKind.u64 x24.2].size=2/\StoreP w23 b25 (b26+n16.toNat*2) [Value.int IntKind.u64 x24.1,Value.int IntKind.u64 x24.2] fun w27=>Qn y3 b5 (IntKind.i64.wrap (n6+1)) w27) (Ql (α:=Int) 0 w7 fun y29 b31 n32 w33=>IfB (decide (n32<t0)) (Ql (α:=Int) 0 w33 fun y36 b38 n39 w40=>(F174j3 t0 b1 y29 b31 n32 y36 b38 n39 w40)) (R (Value.slice (some ⟨b1,0,none⟩) t0.toNat t0.toNat) w33))
theorem F174_ok(t0:Int)(t1:Sl)(w:World)(R:RV)(h:(0<=t0/\t0<=t0/\t0<=281474976710656/\((16:Nat):Int)*t0<=281474976710656)/\AllocP w (Obj.cells { toList:=zc #[Value.int IntKind.u64 0,Value.int IntKind.u64 0] t0.toNat } 147) fun b1 w2=>Ql (α:=Int) 0 w2 fun y3 b5 n6 w7=>(F174j1 t0 t1 R b1 y3 b5 n6 w7)):Cw 174 #[Qz t0,Qy t1] w R:=
 ckF Tryz.func174 (nd (nd (.node (nd (.loop [(15,oi)] (rg [7,7,15,31]) (nd (nd (.node (nd (.draw (sts [0,1,2,3,4,5,6,7,8,9] (.ac 10 [2,1,0] (.st 11 (.ac 12 [] .fin .non)) .non)))) .nil))))) (.node (nd (.loop [(33,oi)] (rg [8,10,33,56]) (nd (nd (.node (nd (nd (.loop [(38,oi)] (rg [9,10,38,55]) (nd (nd (.node (nd (nd (.node (.draw (sts [0,1,2,3,4,5,6] (.ac 7 [1,0] (.st 8 (.ac 9 [] .fin .non)) .non))) .nil))) .nil)))))) .nil))))) .nil)))) h (by kernel_rfl) (by kernel_rfl)
def F175j1(t0:Sl)(R:RV)(y1:Nat->Int->World->Prop)(b3:Nat)(n4:Int)(w5:World):Prop:=IfB (decide (n4<(t0.n:Int))) (Qx t0.1 n4 (t0.2:Int) fun b8 b9=>∃(x10:Int×Int),CellsAt w5 b8 (b9+n4.toNat*2) [Value.int IntKind.u64 x10.1,Value.int IntKind.u64 x10.2]/\AllocP w5 (Obj.cells #[Value.int IntKind.u64 0,Value.int IntKind.u64 0] 147) fun b11 w12=>#[Value.int IntKind.u64 x10.1,Value.int IntKind.u64 x10.2].size=2/\StoreP w12 b11 0 [Value.int IntKind.u64 x10.1,Value.int IntKind.u64 x10.2] fun w13=>∃(x14:Int×Int),CellsAt w13 b11 0 [Value.int IntKind.u64 x14.1,Value.int IntKind.u64 x14.2]/\Qv' 129 #[Value.agg #[Value.int IntKind.u64 x14.1,Value.int IntKind.u64 x14.2],Qz n4] w13 fun t17 w16=>IfB t17 (R (Value.bool false) w16) (Qn y1 b3 (IntKind.i64.wrap (n4+1)) w16)) (R (Value.bool true) w5)
theorem F175_ok(t0:Sl)(w:World)(R:RV)(h:Ql (α:=Int) 0 w fun y1 b3 n4 w5=>(F175j1 t0 R y1 b3 n4 w5)):Cw 175 #[Qy t0] w R:=
 ckF Tryz.func175 (nd (.node (nd (.loop [(7,oi)] (rg [2,4,7,15]) .nil)) .nil)) h (by kernel_rfl) (by kernel_rfl)
theorem F129_ok(t0:Int×Int)(t1:Int)(w:World)(R:RV)(h:AllocP w (Obj.cells #[Value.int IntKind.u64 t0.1,Value.int IntKind.u64 t0.2] 147) fun b1 w2=>¬(64:Int)=0/\(0<=IntKind.i64.wrap (t1.tdiv 64)/\IntKind.i64.wrap (t1.tdiv 64)<((2:Nat):Int))/\∃n3:Int,w2.cell? ⟨b1,0+(IntKind.i64.wrap (t1.tdiv 64)).toNat,none⟩=some (Value.int IntKind.u64 n3)/\¬(64:Int)=0/\0<=t1.tmod 64/\R (Value.bool (bitsI BinOp.and IntKind.u64 (n3.fdiv (2^min (t1.tmod 64).toNat IntKind.u64.bits)) (1:Int) == 1)) w2):Cw 129 #[Value.agg #[Value.int IntKind.u64 t0.1,Value.int IntKind.u64 t0.2],Qz t1] w R:=
 ckF Tryz.func129 .nil h (by kernel_rfl) (by kernel_rfl)
theorem F220_ok(t0:Int×Int)(t1:Int)(w:World)(R:RV)(h:AllocP w (Obj.cells #[Value.int IntKind.u64 t0.1,Value.int IntKind.u64 t0.2] 147) fun b1 w2=>AllocP w2 (Obj.cells #[Value.int IntKind.u64 0,Value.int IntKind.u64 0] 147) fun b3 w4=>¬(64:Int)=0/\(0<=IntKind.i64.wrap (t1.tdiv 64)/\IntKind.i64.wrap (t1.tdiv 64)<((2:Nat):Int))/\∃n5:Int,w4.drew.cell? ⟨b1,0+(IntKind.i64.wrap (t1.tdiv 64)).toNat,none⟩=some (Value.int IntKind.u64 n5)/\¬(64:Int)=0/\0<=t1.tmod 64/\(0<=IntKind.i64.wrap (t1.tdiv 64)/\IntKind.i64.wrap (t1.tdiv 64)<((2:Nat):Int))/\#[Value.int IntKind.u64 (bitsI BinOp.or IntKind.u64 n5 (IntKind.u64.wrap (1*2^min (t1.tmod 64).toNat IntKind.u64.bits)))].size=1/\StoreP w4.drew b1 (0+(IntKind.i64.wrap (t1.tdiv 64)).toNat) [Value.int IntKind.u64 (bitsI BinOp.or IntKind.u64 n5 (IntKind.u64.wrap (1*2^min (t1.tmod 64).toNat IntKind.u64.bits)))] fun w6=>∃(x7:Int×Int),CellsAt w6 b1 0 [Value.int IntKind.u64 x7.1,Value.int IntKind.u64 x7.2]/\#[Value.int IntKind.u64 x7.1,Value.int IntKind.u64 x7.2].size=2/\StoreP w6 b3 0 [Value.int IntKind.u64 x7.1,Value.int IntKind.u64 x7.2] fun w8=>∃(x9:Int×Int),CellsAt w8 b3 0 [Value.int IntKind.u64 x9.1,Value.int IntKind.u64 x9.2]/\R (Value.agg #[Value.int IntKind.u64 x9.1,Value.int IntKind.u64 x9.2]) w8):Cw 220 #[Value.agg #[Value.int IntKind.u64 t0.1,Value.int IntKind.u64 t0.2],Qz t1] w R:=
 ckF Tryz.func220 (nd (.node (.draw (sts [0,1,2,3,4,5,6,7,8] (.ac 9 [] .fin .non))) .nil)) h (by kernel_rfl) (by kernel_rfl)
theorem F221_ok(t0:Int×Int)(t1:Int×Int)(w:World)(R:RV)(h:AllocP w (Obj.cells #[Value.int IntKind.u64 t0.1,Value.int IntKind.u64 t0.2] 147) fun b1 w2=>AllocP w2 (Obj.cells #[Value.int IntKind.u64 t1.1,Value.int IntKind.u64 t1.2] 147) fun b3 w4=>AllocP w4 (Obj.cells #[Value.int IntKind.u64 0,Value.int IntKind.u64 0] 147) fun b5 w6=>((0:Int)<=0/\0<((2:Nat):Int))/\∃n7:Int,w6.cell? ⟨b1,0+Int.toNat 0,none⟩=some (Value.int IntKind.u64 n7)/\((0:Int)<=0/\0<((2:Nat):Int))/\∃n8:Int,w6.cell? ⟨b3,0+Int.toNat 0,none⟩=some (Value.int IntKind.u64 n8)/\((0:Int)<=1/\1<((2:Nat):Int))/\∃n9:Int,w6.cell? ⟨b1,0+Int.toNat 1,none⟩=some (Value.int IntKind.u64 n9)/\((0:Int)<=1/\1<((2:Nat):Int))/\∃n10:Int,w6.cell? ⟨b3,0+Int.toNat 1,none⟩=some (Value.int IntKind.u64 n10)/\#[Value.int IntKind.u64 (bitsI BinOp.or IntKind.u64 n7 n8),Value.int IntKind.u64 (bitsI BinOp.or IntKind.u64 n9 n10)].size=2/\StoreP w6 b5 0 [Value.int IntKind.u64 (bitsI BinOp.or IntKind.u64 n7 n8),Value.int IntKind.u64 (bitsI BinOp.or IntKind.u64 n9 n10)] fun w11=>∃(x12:Int×Int),CellsAt w11 b5 0 [Value.int IntKind.u64 x12.1,Value.int IntKind.u64 x12.2]/\R (Value.agg #[Value.int IntKind.u64 x12.1,Value.int IntKind.u64 x12.2]) w11):Cw 221 #[Value.agg #[Value.int IntKind.u64 t0.1,Value.int IntKind.u64 t0.2],Value.agg #[Value.int IntKind.u64 t1.1,Value.int IntKind.u64 t1.2]] w R:=
 ckF Tryz.func221 .nil h (by kernel_rfl) (by kernel_rfl)
def F117k1(t0:Option Addr)(w21:World)(s13:Sl)(R:RV):Prop:=∃b23:Nat,∃b24:Nat,t0=some ⟨b23,b24,none⟩/\∃(x25:Sl×List Value),CellsN w21 b23 (b24+0) 17 (Qy x25.fst::x25.2)/\Qu' 30 #[Value.agg { toList:=Qy x25.fst::x25.2 },Qy s13] w21 fun s30 w29=>Qu' 174 #[Qz (s13.2:Int),Qy s30] w29 fun s33 w32=>Qv' 175 #[Qy s33] w32 fun t36 w35=>IfB (!t36) (R (Value.tuple #[Value.slice none 0 0,Qz 11]) w35) (R (Value.tuple #[Qy s33,Qz 0]) w35)
def F117k2(t0:Option Addr)(w2:World)(b1:Nat)(R:RV):Prop:=∃b3:Nat,∃b4:Nat,t0=some ⟨b3,b4,none⟩/\Qs w2.drew b3 (b4+17) fun s5=>∃(x6:Int×Int×Int×Bool×Sl×Sl),CellsAt w2.drew b1 0 (lC53 x6)/\(Qu' 96 #[Qy s5] w2.drew fun s9 w8=>CellsAt w8 b1 0 (lC53 x6)/\1*6<=16777216/\AllocP w8 (Obj.cells (lC53 x6).toArray 53) fun b10 w11=>∃(l12:List Value),ReadC w11 (some ⟨b10,0,none⟩) (1*6) l12/\AppendP tt53 53 w11 s9.1 s9.2 s9.3 1 l12 fun s13 w14=>∃b15:Nat,∃b16:Nat,t0=some ⟨b15,b16,none⟩/\∃(x17:Sl×List Value),CellsN w14 b15 (b16+0) 17 (Qy x17.fst::x17.2)/\Qv' 84 #[Value.agg { toList:=Qy x17.fst::x17.2 },Qy s13] w14 fun t22 w21=>IfB (!t22) (R (Value.tuple #[Value.slice none 0 0,Qz 1]) w21) (F117k1 t0 w21 s13 R))/\1*6<=16777216/\AllocP w2.drew (Obj.cells (lC53 x6).toArray 53) fun b37 w38=>w38.cell? ⟨b3,b4+17,none⟩=some (Qy s5)/\Qu' 96 #[Qy s5] w38 fun s41 w40=>∃(l42:List Value),ReadC w40 (some ⟨b37,0,none⟩) (1*6) l42/\AppendP tt53 53 w40 s41.1 s41.2 s41.3 1 l42 fun s43 w44=>∃b45:Nat,∃b46:Nat,t0=some ⟨b45,b46,none⟩/\∃(x47:Sl×List Value),CellsN w44 b45 (b46+0) 17 (Qy x47.fst::x47.2)/\Qv' 84 #[Value.agg { toList:=Qy x47.fst::x47.2 },Qy s43] w44 fun t52 w51=>IfB (!t52) (R (Value.tuple #[Value.slice none 0 0,Qz 1]) w51) (F117k1 t0 w51 s43 R)
theorem F117_ok(t0:Option Addr)(t1:Int×Int×Int×Bool×Sl×Sl)(w:World)(R:RV)(h:AllocP w (Obj.cells (lC53 t1).toArray 53) fun b1 w2=>IfB t0.isNone (R (Value.tuple #[Value.slice none 0 0,Qz 1]) w2) (F117k2 t0 w2 b1 R)):Cw 117 #[Value.pointer t0,(.agg (lC53 t1).toArray)] w R:=
 ckF Tryz.func117 (nd (nd (.node (.draw (sts [0,1,2,3,5] (.ac 4 [5] (.ac 6 [] (.ac 7 [] (.st 8 .fin) .non) .non) (.ac 6 [3,2,1,0] (.ac 4 [] (.ac 7 [] (.st 8 .fin) .non) .non) .non)))) .nil))) h (by kernel_rfl) (by kernel_rfl)
theorem F55_ok(t0:Option Addr)(t1:Int×Int×Int×Bool×Sl×Sl)(w:World)(R:RV)(h:AllocP w (Obj.cells (lC53 t1).toArray 53) fun b1 w2=>∃(x3:Int×Int×Int×Bool×Sl×Sl),CellsAt w2 b1 0 (lC53 x3)/\Cx 117 #[Value.pointer t0,Value.agg (lC53 x3).toArray] w2 fun v4 w5=>∃(x6:Sl×Int),v4=Value.tuple #[Qy x6.fst,Qz x6.2]/\R (Qz x6.2) w5):Cw 55 #[Value.pointer t0,(.agg (lC53 t1).toArray)] w R:=
 ckF Tryz.func55 .nil h (by kernel_rfl) (by kernel_rfl)
def F56k1(t0:Option Addr)(w5:World)(b1:Nat)(x6:Sl×Int)(R:RV):Prop:=∃b7:Nat,∃b8:Nat,t0=some ⟨b7,b8,none⟩/\Qs w5.drew b7 (b8+18) fun s9=>∃b10:Nat,∃b11:Nat,t0=some ⟨b10,b11,none⟩/\Qs w5.drew b10 (b11+17) fun s12=>∃(x13:Int×Int×Int×Bool×Sl×Sl),CellsAt w5.drew b1 0 (lC53 x13)/\Qu' 118 #[Qy s9,Qy s12,Value.agg (lC53 x13).toArray] w5.drew fun s16 w15=>∃b17:Nat,∃b18:Nat,t0=some ⟨b17,b18,none⟩/\#[Qy s16].size=1/\StoreP w15 b17 (b18+18) [Qy s16] fun w19=>∃b20:Nat,∃b21:Nat,t0=some ⟨b20,b21,none⟩/\Qs w19.drew b20 (b21+17) fun s22=>∃(x23:Int×Int×Int×Bool×Sl×Sl),CellsAt w19.drew b1 0 (lC53 x23)/\1*6<=16777216/\AllocP w19.drew (Obj.cells (lC53 x23).toArray 53) fun b24 w25=>w25.cell? ⟨b20,b21+17,none⟩=some (Qy s22)/\Qu' 119 #[Value.slice (some ⟨b24,0,none⟩) 1 1] w25 fun s28 w27=>w27.cell? ⟨b20,b21+17,none⟩=some (Qy s22)/\∃(l29:List Value),ReadC w27 s28.1 (s28.2*6) l29/\AppendP tt53 53 w27 s22.1 s22.2 s22.3 s28.2 l29 fun s30 w31=>∃b32:Nat,∃b33:Nat,t0=some ⟨b32,b33,none⟩/\#[Qy s30].size=1/\StoreP w31 b32 (b33+17) [Qy s30] fun w34=>∃b35:Nat,∃b36:Nat,t0=some ⟨b35,b36,none⟩/\#[Qy x6.fst].size=1/\StoreP w34 b35 (b36+19) [Qy x6.fst] fun w37=>R (Qz 0) w37
theorem F56_ok(t0:Option Addr)(t1:Int×Int×Int×Bool×Sl×Sl)(w:World)(R:RV)(h:AllocP w (Obj.cells (lC53 t1).toArray 53) fun b1 w2=>∃(x3:Int×Int×Int×Bool×Sl×Sl),CellsAt w2 b1 0 (lC53 x3)/\Cx 117 #[Value.pointer t0,Value.agg (lC53 x3).toArray] w2 fun v4 w5=>∃(x6:Sl×Int),v4=Value.tuple #[Qy x6.fst,Qz x6.2]/\IfB (x6.2 != 0) (R (Qz x6.2) w5) (F56k1 t0 w5 b1 x6 R)):Cw 56 #[Value.pointer t0,(.agg (lC53 t1).toArray)] w R:=
 ckF Tryz.func56 (nd (nd (nd (.node (.draw (sts [0,1,2,3,4,5,6,7,8,9] (.ac 10 [0] (sts [11,12] (.ac 13 [] .fin .non)) .non))) (.node (.draw (sts [0,1,2,3,4,5,6,10] (.ac 7 [10,5,4,3,2,1,0] (.ac 8 [10,5,4,3,2,1,0] (.ac 9 [10,1,0] (sts [11,12] (.ac 13 [10,1] (sts [14,15] (.ac 16 [] .fin .non)) .non)) .non) .non) .non))) .nil))))) h (by kernel_rfl) (by kernel_rfl)
theorem F65_ok(t0:Option Addr)(w:World)(R:RV)(h:IfB t0.isNone (R (Value.slice none 0 0) w) (∃b1:Nat,∃b2:Nat,t0=some ⟨b1,b2,none⟩/\∃s3:Sl,w.cell? ⟨b1,b2+17,none⟩=some (Qy s3)/\Cx 119 #[Qy s3] w fun v4 w5=>∃s6:Sl,v4=Qy s6/\R (Qy s6) w5)):Cw 65 #[Value.pointer t0] w R:=
 ckF Tryz.func65 .nil h (by kernel_rfl) (by kernel_rfl)
theorem F66_ok(t0:Option Addr)(w:World)(R:RV)(h:IfB t0.isNone (R (Value.slice none 0 0) w) (∃b1:Nat,∃b2:Nat,t0=some ⟨b1,b2,none⟩/\∃(x3:Sl×List Value),CellsN w.drew b1 (b2+0) 17 (Qy x3.fst::x3.2)/\∃b6:Nat,∃b7:Nat,t0=some ⟨b6,b7,none⟩/\∃s8:Sl,w.drew.cell? ⟨b6,b7+17,none⟩=some (Qy s8)/\Cx 37 #[Value.agg { toList:=Qy x3.fst::x3.2 },Qy s8] w.drew fun v9 w10=>∃s11:Sl,v9=Qy s11/\R (Qy s11) w10)):Cw 66 #[Value.pointer t0] w R:=
 ckF Tryz.func66 (nd (nd (.node (.draw (sts [0,1,2,3,4,5,6,7] (.ac 8 [] (.st 9 .fin) .non))) .nil))) h (by kernel_rfl) (by kernel_rfl)
theorem F67_ok(t0:Option Addr)(t1:Int)(w:World)(R:RV)(h:Cx 128 #[Value.pointer t0,Qz t1] w fun v1 w2=>∃t3:Bool,v1=Value.bool t3/\IfB (!t3) (R (Value.slice none 0 0) w2) (∃b4:Nat,∃b5:Nat,t0=some ⟨b4,b5,none⟩/\Qs w2 b4 (b5+18) fun s6=>Qx s6.1 t1 (s6.2:Int) fun b7 b8=>Qs w2 b7 (b8+t1.toNat) fun s9=>Qu' 111 #[Qy s9] w2 fun s12 w11=>R (Qy s12) w11)):Cw 67 #[Value.pointer t0,Qz t1] w R:=
 ckF Tryz.func67 .nil h (by kernel_rfl) (by kernel_rfl)
theorem F68_ok(t0:Option Addr)(t1:Int)(t2:Int)(w:World)(R:RV)(h:Cx 128 #[Value.pointer t0,Qz t1] w fun v1 w2=>∃t3:Bool,v1=Value.bool t3/\IfB t3 (Qv' 128 #[Value.pointer t0,Qz t2] w2 fun t6 w5=>IfB t6 (∃b7:Nat,∃b8:Nat,t0=some ⟨b7,b8,none⟩/\Qs w5 b7 (b8+19) fun s9=>Qx s9.1 t1 (s9.2:Int) fun b10 b11=>∃(x12:Int×Int),CellsAt w5 b10 (b11+t1.toNat*2) [Value.int IntKind.u64 x12.1,Value.int IntKind.u64 x12.2]/\Qv' 129 #[Value.agg #[Value.int IntKind.u64 x12.1,Value.int IntKind.u64 x12.2],Qz t2] w5 fun t15 w14=>R (Value.bool t15) w14) (R (Value.bool false) w5)) (R (Value.bool false) w2)):Cw 68 #[Value.pointer t0,Qz t1,Qz t2] w R:=
 ckF Tryz.func68 .nil h (by kernel_rfl) (by kernel_rfl)
theorem F128_ok(t0:Option Addr)(t1:Int)(w:World)(R:RV)(h:IfB (!t0.isNone) (IfB (decide (0<=t1)) (∃b1:Nat,∃b2:Nat,t0=some ⟨b1,b2,none⟩/\∃s3:Sl,w.cell? ⟨b1,b2+17,none⟩=some (Qy s3)/\R (Value.bool (decide (t1<(s3.n:Int)))) w) (R (Value.bool false) w)) (R (Value.bool false) w)):Cw 128 #[Value.pointer t0,Qz t1] w R:=
 ckF Tryz.func128 .nil h (by kernel_rfl) (by kernel_rfl)
def F60j1(R:RV)(b1:Nat)(s5:Sl)(y6:Nat->Int->World->Prop)(b8:Nat)(n9:Int)(w10:World):Prop:=IfB (decide (n9<(s5.n:Int))) (Qx s5.1 n9 (s5.2:Int) fun b13 b14=>∃(x15:Int×Int×Int×Bool×Sl×Sl),CellsAt w10 b13 (b14+n9.toNat*6) (lC53 x15)/\AllocP w10 (Obj.cells #[Qz 0,Qz 0,Qz 0,Value.bool false,Value.slice none 0 0,Value.slice none 0 0] 53) fun b16 w17=>(lC53 x15).toArray.size=6/\StoreP w17 b16 0 (lC53 x15) fun w18=>Qi w18 b16 (0+0) fun n19=>MapSetP (TypeDesc.int IntKind.i64) w18 (Value.map (some b1)) (Qz n19) (Value.bool true) fun w20=>Qn y6 b8 (IntKind.i64.wrap (n9+1)) w20) (Cx 124 #[Value.map (some b1)] w10 fun v22 w23=>∃(x24:Nat×Array Value),v22=Value.func (Fn.func x24.1) #[] x24.2/\Qu' 123 #[Value.func (Fn.func x24.1) #[] x24.2] w23 fun s27 w26=>R (Qy s27) w26)
theorem F60_ok(t0:Option Addr)(w:World)(R:RV)(h:AllocP w (Obj.map #[] 0) fun b1 w2=>Qu' 65 #[Value.pointer t0] w2 fun s5 w4=>Ql (α:=Int) 0 w4 fun y6 b8 n9 w10=>(F60j1 R b1 s5 y6 b8 n9 w10)):Cw 60 #[Value.pointer t0] w R:=
 ckF Tryz.func60 (nd (nd (.node (nd (.loop [(10,oi)] (rg [5,5,10,17]) .nil)) .nil))) h (by kernel_rfl) (by kernel_rfl)
theorem F61_ok(t0:Option Addr)(t1:Nat×Array Value)(w:World)(R:RV)(h:AllocP w (Obj.cells #[Value.func (Fn.func t1.1) #[] t1.2] 74) fun b1 w2=>IfB t0.isNone (R (Value.tuple #[Value.pointer none,Value.bool false]) w2) (∃b3:Nat,∃b4:Nat,t0=some ⟨b3,b4,none⟩/\∃(x5:Sl×List Value),CellsN w2 b3 (b4+0) 17 (Qy x5.fst::x5.2)/\Cx 54 #[Value.agg { toList:=Qy x5.fst::x5.2 }] w2 fun v8 w9=>∃(p10:Option Addr),v8=Value.pointer p10/\∃b11:Nat,∃b12:Nat,t0=some ⟨b11,b12,none⟩/\Qs w9 b11 (b12+17) fun s13=>Qu' 96 #[Qy s13] w9 fun s16 w15=>Qu' 125 #[Qy s16,Value.func (Fn.func 126) #[] #[Value.pointer (some ⟨b1,0,none⟩)]] w15 fun s19 w18=>Qv' 127 #[Qy s19,Value.func (Fn.func 56) #[Value.pointer p10] #[]] w18 fun t22 w21=>IfB (!t22) (R (Value.tuple #[Value.pointer none,Value.bool false]) w21) (R (Value.tuple #[Value.pointer p10,Value.bool true]) w21))):Cw 61 #[Value.pointer t0,Value.func (Fn.func t1.1) #[] t1.2] w R:=
 ckF Tryz.func61 .nil h (by kernel_rfl) (by kernel_rfl)
def F176(t0:Sl)(w:World)(R:RV):Prop:=IfB t0.1.isNone (R (Value.slice none 0 0) w) (0*2<=16777216/\AllocP w (Obj.cells #[] 101) fun b1 w2=>∃(l3:List Value),ReadC w2 t0.1 (t0.2*2) l3/\AppendP tt101 101 w2 (some ⟨b1,0,none⟩) 0 0 t0.2 l3 fun s4 w5=>R (Qy s4) w5)
theorem F176_ok(t0:Sl)(w:World)(R:RV)(h:F176 t0 w R):Cw 176 #[Qy t0] w R:=
 ckF Tryz.func176 .nil h (by kernel_rfl) (by kernel_rfl)
end Go.Proofs.YtlpgdngcgbeegaaGreat.Gx
