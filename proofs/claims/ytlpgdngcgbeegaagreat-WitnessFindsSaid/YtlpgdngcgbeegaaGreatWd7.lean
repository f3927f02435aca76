/- gimmallaw17.WitnessFinds returns true for all arguments, and leaves what was there as it was. No condition beyond the statement. -/
/- Merged by pack.py: GxOR, WitA, WitB, WitC, WitD, GxOS, AlvE, WitE, WtFinds. -/
import Derived.Test.YtlpgdngcgbeegaaGreatWd1
import Derived.Test.YtlpgdngcgbeegaaGreatWd2
import Derived.Test.YtlpgdngcgbeegaaGreatWd3
import Derived.Test.YtlpgdngcgbeegaaGreatWd4
import Derived.Test.YtlpgdngcgbeegaaGreatWd5
import Derived.Test.YtlpgdngcgbeegaaGreatWd6
import Derived.Test.YtlpgdngcgbeegaaGreatRows
import Derived.WalkKit
import Derived.ProofKit
import Derived.OpenShut
import Derived.ShutString
import Derived.Below
import Derived.Carry
namespace Go.Proofs.YtlpgdngcgbeegaaGreat.Gx
open Go
set_option linter.unusedVariables false
set_option maxRecDepth 100000
theorem F248_ok(t0:Int)(t1:Int)(w:World)(R:RV)(h:(0:Int)<=32/\(0:Int)<=32/\(0:Int)<=32/\(0:Int)<=32/\(0:Int)<=32/\R (Value.tuple #[Value.int IntKind.u64 (IntKind.u64.wrap (IntKind.u64.wrap (IntKind.u64.wrap (t0.fdiv (2^min (Int.toNat 32) IntKind.u64.bits)*t1.fdiv (2^min (Int.toNat 32) IntKind.u64.bits))+(IntKind.u64.wrap (IntKind.u64.wrap (t0.fdiv (2^min (Int.toNat 32) IntKind.u64.bits)*bitsI BinOp.and IntKind.u64 t1 4294967295)+(IntKind.u64.wrap (bitsI BinOp.and IntKind.u64 t0 4294967295*bitsI BinOp.and IntKind.u64 t1 4294967295)).fdiv (2^min (Int.toNat 32) IntKind.u64.bits))).fdiv (2^min (Int.toNat 32) IntKind.u64.bits))+(IntKind.u64.wrap (bitsI BinOp.and IntKind.u64 (IntKind.u64.wrap (IntKind.u64.wrap (t0.fdiv (2^min (Int.toNat 32) IntKind.u64.bits)*bitsI BinOp.and IntKind.u64 t1 4294967295)+(IntKind.u64.wrap (bitsI BinOp.and IntKind.u64 t0 4294967295*bitsI BinOp.and IntKind.u64 t1 4294967295)).fdiv (2^min (Int.toNat 32) IntKind.u64.bits))) 4294967295+IntKind.u64.wrap (bitsI BinOp.and IntKind.u64 t0 4294967295*t1.fdiv (2^min (Int.toNat 32) IntKind.u64.bits)))).fdiv (2^min (Int.toNat 32) IntKind.u64.bits))),Value.int IntKind.u64 (IntKind.u64.wrap (t0*t1))]) w):Cw 248 #[Value.int IntKind.u64 t0,Value.int IntKind.u64 t1] w R:=
 ckF Tryz.func248 .nil h (by kernel_rfl) (by kernel_rfl)
theorem F215_ok(t0:Int)(t1:Int)(w:World)(R:RV)(h:Cx 248 #[Value.int IntKind.u64 t0,Value.int IntKind.u64 t1] w fun v1 w2=>∃(x3:Int×Int),v1=Value.tuple #[Value.int IntKind.u64 x3.1,Value.int IntKind.u64 x3.2]/\R (Value.tuple #[Value.int IntKind.u64 x3.1,Value.int IntKind.u64 x3.2]) w2):Cw 215 #[Value.int IntKind.u64 t0,Value.int IntKind.u64 t1] w R:=
 ckF Tryz.func215 .nil h (by kernel_rfl) (by kernel_rfl)
def F159j1(R:RV)(x3:Int×Int)(b4:Nat)(y8:Nat->Int->World->Prop)(b10:Nat)(n11:Int)(w12:World):Prop:=IfB (decide (n11<((((IntKind.i64.wrap x3.snd).toNat:Nat):Int):Int))) ((0<=n11/\n11<=(((IntKind.i64.wrap x3.2).toNat:Nat):Int))/\(0<=n11/\n11<=(((IntKind.i64.wrap x3.2).toNat:Nat):Int))/\CopyP w12.drew 1 (slAddr (some ⟨b4,0,none⟩) (IntKind.i64.wrap x3.2).toNat n11.toNat 1) ((IntKind.i64.wrap x3.2).toNat-n11.toNat) (slAddr (some ⟨b4,0,none⟩) (IntKind.i64.wrap x3.2).toNat 0 1) n11.toNat fun(n15:Int) (w16:World)=>Qn y8 b10 (IntKind.i64.wrap (n11+n15)) w16) (R (Value.slice (some ⟨b4,0,none⟩) (IntKind.i64.wrap x3.2).toNat (IntKind.i64.wrap x3.2).toNat) w12)
theorem F159_ok(t0:Sl)(t1:Int)(w:World)(R:RV)(h:IfB (decide (t1<0)) False (Cx 215 #[Value.int IntKind.u64 (IntKind.u64.wrap (t0.2:Int)),Value.int IntKind.u64 (IntKind.u64.wrap t1)] w fun v1 w2=>∃(x3:Int×Int),v1=Value.tuple #[Value.int IntKind.u64 x3.1,Value.int IntKind.u64 x3.2]/\IfB (decide (0<x3.fst)) False (IfB (decide (9223372036854775807<x3.snd)) False ((0<=IntKind.i64.wrap x3.2/\IntKind.i64.wrap x3.2<=IntKind.i64.wrap x3.2/\IntKind.i64.wrap x3.2<=281474976710656/\((8:Nat):Int)*IntKind.i64.wrap x3.2<=281474976710656)/\AllocP w2 (Obj.cells { toList:=zc #[Qz 0] (IntKind.i64.wrap x3.2).toNat } 3) fun b4 w5=>CopyP w5 1 (some ⟨b4,0,none⟩) (IntKind.i64.wrap x3.2).toNat t0.1 t0.2 fun(n6:Int) (w7:World)=>Ql (α:=Int) n6 w7 fun y8 b10 n11 w12=>(F159j1 R x3 b4 y8 b10 n11 w12))))):Cw 159 #[Qy t0,Qz t1] w R:=
 ckF Tryz.func159 (nd (nd (nd (nd (nd (nd (.node (.loop [(8,oi)] (rg [8,8,34,46]) (nd (.draw (sts [0,1,2,3,4,5,6] (.ac 7 [0] (sts [8,9] .fin) .non))))) .nil))))))) h (by kernel_rfl) (by kernel_rfl)
def F102j1(t0:Int)(t1:Sl)(R:RV)(s5:Sl)(y6:Nat->Int->World->Prop)(b8:Nat)(n9:Int)(w10:World):Prop:=IfB (decide (n9<(t1.n:Int))) (Qx t1.1 n9 (t1.2:Int) fun b13 b14=>Qi w10 b13 (b14+n9.toNat) fun n15=>IfB (decide (n15<0)) (R (Value.tuple #[Value.slice none 0 0,Value.bool false]) w10) (IfB (decide (t0<=n15)) (R (Value.tuple #[Value.slice none 0 0,Value.bool false]) w10) (Qx s5.1 n15 (s5.2:Int) fun b16 b17=>Qi w10 b16 (b17+n15.toNat) fun n18=>IfB (decide (0<=n18)) (R (Value.tuple #[Value.slice none 0 0,Value.bool false]) w10) (Qx s5.1 n15 (s5.2:Int) fun b19 b20=>#[Qz n9].size=1/\StoreP w10 b19 (b20+n15.toNat) [Qz n9] fun w21=>Qn y6 b8 (IntKind.i64.wrap (n9+1)) w21)))) (R (Value.tuple #[Qy s5,Value.bool ((t1.2:Int) == t0)]) w10)
theorem F102_ok(t0:Int)(t1:Sl)(w:World)(R:RV)(h:1*1<=16777216/\AllocP w (Obj.cells #[Qz (-1:Int)] 3) fun b1 w2=>Qu' 159 #[Value.slice (some ⟨b1,0,none⟩) 1 1,Qz t0] w2 fun s5 w4=>Ql (α:=Int) 0 w4 fun y6 b8 n9 w10=>(F102j1 t0 t1 R s5 y6 b8 n9 w10)):Cw 102 #[Qz t0,Qy t1] w R:=
 ckF Tryz.func102 (nd (nd (.node (nd (.loop [(14,oi)] (rg [4,5,7,8,14,37]) .nil)) .nil))) h (by kernel_rfl) (by kernel_rfl)
def F42j2(t1:Sl)(R:RV)(x5:Sl×Bool)(y12:Nat->Int->World->Prop)(b14:Nat)(n15:Int)(y19:Nat->Int->World->Prop)(b21:Nat)(n22:Int)(w23:World):Prop:=IfB (decide (n22<n15)) (Qv' 103 #[Qy t1,Qz n15,Qz n22] w23.drew fun t28 w27=>IfB t28 (Qx x5.fst.1 n22 (x5.fst.2:Int) fun b29 b30=>Qi w27 b29 (b30+n22.toNat) fun n31=>Qx x5.fst.1 n15 (x5.fst.2:Int) fun b32 b33=>Qi w27 b32 (b33+n15.toNat) fun n34=>IfB (decide (n34<n31)) (R (Value.bool false) w27) (Qn y19 b21 (IntKind.i64.wrap (n22+1)) w27)) (Qn y19 b21 (IntKind.i64.wrap (n22+1)) w27)) (Qn y12 b14 (IntKind.i64.wrap (n15+1)) w23)
theorem F42_ok(t0:Sl×List Value)(t1:Sl)(t2:Sl)(w:World)(R:RV)(h:AllocP w (Obj.cells { toList:=Qy t0.fst::t0.2 } 26) fun b1 w2=>Cx 102 #[Qz (t1.2:Int),Qy t2] w2 fun v3 w4=>∃(x5:Sl×Bool),v3=Value.tuple #[Qy x5.fst,Value.bool x5.2]/\IfB (!x5.2) (R (Value.bool false) w4) (∃(x6:Sl×List Value),CellsN w4 b1 0 17 (Qy x6.fst::x6.2)/\Qv' 84 #[Value.agg { toList:=Qy x6.fst::x6.2 },Qy t1] w4 fun t11 w10=>IfB (!t11) (R (Value.bool false) w10) (Ql (α:=Int) 0 w10 fun y12 b14 n15 w16=>IfB (decide (n15<(t1.n:Int))) (Ql (α:=Int) 0 w16 fun y19 b21 n22 w23=>(F42j2 t1 R x5 y12 b14 n15 y19 b21 n22 w23)) (R (Value.bool true) w16)))):Cw 42 #[Value.agg { toList:=Qy t0.fst::t0.2 },Qy t1,Qy t2] w R:=
 ckF Tryz.func42 (nd (nd (nd (.node (nd (.loop [(28,oi)] (rg [6,6,9,10,28,51]) (nd (nd (.node (nd (nd (.loop [(32,oi)] (rg [6,6,10,10,32,50]) (nd (nd (.node (nd (.node (.draw (sts [0,1,2] (.ac 3 [] (sts [4,5,6,7,8,9,10,11,12,13,14] .fin) .non))) .nil)) .nil)))))) .nil))))) .nil)))) h (by kernel_rfl) (by kernel_rfl)
def F105k1(t1:Sl)(x23:Sl×Int)(w24:World)(t2:Int)(x19:Int×Int×Bool)(b22:Nat)(y20:Nat->Sl×Int->World->Prop):Prop:=Qx t1.1 x23.2 (t1.2:Int) fun b27 b28=>∃(x29:Int×Int×Int×Bool×Sl×Sl),CellsAt w24 b27 (b28+x23.2.toNat*6) (lC53 x29)/\AllocP w24 (Obj.cells #[Qz 0,Qz 0,Qz 0,Value.bool false,Value.slice none 0 0,Value.slice none 0 0] 53) fun b30 w31=>(lC53 x29).toArray.size=6/\StoreP w31 b30 0 (lC53 x29) fun w32=>Qi w32.drew b30 (0+0) fun n33=>Qx t1.1 t2 (t1.2:Int) fun b34 b35=>Qi w32.drew b34 (b35+t2.toNat*6+0) fun n36=>IfB (n33 == n36) (Qb w32.drew b30 (0+3) fun t37=>IfB (!t37) (Qi w32.drew b30 (0+2) fun n38=>IfB (decide (x19.fst<=n38)) (Qi w32.drew b30 (0+2) fun n39=>IfB (decide (n39<=x19.snd.fst)) (1*1<=16777216/\AllocP w32.drew (Obj.cells #[Qz x23.2] 3) fun b40 w41=>∃(l42:List Value),ReadC w41 (some ⟨b40,0,none⟩) (1*1) l42/\AppendP tt3 3 w41 x23.fst.1 x23.fst.2 x23.fst.3 1 l42 fun s43 w44=>Qn y20 b22 ({ p:=s43.1,n:=s43.2,c:=s43.3 },IntKind.i64.wrap (x23.2+1)) w44) (Qn y20 b22 ({ p:=x23.fst.1,n:=x23.fst.2,c:=x23.fst.3 },IntKind.i64.wrap (x23.2+1)) w32.drew)) (Qn y20 b22 ({ p:=x23.fst.1,n:=x23.fst.2,c:=x23.fst.3 },IntKind.i64.wrap (x23.2+1)) w32.drew)) (Qn y20 b22 ({ p:=x23.fst.1,n:=x23.fst.2,c:=x23.fst.3 },IntKind.i64.wrap (x23.2+1)) w32.drew)) (Qn y20 b22 ({ p:=x23.fst.1,n:=x23.fst.2,c:=x23.fst.3 },IntKind.i64.wrap (x23.2+1)) w32.drew)
def F105j1(t1:Sl)(t2:Int)(R:RV)(x19:Int×Int×Bool)(y20:Nat->Sl×Int->World->Prop)(b22:Nat)(x23:Sl×Int)(w24:World):Prop:=IfB (decide (x23.snd<(t1.n:Int))) (F105k1 t1 x23 w24 t2 x19 b22 y20) (R (Qy x23.fst) w24)
theorem F105_ok(t0:Sl×List Value)(t1:Sl)(t2:Int)(t3:Int)(w:World)(R:RV)(h:AllocP w (Obj.cells { toList:=Qy t0.fst::t0.2 } 26) fun b1 w2=>Qx t1.1 t2 (t1.2:Int) fun b3 b4=>Qb w2 b3 (b4+t2.toNat*6+3) fun t5=>IfB t5 (1*1<=16777216/\AllocP w2 (Obj.cells #[Qz t2] 3) fun b6 w7=>R (Value.slice (some ⟨b6,0,none⟩) 1 1) w7) (∃(x8:Sl×List Value),CellsN w2.drew b1 0 17 (Qy x8.fst::x8.2)/\Qx t1.1 t2 (t1.2:Int) fun b11 b12=>Qi w2.drew b11 (b12+t2.toNat*6+1) fun n13=>Qx t1.1 t2 (t1.2:Int) fun b14 b15=>Qi w2.drew b14 (b15+t2.toNat*6+2) fun n16=>Cx 136 #[Value.agg { toList:=Qy x8.fst::x8.2 },Qz n13,Qz t3,Qz n16] w2.drew fun v17 w18=>∃(x19:Int×Int×Bool),v17=Value.tuple #[Qz x19.1,Qz x19.snd.1,Value.bool x19.snd.2]/\Ql (α:=Sl×Int) ({ p:=none,n:=0,c:=0 },0) w18 fun y20 b22 x23 w24=>(F105j1 t1 t2 R x19 y20 b22 x23 w24))):Cw 105 #[Value.agg { toList:=Qy t0.fst::t0.2 },Qy t1,Qz t2,Qz t3] w R:=
 ckF Tryz.func105 (nd (nd (.node (.draw (sts [0,1,2,3,4,5,6,7,8,9,10,11] (.ac 12 [] (sts [13,14,15,16,17,18,19] .fin) .non))) (nd (.node (nd (.loop [(12,.one (.sl)),(41,oi)] (rg [12,14,41,75]) (nd (nd (.node (nd (.node (.draw (sts [0,1,2,3,4,5,6,7,8,9,10,11,12,13,14,15,16,17,18,19,20,21,22,23,24] .fin)) .nil)) .nil))))) .nil))))) h (by kernel_rfl) (by kernel_rfl)
theorem F108_ok(t0:Sl)(t1:Int)(t2:Sl)(w:World)(R:RV)(h:AllocP w (Obj.cells #[Qy t0] 30) fun b1 w2=>AllocP w2 (Obj.cells #[Qz t1] 3) fun b3 w4=>Qv' 109 #[Qy t2,Value.func (Fn.func 162) #[] #[Value.pointer (some ⟨b1,0,none⟩),Value.pointer (some ⟨b3,0,none⟩)]] w4 fun t7 w6=>IfB t7 (Qv' 109 #[Qy t2,Value.func (Fn.func 163) #[] #[Value.pointer (some ⟨b1,0,none⟩),Value.pointer (some ⟨b3,0,none⟩)]] w6 fun t10 w9=>R (Value.bool t10) w9) (R (Value.bool false) w6)):Cw 108 #[Qy t0,Qz t1,Qy t2] w R:=
 ckF Tryz.func108 .nil h (by kernel_rfl) (by kernel_rfl)
theorem F162_ok(t0:Int)(t1:Nat)(t2:Nat)(w:World)(R:RV)(h:∃s1:Sl,w.drew.cell? ⟨t1,0,none⟩=some (Qy s1)/\Qx s1.1 t0 (s1.2:Int) fun b2 b3=>∃n4:Int,w.drew.cell? ⟨b2,b3+t0.toNat,none⟩=some (Qz n4)/\∃s5:Sl,w.drew.cell? ⟨t1,0,none⟩=some (Qy s5)/\∃n6:Int,w.drew.cell? ⟨t2,0,none⟩=some (Qz n6)/\Qx s5.1 n6 (s5.2:Int) fun b7 b8=>∃n9:Int,w.drew.cell? ⟨b7,b8+n6.toNat,none⟩=some (Qz n9)/\R (Value.bool (decide (n4<n9))) w.drew):Cw 162 #[Qz t0,Value.pointer (some ⟨t1,0,none⟩),Value.pointer (some ⟨t2,0,none⟩)] w R:=
 ckF Tryz.func162 (nd (.node (.draw (sts [0,1,2,3,4,5,6,7,8,9] .fin)) .nil)) h (by kernel_rfl) (by kernel_rfl)
theorem F163_ok(t0:Int)(t1:Nat)(t2:Nat)(w:World)(R:RV)(h:∃s1:Sl,w.drew.cell? ⟨t1,0,none⟩=some (Qy s1)/\Qx s1.1 t0 (s1.2:Int) fun b2 b3=>∃n4:Int,w.drew.cell? ⟨b2,b3+t0.toNat,none⟩=some (Qz n4)/\∃s5:Sl,w.drew.cell? ⟨t1,0,none⟩=some (Qy s5)/\∃n6:Int,w.drew.cell? ⟨t2,0,none⟩=some (Qz n6)/\Qx s5.1 n6 (s5.2:Int) fun b7 b8=>∃n9:Int,w.drew.cell? ⟨b7,b8+n6.toNat,none⟩=some (Qz n9)/\R (Value.bool (decide (n9<n4))) w.drew):Cw 163 #[Qz t0,Value.pointer (some ⟨t1,0,none⟩),Value.pointer (some ⟨t2,0,none⟩)] w R:=
 ckF Tryz.func163 (nd (.node (.draw (sts [0,1,2,3,4,5,6,7,8,9] .fin)) .nil)) h (by kernel_rfl) (by kernel_rfl)
def F44j2(t1:Sl)(R:RV)(b1:Nat)(x11:Sl×Bool)(b15:Nat)(y18:Nat->Int->World->Prop)(b20:Nat)(n21:Int)(b25:Nat)(y28:Nat->Int->World->Prop)(b30:Nat)(n31:Int)(w32:World):Prop:=IfB (decide (n31<(t1.n:Int))) (Qx t1.1 n31 (t1.2:Int) fun b35 b36=>Qi w32.drew b35 (b36+n31.toNat*6+0) fun n37=>Qi w32.drew b25 0 fun n38=>Qx t1.1 n38 (t1.2:Int) fun b39 b40=>Qi w32.drew b39 (b40+n38.toNat*6+0) fun n41=>IfB (n37 == n41) (Qn y28 b30 (IntKind.i64.wrap (n31+1)) w32.drew) (∃(x43:Sl×List Value),CellsN w32.drew.drew b1 0 17 (Qy x43.fst::x43.2)/\∃n46:Int,w32.drew.drew.cell? ⟨b25,0,none⟩=some (Qz n46)/\Qx t1.1 n46 (t1.2:Int) fun b47 b48=>∃n49:Int,w32.drew.drew.cell? ⟨b47,b48+n46.toNat*6+1,none⟩=some (Qz n49)/\Cx 105 #[Value.agg { toList:=Qy x43.fst::x43.2 },Qy t1,Qz n31,Qz n49] w32.drew.drew fun v50 w51=>∃s52:Sl,v50=Qy s52/\Qi w51 b25 0 fun n53=>Qv' 108 #[Qy x11.fst,Qz n53,Qy s52] w51 fun t56 w55=>IfB t56 (Qv' 109 #[Qy s52,Value.func (Fn.func 106) #[] #[Value.pointer (some ⟨b15,0,none⟩),Value.pointer (some ⟨b25,0,none⟩)]] w55 fun t59 w58=>IfB t59 (R (Value.bool false) w58) (Qn y28 b30 (IntKind.i64.wrap (n31+1)) w58)) (Qn y28 b30 (IntKind.i64.wrap (n31+1)) w55))) (Qn y18 b20 (IntKind.i64.wrap (n21+1)) w32)
def F44j1(t1:Sl)(R:RV)(b1:Nat)(x11:Sl×Bool)(b15:Nat)(y18:Nat->Int->World->Prop)(b20:Nat)(n21:Int)(w22:World):Prop:=IfB (decide (n21<(t1.n:Int))) (AllocP w22 (Obj.cells #[Qz 0] 3) fun b25 w26=>#[Qz n21].size=1/\StoreP w26 b25 0 [Qz n21] fun w27=>Ql (α:=Int) 0 w27 fun y28 b30 n31 w32=>(F44j2 t1 R b1 x11 b15 y18 b20 n21 b25 y28 b30 n31 w32)) (R (Value.bool true) w22)
theorem F44_ok(t0:Sl×List Value)(t1:Sl)(t2:Sl)(w:World)(R:RV)(h:AllocP w (Obj.cells { toList:=Qy t0.fst::t0.2 } 26) fun b1 w2=>∃(x3:Sl×List Value),CellsN w2 b1 0 17 (Qy x3.fst::x3.2)/\Qv' 42 #[Value.agg { toList:=Qy x3.fst::x3.2 },Qy t1,Qy t2] w2 fun t8 w7=>IfB (!t8) (R (Value.bool false) w7) (Cx 102 #[Qz (t1.2:Int),Qy t2] w7 fun v9 w10=>∃(x11:Sl×Bool),v9=Value.tuple #[Qy x11.fst,Value.bool x11.2]/\Qu' 85 #[Qy t1] w10 fun s14 w13=>AllocP w13 (Obj.cells #[Value.slice none 0 0] 102) fun b15 w16=>#[Qy s14].size=1/\StoreP w16 b15 0 [Qy s14] fun w17=>Ql (α:=Int) 0 w17 fun y18 b20 n21 w22=>(F44j1 t1 R b1 x11 b15 y18 b20 n21 w22))):Cw 44 #[Value.agg { toList:=Qy t0.fst::t0.2 },Qy t1,Qy t2] w R:=
 ckF Tryz.func44 (nd (nd (nd (nd (.node (nd (.loop [(30,oi)] (rg [6,6,10,13,30,69]) (nd (nd (.node (nd (nd (.loop [(35,oi)] (rg [6,6,11,13,35,68]) (nd (nd (.node (nd (.node (.node (.draw (sts [0,1,2,3,4,5,6,7,8,9,10] .fin)) .nil) (.node (.draw (sts [0,1,2,3,4,5,6,7] (.ac 8 [] (.st 9 .fin) .non))) .nil))) .nil)))))) .nil))))) .nil))))) h (by kernel_rfl) (by kernel_rfl)
theorem F106_ok(t0:Int)(t1:Nat)(t2:Nat)(w:World)(R:RV)(h:∃s1:Sl,w.drew.cell? ⟨t1,0,none⟩=some (Qy s1)/\∃n2:Int,w.drew.cell? ⟨t2,0,none⟩=some (Qz n2)/\Qx s1.1 n2 (s1.2:Int) fun b3 b4=>∃s5:Sl,w.drew.cell? ⟨b3,b4+n2.toNat,none⟩=some (Qy s5)/\Cx 107 #[Qy s5,Qz t0] w.drew fun v6 w7=>∃t8:Bool,v6=Value.bool t8/\IfB t8 (R (Value.bool true) w7) (∃s9:Sl,w7.cell? ⟨t1,0,none⟩=some (Qy s9)/\Qx s9.1 t0 (s9.2:Int) fun b10 b11=>Qs w7 b10 (b11+t0.toNat) fun s12=>∃n13:Int,w7.cell? ⟨t2,0,none⟩=some (Qz n13)/\Qv' 107 #[Qy s12,Qz n13] w7 fun t16 w15=>R (Value.bool t16) w15)):Cw 106 #[Qz t0,Value.pointer (some ⟨t1,0,none⟩),Value.pointer (some ⟨t2,0,none⟩)] w R:=
 ckF Tryz.func106 (nd (.node (.draw (sts [0,1,2,3,4] (.ac 5 [] (sts [6,7,8,9,10,11] (.ac 12 [] (sts [13,14] .fin) .non)) .non))) .nil)) h (by kernel_rfl) (by kernel_rfl)
theorem F48_ok(t0:Sl×List Value)(t1:Sl)(w:World)(R:RV)(h:AllocP w (Obj.cells { toList:=Qy t0.fst::t0.2 } 26) fun b1 w2=>∃(x3:Sl×List Value),CellsN w2 b1 0 17 (Qy x3.fst::x3.2)/\Qv' 34 #[Value.agg { toList:=Qy x3.fst::x3.2 },Qy t1] w2 fun t8 w7=>IfB (!t8) (R (Value.tuple #[Value.slice none 0 0,Value.bool false]) w7) (∃(x9:Sl×List Value),CellsN w7 b1 0 17 (Qy x9.fst::x9.2)/\Qu' 37 #[Value.agg { toList:=Qy x9.fst::x9.2 },Qy t1] w7 fun s14 w13=>R (Value.tuple #[Qy s14,Value.bool true]) w13)):Cw 48 #[Value.agg { toList:=Qy t0.fst::t0.2 },Qy t1] w R:=
 ckF Tryz.func48 .nil h (by kernel_rfl) (by kernel_rfl)
def F104j2(t0:Int)(t1:Sl)(R:RV)(b1:Nat)(y14:Nat->Int->World->Prop)(b16:Nat)(n17:Int)(w18:World):Prop:=IfB (decide (n17<(t1.n:Int))) (Qx t1.1 n17 (t1.2:Int) fun b21 b22=>Qi w18 b21 (b22+n17.toNat) fun n23=>IfB (decide (n23<0)) (R (Value.tuple #[Value.slice none 0 0,Value.bool false]) w18) (Qx t1.1 n17 (t1.2:Int) fun b24 b25=>Qi w18 b24 (b25+n17.toNat) fun n26=>IfB (decide (t0<=n26)) (R (Value.tuple #[Value.slice none 0 0,Value.bool false]) w18) (Qx t1.1 n17 (t1.2:Int) fun b27 b28=>Qi w18 b27 (b28+n17.toNat) fun n29=>Qx (some ⟨b1,0,none⟩) n29 (t0.toNat:Int) fun b30 b31=>Qi w18 b30 (b31+n29.toNat) fun n32=>IfB (decide (0<=n32)) (R (Value.tuple #[Value.slice none 0 0,Value.bool false]) w18) (Qx t1.1 n17 (t1.2:Int) fun b33 b34=>Qi w18 b33 (b34+n17.toNat) fun n35=>Qx (some ⟨b1,0,none⟩) n35 (t0.toNat:Int) fun b36 b37=>#[Qz n17].size=1/\StoreP w18 b36 (b37+n35.toNat) [Qz n17] fun w38=>Qn y14 b16 (IntKind.i64.wrap (n17+1)) w38)))) (R (Value.tuple #[Value.slice (some ⟨b1,0,none⟩) t0.toNat t0.toNat,Value.bool ((t1.2:Int) == t0)]) w18)
def F104j1(t0:Int)(t1:Sl)(R:RV)(b1:Nat)(y3:Nat->Int->World->Prop)(b5:Nat)(n6:Int)(w7:World):Prop:=IfB (decide (n6<t0)) (Qx (some ⟨b1,0,none⟩) n6 (t0.toNat:Int) fun b10 b11=>#[Qz (-1:Int)].size=1/\StoreP w7 b10 (b11+n6.toNat) [Qz (-1:Int)] fun w12=>Qn y3 b5 (IntKind.i64.wrap (n6+1)) w12) (Ql (α:=Int) 0 w7 fun y14 b16 n17 w18=>(F104j2 t0 t1 R b1 y14 b16 n17 w18))
theorem F104_ok(t0:Int)(t1:Sl)(w:World)(R:RV)(h:(0<=t0/\t0<=t0/\t0<=281474976710656/\((8:Nat):Int)*t0<=281474976710656)/\AllocP w (Obj.cells { toList:=zc #[Qz 0] t0.toNat } 3) fun b1 w2=>Ql (α:=Int) 0 w2 fun y3 b5 n6 w7=>(F104j1 t0 t1 R b1 y3 b5 n6 w7)):Cw 104 #[Qz t0,Qy t1] w R:=
 ckF Tryz.func104 (nd (nd (.node (nd (.loop [(7,oi)] (rg [7,7,11,18]) .nil)) (.node (nd (.loop [(8,oi)] (rg [4,5,8,8,19,54]) .nil)) .nil)))) h (by kernel_rfl) (by kernel_rfl)
def F43k1(t0:Sl)(n7:Int)(w15:World)(n14:Int)(x3:Sl×Bool)(R:RV)(b13:Nat)(y11:Nat->Int->World->Prop):Prop:=Qx t0.1 n7 (t0.2:Int) fun b18 b19=>Qi w15.drew b18 (b19+n7.toNat*6+0) fun n20=>Qx t0.1 n14 (t0.2:Int) fun b21 b22=>Qi w15.drew b21 (b22+n14.toNat*6+0) fun n23=>IfB (n20 == n23) (Qx x3.fst.1 n14 (x3.fst.2:Int) fun b24 b25=>Qi w15.drew b24 (b25+n14.toNat) fun n26=>Qx x3.fst.1 n7 (x3.fst.2:Int) fun b27 b28=>Qi w15.drew b27 (b28+n7.toNat) fun n29=>IfB (decide (n29<n26)) (R (Value.bool false) w15.drew) (Qn y11 b13 (IntKind.i64.wrap (n14+1)) w15.drew)) (Qx t0.1 n7 (t0.2:Int) fun b31 b32=>∃(x33:Int×Int×Int×Bool×Sl×Sl),CellsAt w15.drew b31 (b32+n7.toNat*6) (lC53 x33)/\Qx t0.1 n14 (t0.2:Int) fun b34 b35=>∃(x36:Int×Int×Int×Bool×Sl×Sl),CellsAt w15.drew b34 (b35+n14.toNat*6) (lC53 x36)/\Qv' 36 #[Value.agg (lC53 x33).toArray,Value.agg (lC53 x36).toArray] w15.drew fun t39 w38=>IfB t39 (Qx x3.fst.1 n14 (x3.fst.2:Int) fun b40 b41=>Qi w38 b40 (b41+n14.toNat) fun n42=>Qx x3.fst.1 n7 (x3.fst.2:Int) fun b43 b44=>Qi w38 b43 (b44+n7.toNat) fun n45=>IfB (decide (n45<n42)) (R (Value.bool false) w38) (Qn y11 b13 (IntKind.i64.wrap (n14+1)) w38)) (Qn y11 b13 (IntKind.i64.wrap (n14+1)) w38))
def F43j2(t0:Sl)(R:RV)(x3:Sl×Bool)(y4:Nat->Int->World->Prop)(b6:Nat)(n7:Int)(y11:Nat->Int->World->Prop)(b13:Nat)(n14:Int)(w15:World):Prop:=IfB (decide (n14<n7)) (F43k1 t0 n7 w15 n14 x3 R b13 y11) (Qn y4 b6 (IntKind.i64.wrap (n7+1)) w15)
def F43(t0:Sl)(t1:Sl)(w:World)(R:RV):Prop:=Cx 104 #[Qz (t0.2:Int),Qy t1] w fun v1 w2=>∃(x3:Sl×Bool),v1=Value.tuple #[Qy x3.fst,Value.bool x3.2]/\IfB (!x3.2) (R (Value.bool false) w2) (Ql (α:=Int) 0 w2 fun y4 b6 n7 w8=>IfB (decide (n7<(t0.n:Int))) (Ql (α:=Int) 0 w8 fun y11 b13 n14 w15=>(F43j2 t0 R x3 y4 b6 n7 y11 b13 n14 w15)) (R (Value.bool true) w8))
theorem F43_ok(t0:Sl)(t1:Sl)(w:World)(R:RV)(h:F43 t0 t1 w R):Cw 43 #[Qy t0,Qy t1] w R:=
 ckF Tryz.func43 (nd (nd (nd (.node (nd (.loop [(7,oi)] (rg [4,4,7,8,18,61]) (nd (.node (nd (.loop [(8,oi)] (rg [4,4,8,8,24,61]) (nd (.node (.node (.draw (sts [0,1,2,3,4,5,6,7,8,9,10,11,12,13,14,15,16,17,18,19] (.ac 20 [] (sts [21,22,23,24,25,26,27,28,29,30,31,32] .fin) .non))) .nil) .nil)))) .nil)))) .nil)))) h (by kernel_rfl) (by kernel_rfl)
def F45j4(t1:Sl)(R:RV)(b1:Nat)(s11:Sl)(n15:Int)(n22:Int)(y26:Nat->Int->World->Prop)(b28:Nat)(n29:Int)(y64:Nat->Int->World->Prop)(b66:Nat)(n67:Int)(w68:World):Prop:=IfB (decide (n67<(t1.n:Int))) (∃(x71:Sl×List Value),CellsN w68.drew b1 0 17 (Qy x71.fst::x71.2)/\Qx t1.1 n15 (t1.2:Int) fun b74 b75=>Qi w68.drew b74 (b75+n15.toNat*6+1) fun n76=>Qv' 94 #[Value.agg { toList:=Qy x71.fst::x71.2 },Qy t1,Qz n22,Qz n67,Qz n76] w68.drew fun t79 w78=>IfB t79 (Qx s11.1 n15 (s11.2:Int) fun b80 b81=>Qs w78 b80 (b81+n15.toNat) fun s82=>Qx s82.1 n67 (s82.2:Int) fun b83 b84=>Qb w78 b83 (b84+n67.toNat) fun t85=>IfB t85 (R (Value.bool false) w78) (Qx s11.1 n67 (s11.2:Int) fun b86 b87=>Qs w78 b86 (b87+n67.toNat) fun s88=>Qx s88.1 n15 (s88.2:Int) fun b89 b90=>Qb w78 b89 (b90+n15.toNat) fun t91=>IfB t91 (R (Value.bool false) w78) (Qn y64 b66 (IntKind.i64.wrap (n67+1)) w78))) (Qn y64 b66 (IntKind.i64.wrap (n67+1)) w78)) (Qn y26 b28 (IntKind.i64.wrap (n29+1)) w68)
def F45k1(t1:Sl)(n22:Int)(w30:World)(n15:Int)(b28:Nat)(y26:Nat->Int->World->Prop)(n29:Int)(b1:Nat)(x8:Sl×Bool)(R:RV)(s11:Sl):Prop:=Qx t1.1 n22 (t1.2:Int) fun b33 b34=>Qi w30.drew b33 (b34+n22.toNat*6+0) fun n35=>Qx t1.1 n15 (t1.2:Int) fun b36 b37=>Qi w30.drew b36 (b37+n15.toNat*6+0) fun n38=>IfB (n35 == n38) (Qn y26 b28 (IntKind.i64.wrap (n29+1)) w30.drew) (∃(x40:Sl×List Value),CellsN w30.drew b1 0 17 (Qy x40.fst::x40.2)/\Qx t1.1 n15 (t1.2:Int) fun b43 b44=>Qi w30.drew b43 (b44+n15.toNat*6+1) fun n45=>Qv' 94 #[Value.agg { toList:=Qy x40.fst::x40.2 },Qy t1,Qz n22,Qz n29,Qz n45] w30.drew fun t48 w47=>IfB (!t48) (Qn y26 b28 (IntKind.i64.wrap (n29+1)) w47) (Qx x8.fst.1 n22 (x8.fst.2:Int) fun b50 b51=>Qi w47 b50 (b51+n22.toNat) fun n52=>Qx x8.fst.1 n15 (x8.fst.2:Int) fun b53 b54=>Qi w47 b53 (b54+n15.toNat) fun n55=>IfB (decide (n55<n52)) (Qn y26 b28 (IntKind.i64.wrap (n29+1)) w47) (Qx x8.fst.1 n29 (x8.fst.2:Int) fun b57 b58=>Qi w47 b57 (b58+n29.toNat) fun n59=>Qx x8.fst.1 n15 (x8.fst.2:Int) fun b60 b61=>Qi w47 b60 (b61+n15.toNat) fun n62=>IfB (decide (n59<n62)) (Qn y26 b28 (IntKind.i64.wrap (n29+1)) w47) (Ql (α:=Int) 0 w47 fun y64 b66 n67 w68=>(F45j4 t1 R b1 s11 n15 n22 y26 b28 n29 y64 b66 n67 w68)))))
def F45j3(t1:Sl)(R:RV)(b1:Nat)(x8:Sl×Bool)(s11:Sl)(n15:Int)(y19:Nat->Int->World->Prop)(b21:Nat)(n22:Int)(y26:Nat->Int->World->Prop)(b28:Nat)(n29:Int)(w30:World):Prop:=IfB (decide (n29<(t1.n:Int))) (F45k1 t1 n22 w30 n15 b28 y26 n29 b1 x8 R s11) (Qn y19 b21 (IntKind.i64.wrap (n22+1)) w30)
def F45j1(t1:Sl)(R:RV)(b1:Nat)(x8:Sl×Bool)(s11:Sl)(y12:Nat->Int->World->Prop)(b14:Nat)(n15:Int)(w16:World):Prop:=IfB (decide (n15<(t1.n:Int))) (Ql (α:=Int) 0 w16 fun y19 b21 n22 w23=>IfB (decide (n22<(t1.n:Int))) (Ql (α:=Int) 0 w23 fun y26 b28 n29 w30=>(F45j3 t1 R b1 x8 s11 n15 y19 b21 n22 y26 b28 n29 w30)) (Qn y12 b14 (IntKind.i64.wrap (n15+1)) w23)) (R (Value.bool true) w16)
theorem F45_ok(t0:Sl×List Value)(t1:Sl)(t2:Sl)(w:World)(R:RV)(h:AllocP w (Obj.cells { toList:=Qy t0.fst::t0.2 } 26) fun b1 w2=>Qv' 43 #[Qy t1,Qy t2] w2 fun t5 w4=>IfB (!t5) (R (Value.bool false) w4) (Cx 104 #[Qz (t1.2:Int),Qy t2] w4 fun v6 w7=>∃(x8:Sl×Bool),v6=Value.tuple #[Qy x8.fst,Value.bool x8.2]/\Qu' 93 #[Qy t1] w7 fun s11 w10=>Ql (α:=Int) 0 w10 fun y12 b14 n15 w16=>(F45j1 t1 R b1 x8 s11 y12 b14 n15 w16))):Cw 45 #[Value.agg { toList:=Qy t0.fst::t0.2 },Qy t1,Qy t2] w R:=
 ckF Tryz.func45 (nd (nd (nd (nd (nd (.node (nd (.loop [(11,oi)] (rg [6,6,11,14,30,123]) (nd (.node (nd (.loop [(12,oi)] (rg [6,6,12,14,35,123]) (nd (.node (nd (.loop [(13,oi)] (rg [6,6,13,14,40,123]) (nd (.node (.node (.node (.draw (sts [0,1,2,3,4,5,6,7,8,9,10,11,12,13,14,15,16,17,18,19,20] (.ac 21 [] (sts [22,23,24,25,26,27,28,29,30,31,32,33,34,35,36,37,38,39,40,41,42,43,44,45] .fin) .non))) .nil) (nd (.loop [(14,oi)] (rg [6,6,14,14,91,123]) (nd (.node (.node (.draw (sts [0,1,2,3,4,5,6,7,8] (.ac 9 [] (sts [10,11,12,13,14,15,16,17,18,19,20,21,22,23,24,25,26,27] .fin) .non))) .nil) .nil))))) .nil)))) .nil)))) .nil)))) .nil)))))) h (by kernel_rfl) (by kernel_rfl)
set_option linter.unusedSimpArgs false
theorem and32{n:Int}(h0:0<=n)(h1:n<4294967296):bitsI BinOp.and IntKind.u64 n 4294967295=n:=by
 obtain⟨m,rfl⟩:=Int.eq_ofNat_of_zero_le h0
 show IntKind.u64.wrap (((BitVec.ofInt 64 (m:Int) &&& BitVec.ofInt 64 4294967295).toNat:Nat):Int)=(m:Int)
 rw[BitVec.toNat_and,BitVec.toNat_ofInt,BitVec.toNat_ofInt]
 have e1:((4294967295:Int)%((2^64:Nat):Int)).toNat=2^32-1:=by decide
 have e2:((m:Int)%((2^64:Nat):Int)).toNat=m:=by rw[Int.emod_eq_of_lt h0 (by omega)];rfl
 rw[e1,e2,Nat.and_two_pow_sub_one_eq_mod,Nat.mod_eq_of_lt (by omega)]
 exact wu64 (by omega)
theorem fd32{n:Int}(h0:0<=n)(h1:n<4294967296):n.fdiv (2^min (Int.toNat 32) IntKind.u64.bits)=0:=by
 have e:(2:Int)^min (Int.toNat 32) IntKind.u64.bits=4294967296:=by decide
 rw[e,Int.fdiv_eq_ediv_of_nonneg _ (by omega)]
 exact Int.ediv_eq_zero_of_lt h0 h1
theorem wu{n:Int}(h0:0<=n)(h1:n<4294967296):IntKind.u64.wrap n=n:=by
 obtain⟨m,rfl⟩:=Int.eq_ofNat_of_zero_le h0
 exact wu64 (by omega)
theorem c248{n:Int}(h0:0<=n)(h1:n<4294967296)(w:World):Cw 248 #[.int .u64 1,.int .u64 n] w fun v w'=>v=.tuple #[.int .u64 0,.int .u64 n]/\w=w':=by
 refine F248_ok _ _ w _ ⟨by decide,by decide,by decide,by decide,by decide,?_,rfl⟩
 have o0:(0:Int)<=1:=by decide
 have o1:(1:Int)<4294967296:=by decide
 have z0:(0:Int)<=0:=by decide
 have z1:(0:Int)<4294967296:=by decide
 simp only[fd32 o0 o1,fd32 h0 h1,and32 o0 o1,and32 h0 h1,Int.zero_mul,Int.mul_zero,Int.one_mul,wu z0 z1,wu h0 h1,fd32 z0 z1,and32 z0 z1,Int.add_zero]
theorem c215{n:Int}(h0:0<=n)(h1:n<4294967296)(w:World):Cw 215 #[.int .u64 1,.int .u64 n] w fun v w'=>v=.tuple #[.int .u64 0,.int .u64 n]/\w=w':=by
 refine F215_ok _ _ w _ ((c248 h0 h1 w).use ?_)
 rintro _ _ ⟨rfl,rfl⟩
 exact⟨(0,n),rfl,rfl,rfl⟩
theorem take_rep{α:Type}(n k:Nat)(a:α):(List.replicate n a).take k=List.replicate (min k n) a:=by simp
theorem FnB.own{w:World}{b n:Nat}{f:Nat->Value}(h:OwS w ⟨some ⟨b,0,none⟩,n,n⟩ 1 ((List.range n).map f)):FnB w b n f:=by
 rcases h with ⟨h,_⟩|⟨b',arr,T,h1,h2,h3,h4,h5⟩
 ·cases h
 ·cases h1
  refine⟨T,?_⟩
  have:arr.toList=(List.range n).map f:=by
   rw[<-h5,List.take_of_length_le]
   rw[Array.length_toList,h3];exact Nat.le_refl _
  rw[h2,<-this]
theorem c159{w:World}{t:Sl}{v0:Int}{n:Nat}(h:Rd w t 1 [iv v0])(hn:n<=1000):
  Cw 159 #[slV t,iv (n:Int)] w fun v w'=>∃b:Nat,v=slV ⟨some ⟨b,0,none⟩,n,n⟩/\FnB w' b n (fun _=>iv v0)/\Ext w w'/\w.heap.size<=b:=by
 have htn:t.n=1:=by have:=h.1;simp at this;omega
 refine F159_ok t (n:Int) w _ (IfB.no (by rw[decide_eq_false_iff_not];omega) ?_)
 rw[show (t.2:Int)=((1:Nat):Int) by show (t.n:Int)=_;rw[htn],wu64 (by omega),wu64 (by omega)]
 refine(c215 (n:=(n:Int)) (by omega) (by omega) w).use ?_
 rintro _ _ ⟨rfl,rfl⟩
 refine⟨(0,(n:Int)),rfl,IfB.no rfl (IfB.no (by rw[decide_eq_false_iff_not];dsimp only;omega) ?_)⟩
 have hw:IntKind.i64.wrap ((0,(n:Int)):Int×Int).2=(n:Int):=wrap_of (by dsimp only;omega) (by dsimp only;omega)
 rw[hw]
 refine⟨⟨by omega,by omega,by omega,by omega⟩,fun b4 w5 a4=>?_⟩
 rw[Int.toNat_natCast] at a4 ⊢
 have e5:Ext w w5:=a4.ch _
 have p4:=a4.here
 obtain⟨s,hs⟩:∃s:Sl,s=⟨some ⟨b4,0,none⟩,n,n⟩:=⟨_,rfl⟩
 have hsn:s.n=n:=by rw[hs]
 have hsc:s.c=n:=by rw[hs]
 have hsp:s.p=some ⟨b4,0,none⟩:=by rw[hs]
 have hbk:∀j∈blk s,j=b4:=fun j hj=>by rw[hs] at hj;simpa [blk] using hj
 rw[zc_all (v:=Value.int .i64 0) (by intro x hx;simpa using hx)] at a4
 have ho:OwS w5 s 1 (List.replicate n (iv 0)):=by
  rw[hs]
  refine OwS.new (w:=w) (T:=3) ?_ (by simp)
  simpa using a4
 have hR:=(h.ext e5).2
 rw[htn] at hR
 have hmin:Nat.min t.n n=min 1 n:=congrArg (fun z=>min z n) htn
 have rd1:ReadC w5 t.1 (min 1 n*1) (List.replicate (min 1 n) (iv v0)):=by
  rcases Nat.eq_zero_or_pos n with h0|h0
  ·rw[h0]
   have:min 1 0=0:=rfl
   rw[this]
   show ReadC w5 t.1 (0*1) []
   unfold ReadC at hR ⊢
   split
   ·exact⟨rfl,fun i v hv=>by cases hv⟩
   ·exact⟨rfl,rfl⟩
   ·rfl
  ·have:min 1 n=1:=by omega
   rw[this];exact hR
 have key:=copy_own (i:=0) (k:=n) (m:=t.n) (K:=fun n6 w7=>∃y8:Nat->Int->World->Prop,(∃b9:Nat,y8 b9 n6 w7)/\∀(b10:Nat)(n11:Int)(w12:World)(y13:Nat->Value),y8 b10 n11 w12->F159j1 (fun v w'=>∃b:Nat,v=slV ⟨some ⟨b,0,none⟩,n,n⟩/\FnB w' b n (fun _=>iv v0)/\Ext w w'/\w.heap.size<=b) (0,(n:Int)) b4 y8 b10 n11 w12) ho hmin rd1 (by simp) (by omega) (by intro v hv;rw[(List.mem_replicate.1 hv).2];rfl) (by rw[hsp];simp) fun w7 ho7 hC7=>?_
 ·rw[slAddr_zero,hsp] at key
  exact key
 refine⟨fun m z W=>∃k:Nat,k<=n/\m+k=n/\(k=0->n=0)/\z=(k:Int)/\OwS W s 1 (List.replicate k (iv v0)++List.replicate (n-k) (iv 0))/\Ext w W,⟨n-min 1 n,min 1 n,by omega,by omega,by omega,rfl,?_,e5.chN hC7 fun j hj=>by have:=hbk j hj;omega⟩,?_⟩
 ·simpa using ho7
 rintro m _ W g ⟨k,hk,hmk,hk0,rfl,hoW,eW⟩
 unfold F159j1
 rw[hw,Int.toNat_natCast]
 refine IfB.dec (fun hlt=>?_) fun hge=>?_
 ·have hk':k<n:=by omega
  have ed:=extDrew W
  have hoD:=hoW.ext ed
  refine⟨⟨by omega,by omega⟩,⟨by omega,by omega⟩,?_⟩
  rw[Int.toNat_natCast,slAddr_zero]
  have hmin2:Nat.min k (n-k)=min k (n-k):=rfl
  have rd2:ReadC W.drew (some ⟨b4,0,none⟩) (min k (n-k)*1) (List.replicate (min k (n-k)) (iv v0)):=by
   have h2:=hoD.rd.cut (k:=min k (n-k)) (by omega)
   have h3:ReadC W.drew s.p (min k (n-k)*1) ((List.replicate k (iv v0)++List.replicate (n-k) (iv 0)).take (min k (n-k)*1)):=h2.2
   rw[Nat.mul_one,List.take_append_of_le_length (by rw[List.length_replicate];omega),take_rep,Nat.min_eq_left (show min k (n-k)<=k by omega),hsp] at h3
   rw[Nat.mul_one]
   exact h3
  have key2:=copy_own (i:=k) (k:=n-k) (m:=k) (K:=fun n15 w16=>([]:List Nat)=[]/\∃b17:Nat,b17<m/\∃k':Nat,k'<=n/\b17+k'=n/\(k'=0->n=0)/\IntKind.i64.wrap ((k:Int)+n15)=(k':Int)/\OwS w16 s 1 (List.replicate k' (iv v0)++List.replicate (n-k') (iv 0))/\Ext w w16) hoD hmin2 rd2 (by simp) (by omega) (by intro v hv;rw[(List.mem_replicate.1 hv).2];rfl) (by rw[hsp];simp) fun w16 ho16 hC16=>⟨rfl,m-min k (n-k),by omega,k+min k (n-k),by omega,by omega,by omega,by rw[wrap_of (by omega) (by omega)];omega,?_,(eW.trans ed).chN hC16 fun j hj=>by have:=hbk j hj;have:=eW.size;omega⟩
  ·rw[hsp,hsc] at key2
   exact key2
  ·rw[Nat.mul_one,List.take_append_of_le_length (by rw[List.length_replicate];exact Nat.le_refl _),take_rep,Nat.min_self,List.replicate_append_replicate,List.drop_append,List.drop_of_length_le (by rw[List.length_replicate];omega),List.nil_append,List.drop_replicate,List.length_replicate] at ho16
   rw[show n-k-((k+min k (n-k))*1-k)=n-(k+min k (n-k)) by omega] at ho16
   exact ho16
 ·have hkn:k=n:=by omega
  subst hkn
  refine⟨b4,rfl,FnB.own ?_,eW,by omega⟩
  rw[Nat.sub_self,List.replicate_zero,List.append_nil,hs] at hoW
  rw[List.map_const',List.length_range]
  exact hoW
def PermI(n:Nat)(order:List Int):Prop:=order.length=n/\order.Nodup/\∀k∈order,0<=k/\k<(n:Int)
def plc(order:List Int)(k:Nat):Nat:=pos (order.map Int.toNat) k
theorem PermI.nat{n:Nat}{order:List Int}(h:PermI n order):(order.map Int.toNat).Nodup/\(order.map Int.toNat).length=n/\∀i∈order.map Int.toNat,i<n:=by
 obtain⟨h1,h2,h3⟩:=h
 refine⟨?_,by rw[List.length_map,h1],fun i hi=>?_⟩
 ·rw[List.nodup_iff_pairwise_ne,List.pairwise_map]
  rw[List.nodup_iff_pairwise_ne] at h2
  exact h2.imp_of_mem fun ha hb hne e=>hne (by have:=h3 _ ha;have:=h3 _ hb;omega)
 ·obtain⟨k,hk,rfl⟩:=List.mem_map.1 hi
  have:=h3 k hk;omega
theorem PermI.inj{n:Nat}{order:List Int}(h:PermI n order){i j:Nat}(hi:i<n)(hj:j<n)(e:plc order i=plc order j):i=j:=by
 obtain⟨h1,h2,h3⟩:=h.nat
 have g1:=pos_get (full_mem h1 h3 h2 hi)
 have g2:=pos_get (full_mem h1 h3 h2 hj)
 unfold plc at e
 rw[e,g2] at g1
 exact(Option.some.inj g1).symm
def plF(order:List Int)(i k:Nat):Value:=iv (if (k:Int)∈order.take i then (plc order k:Int) else -1)
structure PlJ(n:Nat)(order:List Int)(i:Nat):Prop where
 nd:(order.take i).Nodup
 rg:∀k∈order.take i,0<=k/\k<(n:Int)
theorem PlJ.no{n:Nat}{order:List Int}{i:Nat}{x:Int}(hx:order[i]? =some x)(h:¬(0<=x/\x<(n:Int))\/x∈order.take i):¬PermI n order:=by
 rintro⟨h1,h2,h3⟩
 rcases h with h|h
 ·exact h (h3 x (List.mem_of_getElem? hx))
 ·obtain⟨j,hj,e⟩:=List.getElem_of_mem h
  rw[List.length_take] at hj
  rw[List.getElem_take] at e
  obtain⟨hi,e2⟩:=List.getElem?_eq_some_iff.1 hx
  rw[List.nodup_iff_pairwise_ne,List.pairwise_iff_getElem] at h2
  exact h2 j i (by omega) hi (by omega) (e.trans e2.symm)
theorem PlJ.step{n:Nat}{order:List Int}{i:Nat}{x:Int}(h:PlJ n order i)(hx:order[i]? =some x)(h0:0<=x)(hn:x<(n:Int))(hno:x∉order.take i):PlJ n order (i+1)/\plc order x.toNat=i:=by
 have htk:=take_succ_get hx
 refine⟨⟨?_,fun k hk=>?_⟩,?_⟩
 ·rw[htk]
  exact List.nodup_append.2 ⟨h.nd,by simp,fun a ha b hb=>by rw[List.mem_singleton.1 hb];exact fun e=>hno (e ▸ ha)⟩
 ·rw[htk] at hk
  rcases List.mem_append.1 hk with hk|hk
  ·exact h.rg k hk
  ·rw[List.mem_singleton.1 hk];exact⟨h0,hn⟩
 ·have hi:=get_lt hx
  have hsp:order.map Int.toNat=(order.take i).map Int.toNat++x.toNat::(order.drop (i+1)).map Int.toNat:=by
   obtain⟨_,e⟩:=List.getElem?_eq_some_iff.1 hx
   rw[<-List.map_cons (f:=Int.toNat),<-e,<-List.drop_eq_getElem_cons hi,<-List.map_append,List.take_append_drop]
  unfold plc
  rw[hsp,pos_not]
  ·rw[List.length_map,List.length_take];omega
  ·intro hm
   obtain⟨k,hk,e⟩:=List.mem_map.1 hm
   have:=h.rg k hk
   exact hno (by rw[show x=k by omega];exact hk)
theorem plF_step{n:Nat}{order:List Int}{i:Nat}{x:Int}(hx:order[i]? =some x)(h0:0<=x)(hp:plc order x.toNat=i)(k:Nat):(if k=x.toNat then iv (i:Int) else plF order i k)=plF order (i+1) k:=by
 have htk:=take_succ_get hx
 unfold plF
 rw[htk]
 by_cases hk:k=x.toNat
 ·rw[if_pos hk,if_pos (List.mem_append.2 (.inr (by rw[hk];simp;omega))),hk,hp]
 ·rw[if_neg hk]
  have:(k:Int)∈order.take i++[x]↔(k:Int)∈order.take i:=by
   rw[List.mem_append,List.mem_singleton]
   exact⟨fun h=>h.elim id fun h=>absurd (by omega) hk,.inl⟩
  by_cases hm:(k:Int)∈order.take i
  ·rw[if_pos hm,if_pos (this.2 hm)]
  ·rw[if_neg hm,if_neg fun h=>hm (this.1 h)]
theorem PlJ.all{n:Nat}{order:List Int}(h:PlJ n order order.length):PermI n order↔order.length=n:=by
 have h1:=h.nd;have h2:=h.rg
 rw[List.take_length] at h1 h2
 exact⟨fun h=>h.1,fun h=>⟨h,h1,h2⟩⟩
theorem plF_all{n:Nat}{order:List Int}(h:PermI n order){k:Nat}(hk:k<n):plF order order.length k=iv (plc order k:Int):=by
 unfold plF
 rw[List.take_length,if_pos]
 obtain⟨h1,h2,h3⟩:=h.nat
 obtain⟨j,hj,e⟩:=List.mem_map.1 (full_mem h1 h3 h2 hk)
 have:=h.2.2 j hj
 rw[show (k:Int)=j by omega];exact hj
def PlOut(w w':World)(n:Nat)(order:List Int)(v:Value):Prop:=∃(s:Sl)(ok:Bool),v=.tuple #[slV s,.bool ok]/\(ok=true↔PermI n order)/\(ok=true->∃b,s=⟨some ⟨b,0,none⟩,n,n⟩/\FnB w' b n fun k=>iv (plc order k:Int))/\Ext w w'
theorem PlOut.no{w w':World}{n:Nat}{order:List Int}(h:¬PermI n order)(e:Ext w w'):PlOut w w' n order (.tuple #[slV ⟨none,0,0⟩,.bool false]):=
 ⟨_,false,rfl,⟨fun h=>(by cases h),fun h'=>absurd h' h⟩,fun h=>(by cases h),e⟩
theorem PlOut.end{w w':World}{n b:Nat}{order:List Int}(h:PlJ n order order.length)(hf:FnB w' b n (plF order order.length))(e:Ext w w'):PlOut w w' n order (.tuple #[slV ⟨some ⟨b,0,none⟩,n,n⟩,.bool ((order.length:Int) == (n:Int))]):=by
 have hiff:((order.length:Int) == (n:Int))=true↔PermI n order:=by
  rw[h.all,beq_iff_eq];omega
 exact⟨_,_,rfl,hiff,fun hb=>⟨b,rfl,hf.congr fun k hk=>plF_all (hiff.1 hb) hk⟩,e⟩
theorem c102{w:World}{t:Sl}{order:List Int}{n:Nat}(hR:Rd w t 1 (order.map iv))(hl:order.length<=1000)(hn:n<=1000):
  Cw 102 #[iv (n:Int),slV t] w fun v w'=>PlOut w w' n order v:=by
 have htn:=rdI hR
 refine F102_ok (n:Int) t w _ ⟨by decide,fun b1 w2 a2=>?_⟩
 have e2:Ext w w2:=a2.ch _
 have hr0:Rd w2 ⟨some ⟨b1,0,none⟩,1,1⟩ 1 [iv (-1:Int)]:=(OwS.new (sz:=1) (n:=1) (cs:=[iv (-1:Int)]) a2 rfl).rd
 refine(c159 hr0 hn).use ?_
 rintro _ w4 ⟨b,rfl,hf,e4,hb⟩
 have z2:=e2.size
 refine⟨⟨some ⟨b,0,none⟩,n,n⟩,rfl,fun m z W=>∃i:Nat,i<=order.length/\m+i=order.length/\z=(i:Int)/\PlJ n order i/\FnB W b n (plF order i)/\Ext w W,⟨order.length,0,Nat.zero_le _,rfl,rfl,⟨by simp,by simp⟩,hf.congr fun k _=>by simp[plF],e2.trans e4⟩,?_⟩
 rintro m _ W g ⟨i,hi,hmi,rfl,hP,hfW,eW⟩
 unfold F102j1
 refine IfB.dec (fun hlt=>?_) fun hge=>?_
 ·have hi':i<order.length:=by omega
  have hx:order[i]? =some order[i]:=List.getElem?_eq_getElem hi'
  generalize order[i]=x at hx
  obtain⟨pb,po,hp,hc⟩:=rdI_get (hR.ext eW) hx
  refine⟨pb,po,hp,⟨by omega,hlt⟩,x,by rw[Int.toNat_natCast];exact hc,IfB.dec (fun h1=>PlOut.no (PlJ.no hx (.inl (by omega))) eW) fun h1=>IfB.dec (fun h2=>PlOut.no (PlJ.no hx (.inl (by omega))) eW) fun h2=>?_⟩
  have hxt:((x.toNat:Nat):Int)=x:=by omega
  have hbx:(0:Int)<=x/\x<(n:Int):=⟨by omega,by omega⟩
  refine⟨b,0,rfl,hbx,if ((x.toNat:Nat):Int)∈order.take i then (plc order x.toNat:Int) else -1,hfW.get (by omega) (by omega),IfB.dec (fun h3=>PlOut.no (PlJ.no hx (.inr ?_)) eW) fun h3=>⟨b,0,rfl,hbx,rfl,hfW.put (j:=x.toNat) (by omega) (by omega) rfl fun W' hf' hC'=>?_⟩⟩
  ·rw[hxt] at h3
   split at h3
   ·assumption
   ·omega
  ·have hno:x∉order.take i:=fun hm=>by
    rw[hxt,if_pos hm] at h3;omega
   obtain⟨hs1,hs2⟩:=hP.step hx (by omega) (by omega) hno
   exact⟨rfl,m-1,by omega,i+1,hi',by omega,by rw[wrap_of (by omega) (by omega)];rfl,hs1,hf'.congr fun k _=>plF_step (n:=n) hx (by omega) hs2 k,eW.chN hC' fun j e=>by omega⟩
 ·have hi':i=order.length:=by omega
  subst hi'
  have:=PlOut.end hP hfW eW
  rw[show (t.2:Int)=((order.length:Nat):Int) by show (t.n:Int)=_;rw[htn]]
  exact this
theorem c104{w:World}{t:Sl}{order:List Int}{n:Nat}(hR:Rd w t 1 (order.map iv))(hl:order.length<=1000)(hn:n<=1000):
  Cw 104 #[iv (n:Int),slV t] w fun v w'=>PlOut w w' n order v:=by
 have htn:=rdI hR
 refine F104_ok (n:Int) t w _ ⟨⟨by omega,by omega,by omega,by omega⟩,fun b w2 a2=>?_⟩
 rw[Int.toNat_natCast] at a2
 have e2:Ext w w2:=a2.ch _
 have hb:=a2.here
 have h0:=FnB.new a2
 refine⟨fun m z W=>∃i:Nat,i<=n/\m+i=n/\z=(i:Int)/\FnB W b n (fun k=>if k<i then iv (-1) else iv 0)/\Ext w W,⟨n,0,Nat.zero_le _,rfl,rfl,h0.congr fun k _=>by simp,e2⟩,?_⟩
 rintro m _ W g ⟨i,hi,hmi,rfl,hfW,eW⟩
 unfold F104j1
 refine IfB.dec (fun hlt=>?_) fun hge=>?_
 ·have hi':i<n:=by omega
  refine⟨b,0,rfl,⟨by omega,by omega⟩,rfl,hfW.put (j:=i) hi' (by omega) rfl fun W' hf' hC'=>⟨rfl,m-1,by omega,i+1,hi',by omega,by rw[wrap_of (by omega) (by omega)];rfl,hf'.congr fun k _=>?_,eW.chN hC' fun j e=>by omega⟩⟩
  by_cases h1:k=i
  ·rw[if_pos h1,if_pos (by omega)]
  ·rw[if_neg h1]
   by_cases h2:k<i
   ·rw[if_pos h2,if_pos (by omega)]
   ·rw[if_neg h2,if_neg (by omega)]
 have hi':i=n:=by omega
 subst hi'
 refine⟨fun m z W=>∃q:Nat,q<=order.length/\m+q=order.length/\z=(q:Int)/\PlJ i order q/\FnB W b i (plF order q)/\Ext w W,⟨order.length,0,Nat.zero_le _,rfl,rfl,⟨by simp,by simp⟩,hfW.congr fun k hk=>by simp[plF,hk],eW⟩,?_⟩
 rintro m2 _ W2 g2 ⟨q,hq,hmq,rfl,hP,hfW2,eW2⟩
 unfold F104j2
 refine IfB.dec (fun hlt=>?_) fun hge2=>?_
 ·have hq':q<order.length:=by omega
  have hx:order[q]? =some order[q]:=List.getElem?_eq_getElem hq'
  generalize order[q]=x at hx
  obtain⟨pb,po,hp,hc⟩:=rdI_get (hR.ext eW2) hx
  have hbq:(0:Int)<=(q:Int)/\(q:Int)<(t.n:Int):=⟨by omega,hlt⟩
  have hcx:W2.cell? ⟨pb,po+(q:Int).toNat,none⟩=some (iv x):=by rw[Int.toNat_natCast];exact hc
  refine⟨pb,po,hp,hbq,x,hcx,IfB.dec (fun h1=>PlOut.no (PlJ.no hx (.inl (by omega))) eW2) fun h1=>⟨pb,po,hp,hbq,x,hcx,IfB.dec (fun h2=>PlOut.no (PlJ.no hx (.inl (by omega))) eW2) fun h2=>?_⟩⟩
  have hxt:((x.toNat:Nat):Int)=x:=by omega
  have hbx:(0:Int)<=x/\x<(((i:Int).toNat:Nat):Int):=⟨by omega,by omega⟩
  refine⟨pb,po,hp,hbq,x,hcx,b,0,rfl,hbx,if ((x.toNat:Nat):Int)∈order.take q then (plc order x.toNat:Int) else -1,hfW2.get (by omega) (by omega),IfB.dec (fun h3=>PlOut.no (PlJ.no hx (.inr ?_)) eW2) fun h3=>⟨pb,po,hp,hbq,x,hcx,b,0,rfl,hbx,rfl,hfW2.put (j:=x.toNat) (by omega) (by omega) rfl fun W' hf' hC'=>?_⟩⟩
  ·rw[hxt] at h3
   split at h3
   ·assumption
   ·omega
  ·have hno:x∉order.take q:=fun hm=>by
    rw[hxt,if_pos hm] at h3;omega
   obtain⟨hs1,hs2⟩:=hP.step hx (by omega) (by omega) hno
   exact⟨rfl,m2-1,by omega,q+1,hq',by omega,by rw[wrap_of (by omega) (by omega)];rfl,hs1,hf'.congr fun k _=>plF_step (n:=i) hx (by omega) hs2 k,eW2.chN hC' fun j e=>by omega⟩
 ·have hq':q=order.length:=by omega
  subst hq'
  have:=PlOut.end hP hfW2 eW2
  rw[show (t.2:Int)=((order.length:Nat):Int) by show (t.n:Int)=_;rw[htn],Int.toNat_natCast]
  exact this
def KeepO(hs:List Nd)(order:List Int):Prop:=PermI hs.length order/\∀i k,EdP hs i k->plc order k<plc order i
theorem dir_ne{hs:List Nd}{order:List Int}(h:PermI hs.length order){i k:Nat}(hi:i<hs.length)(hk:k<i):plc order k<plc order i↔¬plc order i<plc order k:=by
 have:plc order k≠plc order i:=fun e=>by have:=h.inj (by omega) hi e;omega
 omega
theorem c42{w:World}{v:CatV}{x:CatD}{t u:Sl}{hs:List Nd}{order:List Int}(h:CatM w v x)(hH:Hst w t hs)(hl:hs.length<=1000)(hO:Rd w u 1 (order.map iv))(hol:order.length<=1000):
  Cw 42 #[cxV v,slV t,slV u] w fun r w'=>∃b,r=.bool b/\(b=true↔HMay x hs/\KeepO hs order)/\Ext w w':=by
 have htn:=hH.n
 refine F42_ok v t u w _ fun b1 w2 a2=>?_
 have e2:Ext w w2:=a2.ch _
 rw[show (t.2:Int)=((hs.length:Nat):Int) by show (t.n:Int)=_;rw[htn]]
 refine(c102 (hO.ext e2) hol hl).use ?_
 rintro _ w4 ⟨s,ok,rfl,hok,hpl,e4⟩
 have E4:=e2.trans e4
 have no:∀ {W:World},¬(HMay x hs/\KeepO hs order)->Ext w W->∃b,Value.bool false=.bool b/\(b=true↔HMay x hs/\KeepO hs order)/\Ext w W:=fun h e=>⟨false,rfl,⟨fun h=>(by cases h),fun h'=>absurd h' h⟩,e⟩
 refine⟨(s,ok),rfl,IfB.intro (fun h1=>no (fun hh=>by rw[hok.2 hh.2.1] at h1;cases h1) E4) fun h1=>?_⟩
 have hk1:ok=true:=by simpa using h1
 have hP:=hok.1 hk1
 obtain⟨b,rfl,hf⟩:=hpl hk1
 refine⟨v,cxN h a2.new e4,(c84 (h.ext E4) (hH.ext E4)).use ?_⟩
 rintro _ w10 ⟨m,rfl,hm,e10⟩
 have E10:=E4.trans e10
 refine⟨m,rfl,IfB.intro (fun h2=>no (fun hh=>by rw[hm.2 hh.1] at h2;cases h2) E10) fun h2=>?_⟩
 have hM:=hm.1 (by simpa using h2)
 have hf10:=hf.ext e10
 refine⟨fun m z W=>∃i:Nat,i<=hs.length/\m+i=hs.length/\z=(i:Int)/\(∀i' k,i'<i->EdP hs i' k->plc order k<plc order i')/\Ext w10 W,⟨hs.length,0,Nat.zero_le _,rfl,rfl,fun i' k hi=>absurd hi (Nat.not_lt_zero _),Ch.refl _ _⟩,?_⟩
 rintro m1 _ W g ⟨i,hi,hmi,rfl,hall,eW⟩
 refine IfB.dec (fun hlt=>?_) fun hge=>?_
 ·have hi':i<hs.length:=by omega
  refine⟨fun m z V=>∃k:Nat,k<=i/\m+k=i/\z=(k:Int)/\(∀k',k'<k->EdP hs i k'->plc order k'<plc order i)/\Ext w10 V,⟨i,0,Nat.zero_le _,rfl,rfl,fun k' hk=>absurd hk (Nat.not_lt_zero _),eW⟩,?_⟩
  rintro m2 _ V g2 ⟨k,hk,hmk,rfl,hin,eV⟩
  unfold F42j2
  refine IfB.dec (fun hlk=>?_) fun hgk=>?_
  ·have hk':k<i:=by omega
   have ed:=extDrew V
   have hwk:IntKind.i64.wrap ((k:Int)+1)=((k+1:Nat):Int):=by rw[wrap_of (by omega) (by omega)];rfl
   refine(c103 (hH.ext (E10.trans (eV.trans ed))) (i:Int) (k:Int)).use ?_
   rintro _ w27 ⟨r,rfl,hr,e27⟩
   rw[Int.toNat_natCast,Int.toNat_natCast] at hr
   have x27:=(eV.trans ed).trans e27
   have next:(EdP hs i k->plc order k<plc order i)->([]:List Nat)=[]/\∃b,b<m2/\∃k':Nat,k'<=i/\b+k'=i/\IntKind.i64.wrap ((k:Int)+1)=(k':Int)/\(∀q,q<k'->EdP hs i q->plc order q<plc order i)/\Ext w10 w27:=fun hh=>⟨rfl,m2-1,by omega,k+1,hk',by omega,hwk,fun q hq hE=>by
    rcases Nat.lt_or_ge q k with h'|h'
    ·exact hin q h' hE
    ·rw[show q=k by omega] at hE ⊢;exact hh hE,x27⟩
   refine⟨r,rfl,IfB.intro (fun h3=>?_) fun h3=>next fun hE=>?_⟩
   ·obtain⟨_,_,hE⟩:=hr.1 h3
    have hf27:=hf10.ext x27
    refine⟨b,0,rfl,⟨by omega,by dsimp only;omega⟩,(plc order k:Int),by rw[Nat.zero_add,Int.toNat_natCast];exact hf27.get (by omega) rfl,b,0,rfl,⟨by omega,by dsimp only;omega⟩,(plc order i:Int),by rw[Nat.zero_add,Int.toNat_natCast];exact hf27.get hi' rfl,IfB.dec (fun h4=>no (fun hh=>?_) (E10.trans x27)) fun h4=>next fun _=>(dir_ne hP hi' hk').2 (by omega)⟩
    have:=hh.2.2 i k hE;omega
   ·rw[hr.2 ⟨by omega,by omega,hE⟩] at h3;cases h3
  ·have hki:k=i:=by omega
   subst hki
   refine⟨rfl,m1-1,by omega,k+1,hi',by omega,by rw[wrap_of (by omega) (by omega)];rfl,fun i' q hi2 hE=>?_,eV⟩
   rcases Nat.lt_or_ge i' k with h'|h'
   ·exact hall i' q h' hE
   ·have:i'=k:=by omega
    subst this
    exact hin q hE.1 hE
 ·have hi':i=hs.length:=by omega
  subst hi'
  exact⟨true,rfl,⟨fun _=>⟨hM,hP,fun i k hE=>hall i k (by obtain⟨_,a,_,ga,_⟩:=hE;exact get_lt ga) hE⟩,fun _=>rfl⟩,E10.trans eW⟩
theorem c43{w:World}{t u:Sl}{hs:List Nd}{order:List Int}(hH:Hst w t hs)(hl:hs.length<=1000)(hO:Rd w u 1 (order.map iv))(hol:order.length<=1000):
  Cw 43 #[slV t,slV u] w fun r w'=>∃b,r=.bool b/\(b=true↔KeepO hs order)/\Ext w w':=by
 have htn:=hH.n
 refine F43_ok t u w _ ?_
 unfold F43
 rw[show (t.2:Int)=((hs.length:Nat):Int) by show (t.n:Int)=_;rw[htn]]
 refine(c104 hO hol hl).use ?_
 rintro _ w2 ⟨s,ok,rfl,hok,hpl,e2⟩
 have no:∀ {W:World},¬KeepO hs order->Ext w W->∃b,Value.bool false=.bool b/\(b=true↔KeepO hs order)/\Ext w W:=fun h e=>⟨false,rfl,⟨fun h=>(by cases h),fun h'=>absurd h' h⟩,e⟩
 refine⟨(s,ok),rfl,IfB.intro (fun h1=>no (fun hh=>by rw[hok.2 hh.1] at h1;cases h1) e2) fun h1=>?_⟩
 have hk1:ok=true:=by simpa using h1
 have hP:=hok.1 hk1
 obtain⟨b,rfl,hf⟩:=hpl hk1
 refine⟨fun m z W=>∃i:Nat,i<=hs.length/\m+i=hs.length/\z=(i:Int)/\(∀i' k,i'<i->EdP hs i' k->plc order k<plc order i')/\Ext w2 W,⟨hs.length,0,Nat.zero_le _,rfl,rfl,fun i' k hi=>absurd hi (Nat.not_lt_zero _),Ch.refl _ _⟩,?_⟩
 rintro m1 _ W g ⟨i,hi,hmi,rfl,hall,eW⟩
 refine IfB.dec (fun hlt=>?_) fun hge=>?_
 ·have hi':i<hs.length:=by omega
  have gi:hs[i]? =some hs[i]:=List.getElem?_eq_getElem hi'
  generalize hs[i]=ni at gi
  refine⟨fun m z V=>∃k:Nat,k<=i/\m+k=i/\z=(k:Int)/\(∀k',k'<k->EdP hs i k'->plc order k'<plc order i)/\Ext w2 V,⟨i,0,Nat.zero_le _,rfl,rfl,fun k' hk=>absurd hk (Nat.not_lt_zero _),eW⟩,?_⟩
  rintro m2 _ V g2 ⟨k,hk,hmk,rfl,hin,eV⟩
  unfold F43j2
  refine IfB.dec (fun hlk=>?_) fun hgk=>?_
  ·have hk':k<i:=by omega
   have gk:hs[k]? =some (hs[k]'(by omega)):=List.getElem?_eq_getElem (by omega)
   generalize hs[k]'_=nk at gk
   have ed:=extDrew V
   have xd:=eV.trans ed
   have hwk:IntKind.i64.wrap ((k:Int)+1)=((k+1:Nat):Int):=by rw[wrap_of (by omega) (by omega)];rfl
   have hEd:EdP hs i k↔dirP ni nk:=⟨fun⟨_,a,c,ga,gc,hd⟩=>by rw[gi] at ga;rw[gk] at gc;cases ga;cases gc;exact hd,fun hd=>⟨hk',ni,nk,gi,gk,hd⟩⟩
   have next:∀ {U:World},Ext w2 U->(EdP hs i k->plc order k<plc order i)->([]:List Nat)=[]/\∃b,b<m2/\∃k':Nat,k'<=i/\b+k'=i/\IntKind.i64.wrap ((k:Int)+1)=(k':Int)/\(∀q,q<k'->EdP hs i q->plc order q<plc order i)/\Ext w2 U:=fun eU hh=>⟨rfl,m2-1,by omega,k+1,hk',by omega,hwk,fun q hq hE=>by
    rcases Nat.lt_or_ge q k with h'|h'
    ·exact hin q h' hE
    ·rw[show q=k by omega] at hE ⊢;exact hh hE,eU⟩
   have bi:(0:Int)<=(i:Int)/\(i:Int)<(t.n:Int):=⟨by omega,by omega⟩
   have bk:(0:Int)<=(k:Int)/\(k:Int)<(t.n:Int):=⟨by omega,by omega⟩
   have ck:∀ {U:World},Ext w2 U->U.cell? ⟨b,0+(k:Int).toNat,none⟩=some (iv (plc order k:Int)):=fun e=>by rw[Nat.zero_add,Int.toNat_natCast];exact(hf.ext e).get (by omega) rfl
   have ci:∀ {U:World},Ext w2 U->U.cell? ⟨b,0+(i:Int).toNat,none⟩=some (iv (plc order i:Int)):=fun e=>by rw[Nat.zero_add,Int.toNat_natCast];exact(hf.ext e).get hi' rfl
   have bi2:(0:Int)<=(i:Int)/\(i:Int)<((hs.length:Nat):Int):=⟨by omega,by omega⟩
   have bk2:(0:Int)<=(k:Int)/\(k:Int)<((hs.length:Nat):Int):=⟨by omega,by omega⟩
   unfold F43k1
   obtain⟨pi,oi,hpi,hci⟩:=(hH.ext (e2.trans xd)).at gi
   obtain⟨pk,ok',hpk,hck⟩:=(hH.ext (e2.trans xd)).at gk
   refine⟨pi,oi,hpi,bi,ni.v.1,by rw[Int.toNat_natCast];exact hci 0 _ rfl,pk,ok',hpk,bk,nk.v.1,by rw[Int.toNat_natCast];exact hck 0 _ rfl,IfB.intro (fun hs1=>?_) fun hs1=>?_⟩
   ·have hE:EdP hs i k:=hEd.2 (.inl (by simpa using hs1))
    refine⟨b,0,rfl,bk2,_,ck xd,b,0,rfl,bi2,_,ci xd,IfB.dec (fun h4=>no (fun hh=>?_) (e2.trans xd)) fun h4=>next xd fun _=>(dir_ne hP hi' hk').2 (by omega)⟩
    have:=hh.2 i k hE;omega
   ·have hs1:ni.v.1≠nk.v.1:=by simpa using hs1
    refine⟨pi,oi,hpi,bi,ni.v,by rw[Int.toNat_natCast];exact hci,pk,ok',hpk,bk,nk.v,by rw[Int.toNat_natCast];exact hck,(c36 ((hH.ext (e2.trans xd)).get gi) ((hH.ext (e2.trans xd)).get gk)).use ?_⟩
    rintro _ w38 ⟨r,rfl,hr,e38⟩
    have x38:=xd.trans e38
    refine⟨r,rfl,IfB.intro (fun h3=>?_) fun h3=>next x38 fun hE=>?_⟩
    ·have hE:EdP hs i k:=hEd.2 (.inr (hr.1 h3))
     refine⟨b,0,rfl,bk2,_,ck x38,b,0,rfl,bi2,_,ci x38,IfB.dec (fun h4=>no (fun hh=>?_) (e2.trans x38)) fun h4=>next x38 fun _=>(dir_ne hP hi' hk').2 (by omega)⟩
     have:=hh.2 i k hE;omega
    ·rcases hEd.1 hE with hd|hd
     ·exact absurd hd hs1
     ·rw[hr.2 hd] at h3;cases h3
  ·have hki:k=i:=by omega
   subst hki
   refine⟨rfl,m1-1,by omega,k+1,hi',by omega,by rw[wrap_of (by omega) (by omega)];rfl,fun i' q hi2 hE=>?_,eV⟩
   rcases Nat.lt_or_ge i' k with h'|h'
   ·exact hall i' q h' hE
   ·have:i'=k:=by omega
    subst this
    exact hin q hE.1 hE
 ·have hi':i=hs.length:=by omega
  subst hi'
  exact⟨true,rfl,⟨fun _=>⟨hP,fun i k hE=>hall i k (by obtain⟨_,a,_,ga,_⟩:=hE;exact get_lt ga) hE⟩,fun _=>rfl⟩,e2.trans eW⟩
theorem unit_in{x:CatD}{hs:List Nd}(hM:HMay x hs){i l u:Nat}{a:Nd}{d:Int}(ha:hs[i]? =some a)(h1:a.v.2.2.2.1=false)(hd:0<=d)(hB:BndP x a.v.2.1.toNat d.toNat a.v.2.2.1.toNat l u){k:Nat}{n:Nd}(hn:hs[k]? =some n):InP x hs i k d↔n.v.1=a.v.1/\n.v.2.2.2.1=false/\(l:Int)<=n.v.2.2.1/\n.v.2.2.1<=(u:Int):=by
 have sn:=hM.step hn
 have sa:=hM.step ha
 have oa:=hM.ok i a ha
 have key:n.v.1=a.v.1->(uN x a.v.2.1 d a.v.2.2.1.toNat=uN x a.v.2.1 d n.v.2.2.1.toNat↔(l:Int)<=n.v.2.2.1/\n.v.2.2.1<=(u:Int)):=fun he=>by
  have hcl:=hM.cls hn ha he
  rw[uN_of oa.c0 hd,uN_of oa.c0 hd,eq_comm,hB.iff (by rw[<-hcl];omega)]
  omega
 constructor
 ·rintro(rfl|⟨a',b',ha',hb',h2,h3,h4,h5⟩)
  ·rw[ha] at hn;cases hn
   have:=hB.l;have:=hB.h
   exact⟨rfl,h1,by omega,by omega⟩
  ·rw[ha] at ha';rw[hn] at hb'
   cases ha';cases hb'
   exact⟨h2.symm,h4,(key h2.symm).1 h5⟩
 ·rintro⟨h2,h3,h4⟩
  exact .inr ⟨a,n,ha,hn,h2.symm,h1,h3,(key h2).2 h4⟩
theorem c105{w:World}{v:CatV}{x:CatD}{t:Sl}{hs:List Nd}(h:CatM w v x)(hH:Hst w t hs)(hM:HMay x hs){i:Nat}(hi:i<hs.length){d:Int}(hd:0<=d/\d<(x.1.length:Int)):
  Cw 105 #[cxV v,slV t,iv i,iv d] w fun r w'=>∃(t':Sl)(us:List Nat),r=slV t'/\(∀k:Nat,k∈us↔InP x hs i k d)/\us.length<=hs.length+1/\OwS w' t' 1 (us.map fun k:Nat=>iv (k:Int))/\Ext w w':=by
 have htn:=hH.n
 have hl100:=hM.len
 have ha:hs[i]? =some hs[i]:=List.getElem?_eq_getElem hi
 generalize hs[i]=a at ha
 have sa:=hM.step ha
 have oa:=hM.ok i a ha
 have hbd:(0:Int)<=(i:Int)/\(i:Int)<(t.n:Int):=⟨by omega,by omega⟩
 refine F105_ok v t (i:Int) d w _ fun b1 w2 a2=>?_
 have e2:Ext w w2:=a2.ch _
 obtain⟨p1,o1,hp1,hc1⟩:=(hH.ext e2).at ha
 refine⟨p1,o1,hp1,hbd,a.v.2.2.2.1,by rw[Int.toNat_natCast];exact hc1 3 _ rfl,IfB.intro (fun h1=>⟨by decide,fun b6 w7 a6=>⟨_,[i],rfl,fun k=>?_,by simp,OwS.new (sz:=1) (n:=1) (cs:=[iv (i:Int)]) a6 rfl,e2.trans (a6.ch _)⟩⟩) fun h1=>?_⟩
 ·rw[List.mem_singleton]
  constructor
  ·rintro rfl;exact .inl rfl
  ·rintro(e|⟨a',b',ha',_,_,hb',_⟩)
   ·exact e.symm
   ·rw[ha] at ha';cases ha';rw[h1] at hb';cases hb'
 have ed:=extDrew w2
 have E2:=e2.trans ed
 obtain⟨p2,o2,hp2,hc2⟩:=(hH.ext E2).at ha
 refine⟨v,cxN h a2.new ed,p2,o2,hp2,hbd,a.v.2.1,by rw[Int.toNat_natCast];exact hc2 1 _ rfl,p2,o2,hp2,hbd,a.v.2.2.1,by rw[Int.toNat_natCast];exact hc2 2 _ rfl,(c136 (h.ext E2) hM.cat a.v.2.1 d a.v.2.2.1).use ?_⟩
 rintro _ w16 ⟨lo,up,b,rfl,hb,hlu,e16⟩
 have E16:=E2.trans e16
 obtain⟨l,u,rfl,rfl,hB⟩:=hlu (hb.2 ⟨⟨oa.c0,oa.cn⟩,hd,sa.1,sa.2.1⟩)
 have hin:=fun{k:Nat} {n:Nd} (hn:hs[k]? =some n)=>unit_in hM ha h1 hd.1 hB hn
 have z16:=E16.size
 refine⟨((l:Int),(u:Int),b),rfl,fun m z W=>∃(k:Nat)(us:List Nat)(so:Sl),k<=hs.length/\m+k=hs.length/\z=(so,(k:Int))/\us.length<=k/\(∀j,j∈us↔j<k/\InP x hs i j d)/\OwS W so 1 (us.map fun k:Nat=>iv (k:Int))/\(∀j∈blk so,w.heap.size<=j)/\Ext w W,
  ⟨hs.length,0,[],⟨none,0,0⟩,Nat.zero_le _,rfl,rfl,Nat.le_refl _,by simp,.nil _ _,by simp[blk],E16⟩,?_⟩
 rintro m _ W g ⟨k,us,so,hk,hm,rfl,hul,hmem,hos,hbk,eW⟩
 unfold F105j1
 refine IfB.dec (fun hlt=>?_) fun hge=>?_
 ·dsimp only at hlt
  have hk':k<hs.length:=by omega
  have hn:hs[k]? =some hs[k]:=List.getElem?_eq_getElem hk'
  generalize hs[k]=n at hn
  have hbk2:(0:Int)<=(k:Int)/\(k:Int)<(t.n:Int):=⟨by omega,by omega⟩
  obtain⟨p3,o3,hp3,hc3⟩:=(hH.ext eW).at hn
  unfold F105k1
  refine⟨p3,o3,hp3,hbk2,n.v,by dsimp only;rw[Int.toNat_natCast];exact hc3,fun b28 w29 a29=>⟨rfl,store_all (vs:=nC n.v) a29.new rfl (nC_one n.v) fun w30 u30=>?_⟩⟩
  have e30:Ext W w30:=Ext.fresh a29 u30
  have ed30:=extDrew w30
  have x30:=e30.trans ed30
  have E30:Ext w w30.drew:=eW.trans x30
  have q:=fun(o:Nat)=>boxAt (cs:=nC n.v) u30.new o ed30
  obtain⟨p4,o4,hp4,hc4⟩:=(hH.ext E30).at ha
  have hw:IntKind.i64.wrap ((k:Int)+1)=((k+1:Nat):Int):=by rw[wrap_of (by omega) (by omega)];rfl
  have skip:=fun(hno:¬InP x hs i k d)=>(⟨rfl,m-1,by omega,k+1,us,so,hk',by omega,by rw[hw],by omega,fun j=>by
   rw[hmem]
   refine⟨fun⟨g1,g2⟩=>⟨by omega,g2⟩,fun⟨g1,g2⟩=>⟨?_,g2⟩⟩
   rcases Nat.lt_or_ge j k with h'|h'
   ·exact h'
   ·exact absurd g2 (by rw[show j=k by omega];exact hno),hos.ext x30,hbk,E30⟩:([]:List Nat)=[]/\∃b,b<m/\∃(k':Nat)(us:List Nat)(so':Sl),k'<=hs.length/\b+k'=hs.length/\(so,IntKind.i64.wrap ((k:Int)+1))=(so',(k':Int))/\us.length<=k'/\(∀j,j∈us↔j<k'/\InP x hs i j d)/\OwS w30.drew so' 1 (us.map fun k:Nat=>iv (k:Int))/\(∀j∈blk so',w.heap.size<=j)/\Ext w w30.drew)
  refine⟨_,q 0,p4,o4,hp4,hbd,a.v.1,by rw[Int.toNat_natCast];exact hc4 0 _ rfl,IfB.intro (fun g1=>⟨_,q 3,IfB.intro (fun g2=>⟨_,q 2,IfB.dec (fun g3=>⟨_,q 2,IfB.dec (fun g4=>⟨by decide,fun b40 w41 a40=>?_⟩) fun g4=>skip fun k'=>?_⟩) fun g3=>skip fun k'=>?_⟩) fun g2=>skip fun k'=>?_⟩) fun g1=>skip fun k'=>?_⟩
  ·have g1:n.v.1=a.v.1:=by simpa using g1
   have g2:n.v.2.2.2.1=false:=by simpa using g2
   dsimp only at g3 g4
   have hik:InP x hs i k d:=(hin hn).2 ⟨g1,g2,g3,g4⟩
   have e41:Ext w30.drew w41:=a40.ch _
   have z41:=a40.size;have p41:=a40.here;have z30:=E30.size
   have hsn:=hos.len
   rw[List.length_map,Nat.mul_one] at hsn
   refine((hos.ext x30).ext e41).lit (new:=[iv (k:Int)]) a40.new rfl (by intro v hv;rw[List.mem_singleton.1 hv];rfl) rfl rfl (by omega) (by decide) fun s43 w44 ho44 hn44 hC44 hb44=>⟨rfl,m-1,by omega,k+1,us++[k],s43,hk',by omega,by rw[hw],by rw[List.length_append,List.length_singleton];omega,fun j=>?_,by rw[List.map_append];exact ho44,fun j hj=>?_,(E30.trans e41).chN hC44 fun j hj=>hbk j hj⟩
   ·rw[List.mem_append,List.mem_singleton,hmem]
    constructor
    ·rintro(⟨h2,h3⟩|rfl)
     ·exact⟨by omega,h3⟩
     ·exact⟨by omega,hik⟩
    ·rintro⟨h2,h3⟩
     rcases Nat.lt_or_ge j k with h'|h'
     ·exact .inl ⟨h',h3⟩
     ·exact .inr (by omega)
   ·rcases hb44 j hj with h'|h'
    ·exact hbk j h'
    ·omega
  ·have:=((hin hn).1 k').2.2.2
   dsimp only at g4;omega
  ·have:=((hin hn).1 k').2.2.1
   dsimp only at g3;omega
  ·rw[((hin hn).1 k').2.1] at g2;cases g2
  ·have g1:¬n.v.1=a.v.1:=by simpa using g1
   exact g1 ((hin hn).1 k').1
 ·dsimp only at hge
  have hk':k=hs.length:=by omega
  subst hk'
  exact⟨so,us,rfl,fun j=>by rw[hmem];exact⟨fun h=>h.2,fun h=>⟨h.lt hi,h⟩⟩,by omega,hos,eW⟩
theorem box1{w w':World}{b:Nat}{v:Value}{T:TypeId}(h:w.heap[b]? =some (.cells #[v] T (0,0)))(e:Ext w w'):w'.cell? ⟨b,0,none⟩=some v:=by rw[cell_of (e.at h)];rfl
theorem c162{w:World}{b b1 b3 n o k:Nat}{order:List Int}{T1 T3:TypeId}(hf:FnB w b n fun k=>iv (plc order k:Int))(h1:w.heap[b1]? =some (.cells #[slV ⟨some ⟨b,0,none⟩,n,n⟩] T1 (0,0)))(h3:w.heap[b3]? =some (.cells #[iv (o:Int)] T3 (0,0)))(hk:k<n)(ho:o<n):
  Cw 162 #[iv (k:Int),.pointer (some ⟨b1,0,none⟩),.pointer (some ⟨b3,0,none⟩)] w fun v w'=>v=.bool (decide (plc order k<plc order o))/\Ext w w':=by
 have ed:=extDrew w
 refine F162_ok (k:Int) b1 b3 w _ ⟨⟨some ⟨b,0,none⟩,n,n⟩,box1 h1 ed,b,0,rfl,⟨by omega,by dsimp only;omega⟩,(plc order k:Int),by rw[Nat.zero_add,Int.toNat_natCast];exact(hf.ext ed).get hk rfl,⟨some ⟨b,0,none⟩,n,n⟩,box1 h1 ed,(o:Int),box1 h3 ed,b,0,rfl,⟨by omega,by dsimp only;omega⟩,(plc order o:Int),by rw[Nat.zero_add,Int.toNat_natCast];exact(hf.ext ed).get ho rfl,?_,ed⟩
 congr 1
 exact decide_eq_decide.2 (by omega)
theorem c163{w:World}{b b1 b3 n o k:Nat}{order:List Int}{T1 T3:TypeId}(hf:FnB w b n fun k=>iv (plc order k:Int))(h1:w.heap[b1]? =some (.cells #[slV ⟨some ⟨b,0,none⟩,n,n⟩] T1 (0,0)))(h3:w.heap[b3]? =some (.cells #[iv (o:Int)] T3 (0,0)))(hk:k<n)(ho:o<n):
  Cw 163 #[iv (k:Int),.pointer (some ⟨b1,0,none⟩),.pointer (some ⟨b3,0,none⟩)] w fun v w'=>v=.bool (decide (plc order o<plc order k))/\Ext w w':=by
 have ed:=extDrew w
 refine F163_ok (k:Int) b1 b3 w _ ⟨⟨some ⟨b,0,none⟩,n,n⟩,box1 h1 ed,b,0,rfl,⟨by omega,by dsimp only;omega⟩,(plc order k:Int),by rw[Nat.zero_add,Int.toNat_natCast];exact(hf.ext ed).get hk rfl,⟨some ⟨b,0,none⟩,n,n⟩,box1 h1 ed,(o:Int),box1 h3 ed,b,0,rfl,⟨by omega,by dsimp only;omega⟩,(plc order o:Int),by rw[Nat.zero_add,Int.toNat_natCast];exact(hf.ext ed).get ho rfl,?_,ed⟩
 congr 1
 exact decide_eq_decide.2 (by omega)
theorem any_nat{us:List Nat}{p:Nat->Prop}[DecidablePred p]:((us.map fun k:Nat=>(k:Int)).any fun z=>decide (p z.toNat))=true↔∃k∈us,p k:=by
 rw[List.any_eq_true]
 constructor
 ·rintro⟨z,hz,h⟩
  obtain⟨k,hk,rfl⟩:=List.mem_map.1 hz
  exact⟨k,hk,by simpa using h⟩
 ·rintro⟨k,hk,h⟩
  exact⟨(k:Int),List.mem_map.2 ⟨k,hk,rfl⟩,by simpa using h⟩
theorem c108{w:World}{u:Sl}{b n o:Nat}{order:List Int}{us:List Nat}(hf:FnB w b n fun k=>iv (plc order k:Int))(hu:Rd w u 1 (us.map fun k:Nat=>iv (k:Int)))(hul:us.length<=1000000)(hus:∀k∈us,k<n)(ho:o<n):
  Cw 108 #[slV ⟨some ⟨b,0,none⟩,n,n⟩,iv (o:Int),slV u] w fun r w'=>∃b',r=.bool b'/\(b'=true↔(∃k∈us,plc order k<plc order o)/\∃k∈us,plc order o<plc order k)/\Ext w w':=by
 rw[mapIv] at hu
 refine F108_ok _ (o:Int) u w _ fun b1 w2 a2 b3 w4 a4=>?_
 have e2:Ext w w2:=a2.ch _
 have e4:Ext w2 w4:=a4.ch _
 have E4:=e2.trans e4
 have mem:∀ {z:Int},z∈us.map (fun k:Nat=>(k:Int))->∃k:Nat,z=(k:Int)/\k<n:=fun hz=>by
  obtain⟨k,hk,rfl⟩:=List.mem_map.1 hz
  exact⟨k,rfl,hus k hk⟩
 refine(c109 (t1:=(162,#[.pointer (some ⟨b1,0,none⟩),.pointer (some ⟨b3,0,none⟩)])) (q:=fun z=>decide (plc order z.toNat<plc order o)) (hu.ext E4) (by rw[List.length_map];exact hul) fun z W hz e R' hR=>?_).use ?_
 ·obtain⟨k,rfl,hk⟩:=mem hz
  exact(c162 (hf.ext (E4.trans e)) (Ext.at (e4.trans e) a2.new) (Ext.at e a4.new) hk ho).use fun v w' ⟨hv,e'⟩=>by rw[hv];exact hR w' e'
 rintro _ w6 ⟨rfl,e6⟩
 refine⟨_,rfl,IfB.intro (fun h1=>?_) fun h1=>⟨false,rfl,⟨fun h=>(by cases h),fun h'=>?_⟩,E4.trans e6⟩⟩
 ·refine(c109 (t1:=(163,#[.pointer (some ⟨b1,0,none⟩),.pointer (some ⟨b3,0,none⟩)])) (q:=fun z=>decide (plc order o<plc order z.toNat)) (hu.ext (E4.trans e6)) (by rw[List.length_map];exact hul) fun z W hz e R' hR=>?_).use ?_
  ·obtain⟨k,rfl,hk⟩:=mem hz
   exact(c163 (hf.ext ((E4.trans e6).trans e)) (Ext.at ((e4.trans e6).trans e) a2.new) (Ext.at (e6.trans e) a4.new) hk ho).use fun v w' ⟨hv,e'⟩=>by rw[hv];exact hR w' e'
  rintro _ w9 ⟨rfl,e9⟩
  exact⟨_,rfl,_,rfl,(any_nat (p:=fun k=>plc order o<plc order k)).trans ⟨fun h=>⟨(any_nat (p:=fun k=>plc order k<plc order o)).1 h1,h⟩,fun h=>h.2⟩,(E4.trans e6).trans e9⟩
 ·rw[(any_nat (p:=fun k=>plc order k<plc order o)).2 h'.1] at h1;cases h1
def FairO(x:CatD)(hs:List Nd)(order:List Int):Prop:=KeepO hs order/\FairR x hs (plc order)
def BadP(x:CatD)(hs:List Nd)(order:List Int)(o i:Nat):Prop:=∃no ni,hs[o]? =some no/\hs[i]? =some ni/\ni.v.1≠no.v.1/\(∃a,InP x hs i a no.v.2.1/\plc order a<plc order o)/\(∃b,InP x hs i b no.v.2.1/\plc order o<plc order b)/\∃u,InP x hs i u no.v.2.1/\(Dp hs o u\/Dp hs u o)
theorem fair_bad{x:CatD}{hs:List Nd}{order:List Int}(hM:HMay x hs)(hK:KeepO hs order):FairO x hs order↔∀o i,¬BadP x hs order o i:=by
 constructor
 ·rintro⟨_,hF⟩ o i ⟨no,ni,ho,hi,hne,⟨a,ha,h1⟩,⟨b,hb,h2⟩,u,hu,hd⟩
  obtain⟨na,hna,hsa⟩:=ha.saga hi
  exact hF.fair o a b u no na ho hna (by rw[hsa];exact hne) ((ha.sym hM).tr hM hb) (by omega) (by omega) ((ha.sym hM).tr hM hu) hd
 ·intro h
  refine⟨hK,fun i j hi hj e=>hK.1.inj hi hj e,hK.2,fun o a b u no na ho ha hne hab h1 h2 hau hd=>?_⟩
  obtain⟨nb,hnb,hsb⟩:=hab.saga ha
  have k1:plc order a≠plc order o:=fun e=>by
   have:=hK.1.inj (get_lt ha) (get_lt ho) e
   subst this
   rw[ho] at ha;cases ha;exact hne rfl
  have k2:plc order o≠plc order b:=fun e=>by
   have:=hK.1.inj (get_lt ho) (get_lt hnb) e
   subst this
   rw[ho] at hnb;cases hnb;exact hne hsb.symm
  exact h o a ⟨no,na,ho,ha,hne,⟨a,.inl rfl,by omega⟩,⟨b,hab,by omega⟩,u,hau,hd⟩
theorem c106{w:World}{tl:Sl}{rows:List RwL}{hs:List Nd}{b1 b2 o k:Nat}{T1 T2:TypeId}(hL:Rws w tl rows)(hrl:rows.length=hs.length)(hrow:∀i x,rows[i]? =some x->RowOf hs i x.2)(hl:hs.length<=1000)(h1:w.heap[b1]? =some (.cells #[slV tl] T1 (0,0)))(h2:w.heap[b2]? =some (.cells #[iv (o:Int)] T2 (0,0)))(hk:k<hs.length)(ho:o<hs.length):
  Cw 106 #[iv (k:Int),.pointer (some ⟨b1,0,none⟩),.pointer (some ⟨b2,0,none⟩)] w fun v w'=>∃r,v=.bool r/\(r=true↔Dp hs o k\/Dp hs k o)/\Ext w w':=by
 have ed:=extDrew w
 have hLd:=hL.ext ed
 have htn:=hL.n
 have go:rows[o]? =some (rows[o]'(by omega)):=List.getElem?_eq_getElem (by omega)
 have gk:rows[k]? =some (rows[k]'(by omega)):=List.getElem?_eq_getElem (by omega)
 generalize rows[o]'_=ro at go
 generalize rows[k]'_=rk at gk
 have Ro:=hrow o ro go
 have Rk:=hrow k rk gk
 have lo:=Ro.len
 have lk:=Rk.len
 have mem:∀ {i j:Nat}{r:RwL},RowOf hs i r.2->((j:Int)∈r.2↔Dp hs i j):=fun{i j r} h=>by
  rw[h.mem]
  exact⟨fun⟨k',e,hd⟩=>by rw[show j=k' by omega];exact hd,fun hd=>⟨j,rfl,hd⟩⟩
 obtain⟨⟨pa,oa,hpa,hca⟩,hra,_⟩:=hLd.at go
 refine F106_ok (k:Int) b1 b2 w _ ⟨tl,box1 h1 ed,(o:Int),box1 h2 ed,pa,oa,hpa,⟨by omega,by omega⟩,ro.1,by rw[Int.toNat_natCast];exact hca,(c107 hra (by omega) (k:Int)).use ?_⟩
 rintro _ _ ⟨rfl,rfl⟩
 obtain⟨⟨pb,ob,hpb,hcb⟩,hrb,_⟩:=hLd.at gk
 refine⟨_,rfl,IfB.dec (fun hin=>⟨true,rfl,⟨fun _=>.inl ((mem Ro).1 hin),fun _=>rfl⟩,ed⟩) fun hin=>⟨tl,box1 h1 ed,pb,ob,hpb,⟨by omega,by omega⟩,rk.1,by rw[Int.toNat_natCast];exact hcb,(o:Int),box1 h2 ed,(c107 hrb (by omega) (o:Int)).use ?_⟩⟩
 rintro _ _ ⟨rfl,rfl⟩
 refine⟨_,rfl,_,rfl,?_,ed⟩
 rw[decide_eq_true_eq,mem Rk]
 exact⟨.inr,fun h=>h.resolve_left fun h'=>hin ((mem Ro).2 h')⟩
theorem c44{w:World}{v:CatV}{x:CatD}{t u:Sl}{hs:List Nd}{order:List Int}(h:CatM w v x)(hH:Hst w t hs)(hl:hs.length<=1000)(hO:Rd w u 1 (order.map iv))(hol:order.length<=1000):
  Cw 44 #[cxV v,slV t,slV u] w fun r w'=>∃b,r=.bool b/\(b=true↔HMay x hs/\FairO x hs order)/\Ext w w':=by
 have htn:=hH.n
 refine F44_ok v t u w _ fun b1 w2 a2=>?_
 have e2:Ext w w2:=a2.ch _
 refine⟨v,cxN h a2.new (Ch.refl _ _),(c42 (h.ext e2) (hH.ext e2) hl (hO.ext e2) hol).use ?_⟩
 rintro _ w7 ⟨q,rfl,hq,e7⟩
 have E7:=e2.trans e7
 have no:∀ {W:World},¬(HMay x hs/\FairO x hs order)->Ext w W->∃b,Value.bool false=.bool b/\(b=true↔HMay x hs/\FairO x hs order)/\Ext w W:=fun h e=>⟨false,rfl,⟨fun h=>(by cases h),fun h'=>absurd h' h⟩,e⟩
 refine⟨q,rfl,IfB.intro (fun h1=>no (fun hh=>by rw[hq.2 ⟨hh.1,hh.2.1⟩] at h1;cases h1) E7) fun h1=>?_⟩
 obtain⟨hM,hK⟩:=hq.1 (by simpa using h1)
 rw[show (t.2:Int)=((hs.length:Nat):Int) by show (t.n:Int)=_;rw[htn]]
 refine(c102 (hO.ext E7) hol hl).use ?_
 rintro _ w10 ⟨s,ok,rfl,hok,hpl,e10⟩
 obtain⟨b,rfl,hf⟩:=hpl (hok.2 hK.1)
 have E10:=E7.trans e10
 refine⟨(_,ok),rfl,(c85 (hH.ext E10) hl).use ?_⟩
 rintro _ w13 ⟨tl,rows,rfl,hrl,hrow,hR,e13⟩
 have E13:=E10.trans e13
 refine⟨tl,rfl,fun b15 w16 a15=>⟨rfl,store_one a15.new (by simp) rfl fun w17 u17=>?_⟩⟩
 have e17:Ext w13 w17:=Ext.fresh a15 u17
 have E17:=E13.trans e17
 have x17:=((e7.trans e10).trans e13).trans e17
 have h15:w17.heap[b15]? =some (.cells #[slV tl] 102 (0,0)):=u17.new
 have hf17:=(hf.ext e13).ext e17
 have hL17:=(hR.ext e17).rws
 refine⟨fun m z W=>∃o:Nat,o<=hs.length/\m+o=hs.length/\z=(o:Int)/\(∀o' i,o'<o->¬BadP x hs order o' i)/\Ext w17 W,⟨hs.length,0,Nat.zero_le _,rfl,rfl,fun o' i ho=>absurd ho (Nat.not_lt_zero _),Ch.refl _ _⟩,?_⟩
 rintro m1 _ W g ⟨o,ho,hmo,rfl,hall,eW⟩
 unfold F44j1
 refine IfB.dec (fun hlt=>?_) fun hge=>?_
 ·have ho':o<hs.length:=by omega
  have go:hs[o]? =some hs[o]:=List.getElem?_eq_getElem ho'
  generalize hs[o]=no' at go
  have oo:=hM.ok o no' go
  refine fun b25 w26 a25=>⟨rfl,store_one a25.new (by simp) rfl fun w27 u27=>?_⟩
  have e27:Ext W w27:=Ext.fresh a25 u27
  have h25:w27.heap[b25]? =some (.cells #[iv (o:Int)] 3 (0,0)):=u27.new
  have eW27:=eW.trans e27
  refine⟨fun m z V=>∃i:Nat,i<=hs.length/\m+i=hs.length/\z=(i:Int)/\(∀i',i'<i->¬BadP x hs order o i')/\Ext w27 V,⟨hs.length,0,Nat.zero_le _,rfl,rfl,fun i' hi=>absurd hi (Nat.not_lt_zero _),Ch.refl _ _⟩,?_⟩
  rintro m2 _ V g2 ⟨i,hi,hmi,rfl,hin,eV⟩
  unfold F44j2
  refine IfB.dec (fun hli=>?_) fun hgi=>?_
  ·have hi':i<hs.length:=by omega
   have gi:hs[i]? =some hs[i]:=List.getElem?_eq_getElem hi'
   generalize hs[i]=ni at gi
   have hwi:IntKind.i64.wrap ((i:Int)+1)=((i+1:Nat):Int):=by rw[wrap_of (by omega) (by omega)];rfl
   have next:∀ {U:World},Ext w27 U->¬BadP x hs order o i->([]:List Nat)=[]/\∃b,b<m2/\∃i':Nat,i'<=hs.length/\b+i'=hs.length/\IntKind.i64.wrap ((i:Int)+1)=(i':Int)/\(∀q,q<i'->¬BadP x hs order o q)/\Ext w27 U:=fun eU hh=>⟨rfl,m2-1,by omega,i+1,hi',by omega,hwi,fun q hq=>by
    rcases Nat.lt_or_ge q i with h'|h'
    ·exact hin q h'
    ·rw[show q=i by omega];exact hh,eU⟩
   have ed:=extDrew V
   have xd:=eV.trans ed
   have Ed:=E17.trans (eW27.trans xd)
   obtain⟨pi,oi,hpi,hci⟩:=(hH.ext Ed).at gi
   obtain⟨po,oo',hpo,hco⟩:=(hH.ext Ed).at go
   have bi:(0:Int)<=(i:Int)/\(i:Int)<(t.n:Int):=⟨by omega,by omega⟩
   have bo:(0:Int)<=(o:Int)/\(o:Int)<(t.n:Int):=⟨by omega,by omega⟩
   refine⟨pi,oi,hpi,bi,ni.v.1,by rw[Int.toNat_natCast];exact hci 0 _ rfl,(o:Int),box1 h25 xd,po,oo',hpo,bo,no'.v.1,by rw[Int.toNat_natCast];exact hco 0 _ rfl,IfB.intro (fun hs1=>next xd fun⟨n1,n2,k1,k2,k3,_⟩=>?_) fun hs1=>?_⟩
   ·rw[go] at k1;rw[gi] at k2;cases k1;cases k2
    exact k3 (by simpa using hs1)
   have hs1:ni.v.1≠no'.v.1:=by simpa using hs1
   have edd:=extDrew V.drew
   have xdd:=xd.trans edd
   have Edd:=E17.trans (eW27.trans xdd)
   obtain⟨pq,oq,hpq,hcq⟩:=(hH.ext Edd).at go
   refine⟨v,cxN h a2.new (x17.trans (eW27.trans xdd)),(o:Int),box1 h25 xdd,pq,oq,hpq,bo,no'.v.2.1,by rw[Int.toNat_natCast];exact hcq 1 _ rfl,(c105 (h.ext Edd) (hH.ext Edd) hM hi' ⟨oo.c0,oo.cn⟩).use ?_⟩
   rintro _ w51 ⟨su,us,rfl,hus,hul,hou,e51⟩
   have x51:=xdd.trans e51
   have hlt:∀k∈us,k<hs.length:=fun k hk=>((hus k).1 hk).lt hi'
   refine⟨su,rfl,(o:Int),box1 h25 x51,(c108 (hf17.ext (eW27.trans x51)) hou.rd (by omega) hlt ho').use ?_⟩
   rintro _ w55 ⟨q1,rfl,hq1,e55⟩
   have x55:=x51.trans e55
   refine⟨q1,rfl,IfB.intro (fun g1=>?_) fun g1=>next x55 fun⟨n1,n2,k1,k2,k3,⟨a,ha,h4⟩,⟨c,hc,h5⟩,_⟩=>?_⟩
   ·obtain⟨⟨a,ha,h4⟩,c,hc,h5⟩:=hq1.1 g1
    have hmap:Rd w55 su 1 ((us.map fun k:Nat=>(k:Int)).map iv):=by rw[<-mapIv];exact(hou.ext e55).rd
    classical
    refine(c109 (t1:=(106,#[.pointer (some ⟨b15,0,none⟩),.pointer (some ⟨b25,0,none⟩)])) (q:=fun z=>decide (Dp hs o z.toNat\/Dp hs z.toNat o)) hmap (by rw[List.length_map];omega) fun z U hz e R' hR'=>?_).use ?_
    ·obtain⟨k,hk,rfl⟩:=List.mem_map.1 hz
     refine(c106 (hL17.ext (eW27.trans (x55.trans e))) hrl hrow hl (Ext.at (eW27.trans (x55.trans e)) h15) (Ext.at (x55.trans e) h25) (hlt k hk) ho').use ?_
     rintro _ U' ⟨r,rfl,hr,e'⟩
     rw[show r=decide (Dp hs o ((k:Int)).toNat\/Dp hs ((k:Int)).toNat o) by rw[Bool.eq_iff_iff,hr,decide_eq_true_eq,Int.toNat_natCast]]
     exact hR' U' e'
    rintro _ w58 ⟨rfl,e58⟩
    have x58:=x55.trans e58
    have hany:=any_nat (us:=us) (p:=fun k=>Dp hs o k\/Dp hs k o)
    refine⟨_,rfl,IfB.intro (fun g2=>no (fun hh=>?_) (E17.trans (eW27.trans x58))) fun g2=>next x58 fun⟨n1,n2,k1,k2,k3,_,_,u',hu',hd⟩=>?_⟩
    ·obtain⟨u',hu',hd⟩:=hany.1 g2
     exact(fair_bad hM hK).1 hh.2 o i ⟨no',ni,go,gi,hs1,⟨a,(hus a).1 ha,h4⟩,⟨c,(hus c).1 hc,h5⟩,u',(hus u').1 hu',hd⟩
    ·rw[go] at k1;cases k1
     rw[hany.2 ⟨u',(hus u').2 hu',hd⟩] at g2;cases g2
   ·rw[go] at k1;cases k1
    have g1:q1=false:=g1
    rw[hq1.2 ⟨⟨a,(hus a).2 ha,h4⟩,c,(hus c).2 hc,h5⟩] at g1;cases g1
  ·have hii:i=hs.length:=by omega
   subst hii
   refine⟨rfl,m1-1,by omega,o+1,ho',by omega,by rw[wrap_of (by omega) (by omega)];rfl,fun o' i' ho2=>?_,eW27.trans eV⟩
   rcases Nat.lt_or_ge o' o with h'|h'
   ·exact hall o' i' h'
   ·have:o'=o:=by omega
    subst this
    intro hB
    obtain⟨n1,n2,k1,k2,_⟩:=id hB
    exact hin i' (get_lt k2) hB
 ·have ho':o=hs.length:=by omega
  subst ho'
  refine⟨true,rfl,⟨fun _=>⟨hM,(fair_bad hM hK).2 fun o i hB=>?_⟩,fun _=>rfl⟩,E17.trans eW⟩
  obtain⟨n1,n2,k1,k2,_⟩:=id hB
  exact hall o i (get_lt k1) hB
theorem c48{w:World}{v:CatV}{x:CatD}{t:Sl}{hs:List Nd}(h:CatM w v x)(hH:Hst w t hs)(hl:hs.length<=1000):
  Cw 48 #[cxV v,slV t] w fun r w'=>∃(s:Sl)(b:Bool)(os:List Nat),r=.tuple #[slV s,.bool b]/\(b=true↔GoodP x hs)/\(b=false->os=[])/\(b=true->∃ys,ArcsP x hs ys/\ToldP ys hs.length os/\os.length=hs.length)/\OwS w' s 1 (os.map fun k:Nat=>iv (k:Int))/\Ext w w':=by
 refine F48_ok v t w _ fun b1 w2 a2=>?_
 have e2:Ext w w2:=a2.ch _
 refine⟨v,cxN h a2.new (Ch.refl _ _),(c34 (h.ext e2) (hH.ext e2) hl).use ?_⟩
 rintro _ w7 ⟨q,rfl,g1,g2,e7⟩
 have hq:=goodB g1 g2
 have E7:=e2.trans e7
 refine⟨q,rfl,IfB.intro (fun h1=>⟨⟨none,0,0⟩,false,[],rfl,?_,fun _=>rfl,fun h=>(by cases h),.nil _ _,E7⟩) fun h1=>?_⟩
 ·have h1:q=false:=by simpa using h1
  rw[<-hq,h1]
 have h1:q=true:=by simpa using h1
 obtain⟨hM,hF⟩:=hq.1 h1
 refine⟨v,cxN h a2.new e7,(c37 (h.ext E7) (hH.ext E7) hl).use ?_⟩
 rintro _ w13 ⟨s14,os,rfl,ho,_,hy,e13,_⟩
 obtain⟨ys,out,hA,hT,he⟩:=hy hM
 have hfull:=(told_iff hM hA hT).2 hF
 rw[if_pos hfull] at he
 subst he
 exact⟨s14,rfl,s14,true,os,rfl,⟨fun _=>⟨hM,hF⟩,fun _=>rfl⟩,fun h=>(by cases h),fun _=>⟨ys,hA,hT,hfull⟩,ho,E7.trans e13⟩
def GxOSby0:ByteArray:=(ByteArray.mk (Array.mk ([(97:UInt8)] )))
set_option linter.unusedVariables false
set_option maxRecDepth 100000
theorem F101_ok(t0:Int)(w:World)(R:RV)(h:1*2<=16777216/\AllocP w (Obj.cells #[Qz t0,Qz t0] 101) fun b1 w2=>R (Value.slice (some ⟨b1,0,none⟩) 1 1) w2):Cw 101 #[Qz t0] w R:=
 ckF Tryz.func101 .nil h (by kernel_rfl) (by kernel_rfl)
def F41k1(w37:World)(b14:Nat)(b29:Nat)(R:RV):Prop:=∃(x39:Sl×List Value),CellsN w37 b14 0 17 (Qy x39.fst::x39.2)/\4*1<=16777216/\AllocP w37 (Obj.cells #[Qz 0,Qz 1,Qz 2,Qz 3] 3) fun b42 w43=>Qv' 44 #[Value.agg { toList:=Qy x39.fst::x39.2 },Value.slice (some ⟨b29,0,none⟩) 4 4,Value.slice (some ⟨b42,0,none⟩) 4 4] w43 fun t46 w45=>R (Value.bool !t46) w45
def F41(w:World)(R:RV):Prop:=1*9<=16777216/\AllocP w (Obj.cells #[Qz 5,Qz 0,Qz 0,Qz 0,Qz 0,Qz 0,Qz 0,Qz 0,Qz 0] 95) fun b1 w2=>AllocP w2 (Obj.cells #[Value.slice none 0 0,Value.slice none 0 0] 99) fun b3 w4=>#[Value.slice (some ⟨b1,0,none⟩) 1 1,Value.slice none 0 0].size=2/\StoreP w4 b3 0 [Value.slice (some ⟨b1,0,none⟩) 1 1,Value.slice none 0 0] fun w5=>∃(x6:Sl×Sl),CellsAt w5.drew b3 0 [Qy x6.fst,Qy x6.snd]/\∃(x7:Sl×Sl),CellsAt w5.drew b3 0 [Qy x7.fst,Qy x7.snd]/\(2*2<=16777216/\AllocP w5.drew (Obj.cells #[Qy x6.fst,Qy x6.snd,Qy x7.fst,Qy x7.snd] 99) fun b8 w9=>(((0:Int)<=2/\(2:Int)<=2/\(2:Int)<=281474976710656/\((48:Nat):Int)*(2:Int)<=281474976710656)/\AllocP w9 (Obj.cells { toList:=zc #[Value.slice none 0 0,Value.slice none 0 0] (Int.toNat 2) } 99) fun b10 w11=>(1*5<=16777216/\AllocP w11 (Obj.cells #[Value.string GxOSby0,Qz 0,Value.slice (some ⟨b8,0,none⟩) 2 2,Value.slice (some ⟨b10,0,none⟩) (Int.toNat 2) (Int.toNat 2),Value.bool false] 49) fun b12 w13=>AllocP w13 (Obj.cells #[Value.slice none 0 0,Qz 0,Qz 0,Qz 0,Qz 0,Qz 0,Qz 0,Qz 0,Qz 0,Qz 0,Qz 0,Qz 0,Qz 0,Qz 0,Qz 0,Qz 0,Qz 0] 26) fun b14 w15=>#[Value.slice (some ⟨b12,0,none⟩) 1 1,Qz 0,Qz 0,Qz 0,Qz 0,Qz 0,Qz 0,Qz 0,Qz 0,Qz 0,Qz 0,Qz 0,Qz 0,Qz 0,Qz 0,Qz 0,Qz 0].size=17/\StoreP w15 b14 0 [Value.slice (some ⟨b12,0,none⟩) 1 1,Qz 0,Qz 0,Qz 0,Qz 0,Qz 0,Qz 0,Qz 0,Qz 0,Qz 0,Qz 0,Qz 0,Qz 0,Qz 0,Qz 0,Qz 0,Qz 0] fun w16=>Qu' 101 #[Qz 5] w16 fun s19 w18=>Qu' 101 #[Qz 5] w18 fun s22 w21=>Qu' 101 #[Qz 6] w21 fun s25 w24=>Qu' 101 #[Qz 7] w24 fun s28 w27=>4*6<=16777216/\AllocP w27 (Obj.cells #[Qz 1,Qz 0,Qz 0,Value.bool false,Value.slice none 0 0,Qy s19,Qz 2,Qz 0,Qz 0,Value.bool false,Value.slice none 0 0,Qy s22,Qz 1,Qz 0,Qz 1,Value.bool false,Value.slice none 0 0,Qy s25,Qz 2,Qz 0,Qz 1,Value.bool false,Value.slice none 0 0,Qy s28] 53) fun b29 w30=>∃(x31:Sl×List Value),CellsN w30 b14 0 17 (Qy x31.fst::x31.2)/\4*1<=16777216/\AllocP w30 (Obj.cells #[Qz 0,Qz 2,Qz 1,Qz 3] 3) fun b34 w35=>Qv' 44 #[Value.agg { toList:=Qy x31.fst::x31.2 },Value.slice (some ⟨b29,0,none⟩) 4 4,Value.slice (some ⟨b34,0,none⟩) 4 4] w35 fun t38 w37=>IfB t38 (F41k1 w37 b14 b29 R) (R (Value.bool false) w37))/\AllocP w11 (Obj.cells #[Value.slice none 0 0,Qz 0,Qz 0,Qz 0,Qz 0,Qz 0,Qz 0,Qz 0,Qz 0,Qz 0,Qz 0,Qz 0,Qz 0,Qz 0,Qz 0,Qz 0,Qz 0] 26) fun b47 w48=>1*5<=16777216/\AllocP w48 (Obj.cells #[Value.string GxOSby0,Qz 0,Value.slice (some ⟨b8,0,none⟩) 2 2,Value.slice (some ⟨b10,0,none⟩) (Int.toNat 2) (Int.toNat 2),Value.bool false] 49) fun b49 w50=>#[Value.slice (some ⟨b49,0,none⟩) 1 1,Qz 0,Qz 0,Qz 0,Qz 0,Qz 0,Qz 0,Qz 0,Qz 0,Qz 0,Qz 0,Qz 0,Qz 0,Qz 0,Qz 0,Qz 0,Qz 0].size=17/\StoreP w50 b47 0 [Value.slice (some ⟨b49,0,none⟩) 1 1,Qz 0,Qz 0,Qz 0,Qz 0,Qz 0,Qz 0,Qz 0,Qz 0,Qz 0,Qz 0,Qz 0,Qz 0,Qz 0,Qz 0,Qz 0,Qz 0] fun w51=>Qu' 101 #[Qz 5] w51 fun s54 w53=>Qu' 101 #[Qz 5] w53 fun s57 w56=>Qu' 101 #[Qz 6] w56 fun s60 w59=>Qu' 101 #[Qz 7] w59 fun s63 w62=>4*6<=16777216/\AllocP w62 (Obj.cells #[Qz 1,Qz 0,Qz 0,Value.bool false,Value.slice none 0 0,Qy s54,Qz 2,Qz 0,Qz 0,Value.bool false,Value.slice none 0 0,Qy s57,Qz 1,Qz 0,Qz 1,Value.bool false,Value.slice none 0 0,Qy s60,Qz 2,Qz 0,Qz 1,Value.bool false,Value.slice none 0 0,Qy s63] 53) fun b64 w65=>∃(x66:Sl×List Value),CellsN w65 b47 0 17 (Qy x66.fst::x66.2)/\4*1<=16777216/\AllocP w65 (Obj.cells #[Qz 0,Qz 2,Qz 1,Qz 3] 3) fun b69 w70=>Qv' 44 #[Value.agg { toList:=Qy x66.fst::x66.2 },Value.slice (some ⟨b64,0,none⟩) 4 4,Value.slice (some ⟨b69,0,none⟩) 4 4] w70 fun t73 w72=>IfB t73 (F41k1 w72 b47 b64 R) (R (Value.bool false) w72))/\AllocP w9 (Obj.cells #[Value.slice none 0 0,Qz 0,Qz 0,Qz 0,Qz 0,Qz 0,Qz 0,Qz 0,Qz 0,Qz 0,Qz 0,Qz 0,Qz 0,Qz 0,Qz 0,Qz 0,Qz 0] 26) fun b82 w83=>((0:Int)<=2/\(2:Int)<=2/\(2:Int)<=281474976710656/\((48:Nat):Int)*(2:Int)<=281474976710656)/\AllocP w83 (Obj.cells { toList:=zc #[Value.slice none 0 0,Value.slice none 0 0] (Int.toNat 2) } 99) fun b84 w85=>1*5<=16777216/\AllocP w85 (Obj.cells #[Value.string GxOSby0,Qz 0,Value.slice (some ⟨b8,0,none⟩) 2 2,Value.slice (some ⟨b84,0,none⟩) (Int.toNat 2) (Int.toNat 2),Value.bool false] 49) fun b86 w87=>#[Value.slice (some ⟨b86,0,none⟩) 1 1,Qz 0,Qz 0,Qz 0,Qz 0,Qz 0,Qz 0,Qz 0,Qz 0,Qz 0,Qz 0,Qz 0,Qz 0,Qz 0,Qz 0,Qz 0,Qz 0].size=17/\StoreP w87 b82 0 [Value.slice (some ⟨b86,0,none⟩) 1 1,Qz 0,Qz 0,Qz 0,Qz 0,Qz 0,Qz 0,Qz 0,Qz 0,Qz 0,Qz 0,Qz 0,Qz 0,Qz 0,Qz 0,Qz 0,Qz 0] fun w88=>Qu' 101 #[Qz 5] w88 fun s91 w90=>Qu' 101 #[Qz 5] w90 fun s94 w93=>Qu' 101 #[Qz 6] w93 fun s97 w96=>Qu' 101 #[Qz 7] w96 fun s100 w99=>4*6<=16777216/\AllocP w99 (Obj.cells #[Qz 1,Qz 0,Qz 0,Value.bool false,Value.slice none 0 0,Qy s91,Qz 2,Qz 0,Qz 0,Value.bool false,Value.slice none 0 0,Qy s94,Qz 1,Qz 0,Qz 1,Value.bool false,Value.slice none 0 0,Qy s97,Qz 2,Qz 0,Qz 1,Value.bool false,Value.slice none 0 0,Qy s100] 53) fun b101 w102=>∃(x103:Sl×List Value),CellsN w102 b82 0 17 (Qy x103.fst::x103.2)/\4*1<=16777216/\AllocP w102 (Obj.cells #[Qz 0,Qz 2,Qz 1,Qz 3] 3) fun b106 w107=>Qv' 44 #[Value.agg { toList:=Qy x103.fst::x103.2 },Value.slice (some ⟨b101,0,none⟩) 4 4,Value.slice (some ⟨b106,0,none⟩) 4 4] w107 fun t110 w109=>IfB t110 (F41k1 w109 b82 b101 R) (R (Value.bool false) w109))/\(((0:Int)<=2/\(2:Int)<=2/\(2:Int)<=281474976710656/\((48:Nat):Int)*(2:Int)<=281474976710656)/\AllocP w5.drew (Obj.cells { toList:=zc #[Value.slice none 0 0,Value.slice none 0 0] (Int.toNat 2) } 99) fun b119 w120=>CellsAt w120 b3 0 [Qy x7.fst,Qy x7.snd]/\CellsAt w120 b3 0 [Qy x6.fst,Qy x6.snd]/\(2*2<=16777216/\AllocP w120 (Obj.cells #[Qy x6.fst,Qy x6.snd,Qy x7.fst,Qy x7.snd] 99) fun b121 w122=>(1*5<=16777216/\AllocP w122 (Obj.cells #[Value.string GxOSby0,Qz 0,Value.slice (some ⟨b121,0,none⟩) 2 2,Value.slice (some ⟨b119,0,none⟩) (Int.toNat 2) (Int.toNat 2),Value.bool false] 49) fun b123 w124=>AllocP w124 (Obj.cells #[Value.slice none 0 0,Qz 0,Qz 0,Qz 0,Qz 0,Qz 0,Qz 0,Qz 0,Qz 0,Qz 0,Qz 0,Qz 0,Qz 0,Qz 0,Qz 0,Qz 0,Qz 0] 26) fun b125 w126=>#[Value.slice (some ⟨b123,0,none⟩) 1 1,Qz 0,Qz 0,Qz 0,Qz 0,Qz 0,Qz 0,Qz 0,Qz 0,Qz 0,Qz 0,Qz 0,Qz 0,Qz 0,Qz 0,Qz 0,Qz 0].size=17/\StoreP w126 b125 0 [Value.slice (some ⟨b123,0,none⟩) 1 1,Qz 0,Qz 0,Qz 0,Qz 0,Qz 0,Qz 0,Qz 0,Qz 0,Qz 0,Qz 0,Qz 0,Qz 0,Qz 0,Qz 0,Qz 0,Qz 0] fun w127=>Qu' 101 #[Qz 5] w127 fun s130 w129=>Qu' 101 #[Qz 5] w129 fun s133 w132=>Qu' 101 #[Qz 6] w132 fun s136 w135=>Qu' 101 #[Qz 7] w135 fun s139 w138=>4*6<=16777216/\AllocP w138 (Obj.cells #[Qz 1,Qz 0,Qz 0,Value.bool false,Value.slice none 0 0,Qy s130,Qz 2,Qz 0,Qz 0,Value.bool false,Value.slice none 0 0,Qy s133,Qz 1,Qz 0,Qz 1,Value.bool false,Value.slice none 0 0,Qy s136,Qz 2,Qz 0,Qz 1,Value.bool false,Value.slice none 0 0,Qy s139] 53) fun b140 w141=>∃(x142:Sl×List Value),CellsN w141 b125 0 17 (Qy x142.fst::x142.2)/\4*1<=16777216/\AllocP w141 (Obj.cells #[Qz 0,Qz 2,Qz 1,Qz 3] 3) fun b145 w146=>Qv' 44 #[Value.agg { toList:=Qy x142.fst::x142.2 },Value.slice (some ⟨b140,0,none⟩) 4 4,Value.slice (some ⟨b145,0,none⟩) 4 4] w146 fun t149 w148=>IfB t149 (F41k1 w148 b125 b140 R) (R (Value.bool false) w148))/\AllocP w122 (Obj.cells #[Value.slice none 0 0,Qz 0,Qz 0,Qz 0,Qz 0,Qz 0,Qz 0,Qz 0,Qz 0,Qz 0,Qz 0,Qz 0,Qz 0,Qz 0,Qz 0,Qz 0,Qz 0] 26) fun b158 w159=>1*5<=16777216/\AllocP w159 (Obj.cells #[Value.string GxOSby0,Qz 0,Value.slice (some ⟨b121,0,none⟩) 2 2,Value.slice (some ⟨b119,0,none⟩) (Int.toNat 2) (Int.toNat 2),Value.bool false] 49) fun b160 w161=>#[Value.slice (some ⟨b160,0,none⟩) 1 1,Qz 0,Qz 0,Qz 0,Qz 0,Qz 0,Qz 0,Qz 0,Qz 0,Qz 0,Qz 0,Qz 0,Qz 0,Qz 0,Qz 0,Qz 0,Qz 0].size=17/\StoreP w161 b158 0 [Value.slice (some ⟨b160,0,none⟩) 1 1,Qz 0,Qz 0,Qz 0,Qz 0,Qz 0,Qz 0,Qz 0,Qz 0,Qz 0,Qz 0,Qz 0,Qz 0,Qz 0,Qz 0,Qz 0,Qz 0] fun w162=>Qu' 101 #[Qz 5] w162 fun s165 w164=>Qu' 101 #[Qz 5] w164 fun s168 w167=>Qu' 101 #[Qz 6] w167 fun s171 w170=>Qu' 101 #[Qz 7] w170 fun s174 w173=>4*6<=16777216/\AllocP w173 (Obj.cells #[Qz 1,Qz 0,Qz 0,Value.bool false,Value.slice none 0 0,Qy s165,Qz 2,Qz 0,Qz 0,Value.bool false,Value.slice none 0 0,Qy s168,Qz 1,Qz 0,Qz 1,Value.bool false,Value.slice none 0 0,Qy s171,Qz 2,Qz 0,Qz 1,Value.bool false,Value.slice none 0 0,Qy s174] 53) fun b175 w176=>∃(x177:Sl×List Value),CellsN w176 b158 0 17 (Qy x177.fst::x177.2)/\4*1<=16777216/\AllocP w176 (Obj.cells #[Qz 0,Qz 2,Qz 1,Qz 3] 3) fun b180 w181=>Qv' 44 #[Value.agg { toList:=Qy x177.fst::x177.2 },Value.slice (some ⟨b175,0,none⟩) 4 4,Value.slice (some ⟨b180,0,none⟩) 4 4] w181 fun t184 w183=>IfB t184 (F41k1 w183 b158 b175 R) (R (Value.bool false) w183))/\AllocP w120 (Obj.cells #[Value.slice none 0 0,Qz 0,Qz 0,Qz 0,Qz 0,Qz 0,Qz 0,Qz 0,Qz 0,Qz 0,Qz 0,Qz 0,Qz 0,Qz 0,Qz 0,Qz 0,Qz 0] 26) fun b193 w194=>CellsAt w194 b3 0 [Qy x7.fst,Qy x7.snd]/\CellsAt w194 b3 0 [Qy x6.fst,Qy x6.snd]/\2*2<=16777216/\AllocP w194 (Obj.cells #[Qy x6.fst,Qy x6.snd,Qy x7.fst,Qy x7.snd] 99) fun b195 w196=>1*5<=16777216/\AllocP w196 (Obj.cells #[Value.string GxOSby0,Qz 0,Value.slice (some ⟨b195,0,none⟩) 2 2,Value.slice (some ⟨b119,0,none⟩) (Int.toNat 2) (Int.toNat 2),Value.bool false] 49) fun b197 w198=>#[Value.slice (some ⟨b197,0,none⟩) 1 1,Qz 0,Qz 0,Qz 0,Qz 0,Qz 0,Qz 0,Qz 0,Qz 0,Qz 0,Qz 0,Qz 0,Qz 0,Qz 0,Qz 0,Qz 0,Qz 0].size=17/\StoreP w198 b193 0 [Value.slice (some ⟨b197,0,none⟩) 1 1,Qz 0,Qz 0,Qz 0,Qz 0,Qz 0,Qz 0,Qz 0,Qz 0,Qz 0,Qz 0,Qz 0,Qz 0,Qz 0,Qz 0,Qz 0,Qz 0] fun w199=>Qu' 101 #[Qz 5] w199 fun s202 w201=>Qu' 101 #[Qz 5] w201 fun s205 w204=>Qu' 101 #[Qz 6] w204 fun s208 w207=>Qu' 101 #[Qz 7] w207 fun s211 w210=>4*6<=16777216/\AllocP w210 (Obj.cells #[Qz 1,Qz 0,Qz 0,Value.bool false,Value.slice none 0 0,Qy s202,Qz 2,Qz 0,Qz 0,Value.bool false,Value.slice none 0 0,Qy s205,Qz 1,Qz 0,Qz 1,Value.bool false,Value.slice none 0 0,Qy s208,Qz 2,Qz 0,Qz 1,Value.bool false,Value.slice none 0 0,Qy s211] 53) fun b212 w213=>∃(x214:Sl×List Value),CellsN w213 b193 0 17 (Qy x214.fst::x214.2)/\4*1<=16777216/\AllocP w213 (Obj.cells #[Qz 0,Qz 2,Qz 1,Qz 3] 3) fun b217 w218=>Qv' 44 #[Value.agg { toList:=Qy x214.fst::x214.2 },Value.slice (some ⟨b212,0,none⟩) 4 4,Value.slice (some ⟨b217,0,none⟩) 4 4] w218 fun t221 w220=>IfB t221 (F41k1 w220 b193 b212 R) (R (Value.bool false) w220))/\AllocP w5.drew (Obj.cells #[Value.slice none 0 0,Qz 0,Qz 0,Qz 0,Qz 0,Qz 0,Qz 0,Qz 0,Qz 0,Qz 0,Qz 0,Qz 0,Qz 0,Qz 0,Qz 0,Qz 0,Qz 0] 26) fun b230 w231=>CellsAt w231 b3 0 [Qy x7.fst,Qy x7.snd]/\CellsAt w231 b3 0 [Qy x6.fst,Qy x6.snd]/\(2*2<=16777216/\AllocP w231 (Obj.cells #[Qy x6.fst,Qy x6.snd,Qy x7.fst,Qy x7.snd] 99) fun b232 w233=>((0:Int)<=2/\(2:Int)<=2/\(2:Int)<=281474976710656/\((48:Nat):Int)*(2:Int)<=281474976710656)/\AllocP w233 (Obj.cells { toList:=zc #[Value.slice none 0 0,Value.slice none 0 0] (Int.toNat 2) } 99) fun b234 w235=>1*5<=16777216/\AllocP w235 (Obj.cells #[Value.string GxOSby0,Qz 0,Value.slice (some ⟨b232,0,none⟩) 2 2,Value.slice (some ⟨b234,0,none⟩) (Int.toNat 2) (Int.toNat 2),Value.bool false] 49) fun b236 w237=>#[Value.slice (some ⟨b236,0,none⟩) 1 1,Qz 0,Qz 0,Qz 0,Qz 0,Qz 0,Qz 0,Qz 0,Qz 0,Qz 0,Qz 0,Qz 0,Qz 0,Qz 0,Qz 0,Qz 0,Qz 0].size=17/\StoreP w237 b230 0 [Value.slice (some ⟨b236,0,none⟩) 1 1,Qz 0,Qz 0,Qz 0,Qz 0,Qz 0,Qz 0,Qz 0,Qz 0,Qz 0,Qz 0,Qz 0,Qz 0,Qz 0,Qz 0,Qz 0,Qz 0] fun w238=>Qu' 101 #[Qz 5] w238 fun s241 w240=>Qu' 101 #[Qz 5] w240 fun s244 w243=>Qu' 101 #[Qz 6] w243 fun s247 w246=>Qu' 101 #[Qz 7] w246 fun s250 w249=>4*6<=16777216/\AllocP w249 (Obj.cells #[Qz 1,Qz 0,Qz 0,Value.bool false,Value.slice none 0 0,Qy s241,Qz 2,Qz 0,Qz 0,Value.bool false,Value.slice none 0 0,Qy s244,Qz 1,Qz 0,Qz 1,Value.bool false,Value.slice none 0 0,Qy s247,Qz 2,Qz 0,Qz 1,Value.bool false,Value.slice none 0 0,Qy s250] 53) fun b251 w252=>∃(x253:Sl×List Value),CellsN w252 b230 0 17 (Qy x253.fst::x253.2)/\4*1<=16777216/\AllocP w252 (Obj.cells #[Qz 0,Qz 2,Qz 1,Qz 3] 3) fun b256 w257=>Qv' 44 #[Value.agg { toList:=Qy x253.fst::x253.2 },Value.slice (some ⟨b251,0,none⟩) 4 4,Value.slice (some ⟨b256,0,none⟩) 4 4] w257 fun t260 w259=>IfB t260 (F41k1 w259 b230 b251 R) (R (Value.bool false) w259))/\((0:Int)<=2/\(2:Int)<=2/\(2:Int)<=281474976710656/\((48:Nat):Int)*(2:Int)<=281474976710656)/\AllocP w231 (Obj.cells { toList:=zc #[Value.slice none 0 0,Value.slice none 0 0] (Int.toNat 2) } 99) fun b269 w270=>CellsAt w270 b3 0 [Qy x7.fst,Qy x7.snd]/\CellsAt w270 b3 0 [Qy x6.fst,Qy x6.snd]/\2*2<=16777216/\AllocP w270 (Obj.cells #[Qy x6.fst,Qy x6.snd,Qy x7.fst,Qy x7.snd] 99) fun b271 w272=>1*5<=16777216/\AllocP w272 (Obj.cells #[Value.string GxOSby0,Qz 0,Value.slice (some ⟨b271,0,none⟩) 2 2,Value.slice (some ⟨b269,0,none⟩) (Int.toNat 2) (Int.toNat 2),Value.bool false] 49) fun b273 w274=>#[Value.slice (some ⟨b273,0,none⟩) 1 1,Qz 0,Qz 0,Qz 0,Qz 0,Qz 0,Qz 0,Qz 0,Qz 0,Qz 0,Qz 0,Qz 0,Qz 0,Qz 0,Qz 0,Qz 0,Qz 0].size=17/\StoreP w274 b230 0 [Value.slice (some ⟨b273,0,none⟩) 1 1,Qz 0,Qz 0,Qz 0,Qz 0,Qz 0,Qz 0,Qz 0,Qz 0,Qz 0,Qz 0,Qz 0,Qz 0,Qz 0,Qz 0,Qz 0,Qz 0] fun w275=>Qu' 101 #[Qz 5] w275 fun s278 w277=>Qu' 101 #[Qz 5] w277 fun s281 w280=>Qu' 101 #[Qz 6] w280 fun s284 w283=>Qu' 101 #[Qz 7] w283 fun s287 w286=>4*6<=16777216/\AllocP w286 (Obj.cells #[Qz 1,Qz 0,Qz 0,Value.bool false,Value.slice none 0 0,Qy s278,Qz 2,Qz 0,Qz 0,Value.bool false,Value.slice none 0 0,Qy s281,Qz 1,Qz 0,Qz 1,Value.bool false,Value.slice none 0 0,Qy s284,Qz 2,Qz 0,Qz 1,Value.bool false,Value.slice none 0 0,Qy s287] 53) fun b288 w289=>∃(x290:Sl×List Value),CellsN w289 b230 0 17 (Qy x290.fst::x290.2)/\4*1<=16777216/\AllocP w289 (Obj.cells #[Qz 0,Qz 2,Qz 1,Qz 3] 3) fun b293 w294=>Qv' 44 #[Value.agg { toList:=Qy x290.fst::x290.2 },Value.slice (some ⟨b288,0,none⟩) 4 4,Value.slice (some ⟨b293,0,none⟩) 4 4] w294 fun t297 w296=>IfB t297 (F41k1 w296 b230 b288 R) (R (Value.bool false) w296)
theorem F41_ok(w:World)(R:RV)(h:F41 w R):Cw 41 #[] w R:=
 call_of tbOk mixed en41 Tryz.func41 rfl (nd (nd (.node (.draw (sts [0,1] (.ac 2 [] (.ac 3 [] (.st 4 (.ac 5 [] (.st 6 (.ac 7 [6] (.ac 8 [] .fin .non) .non)) (.ac 7 [4] (.ac 5 [] (.st 6 (.ac 8 [] .fin .non)) .non) .non))) (.ac 7 [] (.ac 3 [] (.st 4 (.ac 5 [] (.st 6 (.ac 8 [] .fin .non)) .non)) .non) .non)) (.ac 3 [1,0] (.ac 2 [] (.st 4 (.ac 5 [] (.st 6 (.ac 7 [6] (.ac 8 [] .fin .non) .non)) (.ac 7 [4] (.ac 5 [] (.st 6 (.ac 8 [] .fin .non)) .non) .non))) (.ac 7 [1,0] (.ac 2 [] (.st 4 (.ac 5 [] (.st 6 (.ac 8 [] .fin .non)) .non)) .non) .non)) (.ac 7 [1,0] (.ac 2 [] (.ac 3 [] (.st 4 (.ac 5 [] (.st 6 (.ac 8 [] .fin .non)) .non)) .non) (.ac 3 [1,0] (.ac 2 [] (.st 4 (.ac 5 [] (.st 6 (.ac 8 [] .fin .non)) .non)) .non) .non)) .non))))) .nil))) (by kernel_rfl) (Nat.le_of_ble_eq_true (by kernel_rfl)) (Eq.mp (α:=F41 w R) (by kernel_rfl) h)
theorem F13_ok(t0:Sl×List Value)(t1:Sl)(w:World)(R:RV)(h:AllocP w (Obj.cells { toList:=Qy t0.fst::t0.2 } 26) fun b1 w2=>Qv' 41 #[] w2 fun t5 w4=>IfB (!t5) (R (Value.bool false) w4) (∃(x6:Sl×List Value),CellsN w4 b1 0 17 (Qy x6.fst::x6.2)/\Qv' 29 #[Value.agg { toList:=Qy x6.fst::x6.2 },Qy t1] w4 fun t11 w10=>IfB t11 (R (Value.bool true) w10) (IfB (decide (16<(t1.n:Int))) (R (Value.bool true) w10) (∃(x12:Sl×List Value),CellsN w10 b1 0 17 (Qy x12.fst::x12.2)/\Cx 48 #[Value.agg { toList:=Qy x12.fst::x12.2 },Qy t1] w10 fun v15 w16=>∃(x17:Sl×Bool),v15=Value.tuple #[Qy x17.fst,Value.bool x17.2]/\∃(x18:Sl×List Value),CellsN w16 b1 0 17 (Qy x18.fst::x18.2)/\Qv' 33 #[Value.agg { toList:=Qy x18.fst::x18.2 },Qy t1] w16 fun t23 w22=>IfB (!x17.2 == t23) (R (Value.bool false) w22) (IfB (!x17.2) (R (Value.bool ((x17.fst.2:Int) == 0)) w22) (∃(x24:Sl×List Value),CellsN w22 b1 0 17 (Qy x24.fst::x24.2)/\Qv' 45 #[Value.agg { toList:=Qy x24.fst::x24.2 },Qy t1,Qy x17.fst] w22 fun t29 w28=>R (Value.bool t29) w28)))))):Cw 13 #[Value.agg { toList:=Qy t0.fst::t0.2 },Qy t1] w R:=
 ckF Tryz.func13 .nil h (by kernel_rfl) (by kernel_rfl)
abbrev nilS':Sl:=⟨none,0,0⟩
def alvJ(s1 s2 s3 s4:Sl):List Nd:=[⟨(1,0,0,false,nilS',s1),[],[(5,5)]⟩,⟨(2,0,0,false,nilS',s2),[],[(5,5)]⟩,⟨(1,0,1,false,nilS',s3),[],[(6,6)]⟩,⟨(2,0,1,false,nilS',s4),[],[(7,7)]⟩]
theorem alvJ_may(s1 s2 s3 s4:Sl):HMay catA (alvJ s1 s2 s3 s4):=by
 have h5:SpsOk [(5,5)]:=⟨by decide,fun s hs=>by rw[List.mem_singleton.1 hs];unfold mayS;omega⟩
 have h6:SpsOk [(6,6)]:=⟨by decide,fun s hs=>by rw[List.mem_singleton.1 hs];unfold mayS;omega⟩
 have h7:SpsOk [(7,7)]:=⟨by decide,fun s hs=>by rw[List.mem_singleton.1 hs];unfold mayS;omega⟩
 have h0:SpsOk []:=⟨by decide,fun s hs=>by cases hs⟩
 refine⟨catA_ok,(by decide:4<=100),fun i n hn=>?_⟩
 match i,hn with
 | 0,hn=>cases hn;exact⟨(by decide:(0:Int)<=1),(by decide:(0:Int)<=0),(by decide:(0:Int)<1),(by decide:(0:Int)<=0),h0,h5,(⟨rfl,rfl⟩:nextP none _ _)⟩
 | 1,hn=>cases hn;exact⟨(by decide:(0:Int)<=2),(by decide:(0:Int)<=0),(by decide:(0:Int)<1),(by decide:(0:Int)<=0),h0,h5,(⟨rfl,rfl⟩:nextP none _ _)⟩
 | 2,hn=>cases hn;exact⟨(by decide:(0:Int)<=1),(by decide:(0:Int)<=0),(by decide:(0:Int)<1),(by decide:(0:Int)<=1),h0,h6,(⟨rfl,rfl,(by decide:(1:Int)<2)⟩:nextP (some ⟨(1,0,0,false,nilS',s1),[],[(5,5)]⟩) ⟨(1,0,1,false,nilS',s3),[],[(6,6)]⟩ _)⟩
 | 3,hn=>cases hn;exact⟨(by decide:(0:Int)<=2),(by decide:(0:Int)<=0),(by decide:(0:Int)<1),(by decide:(0:Int)<=1),h0,h7,(⟨rfl,rfl,(by decide:(1:Int)<2)⟩:nextP (some ⟨(2,0,0,false,nilS',s2),[],[(5,5)]⟩) ⟨(2,0,1,false,nilS',s4),[],[(7,7)]⟩ _)⟩
theorem alvJ_get(s1 s2 s3 s4:Sl){i:Nat}{n:Nd}(h:(alvJ s1 s2 s3 s4)[i]? =some n):(i=0/\n.v.1=1)\/(i=1/\n.v.1=2)\/(i=2/\n.v.1=1)\/(i=3/\n.v.1=2):=by
 match i,h with
 | 0,h=>cases h;exact .inl ⟨rfl,rfl⟩
 | 1,h=>cases h;exact .inr (.inl ⟨rfl,rfl⟩)
 | 2,h=>cases h;exact .inr (.inr (.inl ⟨rfl,rfl⟩))
 | 3,h=>cases h;exact .inr (.inr (.inr ⟨rfl,rfl⟩))
theorem alvJ_no(s1 s2 s3 s4:Sl):¬EdP (alvJ s1 s2 s3 s4) 2 1:=by
 rintro⟨_,a,b,ha,hb,hd⟩
 cases ha;cases hb
 have sp:∀ {k m:Int},hasS [(m,m)] k->k=m:=fun⟨s,hs,_,h1,h2⟩=>by
  rw[List.mem_singleton.1 hs] at h1 h2
  dsimp only at h1 h2
  omega
 have nn:∀ {k:Int},¬hasS [] k:=fun⟨s,hs,_⟩=>by cases hs
 rcases hd with hd|⟨_,⟨k,h1,h2⟩|⟨k,h1,h2⟩|⟨k,h1,h2⟩⟩
 ·exact absurd hd (by decide:(1:Int)≠2)
 ·exact nn h2
 ·have:=sp h1;have:=sp h2;omega
 ·exact nn h1
theorem plcA(k:Nat)(hk:k<4):plc [0,2,1,3] k=if k=1 then 2 else if k=2 then 1 else k:=by
 match k,hk with
 | 0,_=>rfl
 | 1,_=>rfl
 | 2,_=>rfl
 | 3,_=>rfl
theorem plcB(k:Nat)(hk:k<4):plc [0,1,2,3] k=k:=by
 match k,hk with
 | 0,_=>rfl
 | 1,_=>rfl
 | 2,_=>rfl
 | 3,_=>rfl
theorem alvJ_good(s1 s2 s3 s4:Sl):FairO catA (alvJ s1 s2 s3 s4) [0,2,1,3]:=by
 have hP:PermI 4 [0,2,1,3]:=⟨rfl,by decide,by decide⟩
 have hM:=alvJ_may s1 s2 s3 s4
 have hK:KeepO (alvJ s1 s2 s3 s4) [0,2,1,3]:=⟨hP,fun i k hE=>by
  obtain⟨hlt,a,b,ha,hb,_⟩:=id hE
  have h4:i<4:=get_lt ha
  rw[plcA i h4,plcA k (by omega)]
  by_cases h1:i=2/\k=1
  ·obtain⟨rfl,rfl⟩:=h1
   exact absurd hE (alvJ_no s1 s2 s3 s4)
  ·split<;>split<;>(try split)<;>(try split)<;>omega⟩
 refine(fair_bad hM hK).2 fun o i ⟨no,ni,ho,hi,hne,⟨a,ha,h1⟩,⟨b,hb,h2⟩,_⟩=>?_
 obtain⟨na,hna,hsa⟩:=ha.saga hi
 obtain⟨nb,hnb,hsb⟩:=hb.saga hi
 have k1:=alvJ_get s1 s2 s3 s4 ho
 have k2:=alvJ_get s1 s2 s3 s4 hi
 have k3:=alvJ_get s1 s2 s3 s4 hna
 have k4:=alvJ_get s1 s2 s3 s4 hnb
 rw[plcA a (by omega),plcA o (by omega)] at h1
 rw[plcA o (by omega),plcA b (by omega)] at h2
 rcases k1 with ⟨rfl,e1⟩|⟨rfl,e1⟩|⟨rfl,e1⟩|⟨rfl,e1⟩<;>rcases k3 with ⟨rfl,e3⟩|⟨rfl,e3⟩|⟨rfl,e3⟩|⟨rfl,e3⟩<;>rcases k4 with ⟨rfl,e4⟩|⟨rfl,e4⟩|⟨rfl,e4⟩|⟨rfl,e4⟩<;>simp at h1 h2<;>omega
theorem alvJ_bad(s1 s2 s3 s4:Sl):¬FairO catA (alvJ s1 s2 s3 s4) [0,1,2,3]:=by
 intro h
 have m5:hasS [(5,5)] 5:=⟨_,List.mem_singleton.2 rfl,by unfold mayS;omega,by omega,by omega⟩
 have h10:EdP (alvJ s1 s2 s3 s4) 1 0:=⟨by omega,_,_,rfl,rfl,.inr ⟨by simp,.inr (.inl ⟨5,m5,m5⟩)⟩⟩
 have u0:∀c d k,unitN catA c d k=0:=fun c d k=>by
  induction k with
  | zero=>rfl
  | succ k ih=>rw[unitN,ih,brkBA];rfl
 have hin:InP catA (alvJ s1 s2 s3 s4) 0 2 0:=.inr ⟨_,_,rfl,rfl,rfl,rfl,rfl,by unfold uN;rw[u0,u0]⟩
 refine(fair_bad (alvJ_may s1 s2 s3 s4) h.1).1 h 1 0 ⟨_,_,rfl,rfl,by simp,⟨0,.inl rfl,?_⟩,⟨2,hin,?_⟩,0,.inl rfl,.inl (.one h10)⟩
 ·rw[plcB 0 (by omega),plcB 1 (by omega)];omega
 ·rw[plcB 1 (by omega),plcB 2 (by omega)];omega
theorem c101(k:Int)(w:World):Cw 101 #[iv k] w fun v w'=>∃s:Sl,v=slV s/\Rd w' s 2 ([((k,k):Spn)].flatMap sv)/\Ext w w':=
 F101_ok k w _ ⟨by decide,fun b1 w2 a2=>⟨_,rfl,(OwS.new (cs:=[((k,k):Spn)].flatMap sv) (n:=1) (sz:=2) a2 rfl).rd,a2.ch _⟩⟩
def Alv17T(w:World)(b:Nat)(R:RV):Prop:=
  Cx 101 #[Value.int IntKind.i64 5] w fun(v17:Value) (w18:World)=>∃s19:Sl,v17=Value.slice s19.1 s19.2 s19.3/\
  Cx 101 #[Value.int IntKind.i64 5] w18 fun(v20:Value) (w21:World)=>∃s22:Sl,v20=Value.slice s22.1 s22.2 s22.3/\
  Cx 101 #[Value.int IntKind.i64 6] w21 fun(v23:Value) (w24:World)=>∃s25:Sl,v23=Value.slice s25.1 s25.2 s25.3/\
  Cx 101 #[Value.int IntKind.i64 7] w24 fun(v26:Value) (w27:World)=>∃s28:Sl,v26=Value.slice s28.1 s28.2 s28.3/\4*6<=16777216/\
  AllocP w27 (Obj.cells #[Value.int IntKind.i64 1,Value.int IntKind.i64 0,Value.int IntKind.i64 0,Value.bool false,Value.slice none 0 0,Value.slice s19.1 s19.2 s19.3,Value.int IntKind.i64 2,Value.int IntKind.i64 0,Value.int IntKind.i64 0,Value.bool false,Value.slice none 0 0,Value.slice s22.1 s22.2 s22.3,Value.int IntKind.i64 1,Value.int IntKind.i64 0,Value.int IntKind.i64 1,Value.bool false,Value.slice none 0 0,Value.slice s25.1 s25.2 s25.3,Value.int IntKind.i64 2,Value.int IntKind.i64 0,Value.int IntKind.i64 1,Value.bool false,Value.slice none 0 0,Value.slice s28.1 s28.2 s28.3] 53) fun(b29:Nat) (w30:World)=>
  ∃(x31:Sl×List Value),CellsN w30 b 0 17 (Value.slice x31.fst.1 x31.fst.2 x31.fst.3::x31.2)/\4*1<=16777216/\
  AllocP w30 (Obj.cells #[Value.int IntKind.i64 0,Value.int IntKind.i64 2,Value.int IntKind.i64 1,Value.int IntKind.i64 3] 3) fun(b34:Nat) (w35:World)=>
  Cx 44 #[Value.agg { toList:=Value.slice x31.fst.1 x31.fst.2 x31.fst.3::x31.2 },Value.slice (some ⟨b29,0,none⟩) 4 4,Value.slice (some ⟨b34,0,none⟩) 4 4] w35 fun(v36:Value) (w37:World)=>
  ∃t38:Bool,v36=Value.bool t38/\IfB t38 (F41k1 w37 b b29 R) (R (Value.bool false) w37)
theorem alv17{w:World}{b:Nat}{T:TypeId}{v:CatV}(hb:w.heap[b]? =some (.cells (cxC v).toArray T (0,0)))(hC:CatM w v catA){R:RV}(hR:∀w',Ext w w'->R (.bool true) w'):Alv17T w b R:=by
 refine(c101 5 w).use ?_
 rintro _ w18 ⟨s1,rfl,r1,e18⟩
 refine⟨s1,rfl,(c101 5 w18).use ?_⟩
 rintro _ w21 ⟨s2,rfl,r2,e21⟩
 refine⟨s2,rfl,(c101 6 w21).use ?_⟩
 rintro _ w24 ⟨s3,rfl,r3,e24⟩
 refine⟨s3,rfl,(c101 7 w24).use ?_⟩
 rintro _ w27 ⟨s4,rfl,r4,e27⟩
 refine⟨s4,rfl,by decide,fun b29 w30 a29=>?_⟩
 have e30:Ext w27 w30:=a29.ch _
 have E30:Ext w w30:=(((e18.trans e21).trans e24).trans e27).trans e30
 have rn:Rd w30 nilS' 2 (([]:List Spn).flatMap sv):=(OwS.nil w30 2).rd
 have hH:Hst w30 ⟨some ⟨b29,0,none⟩,4,4⟩ (alvJ s1 s2 s3 s4):=by
  refine⟨(OwS.new (n:=4) (sz:=6) a29 rfl).rd,fun n hn=>?_,(by decide:4<=1000000),Nat.le_refl _⟩
  unfold alvJ at hn
  simp only[List.mem_cons,List.not_mem_nil,or_false] at hn
  rcases hn with rfl|rfl|rfl|rfl
  ·exact⟨rn,r1.ext (((e21.trans e24).trans e27).trans e30),by simp,by simp⟩
  ·exact⟨rn,r2.ext ((e24.trans e27).trans e30),by simp,by simp⟩
  ·exact⟨rn,r3.ext (e27.trans e30),by simp,by simp⟩
  ·exact⟨rn,r4.ext e30,by simp,by simp⟩
 have hM:=alvJ_may s1 s2 s3 s4
 refine⟨v,cxN hC hb E30,by decide,fun b34 w35 a34=>?_⟩
 have e35:Ext w30 w35:=a34.ch _
 have E35:=E30.trans e35
 have ro:Rd w35 ⟨some ⟨b34,0,none⟩,4,4⟩ 1 (([0,2,1,3]:List Int).map iv):=(OwS.new (cs:=([0,2,1,3]:List Int).map iv) (n:=4) (sz:=1) a34 rfl).rd
 refine(c44 (hC.ext E35) (hH.ext e35) (by decide:4<=1000) ro (by decide)).use ?_
 rintro _ w37 ⟨r,rfl,hr,e37⟩
 have hrt:r=true:=hr.2 ⟨hM,alvJ_good s1 s2 s3 s4⟩
 have x37:=e35.trans e37
 have E37:=E30.trans x37
 refine⟨r,rfl,IfB.yes hrt ?_⟩
 unfold F41k1
 refine⟨v,cxN hC hb E37,by decide,fun b42 w43 a42=>?_⟩
 have e43:Ext w37 w43:=a42.ch _
 have E43:=E37.trans e43
 have rp:Rd w43 ⟨some ⟨b42,0,none⟩,4,4⟩ 1 (([0,1,2,3]:List Int).map iv):=(OwS.new (cs:=([0,1,2,3]:List Int).map iv) (n:=4) (sz:=1) a42 rfl).rd
 refine(c44 (hC.ext E43) (hH.ext (x37.trans e43)) (by decide:4<=1000) rp (by decide)).use ?_
 rintro _ w45 ⟨r',rfl,hr',e45⟩
 have hrf:r'=false:=by
  cases r' with
  | false=>rfl
  | true=>exact absurd (hr'.1 rfl).2 (alvJ_bad s1 s2 s3 s4)
 refine⟨r',rfl,?_⟩
 rw[hrf]
 exact hR w45 (E43.trans e45)
theorem c41(w:World):Cw 41 #[] w fun v w'=>v=.bool true/\Ext w w':=by
 refine F41_ok w _ ⟨by decide,fun b1 w2 a1=>fun b3 w4 a3=>⟨rfl,store_all (vs:=[slV ⟨some ⟨b1,0,none⟩,1,1⟩,slV ⟨none,0,0⟩]) a3.new rfl (by intro v hv;simp at hv;rcases hv with rfl|rfl<;>rfl) fun w5 u5=>?_⟩⟩
 have e2:Ext w w2:=a1.ch _
 have e5:Ext w2 w5:=Ext.fresh a3 u5
 have ed:=extDrew w5
 have h1:=Ext.at (e5.trans ed) a1.new
 have E0:Ext w w5.drew:=(e2.trans e5).trans ed
 have hbx:∀ {W:World},Ext w5 W->CellsAt W b3 0 [slV ⟨some ⟨b1,0,none⟩,1,1⟩,slV ⟨none,0,0⟩]:=fun e=>boxAll (cs:=[slV ⟨some ⟨b1,0,none⟩,1,1⟩,slV ⟨none,0,0⟩]) u5.new e
 refine⟨(⟨some ⟨b1,0,none⟩,1,1⟩,⟨none,0,0⟩),hbx ed,(⟨some ⟨b1,0,none⟩,1,1⟩,⟨none,0,0⟩),hbx ed,?_⟩
 have z0:=E0.size
 have fin:∀ {bX bK:Nat}{TX:TypeId}(w':World),Ext w w'->w'.heap[bX]? =some (.cells (cxC (⟨some ⟨bK,0,none⟩,1,1⟩,List.replicate 16 (.int .i64 0))).toArray TX (0,0))->CatM w' (⟨some ⟨bK,0,none⟩,1,1⟩,List.replicate 16 (.int .i64 0)) catA->Alv17T w' bX (fun v w'=>v=.bool true/\Ext w w'):=fun w' e hx hM=>alv17 hx hM fun w'' e'=>⟨rfl,e.trans e'⟩
 refine⟨⟨by decide,fun bS wS aS=>⟨⟨by decide,fun bC wC aC=>⟨⟨by decide,fun bK wK aK bX wX aX=>⟨rfl,alvFin (((((E0).trans (aS.ch _)).trans (aC.ch _)).trans (aK.ch _)).trans (aX.ch _)) (by have:=aS.size;have:=aS.here;have:=aC.size;have:=aC.here;have:=aK.size;have:=aK.here;have:=aX.size;have:=aX.here;omega) (aX.at (aK.at (aC.at (aS.at (h1))))) (aX.at (aK.at (aC.at (aS.new)))) (aX.at (aK.at (aC.new))) (aX.at (aK.new)) (aX.new) rfl fin⟩⟩,
  fun bX wX aX=>⟨by decide,fun bK wK aK=>⟨rfl,alvFin (((((E0).trans (aS.ch _)).trans (aC.ch _)).trans (aX.ch _)).trans (aK.ch _)) (by have:=aS.size;have:=aS.here;have:=aC.size;have:=aC.here;have:=aX.size;have:=aX.here;have:=aK.size;have:=aK.here;omega) (aK.at (aX.at (aC.at (aS.at (h1))))) (aK.at (aX.at (aC.at (aS.new)))) (aK.at (aX.at (aC.new))) (aK.new) (aK.at (aX.new)) rfl fin⟩⟩⟩⟩,
  fun bX wX aX=>⟨by decide,fun bC wC aC=>⟨by decide,fun bK wK aK=>⟨rfl,alvFin (((((E0).trans (aS.ch _)).trans (aX.ch _)).trans (aC.ch _)).trans (aK.ch _)) (by have:=aS.size;have:=aS.here;have:=aX.size;have:=aX.here;have:=aC.size;have:=aC.here;have:=aK.size;have:=aK.here;omega) (aK.at (aC.at (aX.at (aS.at (h1))))) (aK.at (aC.at (aX.at (aS.new)))) (aK.at (aC.new)) (aK.new) (aK.at (aC.at (aX.new))) rfl fin⟩⟩⟩⟩⟩,
  ⟨by decide,fun bC wC aC=>⟨hbx (ed.trans (aC.ch _)),hbx (ed.trans (aC.ch _)),⟨by decide,fun bS wS aS=>⟨⟨by decide,fun bK wK aK bX wX aX=>⟨rfl,alvFin (((((E0).trans (aC.ch _)).trans (aS.ch _)).trans (aK.ch _)).trans (aX.ch _)) (by have:=aC.size;have:=aC.here;have:=aS.size;have:=aS.here;have:=aK.size;have:=aK.here;have:=aX.size;have:=aX.here;omega) (aX.at (aK.at (aS.at (aC.at (h1))))) (aX.at (aK.at (aS.new))) (aX.at (aK.at (aS.at (aC.new)))) (aX.at (aK.new)) (aX.new) rfl fin⟩⟩,
  fun bX wX aX=>⟨by decide,fun bK wK aK=>⟨rfl,alvFin (((((E0).trans (aC.ch _)).trans (aS.ch _)).trans (aX.ch _)).trans (aK.ch _)) (by have:=aC.size;have:=aC.here;have:=aS.size;have:=aS.here;have:=aX.size;have:=aX.here;have:=aK.size;have:=aK.here;omega) (aK.at (aX.at (aS.at (aC.at (h1))))) (aK.at (aX.at (aS.new))) (aK.at (aX.at (aS.at (aC.new)))) (aK.new) (aK.at (aX.new)) rfl fin⟩⟩⟩⟩,
  fun bX wX aX=>⟨hbx ((ed.trans (aC.ch _)).trans (aX.ch _)),hbx ((ed.trans (aC.ch _)).trans (aX.ch _)),by decide,fun bS wS aS=>⟨by decide,fun bK wK aK=>⟨rfl,alvFin (((((E0).trans (aC.ch _)).trans (aX.ch _)).trans (aS.ch _)).trans (aK.ch _)) (by have:=aC.size;have:=aC.here;have:=aX.size;have:=aX.here;have:=aS.size;have:=aS.here;have:=aK.size;have:=aK.here;omega) (aK.at (aS.at (aX.at (aC.at (h1))))) (aK.at (aS.new)) (aK.at (aS.at (aX.at (aC.new)))) (aK.new) (aK.at (aS.at (aX.new))) rfl fin⟩⟩⟩⟩⟩,
  fun bX wX aX=>⟨hbx (ed.trans (aX.ch _)),hbx (ed.trans (aX.ch _)),⟨by decide,fun bS wS aS=>⟨by decide,fun bC wC aC=>⟨by decide,fun bK wK aK=>⟨rfl,alvFin (((((E0).trans (aX.ch _)).trans (aS.ch _)).trans (aC.ch _)).trans (aK.ch _)) (by have:=aX.size;have:=aX.here;have:=aS.size;have:=aS.here;have:=aC.size;have:=aC.here;have:=aK.size;have:=aK.here;omega) (aK.at (aC.at (aS.at (aX.at (h1))))) (aK.at (aC.at (aS.new))) (aK.at (aC.new)) (aK.new) (aK.at (aC.at (aS.at (aX.new)))) rfl fin⟩⟩⟩⟩,
  by decide,fun bC wC aC=>⟨hbx ((ed.trans (aX.ch _)).trans (aC.ch _)),hbx ((ed.trans (aX.ch _)).trans (aC.ch _)),by decide,fun bS wS aS=>⟨by decide,fun bK wK aK=>⟨rfl,alvFin (((((E0).trans (aX.ch _)).trans (aC.ch _)).trans (aS.ch _)).trans (aK.ch _)) (by have:=aX.size;have:=aX.here;have:=aC.size;have:=aC.here;have:=aS.size;have:=aS.here;have:=aK.size;have:=aK.here;omega) (aK.at (aS.at (aC.at (aX.at (h1))))) (aK.at (aS.new)) (aK.at (aS.at (aC.new))) (aK.new) (aK.at (aS.at (aC.at (aX.new)))) rfl fin⟩⟩⟩⟩⟩
def BadQ(x:CatD)(hs:List Nd)(order:List Int)(o a b:Nat):Prop:=∃no na,hs[o]? =some no/\hs[a]? =some na/\na.v.1≠no.v.1/\InP x hs a b no.v.2.1/\plc order a<=plc order o/\plc order o<=plc order b/\∃u,InP x hs a u no.v.2.1/\(Dp hs o u\/Dp hs u o)
theorem fair_badQ{x:CatD}{hs:List Nd}{order:List Int}(hK:KeepO hs order):FairO x hs order↔∀o a b,¬BadQ x hs order o a b:=
 ⟨fun⟨_,hF⟩ o a b ⟨no,na,ho,ha,hne,hab,h1,h2,u,hu,hd⟩=>hF.fair o a b u no na ho ha hne hab h1 h2 hu hd,
  fun h=>⟨hK,fun i j hi hj e=>hK.1.inj hi hj e,hK.2,fun o a b u no na ho ha hne hab h1 h2 hau hd=>h o a b ⟨no,na,ho,ha,hne,hab,h1,h2,u,hau,hd⟩⟩⟩
theorem c45{w:World}{v:CatV}{x:CatD}{t u:Sl}{hs:List Nd}{order:List Int}(h:CatM w v x)(hH:Hst w t hs)(hM:HMay x hs)(hO:Rd w u 1 (order.map iv))(hol:order.length<=1000):
  Cw 45 #[cxV v,slV t,slV u] w fun r w'=>∃b,r=.bool b/\(b=true↔FairO x hs order)/\Ext w w':=by
 have htn:=hH.n
 have hl100:=hM.len
 refine F45_ok v t u w _ fun b1 w2 a2=>?_
 have e2:Ext w w2:=a2.ch _
 refine(c43 (hH.ext e2) (by omega) (hO.ext e2) hol).use ?_
 rintro _ w4 ⟨q,rfl,hq,e4⟩
 have E4:=e2.trans e4
 have no:∀ {W:World},¬FairO x hs order->Ext w W->∃b,Value.bool false=.bool b/\(b=true↔FairO x hs order)/\Ext w W:=fun h e=>⟨false,rfl,⟨fun h=>(by cases h),fun h'=>absurd h' h⟩,e⟩
 refine⟨q,rfl,IfB.intro (fun h1=>no (fun hh=>by rw[hq.2 hh.1] at h1;cases h1) E4) fun h1=>?_⟩
 have hK:=hq.1 (by simpa using h1)
 rw[show (t.2:Int)=((hs.length:Nat):Int) by show (t.n:Int)=_;rw[htn]]
 refine(c104 (hO.ext E4) hol (by omega)).use ?_
 rintro _ w7 ⟨s,ok,rfl,hok,hpl,e7⟩
 obtain⟨b,rfl,hf⟩:=hpl (hok.2 hK.1)
 have E7:=E4.trans e7
 refine⟨(_,ok),rfl,(c93 (hH.ext E7) (by omega)).use ?_⟩
 rintro _ w10 ⟨td,rows,rfl,hsq,hgm,hMx,e10⟩
 have E10:=E7.trans e10
 have x10:=(e4.trans e7).trans e10
 have hf10:=hf.ext e10
 have hdn:=hMx.n
 have hsq1:=hsq.1
 have pl:∀ {U:World}{i:Nat},Ext w10 U->i<hs.length->U.cell? ⟨b,0+(i:Int).toNat,none⟩=some (iv (plc order i:Int)):=fun{U i} e hi=>by rw[Nat.zero_add,Int.toNat_natCast];exact(hf10.ext e).get hi rfl
 have b2:∀ {i:Nat},i<hs.length->(0:Int)<=(i:Int)/\(i:Int)<((hs.length:Nat):Int):=fun hi=>⟨by omega,by omega⟩
 have bt:∀ {i:Nat},i<hs.length->(0:Int)<=(i:Int)/\(i:Int)<(t.n:Int):=fun hi=>⟨by omega,by omega⟩
 have hw:∀ {i:Nat},i<hs.length->IntKind.i64.wrap ((i:Int)+1)=((i+1:Nat):Int):=fun hi=>by rw[wrap_of (by omega) (by omega)];rfl
 refine⟨td,rfl,fun m z W=>∃o:Nat,o<=hs.length/\m+o=hs.length/\z=(o:Int)/\(∀o' a c,o'<o->¬BadQ x hs order o' a c)/\Ext w10 W,⟨hs.length,0,Nat.zero_le _,rfl,rfl,fun o' a c ho=>absurd ho (Nat.not_lt_zero _),Ch.refl _ _⟩,?_⟩
 rintro m1 _ W g ⟨o,ho,hmo,rfl,hall,eW⟩
 unfold F45j1
 refine IfB.dec (fun hlt=>?_) fun hge=>?_
 ·have ho':o<hs.length:=by omega
  have go:hs[o]? =some hs[o]:=List.getElem?_eq_getElem ho'
  generalize hs[o]=nn at go
  refine⟨fun m z V=>∃a:Nat,a<=hs.length/\m+a=hs.length/\z=(a:Int)/\(∀a' c,a'<a->¬BadQ x hs order o a' c)/\Ext w10 V,⟨hs.length,0,Nat.zero_le _,rfl,rfl,fun a' c ha=>absurd ha (Nat.not_lt_zero _),eW⟩,?_⟩
  rintro m2 _ V g2 ⟨a,ha,hma,rfl,hina,eV⟩
  refine IfB.dec (fun hla=>?_) fun hga=>?_
  ·have ha':a<hs.length:=by omega
   have ga:hs[a]? =some hs[a]:=List.getElem?_eq_getElem ha'
   generalize hs[a]=na at ga
   refine⟨fun m z U=>∃c:Nat,c<=hs.length/\m+c=hs.length/\z=(c:Int)/\(∀c',c'<c->¬BadQ x hs order o a c')/\Ext w10 U,⟨hs.length,0,Nat.zero_le _,rfl,rfl,fun c' hc=>absurd hc (Nat.not_lt_zero _),eV⟩,?_⟩
   rintro m3 _ U g3 ⟨c,hc,hmc,rfl,hinc,eU⟩
   unfold F45j3
   refine IfB.dec (fun hlc=>?_) fun hgc=>?_
   ·have hc':c<hs.length:=by omega
    have next:∀ {U':World},Ext w10 U'->¬BadQ x hs order o a c->([]:List Nat)=[]/\∃q,q<m3/\∃c':Nat,c'<=hs.length/\q+c'=hs.length/\IntKind.i64.wrap ((c:Int)+1)=(c':Int)/\(∀d,d<c'->¬BadQ x hs order o a d)/\Ext w10 U':=fun e hh=>⟨rfl,m3-1,by omega,c+1,hc',by omega,hw hc',fun d hd=>by
     rcases Nat.lt_or_ge d c with h'|h'
     ·exact hinc d h'
     ·rw[show d=c by omega];exact hh,e⟩
    have ed:=extDrew U
    have xd:=eU.trans ed
    have Ed:=E10.trans xd
    obtain⟨pa,oa,hpa,hca⟩:=(hH.ext Ed).at ga
    obtain⟨po,oo,hpo,hco⟩:=(hH.ext Ed).at go
    unfold F45k1
    refine⟨pa,oa,hpa,bt ha',na.v.1,by rw[Int.toNat_natCast];exact hca 0 _ rfl,po,oo,hpo,bt ho',nn.v.1,by rw[Int.toNat_natCast];exact hco 0 _ rfl,IfB.intro (fun hs1=>next xd fun⟨n1,n2,k1,k2,k3,_⟩=>?_) fun hs1=>?_⟩
    ·rw[go] at k1;rw[ga] at k2;cases k1;cases k2
     exact k3 (by simpa using hs1)
    have hs1:na.v.1≠nn.v.1:=by simpa using hs1
    refine⟨v,cxN h a2.new (x10.trans xd),po,oo,hpo,bt ho',nn.v.2.1,by rw[Int.toNat_natCast];exact hco 1 _ rfl,(c94 (h.ext Ed) (hH.ext Ed) hM ha' hc' nn.v.2.1).use ?_⟩
    rintro _ w47 ⟨r,rfl,hr,e47⟩
    have x47:=xd.trans e47
    refine⟨r,rfl,IfB.intro (fun h3=>next x47 fun⟨n1,n2,k1,k2,k3,k4,_⟩=>?_) fun h3=>?_⟩
    ·rw[go] at k1;cases k1
     rw[hr.2 k4] at h3;cases h3
    have hac:=hr.1 (by simpa using h3)
    refine⟨b,0,rfl,b2 ha',_,pl x47 ha',b,0,rfl,b2 ho',_,pl x47 ho',IfB.dec (fun h4=>next x47 fun⟨_,_,_,_,_,_,k5,_⟩=>by omega) fun h4=>⟨b,0,rfl,b2 hc',_,pl x47 hc',b,0,rfl,b2 ho',_,pl x47 ho',IfB.dec (fun h5=>next x47 fun⟨_,_,_,_,_,_,_,k6,_⟩=>by omega) fun h5=>?_⟩⟩
    refine⟨fun m z Y=>∃e:Nat,e<=hs.length/\m+e=hs.length/\z=(e:Int)/\(∀e',e'<e->InP x hs a e' nn.v.2.1->¬(Dp hs o e'\/Dp hs e' o))/\Ext w10 Y,⟨hs.length,0,Nat.zero_le _,rfl,rfl,fun e' he=>absurd he (Nat.not_lt_zero _),x47⟩,?_⟩
    rintro m4 _ Y g4 ⟨e,he,hme,rfl,hine,eY⟩
    unfold F45j4
    refine IfB.dec (fun hle=>?_) fun hge4=>?_
    ·have he':e<hs.length:=by omega
     have next4:∀ {U':World},Ext w10 U'->(InP x hs a e nn.v.2.1->¬(Dp hs o e\/Dp hs e o))->([]:List Nat)=[]/\∃q,q<m4/\∃e2:Nat,e2<=hs.length/\q+e2=hs.length/\IntKind.i64.wrap ((e:Int)+1)=(e2:Int)/\(∀d,d<e2->InP x hs a d nn.v.2.1->¬(Dp hs o d\/Dp hs d o))/\Ext w10 U':=fun ex hh=>⟨rfl,m4-1,by omega,e+1,he',by omega,hw he',fun d hd=>by
      rcases Nat.lt_or_ge d e with h'|h'
      ·exact hine d h'
      ·rw[show d=e by omega];exact hh,ex⟩
     have edY:=extDrew Y
     have xY:=eY.trans edY
     have EY:=E10.trans xY
     obtain⟨pq,oq,hpq,hcq⟩:=(hH.ext EY).at go
     refine⟨v,cxN h a2.new (x10.trans xY),pq,oq,hpq,bt ho',nn.v.2.1,by rw[Int.toNat_natCast];exact hcq 1 _ rfl,(c94 (h.ext EY) (hH.ext EY) hM ha' he' nn.v.2.1).use ?_⟩
     rintro _ w78 ⟨r2,rfl,hr2,e78⟩
     have x78:=xY.trans e78
     refine⟨r2,rfl,IfB.intro (fun h6=>?_) fun h6=>next4 x78 fun hi=>?_⟩
     ·have hae:=hr2.1 h6
      have hMd:=hMx.ext x78
      obtain⟨ro,hro,hrol,hrom⟩:=hsq.at ho'
      obtain⟨re,hre,hrel,hrem⟩:=hsq.at he'
      obtain⟨c1,hp1,hc1⟩:=hMd.slot hro
      obtain⟨c2,hp2,hc2⟩:=hMd.cell hrom (gM_get hro (k:=e) (by omega))
      obtain⟨c3,hp3,hc3⟩:=hMd.slot hre
      obtain⟨c4,hp4,hc4⟩:=hMd.cell hrem (gM_get hre (k:=o) (by omega))
      have hn1:=hMd.rn hrom
      have hn2:=hMd.rn hrem
      have bad:Dp hs o e\/Dp hs e o->∃b,Value.bool false=.bool b/\(b=true↔FairO x hs order)/\Ext w w78:=fun hd=>no (fun hh=>(fair_badQ hK).1 hh o a c ⟨nn,na,go,ga,hs1,hac,by omega,by omega,e,hae,hd⟩) (E10.trans x78)
      refine⟨c1,0,hp1,⟨by omega,by omega⟩,ro.1,by rw[Nat.zero_add,Int.toNat_natCast];exact hc1,c2,0,hp2,⟨by omega,by omega⟩,gM rows o e,by rw[Nat.zero_add,Int.toNat_natCast];exact hc2,IfB.intro (fun h7=>bad (.inl ((hgm o e).1 h7))) fun h7=>⟨c3,0,hp3,⟨by omega,by omega⟩,re.1,by rw[Nat.zero_add,Int.toNat_natCast];exact hc3,c4,0,hp4,⟨by omega,by omega⟩,gM rows e o,by rw[Nat.zero_add,Int.toNat_natCast];exact hc4,IfB.intro (fun h8=>bad (.inr ((hgm e o).1 h8))) fun h8=>next4 x78 fun _ hd=>?_⟩⟩
      rcases hd with hd|hd
      ·rw[(hgm o e).2 hd] at h7;cases h7
      ·rw[(hgm e o).2 hd] at h8;cases h8
     ·rw[hr2.2 hi] at h6;cases h6
    ·have hee:e=hs.length:=by omega
     subst hee
     refine next eY fun⟨n1,n2,k1,k2,k3,k4,k5,k6,u',k7,k8⟩=>?_
     rw[go] at k1;cases k1
     exact hine u' (k7.lt ha') k7 k8
   ·have hcc:c=hs.length:=by omega
    subst hcc
    refine⟨rfl,m2-1,by omega,a+1,ha',by omega,hw ha',fun a' c ha2=>?_,eU⟩
    rcases Nat.lt_or_ge a' a with h'|h'
    ·exact hina a' c h'
    ·have:a'=a:=by omega
     subst this
     intro hB
     obtain⟨n1,n2,k1,k2,k3,k4,_⟩:=id hB
     exact hinc c (k4.lt ha') hB
  ·have haa:a=hs.length:=by omega
   subst haa
   refine⟨rfl,m1-1,by omega,o+1,ho',by omega,hw ho',fun o' a c ho2=>?_,eV⟩
   rcases Nat.lt_or_ge o' o with h'|h'
   ·exact hall o' a c h'
   ·have:o'=o:=by omega
    subst this
    intro hB
    obtain⟨n1,n2,k1,k2,_⟩:=id hB
    exact hina a c (get_lt k2) hB
 ·have hoo:o=hs.length:=by omega
  subst hoo
  refine⟨true,rfl,⟨fun _=>(fair_badQ hK).2 fun o a c hB=>?_,fun _=>rfl⟩,E10.trans eW⟩
  obtain⟨n1,n2,k1,_⟩:=id hB
  exact hall o a c (get_lt k1) hB
theorem told_perm{arcs:List ArcD}{n:Nat}{os:List Nat}(hT:ToldP arcs n os)(hl:os.length=n):PermI n (os.map fun k:Nat=>(k:Int))/\∀k,plc (os.map fun k:Nat=>(k:Int)) k=pos os k:=by
 have hnd:=hT.run.nodup
 have hid:∀l:List Nat,(l.map fun k:Nat=>(k:Int)).map Int.toNat=l:=fun l=>by
  rw[List.map_map]
  exact(List.map_congr_left fun k _=>Int.toNat_natCast k).trans (List.map_id' l)
 refine⟨⟨by rw[List.length_map,hl],?_,fun k hk=>?_⟩,fun k=>by unfold plc;rw[hid]⟩
 ·rw[List.nodup_iff_pairwise_ne,List.pairwise_map]
  have:=hnd.1
  rw[List.nodup_iff_pairwise_ne] at this
  exact this.imp fun h e=>h (Int.ofNat.inj e)
 ·obtain⟨j,hj,rfl⟩:=List.mem_map.1 hk
  have:=hnd.2 j hj
  omega
theorem FairR.congr{x:CatD}{hs:List Nd}{r r':Nat->Nat}(h:FairR x hs r)(e:∀k,r' k=r k):FairR x hs r':=by
 have:r'=r:=funext e
 rw[this];exact h
theorem witnessFinds(w:World){x:tyCat.den}{cs:Array Value}(h0:rep (fun _=>True) w tyCat x cs.toList){l:List tyNd.den}{c1:Value}(h1:rep (fun _=>True) w (.sl tyNd) l [c1]):
  Cw 13 #[.agg cs,c1] w fun v w'=>v=.bool true/\Ext w w':=by
 obtain⟨v,e0,hC⟩:=rep_cat h0
 obtain⟨t,hs,e1,hH⟩:=rep_hist h1
 simp only[List.cons.injEq,and_true] at e1
 subst e1
 rw[arr_eq e0]
 refine F13_ok v t w _ fun b1 w2 a2=>(c41 w2).use ?_
 rintro _ w4 ⟨rfl,e4⟩
 have e2:Ext w w2:=a2.ch _
 have E4:=e2.trans e4
 refine⟨true,rfl,IfB.no rfl ⟨v,cxN hC a2.new e4,(c29 (hC.ext E4) (hH.ext E4)).use ?_⟩⟩
 rintro _ w10 ⟨g,rfl,hg,e10⟩
 have x10:=e4.trans e10
 have E10:=E4.trans e10
 refine⟨g,rfl,IfB.intro (fun _=>⟨rfl,E10⟩) fun hg1=>?_⟩
 obtain⟨hS,hl⟩:=hg hg1
 refine IfB.dec (fun _=>⟨rfl,E10⟩) fun _=>⟨v,cxN hC a2.new x10,(c48 (hC.ext E10) hS (by omega)).use ?_⟩
 rintro _ w16 ⟨s,ok,os,rfl,hok,hno,hyes,ho,e16⟩
 have x16:=x10.trans e16
 have E16:=E10.trans e16
 have hS16:=hS.ext e16
 refine⟨(s,ok),rfl,v,cxN hC a2.new x16,(c33 (hC.ext E16) hS16).use ?_⟩
 rintro _ w22 ⟨q,rfl,hq,e22⟩
 have x22:=x16.trans e22
 have E22:=E16.trans e22
 have hsame:ok=q:=by rw[Bool.eq_iff_iff,hok,hq]
 subst hsame
 refine⟨ok,rfl,IfB.no (by cases ok<;>rfl) (IfB.intro (fun h2=>?_) fun h2=>?_)⟩
 ·have h2:ok=false:=by simpa using h2
  have:=hno h2
  subst this
  have hn:=ho.len
  have hn:s.n=0:=by simpa using hn.symm
  refine⟨?_,E22⟩
  dsimp only
  rw[hn];rfl
 ·have h2:ok=true:=by simpa using h2
  obtain⟨hM,_⟩:=hok.1 h2
  obtain⟨ys,hA,hT,hfull⟩:=hyes h2
  obtain⟨hP,hpl⟩:=told_perm hT hfull
  have hF:=(told_fair hM hA hT hfull).congr hpl
  have ro:=(ho.ext e22).rd
  rw[mapIv] at ro
  refine⟨v,cxN hC a2.new x22,(c45 (hC.ext E22) (hS16.ext e22) hM ro (by rw[List.length_map,hfull];omega)).use ?_⟩
  rintro _ w28 ⟨r,rfl,hr,e28⟩
  exact⟨r,rfl,by rw[hr.2 ⟨⟨hP,hF.keep⟩,hF⟩],E22.trans e28⟩
end Go.Proofs.YtlpgdngcgbeegaaGreat.Gx
namespace Go.Proofs.YtlpgdngcgbeegaaGreat.witnessFinds
open Go.ChangeShapes Go.WideShapes Go.ChangeAt Go.RowKit
open Go.ChangeMaps (open_string shut_string)
set_option linter.unusedVariables false
theorem own:ownKnob Tryz.prog.godebug=none:=by kernel_rfl
set_option maxRecDepth 100000 in
theorem lifted(os:Os)(started:os.Started)(H:Type)(enc:TypeId×Value->H):
  ReturnsInHanded {} Tryz.checked os 13 .any (Rows.witnessFindsSpec.pre6 enc Tryz.prog Tryz.f13 Rows.witnessFindsRow.domain false) (Rows.witnessFindsSpec.post enc Tryz.prog Tryz.f13 false true false false):=by
 refine returnsInHanded_of_change (C:=Tryz.checked) own started (by kernel_rfl) Tryz.func13
  (ChangeSpec.witness6 (enc:=enc) (C:=Tryz.checked) false ⟨#[],#[.agg #[.slice none 0 0,.int .i64 0,.int .i64 0,.int .i64 0,.int .i64 0,.int .i64 0,.int .i64 0,.int .i64 0,.int .i64 0,.int .i64 0,.int .i64 0,.int .i64 0,.int .i64 0,.int .i64 0,.int .i64 0,.int .i64 0,.int .i64 0],.slice none 0 0],[]⟩ 8 (by kernel_rfl) (by kernel_rfl) (by kernel_rfl) (by kernel_rfl)) ?_
 intro W base args ds gs before hval0 hW hcnd _
 have hval:∀(j:Nat) t v,Tryz.f13.params[j]? =some t->args[j]? =some v->Value.okWide Tryz.prog W .any base t v:=hval0
 have hW':=hW
 have hlt:=hW.lt
 obtain⟨p,q,hA0,hV,rfl,hfz,hnd⟩:=hW
 have hA:DataW.TrodAll enc Tryz.prog W 0 (fun _=>true) true Tryz.f13.params.toList args.toList ds p:=hA0
 have hpar:Tryz.f13.params=#[26,39]:=rfl
 rw[hpar] at hA hval
 obtain⟨v0,vs0,d0,ds0,p0,q0,hargs,rfl,rfl,h0,r0⟩:=trodAll_cons hA
 obtain⟨v1,vs1,d1,ds1,p1,q1,rfl,rfl,rfl,h1,r1⟩:=trodAll_cons r0
 obtain⟨rfl,rfl,rfl⟩:=trodAll_nil r1
 obtain rfl:args=#[v0,v1]:=by cases args;simp_all
 obtain⟨rfl,rfl⟩:=trodVars_none hV
 clear hA0 hval0
 obtain⟨x0,e0⟩:=Gx.open_arg (d:=12) (ty:=(.pair (.sl (.pair .str (.pair (.int .i64) (.pair (.sl (.pair (.sl (.pair (.int .i64) (.pair (.int .i64) (.pair (.int .i64) (.pair (.int .i64) (.pair (.pair (.int .i64) (.int .i64)) (.pair (.pair (.int .i64) (.int .i64)) (.int .i64)))))))) (.sl (.pair (.pair (.int .i64) (.int .i64)) (.pair (.pair (.int .i64) (.int .i64)) .bool))))) (.pair (.sl (.pair (.sl (.pair (.int .i64) (.pair (.int .i64) (.pair (.int .i64) (.pair (.int .i64) (.pair (.pair (.int .i64) (.int .i64)) (.pair (.pair (.int .i64) (.int .i64)) (.int .i64)))))))) (.sl (.pair (.pair (.int .i64) (.int .i64)) (.pair (.pair (.int .i64) (.int .i64)) .bool))))) .bool))))) (.arr 4 (.arr 4 (.int .i64))))) (by kernel_rfl) h0
 have f0:v0=.agg v0.cells:=Gx.val_agg (hval 0 26 v0 rfl rfl) (.inl ⟨_,Tryz.underlying26⟩)
 obtain⟨x1,e1⟩:=Gx.open_arg (d:=12) (ty:=(.sl (.pair (.int .i64) (.pair (.int .i64) (.pair (.int .i64) (.pair .bool (.pair (.sl (.pair (.int .i64) (.int .i64))) (.sl (.pair (.int .i64) (.int .i64)))))))))) (by kernel_rfl) h1
 obtain⟨c1,g1⟩:∃c,v1.cells.toList=[c]:=List.length_eq_one_iff.1 (Gx.rep_len e1)
 have f1:v1=c1:=Gx.val_of_cells (hval 1 39 v1 rfl rfl) (fun fs n e=>by rw[Tryz.underlying39];exact⟨by simp,by simp⟩) g1
 rw[g1] at e1
 have call:Calls Tryz.prog 13 #[v0,v1] W fun e w'=>e=.returned (.bool true)/\Below W.heap.size W w':=by
  rw[f0,f1]
  refine(Gx.witnessFinds W e0 e1).calls.mono ?_
  rintro e w' ⟨v,rfl,rfl,hx⟩
  exact⟨rfl,hx.below⟩
 refine call.mono fun e W' ⟨he,hg⟩=>?_
 subst he
 have b1:∀sp:Nat->Bool,(∀x∈p1,sp x.block=true)->DataW.Trod enc Tryz.prog W' 0 sp true 39 v1 d1 p1:=fun sp hsp=>Gx.trod_keep (by kernel_rfl) (by kernel_rfl) (by decide+kernel) h1 hg (fun x hx=>hlt x (by simp[hx])) hsp
 have b0:∀sp:Nat->Bool,(∀x∈p0,sp x.block=true)->DataW.Trod enc Tryz.prog W' 0 sp true 26 v0 d0 p0:=fun sp hsp=>Gx.trod_keep (by kernel_rfl) (by kernel_rfl) (by decide+kernel) h0 hg (fun x hx=>hlt x (by simp[hx])) hsp
 exact⟨_,rfl,Gx.post_of_below (pa:=(p0++(p1++[]))) (pv:=[]) hW' hg (fun _ _ _=>(trodAll_cons_mk (shut_bool Tryz.underlying4 _) trodAll_mk0)) (fun sp hsp=>by rw[hpar];exact(trodAll_cons_mk (b0 sp fun x hx=>hsp x (by simp[hx])) (trodAll_cons_mk (b1 sp fun x hx=>hsp x (by simp[hx])) trodAll_mk0))) (fun _ _=>rfl) (by simp)
  (ok_one (by kernel_rfl) rfl (okWide_bool_mk Tryz.underlying4 _))⟩
set_option maxRecDepth 100000
theorem ft1:(laidOutB Tryz.checked.prog&&mapsRowed Tryz.checked.prog)=true:=by kernel_rfl
theorem ft2:(Rows.witnessFindsRow.inPlace == Tryz.checked.prog.inPlace 13)=true:=by kernel_rfl
theorem ft3:(Rows.witnessFindsRow.unfollowed == Tryz.checked.prog.unfollowed 13)=true:=by kernel_rfl
theorem ft4:(Rows.witnessFindsRow.named == Tryz.checked.prog.varsNamed 13)=true:=by kernel_rfl
theorem ft6:((Tryz.checked.prog.stops == [])&&(Tryz.checked.prog.stopKnobs == []))=true:=by kernel_rfl
theorem ft7:(Rows.witnessFindsRow.plainKeys == Tryz.checked.prog.plainKeys)=true:=by kernel_rfl
theorem ft8:Tryz.checked.prog.stopsHeard=true:=by kernel_rfl
theorem ft9:(Tryz.checked.prog.mayEnter&&((Rows.witnessFindsRow.lifted == Tryz.checked.prog.liftsFinal)&&(Tryz.checked.prog.make == some Rows.witnessFindsRow.make)))=true:=by kernel_rfl
theorem ft5:(Rows.witnessFindsRow.recurses == Tryz.checked.prog.recurses 13)=true:=by
 have h:Tryz.checked.prog.unfollowed 13=true:=by have:=ft3;rw[beq_iff_eq] at this;exact this.symm
 unfold Program.recurses;rw[h];rfl
theorem facts:joinedFacts Tryz.checked.prog 13 Tryz.f13 Rows.witnessFindsSpec Rows.witnessFindsRow=true:=by
 obtain⟨h1,h2⟩:=Bool.and_eq_true_iff.1 ft1
 obtain⟨h3,h4⟩:=Bool.and_eq_true_iff.1 ft6
 obtain⟨h5,h6⟩:=Bool.and_eq_true_iff.1 ft9
 obtain⟨h7,h8⟩:=Bool.and_eq_true_iff.1 h6
 unfold joinedFacts
 rw[h1,h2,ft2,ft3,ft4,ft5,h3,h4,ft7,ft8,h5,h7,h8]
 kernel_rfl
theorem over:Rows.witnessFindsRow.holds Tryz.pinned (OpenSpec.ofChange Rows.witnessFindsSpec):=
 OpenClaim.holds_of_wide 13 Tryz.f13 rfl rfl rfl rfl rfl rfl rfl ⟨rfl,rfl,rfl,rfl,rfl⟩ rfl rfl rfl rfl rfl (by kernel_rfl) Tryz.func13 facts
  (of_decide_eq_true (by kernel_rfl)) (by unfold Func.isWrapper;first|(rw[if_pos (by decide+kernel)];kernel_rfl)|(rw[if_neg (by decide+kernel)];exact⟨rfl,rfl⟩))
  (fun os started H enc _=>lifted os started H enc)
theorem proved:Rows.WitnessFindsSaid:=
 over
#print axioms proved
end Go.Proofs.YtlpgdngcgbeegaaGreat.witnessFinds
