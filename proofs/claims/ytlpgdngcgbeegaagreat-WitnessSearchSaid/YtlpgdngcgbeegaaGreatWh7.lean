/- gimmallaw17.WitnessSearch returns true for all arguments, and leaves what was there as it was. No condition beyond the statement. -/
/- Merged by pack.py: GxOS, AlvE, WitE, WitF, GxOT, WitG, WtSrch. -/
import Derived.Test.YtlpgdngcgbeegaaGreatWh1
import Derived.Test.YtlpgdngcgbeegaaGreatWh2
import Derived.Test.YtlpgdngcgbeegaaGreatWh3
import Derived.Test.YtlpgdngcgbeegaaGreatWh4
import Derived.Test.YtlpgdngcgbeegaaGreatWh5
import Derived.Test.YtlpgdngcgbeegaaGreatWh6
import Derived.Test.YtlpgdngcgbeegaaGreatRows
import Derived.WalkKit
import Derived.ProofKit
import Derived.OpenShut
import Derived.ShutString
import Derived.Below
import Derived.Carry
namespace Go.Proofs.YtlpgdngcgbeegaaGreat.Gx
open Go
def GxOSby0:ByteArray:=(ByteArray.mk (Array.mk ([(97:UInt8)] )))
set_option linter.unusedVariables false
set_option maxRecDepth 100000
theorem F101_ok(t0:Int)(w:World)(R:RV)(h:1*2<=16777216/\AllocP w (Obj.cells #[Qz t0,Qz t0] 101) fun b1 w2=>R (Value.slice (some ⟨b1,0,none⟩) 1 1) w2):Cw 101 #[Qz t0] w R:=
 ckF Tryz.func101 .nil h (by kernel_rfl) (by kernel_rfl)
def F41k1(w37:World)(b14:Nat)(b29:Nat)(R:RV):Prop:=∃(x39:Sl×List Value),CellsN w37 b14 0 17 (Qy x39.fst::x39.2)/\4*1<=16777216/\AllocP w37 (Obj.cells #[Qz 0,Qz 1,Qz 2,Qz 3] 3) fun b42 w43=>Qv' 44 #[Value.agg { toList:=Qy x39.fst::x39.2 },Value.slice (some ⟨b29,0,none⟩) 4 4,Value.slice (some ⟨b42,0,none⟩) 4 4] w43 fun t46 w45=>R (Value.bool !t46) w45
def F41(w:World)(R:RV):Prop:=1*9<=16777216/\AllocP w (Obj.cells #[Qz 5,Qz 0,Qz 0,Qz 0,Qz 0,Qz 0,Qz 0,Qz 0,Qz 0] 95) fun b1 w2=>AllocP w2 (Obj.cells #[Value.slice none 0 0,Value.slice none 0 0] 99) fun b3 w4=>#[Value.slice (some ⟨b1,0,none⟩) 1 1,Value.slice none 0 0].size=2/\StoreP w4 b3 0 [Value.slice (some ⟨b1,0,none⟩) 1 1,Value.slice none 0 0] fun w5=>∃(x6:Sl×Sl),CellsAt w5.drew b3 0 [Qy x6.fst,Qy x6.snd]/\∃(x7:Sl×Sl),CellsAt w5.drew b3 0 [Qy x7.fst,Qy x7.snd]/\(2*2<=16777216/\AllocP w5.drew (Obj.cells #[Qy x6.fst,Qy x6.snd,Qy x7.fst,Qy x7.snd] 99) fun b8 w9=>(((0:Int)<=2/\(2:Int)<=2/\(2:Int)<=281474976710656/\((48:Nat):Int)*(2:Int)<=281474976710656)/\AllocP w9 (Obj.cells { toList:=zc #[Value.slice none 0 0,Value.slice none 0 0] (Int.toNat 2) } 99) fun b10 w11=>(1*5<=16777216/\AllocP w11 (Obj.cells #[Value.string GxOSby0,Qz 0,Value.slice (some ⟨b8,0,none⟩) 2 2,Value.slice (some ⟨b10,0,none⟩) (Int.toNat 2) (Int.toNat 2),Value.bool false] 49) fun b12 w13=>AllocP w13 (Obj.cells #[Value.slice none 0 0,Qz 0,Qz 0,Qz 0,Qz 0,Qz 0,Qz 0,Qz 0,Qz 0,Qz 0,Qz 0,Qz 0,Qz 0,Qz 0,Qz 0,Qz 0,Qz 0] 26) fun b14 w15=>#[Value.slice (some ⟨b12,0,none⟩) 1 1,Qz 0,Qz 0,Qz 0,Qz 0,Qz 0,Qz 0,Qz 0,Qz 0,Qz 0,Qz 0,Qz 0,Qz 0,Qz 0,Qz 0,Qz 0,Qz 0].size=17/\StoreP w15 b14 0 [Value.slice (some ⟨b12,0,none⟩) 1 1,Qz 0,Qz 0,Qz 0,Qz 0,Qz 0,Qz 0,Qz 0,Qz 0,Qz 0,Qz 0,Qz 0,Qz 0,Qz 0,Qz 0,Qz 0,Qz 0] fun w16=>Qu' 101 #[Qz 5] w16 fun s19 w18=>Qu' 101 #[Qz 5] w18 fun s22 w21=>Qu' 101 #[Qz 6] w21 fun s25 w24=>Qu' 101 #[Qz 7] w24 fun s28 w27=>4*6<=16777216/\AllocP w27 (Obj.cells #[Qz 1,Qz 0,Qz 0,Value.bool false,Value.slice none 0 0,Qy s19,Qz 2,Qz 0,Qz 0,Value.bool false,Value.slice none 0 0,Qy s22,Qz 1,Qz 0,Qz 1,Value.bool false,Value.slice none 0 0,Qy s25,Qz 2,Qz 0,Qz 1,Value.bool false,Value.slice none 0 0,Qy s28] 53) fun b29 w30=>∃(x31:Sl×List Value),CellsN w30 b14 0 17 (Qy x31.fst::x31.2)/\4*1<=16777216/\AllocP w30 (Obj.cells #[Qz 0,Qz 2,Qz 1,Qz 3] 3) fun b34 w35=>Qv' 44 #[Value.agg { toList:=Qy x31.fst::x31.2 },Value.slice (some ⟨b29,0,none⟩) 4 4,Value.slice (some ⟨b34,0,none⟩) 4 4] w35 fun t38 w37=>IfB t38 (F41k1 w37 b14 b29 R) (R (Value.bool false) w37))/\AllocP w11 (Obj.cells #[Value.slice none 0 0,Qz 0,Qz 0,Qz 0,Qz 0,Qz 0,Qz 0,Qz 0,Qz 0,Qz 0,Qz 0,Qz 0,Qz 0,Qz 0,Qz 0,Qz 0,Qz 0] 26) fun b47 w48=>1*5<=16777216/\AllocP w48 (Obj.cells #[Value.string GxOSby0,Qz 0,Value.slice (some ⟨b8,0,none⟩) 2 2,Value.slice (some ⟨b10,0,none⟩) (Int.toNat 2) (Int.toNat 2),Value.bool false] 49) fun b49 w50=>#[Value.slice (some ⟨b49,0,none⟩) 1 1,Qz 0,Qz 0,Qz 0,Qz 0,Qz 0,Qz 0,Qz 0,Qz 0,Qz 0,Qz 0,Qz 0,Qz 0,Qz 0,Qz 0,Qz 0,Qz 0].size=17/\StoreP w50 b47 0 [Value.slice (some ⟨b49,0,none⟩) 1 1,Qz 0,Qz 0,Qz 0,Qz 0,Qz 0,Qz 0,Qz 0,Qz 0,Qz 0,Qz 0,Qz 0,Qz 0,Qz 0,Qz 0,Qz 0,Qz 0] fun w51=>Qu' 101 #[Qz 5] w51 fun s54 w53=>Qu' 101 #[Qz 5] w53 fun s57 w56=>Qu' 101 #[Qz 6] w56 fun s60 w59=>Qu' 101 #[Qz 7] w59 fun s63 w62=>4*6<=16777216/\AllocP w62 (Obj.cells #[Qz 1,Qz 0,Qz 0,Value.bool false,Value.slice none 0 0,Qy s54,Qz 2,Qz 0,Qz 0,Value.bool false,Value.slice none 0 0,Qy s57,Qz 1,Qz 0,Qz 1,Value.bool false,Value.slice none 0 0,Qy s60,Qz 2,Qz 0,Qz 1,Value.bool false,Value.slice none 0 0,Qy s63] 53) fun b64 w65=>∃(x66:Sl×List Value),CellsN w65 b47 0 17 (Qy x66.fst::x66.2)/\4*1<=16777216/\AllocP w65 (Obj.cells #[Qz 0,Qz 2,Qz 1,Qz 3] 3) fun b69 w70=>Qv' 44 #[Value.agg { toList:=Qy x66.fst::x66.2 },Value.slice (some ⟨b64,0,none⟩) 4 4,Value.slice (some ⟨b69,0,none⟩) 4 4] w70 fun t73 w72=>IfB t73 (F41k1 w72 b47 b64 R) (R (Value.bool false) w72))/\AllocP w9 (Obj.cells #[Value.slice none 0 0,Qz 0,Qz 0,Qz 0,Qz 0,Qz 0,Qz 0,Qz 0,Qz 0,Qz 0,Qz 0,Qz 0,Qz 0,Qz 0,Qz 0,Qz 0,Qz 0] 26) fun b82 w83=>((0:Int)<=2/\(2:Int)<=2/\(2:Int)<=281474976710656/\((48:Nat):Int)*(2:Int)<=281474976710656)/\AllocP w83 (Obj.cells { toList:=zc #[Value.slice none 0 0,Value.slice none 0 0] (Int.toNat 2) } 99) fun b84 w85=>1*5<=16777216/\AllocP w85 (Obj.cells #[Value.string GxOSby0,Qz 0,Value.slice (some ⟨b8,0,none⟩) 2 2,Value.slice (some ⟨b84,0,none⟩) (Int.toNat 2) (Int.toNat 2),Value.bool false] 49) fun b86 w87=>#[Value.slice (some ⟨b86,0,none⟩) 1 1,Qz 0,Qz 0,Qz 0,Qz 0,Qz 0,Qz 0,Qz 0,Qz 0,Qz 0,Qz 0,Qz 0,Qz 0,Qz 0,Qz 0,Qz 0,Qz 0].size=17/\StoreP w87 b82 0 [Value.slice (some ⟨b86,0,none⟩) 1 1,Qz 0,Qz 0,Qz 0,Qz 0,Qz 0,Qz 0,Qz 0,Qz 0,Qz 0,Qz 0,Qz 0,Qz 0,Qz 0,Qz 0,Qz 0,Qz 0] fun w88=>Qu' 101 #[Qz 5] w88 fun s91 w90=>Qu' 101 #[Qz 5] w90 fun s94 w93=>Qu' 101 #[Qz 6] w93 fun s97 w96=>Qu' 101 #[Qz 7] w96 fun s100 w99=>4*6<=16777216/\AllocP w99 (Obj.cells #[Qz 1,Qz 0,Qz 0,Value.bool false,Value.slice none 0 0,Qy s91,Qz 2,Qz 0,Qz 0,Value.bool false,Value.slice none 0 0,Qy s94,Qz 1,Qz 0,Qz 1,Value.bool false,Value.slice none 0 0,Qy s97,Qz 2,Qz 0,Qz 1,Value.bool false,Value.slice none 0 0,Qy s100] 53) fun b101 w102=>∃(x103:Sl×List Value),CellsN w102 b82 0 17 (Qy x103.fst::x103.2)/\4*1<=16777216/\AllocP w102 (Obj.cells #[Qz 0,Qz 2,Qz 1,Qz 3] 3) fun b106 w107=>Qv' 44 #[Value.agg { toList:=Qy x103.fst::x103.2 },Value.slice (some ⟨b101,0,none⟩) 4 4,Value.slice (some ⟨b106,0,none⟩) 4 4] w107 fun t110 w109=>IfB t110 (F41k1 w109 b82 b101 R) (R (Value.bool false) w109))/\(((0:Int)<=2/\(2:Int)<=2/\(2:Int)<=281474976710656/\((48:Nat):Int)*(2:Int)<=281474976710656)/\AllocP w5.drew (Obj.cells { toList:=zc #[Value.slice none 0 0,Value.slice none 0 0] (Int.toNat 2) } 99) fun b119 w120=>CellsAt w120 b3 0 [Qy x7.fst,Qy x7.snd]/\CellsAt w120 b3 0 [Qy x6.fst,Qy x6.snd]/\(2*2<=16777216/\AllocP w120 (Obj.cells #[Qy x6.fst,Qy x6.snd,Qy x7.fst,Qy x7.snd] 99) fun b121 w122=>(1*5<=16777216/\AllocP w122 (Obj.cells #[Value.string GxOSby0,Qz 0,Value.slice (some ⟨b121,0,none⟩) 2 2,Value.slice (some ⟨b119,0,none⟩) (Int.toNat 2) (Int.toNat 2),Value.bool false] 49) fun b123 w124=>AllocP w124 (Obj.cells #[Value.slice none 0 0,Qz 0,Qz 0,Qz 0,Qz 0,Qz 0,Qz 0,Qz 0,Qz 0,Qz 0,Qz 0,Qz 0,Qz 0,Qz 0,Qz 0,Qz 0,Qz 0] 26) fun b125 w126=>#[Value.slice (some ⟨b123,0,none⟩) 1 1,Qz 0,Qz 0,Qz 0,Qz 0,Qz 0,Qz 0,Qz 0,Qz 0,Qz 0,Qz 0,Qz 0,Qz 0,Qz 0,Qz 0,Qz 0,Qz 0].size=17/\StoreP w126 b125 0 [Value.slice (some ⟨b123,0,none⟩) 1 1,Qz 0,Qz 0,Qz 0,Qz 0,Qz 0,Qz 0,Qz 0,Qz 0,Qz 0,Qz 0,Qz 0,Qz 0,Qz 0,Qz 0,Qz 0,Qz 0] fun w127=>Qu' 101 #[Qz 5] w127 fun s130 w129=>Qu' 101 #[Qz 5] w129 fun s133 w132=>Qu' 101 #[Qz 6] w132 fun s136 w135=>Qu' 101 #[Qz 7] w135 fun s139 w138=>4*6<=16777216/\AllocP w138 (Obj.cells #[Qz 1,Qz 0,Qz 0,Value.bool false,Value.slice none 0 0,Qy s130,Qz 2,Qz 0,Qz 0,Value.bool false,Value.slice none 0 0,Qy s133,Qz 1,Qz 0,Qz 1,Value.bool false,Value.slice none 0 0,Qy s136,Qz 2,Qz 0,Qz 1,Value.bool false,Value.slice none 0 0,Qy s139] 53) fun b140 w141=>∃(x142:Sl×List Value),CellsN w141 b125 0 17 (Qy x142.fst::x142.2)/\4*1<=16777216/\AllocP w141 (Obj.cells #[Qz 0,Qz 2,Qz 1,Qz 3] 3) fun b145 w146=>Qv' 44 #[Value.agg { toList:=Qy x142.fst::x142.2 },Value.slice (some ⟨b140,0,none⟩) 4 4,Value.slice (some ⟨b145,0,none⟩) 4 4] w146 fun t149 w148=>IfB t149 (F41k1 w148 b125 b140 R) (R (Value.bool false) w148))/\AllocP w122 (Obj.cells #[Value.slice none 0 0,Qz 0,Qz 0,Qz 0,Qz 0,Qz 0,Qz 0,Qz 0,Qz 0,Qz 0,Qz 0,Qz 0,Qz 0,Qz 0,Qz 0,Qz 0,Qz 0] 26) fun b158 w159=>1*5<=16777216/\AllocP w159 (Obj.cells #[Value.string GxOSby0,Qz 0,Value.slice (some ⟨b121,0,none⟩) 2 2,Value.slice (some ⟨b119,0,none⟩) (Int.toNat 2) (Int.toNat 2),Value.bool false] 49) fun b160 w161=>#[Value.slice (some ⟨b160,0,none⟩) 1 1,Qz 0,Qz 0,Qz 0,Qz 0,Qz 0,Qz 0,Qz 0,Qz 0,Qz 0,Qz 0,Qz 0,Qz 0,Qz 0,Qz 0,Qz 0,Qz 0].size=17/\StoreP w161 b158 0 [Value.slice (some ⟨b160,0,none⟩) 1 1,Qz 0,Qz 0,Qz 0,Qz 0,Qz 0,Qz 0,Qz 0,Qz 0,Qz 0,Qz 0,Qz 0,Qz 0,Qz 0,Qz 0,Qz 0,Qz 0] fun w162=>Qu' 101 #[Qz 5] w162 fun s165 w164=>Qu' 101 #[Qz 5] w164 fun s168 w167=>Qu' 101 #[Qz 6] w167 fun s171 w170=>Qu' 101 #[Qz 7] w170 fun s174 w173=>4*6<=16777216/\AllocP w173 (Obj.cells #[Qz 1,Qz 0,Qz 0,Value.bool false,Value.slice none 0 0,Qy s165,Qz 2,Qz 0,Qz 0,Value.bool false,Value.slice none 0 0,Qy s168,Qz 1,Qz 0,Qz 1,Value.bool false,Value.slice none 0 0,Qy s171,Qz 2,Qz 0,Qz 1,Value.bool false,Value.slice none 0 0,Qy s174] 53) fun b175 w176=>∃(x177:Sl×List Value),CellsN w176 b158 0 17 (Qy x177.fst::x177.2)/\4*1<=16777216/\AllocP w176 (Obj.cells #[Qz 0,Qz 2,Qz 1,Qz 3] 3) fun b180 w181=>Qv' 44 #[Value.agg { toList:=Qy x177.fst::x177.2 },Value.slice (some ⟨b175,0,none⟩) 4 4,Value.slice (some ⟨b180,0,none⟩) 4 4] w181 fun t184 w183=>IfB t184 (F41k1 w183 b158 b175 R) (R (Value.bool false) w183))/\AllocP w120 (Obj.cells #[Value.slice none 0 0,Qz 0,Qz 0,Qz 0,Qz 0,Qz 0,Qz 0,Qz 0,Qz 0,Qz 0,Qz 0,Qz 0,Qz 0,Qz 0,Qz 0,Qz 0,Qz 0] 26) fun b193 w194=>CellsAt w194 b3 0 [Qy x7.fst,Qy x7.snd]/\CellsAt w194 b3 0 [Qy x6.fst,Qy x6.snd]/\2*2<=16777216/\AllocP w194 (Obj.cells #[Qy x6.fst,Qy x6.snd,Qy x7.fst,Qy x7.snd] 99) fun b195 w196=>1*5<=16777216/\AllocP w196 (Obj.cells #[Value.string GxOSby0,Qz 0,Value.slice (some ⟨b195,0,none⟩) 2 2,Value.slice (some ⟨b119,0,none⟩) (Int.toNat 2) (Int.toNat 2),Value.bool false] 49) fun b197 w198=>#[Value.slice (some ⟨b197,0,none⟩) 1 1,Qz 0,Qz 0,Qz 0,Qz 0,Qz 0,Qz 0,Qz 0,Qz 0,Qz 0,Qz 0,Qz 0,Qz 0,Qz 0,Qz 0,Qz 0,Qz 0].size=17/\StoreP w198 b193 0 [Value.slice (some ⟨b197,0,none⟩) 1 1,Qz 0,Qz 0,Qz 0,Qz 0,Qz 0,Qz 0,Qz 0,Qz 0,Qz 0,Qz 0,Qz 0,Qz 0,Qz 0,Qz 0,Qz 0,Qz 0] fun w199=>Qu' 101 #[Qz 5] w199 fun s202 w201=>Qu' 101 #[Qz 5] w201 fun s205 w204=>Qu' 101 #[Qz 6] w204 fun s208 w207=>Qu' 101 #[Qz 7] w207 fun s211 w210=>4*6<=16777216/\AllocP w210 (Obj.cells #[Qz 1,Qz 0,Qz 0,Value.bool false,Value.slice none 0 0,Qy s202,Qz 2,Qz 0,Qz 0,Value.bool false,Value.slice none 0 0,Qy s205,Qz 1,Qz 0,Qz 1,Value.bool false,Value.slice none 0 0,Qy s208,Qz 2,Qz 0,Qz 1,Value.bool false,Value.slice none 0 0,Qy s211] 53) fun b212 w213=>∃(x214:Sl×List Value),CellsN w213 b193 0 17 (Qy x214.fst::x214.2)/\4*1<=16777216/\AllocP w213 (Obj.cells #[Qz 0,Qz 2,Qz 1,Qz 3] 3) fun b217 w218=>Qv' 44 #[Value.agg { toList:=Qy x214.fst::x214.2 },Value.slice (some ⟨b212,0,none⟩) 4 4,Value.slice (some ⟨b217,0,none⟩) 4 4] w218 fun t221 w220=>IfB t221 (F41k1 w220 b193 b212 R) (R (Value.bool false) w220))/\AllocP w5.drew (Obj.cells #[Value.slice none 0 0,Qz 0,Qz 0,Qz 0,Qz 0,Qz 0,Qz 0,Qz 0,Qz 0,Qz 0,Qz 0,Qz 0,Qz 0,Qz 0,Qz 0,Qz 0,Qz 0] 26) fun b230 w231=>CellsAt w231 b3 0 [Qy x7.fst,Qy x7.snd]/\CellsAt w231 b3 0 [Qy x6.fst,Qy x6.snd]/\(2*2<=16777216/\AllocP w231 (Obj.cells #[Qy x6.fst,Qy x6.snd,Qy x7.fst,Qy x7.snd] 99) fun b232 w233=>((0:Int)<=2/\(2:Int)<=2/\(2:Int)<=281474976710656/\((48:Nat):Int)*(2:Int)<=281474976710656)/\AllocP w233 (Obj.cells { toList:=zc #[Value.slice none 0 0,Value.slice none 0 0] (Int.toNat 2) } 99) fun b234 w235=>1*5<=16777216/\AllocP w235 (Obj.cells #[Value.string GxOSby0,Qz 0,Value.slice (some ⟨b232,0,none⟩) 2 2,Value.slice (some ⟨b234,0,none⟩) (Int.toNat 2) (Int.toNat 2),Value.bool false] 49) fun b236 w237=>#[Value.slice (some ⟨b236,0,none⟩) 1 1,Qz 0,Qz 0,Qz 0,Qz 0,Qz 0,Qz 0,Qz 0,Qz 0,Qz 0,Qz 0,Qz 0,Qz 0,Qz 0,Qz 0,Qz 0,Qz 0].size=17/\StoreP w237 b230 0 [Value.slice (some ⟨b236,0,none⟩) 1 1,Qz 0,Qz 0,Qz 0,Qz 0,Qz 0,Qz 0,Qz 0,Qz 0,Qz 0,Qz 0,Qz 0,Qz 0,Qz 0,Qz 0,Qz 0,Qz 0] fun w238=>Qu' 101 #[Qz 5] w238 fun s241 w240=>Qu' 101 #[Qz 5] w240 fun s244 w243=>Qu' 101 #[Qz 6] w243 fun s247 w246=>Qu' 101 #[Qz 7] w246 fun s250 w249=>4*6<=16777216/\AllocP w249 (Obj.cells #[Qz 1,Qz 0,Qz 0,Value.bool false,Value.slice none 0 0,Qy s241,Qz 2,Qz 0,Qz 0,Value.bool false,Value.slice none 0 0,Qy s244,Qz 1,Qz 0,Qz 1,Value.bool false,Value.slice none 0 0,Qy s247,Qz 2,Qz 0,Qz 1,Value.bool false,Value.slice none 0 0,Qy s250] 53) fun b251 w252=>∃(x253:Sl×List Value),CellsN w252 b230 0 17 (Qy x253.fst::x253.2)/\4*1<=16777216/\AllocP w252 (Obj.cells #[Qz 0,Qz 2,Qz 1,Qz 3] 3) fun b256 w257=>Qv' 44 #[Value.agg { toList:=Qy x253.fst::x253.2 },Value.slice (some ⟨b251,0,none⟩) 4 4,Value.slice (some ⟨b256,0,none⟩) 4 4] w257 fun t260 w259=>IfB t260 (F41k1 w259 b230 b251 R) (R (Value.bool false) w259))/\((0:Int)<=2/\(2:Int)<=2/\(2:Int)<=281474976710656/\((48:Nat):Int)*(2:Int)<=281474976710656)/\AllocP w231 (Obj.cells { toList:=zc #[Value.slice none 0 0,Value.slice none 0 0] (Int.toNat 2) } 99) fun b269 w270=>CellsAt w270 b3 0 [Qy x7.fst,Qy x7.snd]/\CellsAt w270 b3 0 [Qy x6.fst,Qy x6.snd]/\2*2<=16777216/\AllocP w270 (Obj.cells #[Qy x6.fst,Qy x6.snd,Qy x7.fst,Qy x7.snd] 99) fun b271 w272=>1*5<=16777216/\AllocP w272 (Obj.cells #[Value.string GxOSby0,Qz 0,Value.slice (some ⟨b271,0,none⟩) 2 2,Value.slice (some ⟨b269,0,none⟩) (Int.toNat 2) (Int.toNat 2),Value.bool false] 49) fun b273 w274=>#[Value.slice (some ⟨b273,0,none⟩) 1 1,Qz 0,Qz 0,Qz 0,Qz 0,Qz 0,Qz 0,Qz 0,Qz 0,Qz 0,Qz 0,Qz 0,Qz 0,Qz 0,Qz 0,Qz 0,Qz 0].size=17/\StoreP w274 b230 0 [Value.slice (some ⟨b273,0,none⟩) 1 1,Qz 0,Qz 0,Qz 0,Qz 0,Qz 0,Qz 0,Qz 0,Qz 0,Qz 0,Qz 0,Qz 0,Qz 0,Qz 0,Qz 0,Qz 0,Qz 0] fun w275=>Qu' 101 #[Qz 5] w275 fun s278 w277=>Qu' 101 #[Qz 5] w277 fun s281 w280=>Qu' 101 #[Qz 6] w280 fun s284 w283=>Qu' 101 #[Qz 7] w283 fun s287 w286=>4*6<=16777216/\AllocP w286 (Obj.cells #[Qz 1,Qz 0,Qz 0,Value.bool false,Value.slice none 0 0,Qy s278,Qz 2,Qz 0,Qz 0,Value.bool false,Value.slice none 0 0,Qy s281,Qz 1,Qz 0,Qz 1,Value.bool false,Value.slice none 0 0,Qy s284,Qz 2,Qz 0,Qz 1,Value.bool false,Value.slice none 0 0,Qy s287] 53) fun b288 w289=>∃(x290:Sl×List Value),CellsN w289 b230 0 17 (Qy x290.fst::x290.2)/\4*1<=16777216/\AllocP w289 (Obj.cells #[Qz 0,Qz 2,Qz 1,Qz 3] 3) fun b293 w294=>Qv' 44 #[Value.agg { toList:=Qy x290.fst::x290.2 },Value.slice (some ⟨b288,0,none⟩) 4 4,Value.slice (some ⟨b293,0,none⟩) 4 4] w294 fun t297 w296=>IfB t297 (F41k1 w296 b230 b288 R) (R (Value.bool false) w296)
theorem F41_ok(w:World)(R:RV)(h:F41 w R):Cw 41 #[] w R:=
 call_of tbOk mixed en41 Tryz.func41 rfl (nd (nd (.node (.draw (sts [0,1] (.ac 2 [] (.ac 3 [] (.st 4 (.ac 5 [] (.st 6 (.ac 7 [6] (.ac 8 [] .fin .non) .non)) (.ac 7 [4] (.ac 5 [] (.st 6 (.ac 8 [] .fin .non)) .non) .non))) (.ac 7 [] (.ac 3 [] (.st 4 (.ac 5 [] (.st 6 (.ac 8 [] .fin .non)) .non)) .non) .non)) (.ac 3 [1,0] (.ac 2 [] (.st 4 (.ac 5 [] (.st 6 (.ac 7 [6] (.ac 8 [] .fin .non) .non)) (.ac 7 [4] (.ac 5 [] (.st 6 (.ac 8 [] .fin .non)) .non) .non))) (.ac 7 [1,0] (.ac 2 [] (.st 4 (.ac 5 [] (.st 6 (.ac 8 [] .fin .non)) .non)) .non) .non)) (.ac 7 [1,0] (.ac 2 [] (.ac 3 [] (.st 4 (.ac 5 [] (.st 6 (.ac 8 [] .fin .non)) .non)) .non) (.ac 3 [1,0] (.ac 2 [] (.st 4 (.ac 5 [] (.st 6 (.ac 8 [] .fin .non)) .non)) .non) .non)) .non))))) .nil))) (by kernel_rfl) (Nat.le_of_ble_eq_true (by kernel_rfl)) (Eq.mp (α:=F41 w R) (by kernel_rfl) h)
set_option linter.unusedSimpArgs false
set_option linter.unusedVariables false
abbrev nilS':Sl:=⟨none,0,0⟩
def alvJ(s1 s2 s3 s4:Sl):List Nd:=[⟨(1,0,0,false,nilS',s1),[],[(5,5)]⟩,⟨(2,0,0,false,nilS',s2),[],[(5,5)]⟩,⟨(1,0,1,false,nilS',s3),[],[(6,6)]⟩,⟨(2,0,1,false,nilS',s4),[],[(7,7)]⟩]
theorem alvJ_may(s1 s2 s3 s4:Sl):HMay catA (alvJ s1 s2 s3 s4):=by
 have h5:SpsOk [(5,5)]:=⟨by decide,fun s hs=>by rw[List.mem_singleton.1 hs];unfold mayS;omega⟩
 have h6:SpsOk [(6,6)]:=⟨by decide,fun s hs=>by rw[List.mem_singleton.1 hs];unfold mayS;omega⟩
 have h7:SpsOk [(7,7)]:=⟨by decide,fun s hs=>by rw[List.mem_singleton.1 hs];unfold mayS;omega⟩
 have h0:SpsOk []:=⟨by decide,fun s hs=>by cases hs⟩
 refine⟨catA_ok,(by decide:4<=100),fun i n hn=>?_⟩
 match i,hn with
 | 0,hn=>cases hn;exact⟨(by decide:(0:Int)<=1),(by decide:(0:Int)<=0),(by decide:(0:Int)<1),(by decide:(0:Int)<=0),h0,h5,(⟨rfl,rfl⟩:nextP none _ _)⟩
 | 1,hn=>cases hn;exact⟨(by decide:(0:Int)<=2),(by decide:(0:Int)<=0),(by decide:(0:Int)<1),(by decide:(0:Int)<=0),h0,h5,(⟨rfl,rfl⟩:nextP none _ _)⟩
 | 2,hn=>cases hn;exact⟨(by decide:(0:Int)<=1),(by decide:(0:Int)<=0),(by decide:(0:Int)<1),(by decide:(0:Int)<=1),h0,h6,(⟨rfl,rfl,(by decide:(1:Int)<2)⟩:nextP (some ⟨(1,0,0,false,nilS',s1),[],[(5,5)]⟩) ⟨(1,0,1,false,nilS',s3),[],[(6,6)]⟩ _)⟩
 | 3,hn=>cases hn;exact⟨(by decide:(0:Int)<=2),(by decide:(0:Int)<=0),(by decide:(0:Int)<1),(by decide:(0:Int)<=1),h0,h7,(⟨rfl,rfl,(by decide:(1:Int)<2)⟩:nextP (some ⟨(2,0,0,false,nilS',s2),[],[(5,5)]⟩) ⟨(2,0,1,false,nilS',s4),[],[(7,7)]⟩ _)⟩
theorem alvJ_get(s1 s2 s3 s4:Sl){i:Nat}{n:Nd}(h:(alvJ s1 s2 s3 s4)[i]? =some n):(i=0/\n.v.1=1)\/(i=1/\n.v.1=2)\/(i=2/\n.v.1=1)\/(i=3/\n.v.1=2):=by
 match i,h with
 | 0,h=>cases h;exact .inl ⟨rfl,rfl⟩
 | 1,h=>cases h;exact .inr (.inl ⟨rfl,rfl⟩)
 | 2,h=>cases h;exact .inr (.inr (.inl ⟨rfl,rfl⟩))
 | 3,h=>cases h;exact .inr (.inr (.inr ⟨rfl,rfl⟩))
theorem alvJ_no(s1 s2 s3 s4:Sl):¬EdP (alvJ s1 s2 s3 s4) 2 1:=by
 rintro⟨_,a,b,ha,hb,hd⟩
 cases ha;cases hb
 have sp:∀ {k m:Int},hasS [(m,m)] k->k=m:=fun⟨s,hs,_,h1,h2⟩=>by
  rw[List.mem_singleton.1 hs] at h1 h2
  dsimp only at h1 h2
  omega
 have nn:∀ {k:Int},¬hasS [] k:=fun⟨s,hs,_⟩=>by cases hs
 rcases hd with hd|⟨_,⟨k,h1,h2⟩|⟨k,h1,h2⟩|⟨k,h1,h2⟩⟩
 ·exact absurd hd (by decide:(1:Int)≠2)
 ·exact nn h2
 ·have:=sp h1;have:=sp h2;omega
 ·exact nn h1
theorem plcA(k:Nat)(hk:k<4):plc [0,2,1,3] k=if k=1 then 2 else if k=2 then 1 else k:=by
 match k,hk with
 | 0,_=>rfl
 | 1,_=>rfl
 | 2,_=>rfl
 | 3,_=>rfl
theorem plcB(k:Nat)(hk:k<4):plc [0,1,2,3] k=k:=by
 match k,hk with
 | 0,_=>rfl
 | 1,_=>rfl
 | 2,_=>rfl
 | 3,_=>rfl
theorem alvJ_good(s1 s2 s3 s4:Sl):FairO catA (alvJ s1 s2 s3 s4) [0,2,1,3]:=by
 have hP:PermI 4 [0,2,1,3]:=⟨rfl,by decide,by decide⟩
 have hM:=alvJ_may s1 s2 s3 s4
 have hK:KeepO (alvJ s1 s2 s3 s4) [0,2,1,3]:=⟨hP,fun i k hE=>by
  obtain⟨hlt,a,b,ha,hb,_⟩:=id hE
  have h4:i<4:=get_lt ha
  rw[plcA i h4,plcA k (by omega)]
  by_cases h1:i=2/\k=1
  ·obtain⟨rfl,rfl⟩:=h1
   exact absurd hE (alvJ_no s1 s2 s3 s4)
  ·split<;>split<;>(try split)<;>(try split)<;>omega⟩
 refine(fair_bad hM hK).2 fun o i ⟨no,ni,ho,hi,hne,⟨a,ha,h1⟩,⟨b,hb,h2⟩,_⟩=>?_
 obtain⟨na,hna,hsa⟩:=ha.saga hi
 obtain⟨nb,hnb,hsb⟩:=hb.saga hi
 have k1:=alvJ_get s1 s2 s3 s4 ho
 have k2:=alvJ_get s1 s2 s3 s4 hi
 have k3:=alvJ_get s1 s2 s3 s4 hna
 have k4:=alvJ_get s1 s2 s3 s4 hnb
 rw[plcA a (by omega),plcA o (by omega)] at h1
 rw[plcA o (by omega),plcA b (by omega)] at h2
 rcases k1 with ⟨rfl,e1⟩|⟨rfl,e1⟩|⟨rfl,e1⟩|⟨rfl,e1⟩<;>rcases k3 with ⟨rfl,e3⟩|⟨rfl,e3⟩|⟨rfl,e3⟩|⟨rfl,e3⟩<;>rcases k4 with ⟨rfl,e4⟩|⟨rfl,e4⟩|⟨rfl,e4⟩|⟨rfl,e4⟩<;>simp at h1 h2<;>omega
theorem alvJ_bad(s1 s2 s3 s4:Sl):¬FairO catA (alvJ s1 s2 s3 s4) [0,1,2,3]:=by
 intro h
 have m5:hasS [(5,5)] 5:=⟨_,List.mem_singleton.2 rfl,by unfold mayS;omega,by omega,by omega⟩
 have h10:EdP (alvJ s1 s2 s3 s4) 1 0:=⟨by omega,_,_,rfl,rfl,.inr ⟨by simp,.inr (.inl ⟨5,m5,m5⟩)⟩⟩
 have u0:∀c d k,unitN catA c d k=0:=fun c d k=>by
  induction k with
  | zero=>rfl
  | succ k ih=>rw[unitN,ih,brkBA];rfl
 have hin:InP catA (alvJ s1 s2 s3 s4) 0 2 0:=.inr ⟨_,_,rfl,rfl,rfl,rfl,rfl,by unfold uN;rw[u0,u0]⟩
 refine(fair_bad (alvJ_may s1 s2 s3 s4) h.1).1 h 1 0 ⟨_,_,rfl,rfl,by simp,⟨0,.inl rfl,?_⟩,⟨2,hin,?_⟩,0,.inl rfl,.inl (.one h10)⟩
 ·rw[plcB 0 (by omega),plcB 1 (by omega)];omega
 ·rw[plcB 1 (by omega),plcB 2 (by omega)];omega
theorem c101(k:Int)(w:World):Cw 101 #[iv k] w fun v w'=>∃s:Sl,v=slV s/\Rd w' s 2 ([((k,k):Spn)].flatMap sv)/\Ext w w':=
 F101_ok k w _ ⟨by decide,fun b1 w2 a2=>⟨_,rfl,(OwS.new (cs:=[((k,k):Spn)].flatMap sv) (n:=1) (sz:=2) a2 rfl).rd,a2.ch _⟩⟩
def Alv17T(w:World)(b:Nat)(R:RV):Prop:=
  Cx 101 #[Value.int IntKind.i64 5] w fun(v17:Value) (w18:World)=>∃s19:Sl,v17=Value.slice s19.1 s19.2 s19.3/\
  Cx 101 #[Value.int IntKind.i64 5] w18 fun(v20:Value) (w21:World)=>∃s22:Sl,v20=Value.slice s22.1 s22.2 s22.3/\
  Cx 101 #[Value.int IntKind.i64 6] w21 fun(v23:Value) (w24:World)=>∃s25:Sl,v23=Value.slice s25.1 s25.2 s25.3/\
  Cx 101 #[Value.int IntKind.i64 7] w24 fun(v26:Value) (w27:World)=>∃s28:Sl,v26=Value.slice s28.1 s28.2 s28.3/\4*6<=16777216/\
  AllocP w27 (Obj.cells #[Value.int IntKind.i64 1,Value.int IntKind.i64 0,Value.int IntKind.i64 0,Value.bool false,Value.slice none 0 0,Value.slice s19.1 s19.2 s19.3,Value.int IntKind.i64 2,Value.int IntKind.i64 0,Value.int IntKind.i64 0,Value.bool false,Value.slice none 0 0,Value.slice s22.1 s22.2 s22.3,Value.int IntKind.i64 1,Value.int IntKind.i64 0,Value.int IntKind.i64 1,Value.bool false,Value.slice none 0 0,Value.slice s25.1 s25.2 s25.3,Value.int IntKind.i64 2,Value.int IntKind.i64 0,Value.int IntKind.i64 1,Value.bool false,Value.slice none 0 0,Value.slice s28.1 s28.2 s28.3] 53) fun(b29:Nat) (w30:World)=>
  ∃(x31:Sl×List Value),CellsN w30 b 0 17 (Value.slice x31.fst.1 x31.fst.2 x31.fst.3::x31.2)/\4*1<=16777216/\
  AllocP w30 (Obj.cells #[Value.int IntKind.i64 0,Value.int IntKind.i64 2,Value.int IntKind.i64 1,Value.int IntKind.i64 3] 3) fun(b34:Nat) (w35:World)=>
  Cx 44 #[Value.agg { toList:=Value.slice x31.fst.1 x31.fst.2 x31.fst.3::x31.2 },Value.slice (some ⟨b29,0,none⟩) 4 4,Value.slice (some ⟨b34,0,none⟩) 4 4] w35 fun(v36:Value) (w37:World)=>
  ∃t38:Bool,v36=Value.bool t38/\IfB t38 (F41k1 w37 b b29 R) (R (Value.bool false) w37)
theorem alv17{w:World}{b:Nat}{T:TypeId}{v:CatV}(hb:w.heap[b]? =some (.cells (cxC v).toArray T (0,0)))(hC:CatM w v catA){R:RV}(hR:∀w',Ext w w'->R (.bool true) w'):Alv17T w b R:=by
 refine(c101 5 w).use ?_
 rintro _ w18 ⟨s1,rfl,r1,e18⟩
 refine⟨s1,rfl,(c101 5 w18).use ?_⟩
 rintro _ w21 ⟨s2,rfl,r2,e21⟩
 refine⟨s2,rfl,(c101 6 w21).use ?_⟩
 rintro _ w24 ⟨s3,rfl,r3,e24⟩
 refine⟨s3,rfl,(c101 7 w24).use ?_⟩
 rintro _ w27 ⟨s4,rfl,r4,e27⟩
 refine⟨s4,rfl,by decide,fun b29 w30 a29=>?_⟩
 have e30:Ext w27 w30:=a29.ch _
 have E30:Ext w w30:=(((e18.trans e21).trans e24).trans e27).trans e30
 have rn:Rd w30 nilS' 2 (([]:List Spn).flatMap sv):=(OwS.nil w30 2).rd
 have hH:Hst w30 ⟨some ⟨b29,0,none⟩,4,4⟩ (alvJ s1 s2 s3 s4):=by
  refine⟨(OwS.new (n:=4) (sz:=6) a29 rfl).rd,fun n hn=>?_,(by decide:4<=1000000),Nat.le_refl _⟩
  unfold alvJ at hn
  simp only[List.mem_cons,List.not_mem_nil,or_false] at hn
  rcases hn with rfl|rfl|rfl|rfl
  ·exact⟨rn,r1.ext (((e21.trans e24).trans e27).trans e30),by simp,by simp⟩
  ·exact⟨rn,r2.ext ((e24.trans e27).trans e30),by simp,by simp⟩
  ·exact⟨rn,r3.ext (e27.trans e30),by simp,by simp⟩
  ·exact⟨rn,r4.ext e30,by simp,by simp⟩
 have hM:=alvJ_may s1 s2 s3 s4
 refine⟨v,cxN hC hb E30,by decide,fun b34 w35 a34=>?_⟩
 have e35:Ext w30 w35:=a34.ch _
 have E35:=E30.trans e35
 have ro:Rd w35 ⟨some ⟨b34,0,none⟩,4,4⟩ 1 (([0,2,1,3]:List Int).map iv):=(OwS.new (cs:=([0,2,1,3]:List Int).map iv) (n:=4) (sz:=1) a34 rfl).rd
 refine(c44 (hC.ext E35) (hH.ext e35) (by decide:4<=1000) ro (by decide)).use ?_
 rintro _ w37 ⟨r,rfl,hr,e37⟩
 have hrt:r=true:=hr.2 ⟨hM,alvJ_good s1 s2 s3 s4⟩
 have x37:=e35.trans e37
 have E37:=E30.trans x37
 refine⟨r,rfl,IfB.yes hrt ?_⟩
 unfold F41k1
 refine⟨v,cxN hC hb E37,by decide,fun b42 w43 a42=>?_⟩
 have e43:Ext w37 w43:=a42.ch _
 have E43:=E37.trans e43
 have rp:Rd w43 ⟨some ⟨b42,0,none⟩,4,4⟩ 1 (([0,1,2,3]:List Int).map iv):=(OwS.new (cs:=([0,1,2,3]:List Int).map iv) (n:=4) (sz:=1) a42 rfl).rd
 refine(c44 (hC.ext E43) (hH.ext (x37.trans e43)) (by decide:4<=1000) rp (by decide)).use ?_
 rintro _ w45 ⟨r',rfl,hr',e45⟩
 have hrf:r'=false:=by
  cases r' with
  | false=>rfl
  | true=>exact absurd (hr'.1 rfl).2 (alvJ_bad s1 s2 s3 s4)
 refine⟨r',rfl,?_⟩
 rw[hrf]
 exact hR w45 (E43.trans e45)
theorem c41(w:World):Cw 41 #[] w fun v w'=>v=.bool true/\Ext w w':=by
 refine F41_ok w _ ⟨by decide,fun b1 w2 a1=>fun b3 w4 a3=>⟨rfl,store_all (vs:=[slV ⟨some ⟨b1,0,none⟩,1,1⟩,slV ⟨none,0,0⟩]) a3.new rfl (by intro v hv;simp at hv;rcases hv with rfl|rfl<;>rfl) fun w5 u5=>?_⟩⟩
 have e2:Ext w w2:=a1.ch _
 have e5:Ext w2 w5:=Ext.fresh a3 u5
 have ed:=extDrew w5
 have h1:=Ext.at (e5.trans ed) a1.new
 have E0:Ext w w5.drew:=(e2.trans e5).trans ed
 have hbx:∀ {W:World},Ext w5 W->CellsAt W b3 0 [slV ⟨some ⟨b1,0,none⟩,1,1⟩,slV ⟨none,0,0⟩]:=fun e=>boxAll (cs:=[slV ⟨some ⟨b1,0,none⟩,1,1⟩,slV ⟨none,0,0⟩]) u5.new e
 refine⟨(⟨some ⟨b1,0,none⟩,1,1⟩,⟨none,0,0⟩),hbx ed,(⟨some ⟨b1,0,none⟩,1,1⟩,⟨none,0,0⟩),hbx ed,?_⟩
 have z0:=E0.size
 have fin:∀ {bX bK:Nat}{TX:TypeId}(w':World),Ext w w'->w'.heap[bX]? =some (.cells (cxC (⟨some ⟨bK,0,none⟩,1,1⟩,List.replicate 16 (.int .i64 0))).toArray TX (0,0))->CatM w' (⟨some ⟨bK,0,none⟩,1,1⟩,List.replicate 16 (.int .i64 0)) catA->Alv17T w' bX (fun v w'=>v=.bool true/\Ext w w'):=fun w' e hx hM=>alv17 hx hM fun w'' e'=>⟨rfl,e.trans e'⟩
 refine⟨⟨by decide,fun bS wS aS=>⟨⟨by decide,fun bC wC aC=>⟨⟨by decide,fun bK wK aK bX wX aX=>⟨rfl,alvFin (((((E0).trans (aS.ch _)).trans (aC.ch _)).trans (aK.ch _)).trans (aX.ch _)) (by have:=aS.size;have:=aS.here;have:=aC.size;have:=aC.here;have:=aK.size;have:=aK.here;have:=aX.size;have:=aX.here;omega) (aX.at (aK.at (aC.at (aS.at (h1))))) (aX.at (aK.at (aC.at (aS.new)))) (aX.at (aK.at (aC.new))) (aX.at (aK.new)) (aX.new) rfl fin⟩⟩,
  fun bX wX aX=>⟨by decide,fun bK wK aK=>⟨rfl,alvFin (((((E0).trans (aS.ch _)).trans (aC.ch _)).trans (aX.ch _)).trans (aK.ch _)) (by have:=aS.size;have:=aS.here;have:=aC.size;have:=aC.here;have:=aX.size;have:=aX.here;have:=aK.size;have:=aK.here;omega) (aK.at (aX.at (aC.at (aS.at (h1))))) (aK.at (aX.at (aC.at (aS.new)))) (aK.at (aX.at (aC.new))) (aK.new) (aK.at (aX.new)) rfl fin⟩⟩⟩⟩,
  fun bX wX aX=>⟨by decide,fun bC wC aC=>⟨by decide,fun bK wK aK=>⟨rfl,alvFin (((((E0).trans (aS.ch _)).trans (aX.ch _)).trans (aC.ch _)).trans (aK.ch _)) (by have:=aS.size;have:=aS.here;have:=aX.size;have:=aX.here;have:=aC.size;have:=aC.here;have:=aK.size;have:=aK.here;omega) (aK.at (aC.at (aX.at (aS.at (h1))))) (aK.at (aC.at (aX.at (aS.new)))) (aK.at (aC.new)) (aK.new) (aK.at (aC.at (aX.new))) rfl fin⟩⟩⟩⟩⟩,
  ⟨by decide,fun bC wC aC=>⟨hbx (ed.trans (aC.ch _)),hbx (ed.trans (aC.ch _)),⟨by decide,fun bS wS aS=>⟨⟨by decide,fun bK wK aK bX wX aX=>⟨rfl,alvFin (((((E0).trans (aC.ch _)).trans (aS.ch _)).trans (aK.ch _)).trans (aX.ch _)) (by have:=aC.size;have:=aC.here;have:=aS.size;have:=aS.here;have:=aK.size;have:=aK.here;have:=aX.size;have:=aX.here;omega) (aX.at (aK.at (aS.at (aC.at (h1))))) (aX.at (aK.at (aS.new))) (aX.at (aK.at (aS.at (aC.new)))) (aX.at (aK.new)) (aX.new) rfl fin⟩⟩,
  fun bX wX aX=>⟨by decide,fun bK wK aK=>⟨rfl,alvFin (((((E0).trans (aC.ch _)).trans (aS.ch _)).trans (aX.ch _)).trans (aK.ch _)) (by have:=aC.size;have:=aC.here;have:=aS.size;have:=aS.here;have:=aX.size;have:=aX.here;have:=aK.size;have:=aK.here;omega) (aK.at (aX.at (aS.at (aC.at (h1))))) (aK.at (aX.at (aS.new))) (aK.at (aX.at (aS.at (aC.new)))) (aK.new) (aK.at (aX.new)) rfl fin⟩⟩⟩⟩,
  fun bX wX aX=>⟨hbx ((ed.trans (aC.ch _)).trans (aX.ch _)),hbx ((ed.trans (aC.ch _)).trans (aX.ch _)),by decide,fun bS wS aS=>⟨by decide,fun bK wK aK=>⟨rfl,alvFin (((((E0).trans (aC.ch _)).trans (aX.ch _)).trans (aS.ch _)).trans (aK.ch _)) (by have:=aC.size;have:=aC.here;have:=aX.size;have:=aX.here;have:=aS.size;have:=aS.here;have:=aK.size;have:=aK.here;omega) (aK.at (aS.at (aX.at (aC.at (h1))))) (aK.at (aS.new)) (aK.at (aS.at (aX.at (aC.new)))) (aK.new) (aK.at (aS.at (aX.new))) rfl fin⟩⟩⟩⟩⟩,
  fun bX wX aX=>⟨hbx (ed.trans (aX.ch _)),hbx (ed.trans (aX.ch _)),⟨by decide,fun bS wS aS=>⟨by decide,fun bC wC aC=>⟨by decide,fun bK wK aK=>⟨rfl,alvFin (((((E0).trans (aX.ch _)).trans (aS.ch _)).trans (aC.ch _)).trans (aK.ch _)) (by have:=aX.size;have:=aX.here;have:=aS.size;have:=aS.here;have:=aC.size;have:=aC.here;have:=aK.size;have:=aK.here;omega) (aK.at (aC.at (aS.at (aX.at (h1))))) (aK.at (aC.at (aS.new))) (aK.at (aC.new)) (aK.new) (aK.at (aC.at (aS.at (aX.new)))) rfl fin⟩⟩⟩⟩,
  by decide,fun bC wC aC=>⟨hbx ((ed.trans (aX.ch _)).trans (aC.ch _)),hbx ((ed.trans (aX.ch _)).trans (aC.ch _)),by decide,fun bS wS aS=>⟨by decide,fun bK wK aK=>⟨rfl,alvFin (((((E0).trans (aX.ch _)).trans (aC.ch _)).trans (aS.ch _)).trans (aK.ch _)) (by have:=aX.size;have:=aX.here;have:=aC.size;have:=aC.here;have:=aS.size;have:=aS.here;have:=aK.size;have:=aK.here;omega) (aK.at (aS.at (aC.at (aX.at (h1))))) (aK.at (aS.new)) (aK.at (aS.at (aC.new))) (aK.new) (aK.at (aS.at (aC.at (aX.new)))) rfl fin⟩⟩⟩⟩⟩
def BadQ(x:CatD)(hs:List Nd)(order:List Int)(o a b:Nat):Prop:=∃no na,hs[o]? =some no/\hs[a]? =some na/\na.v.1≠no.v.1/\InP x hs a b no.v.2.1/\plc order a<=plc order o/\plc order o<=plc order b/\∃u,InP x hs a u no.v.2.1/\(Dp hs o u\/Dp hs u o)
theorem fair_badQ{x:CatD}{hs:List Nd}{order:List Int}(hK:KeepO hs order):FairO x hs order↔∀o a b,¬BadQ x hs order o a b:=
 ⟨fun⟨_,hF⟩ o a b ⟨no,na,ho,ha,hne,hab,h1,h2,u,hu,hd⟩=>hF.fair o a b u no na ho ha hne hab h1 h2 hu hd,
  fun h=>⟨hK,fun i j hi hj e=>hK.1.inj hi hj e,hK.2,fun o a b u no na ho ha hne hab h1 h2 hau hd=>h o a b ⟨no,na,ho,ha,hne,hab,h1,h2,u,hau,hd⟩⟩⟩
theorem c45{w:World}{v:CatV}{x:CatD}{t u:Sl}{hs:List Nd}{order:List Int}(h:CatM w v x)(hH:Hst w t hs)(hM:HMay x hs)(hO:Rd w u 1 (order.map iv))(hol:order.length<=1000):
  Cw 45 #[cxV v,slV t,slV u] w fun r w'=>∃b,r=.bool b/\(b=true↔FairO x hs order)/\Ext w w':=by
 have htn:=hH.n
 have hl100:=hM.len
 refine F45_ok v t u w _ fun b1 w2 a2=>?_
 have e2:Ext w w2:=a2.ch _
 refine(c43 (hH.ext e2) (by omega) (hO.ext e2) hol).use ?_
 rintro _ w4 ⟨q,rfl,hq,e4⟩
 have E4:=e2.trans e4
 have no:∀ {W:World},¬FairO x hs order->Ext w W->∃b,Value.bool false=.bool b/\(b=true↔FairO x hs order)/\Ext w W:=fun h e=>⟨false,rfl,⟨fun h=>(by cases h),fun h'=>absurd h' h⟩,e⟩
 refine⟨q,rfl,IfB.intro (fun h1=>no (fun hh=>by rw[hq.2 hh.1] at h1;cases h1) E4) fun h1=>?_⟩
 have hK:=hq.1 (by simpa using h1)
 rw[show (t.2:Int)=((hs.length:Nat):Int) by show (t.n:Int)=_;rw[htn]]
 refine(c104 (hO.ext E4) hol (by omega)).use ?_
 rintro _ w7 ⟨s,ok,rfl,hok,hpl,e7⟩
 obtain⟨b,rfl,hf⟩:=hpl (hok.2 hK.1)
 have E7:=E4.trans e7
 refine⟨(_,ok),rfl,(c93 (hH.ext E7) (by omega)).use ?_⟩
 rintro _ w10 ⟨td,rows,rfl,hsq,hgm,hMx,e10⟩
 have E10:=E7.trans e10
 have x10:=(e4.trans e7).trans e10
 have hf10:=hf.ext e10
 have hdn:=hMx.n
 have hsq1:=hsq.1
 have pl:∀ {U:World}{i:Nat},Ext w10 U->i<hs.length->U.cell? ⟨b,0+(i:Int).toNat,none⟩=some (iv (plc order i:Int)):=fun{U i} e hi=>by rw[Nat.zero_add,Int.toNat_natCast];exact(hf10.ext e).get hi rfl
 have b2:∀ {i:Nat},i<hs.length->(0:Int)<=(i:Int)/\(i:Int)<((hs.length:Nat):Int):=fun hi=>⟨by omega,by omega⟩
 have bt:∀ {i:Nat},i<hs.length->(0:Int)<=(i:Int)/\(i:Int)<(t.n:Int):=fun hi=>⟨by omega,by omega⟩
 have hw:∀ {i:Nat},i<hs.length->IntKind.i64.wrap ((i:Int)+1)=((i+1:Nat):Int):=fun hi=>by rw[wrap_of (by omega) (by omega)];rfl
 refine⟨td,rfl,fun m z W=>∃o:Nat,o<=hs.length/\m+o=hs.length/\z=(o:Int)/\(∀o' a c,o'<o->¬BadQ x hs order o' a c)/\Ext w10 W,⟨hs.length,0,Nat.zero_le _,rfl,rfl,fun o' a c ho=>absurd ho (Nat.not_lt_zero _),Ch.refl _ _⟩,?_⟩
 rintro m1 _ W g ⟨o,ho,hmo,rfl,hall,eW⟩
 unfold F45j1
 refine IfB.dec (fun hlt=>?_) fun hge=>?_
 ·have ho':o<hs.length:=by omega
  have go:hs[o]? =some hs[o]:=List.getElem?_eq_getElem ho'
  generalize hs[o]=nn at go
  refine⟨fun m z V=>∃a:Nat,a<=hs.length/\m+a=hs.length/\z=(a:Int)/\(∀a' c,a'<a->¬BadQ x hs order o a' c)/\Ext w10 V,⟨hs.length,0,Nat.zero_le _,rfl,rfl,fun a' c ha=>absurd ha (Nat.not_lt_zero _),eW⟩,?_⟩
  rintro m2 _ V g2 ⟨a,ha,hma,rfl,hina,eV⟩
  refine IfB.dec (fun hla=>?_) fun hga=>?_
  ·have ha':a<hs.length:=by omega
   have ga:hs[a]? =some hs[a]:=List.getElem?_eq_getElem ha'
   generalize hs[a]=na at ga
   refine⟨fun m z U=>∃c:Nat,c<=hs.length/\m+c=hs.length/\z=(c:Int)/\(∀c',c'<c->¬BadQ x hs order o a c')/\Ext w10 U,⟨hs.length,0,Nat.zero_le _,rfl,rfl,fun c' hc=>absurd hc (Nat.not_lt_zero _),eV⟩,?_⟩
   rintro m3 _ U g3 ⟨c,hc,hmc,rfl,hinc,eU⟩
   unfold F45j3
   refine IfB.dec (fun hlc=>?_) fun hgc=>?_
   ·have hc':c<hs.length:=by omega
    have next:∀ {U':World},Ext w10 U'->¬BadQ x hs order o a c->([]:List Nat)=[]/\∃q,q<m3/\∃c':Nat,c'<=hs.length/\q+c'=hs.length/\IntKind.i64.wrap ((c:Int)+1)=(c':Int)/\(∀d,d<c'->¬BadQ x hs order o a d)/\Ext w10 U':=fun e hh=>⟨rfl,m3-1,by omega,c+1,hc',by omega,hw hc',fun d hd=>by
     rcases Nat.lt_or_ge d c with h'|h'
     ·exact hinc d h'
     ·rw[show d=c by omega];exact hh,e⟩
    have ed:=extDrew U
    have xd:=eU.trans ed
    have Ed:=E10.trans xd
    obtain⟨pa,oa,hpa,hca⟩:=(hH.ext Ed).at ga
    obtain⟨po,oo,hpo,hco⟩:=(hH.ext Ed).at go
    unfold F45k1
    refine⟨pa,oa,hpa,bt ha',na.v.1,by rw[Int.toNat_natCast];exact hca 0 _ rfl,po,oo,hpo,bt ho',nn.v.1,by rw[Int.toNat_natCast];exact hco 0 _ rfl,IfB.intro (fun hs1=>next xd fun⟨n1,n2,k1,k2,k3,_⟩=>?_) fun hs1=>?_⟩
    ·rw[go] at k1;rw[ga] at k2;cases k1;cases k2
     exact k3 (by simpa using hs1)
    have hs1:na.v.1≠nn.v.1:=by simpa using hs1
    refine⟨v,cxN h a2.new (x10.trans xd),po,oo,hpo,bt ho',nn.v.2.1,by rw[Int.toNat_natCast];exact hco 1 _ rfl,(c94 (h.ext Ed) (hH.ext Ed) hM ha' hc' nn.v.2.1).use ?_⟩
    rintro _ w47 ⟨r,rfl,hr,e47⟩
    have x47:=xd.trans e47
    refine⟨r,rfl,IfB.intro (fun h3=>next x47 fun⟨n1,n2,k1,k2,k3,k4,_⟩=>?_) fun h3=>?_⟩
    ·rw[go] at k1;cases k1
     rw[hr.2 k4] at h3;cases h3
    have hac:=hr.1 (by simpa using h3)
    refine⟨b,0,rfl,b2 ha',_,pl x47 ha',b,0,rfl,b2 ho',_,pl x47 ho',IfB.dec (fun h4=>next x47 fun⟨_,_,_,_,_,_,k5,_⟩=>by omega) fun h4=>⟨b,0,rfl,b2 hc',_,pl x47 hc',b,0,rfl,b2 ho',_,pl x47 ho',IfB.dec (fun h5=>next x47 fun⟨_,_,_,_,_,_,_,k6,_⟩=>by omega) fun h5=>?_⟩⟩
    refine⟨fun m z Y=>∃e:Nat,e<=hs.length/\m+e=hs.length/\z=(e:Int)/\(∀e',e'<e->InP x hs a e' nn.v.2.1->¬(Dp hs o e'\/Dp hs e' o))/\Ext w10 Y,⟨hs.length,0,Nat.zero_le _,rfl,rfl,fun e' he=>absurd he (Nat.not_lt_zero _),x47⟩,?_⟩
    rintro m4 _ Y g4 ⟨e,he,hme,rfl,hine,eY⟩
    unfold F45j4
    refine IfB.dec (fun hle=>?_) fun hge4=>?_
    ·have he':e<hs.length:=by omega
     have next4:∀ {U':World},Ext w10 U'->(InP x hs a e nn.v.2.1->¬(Dp hs o e\/Dp hs e o))->([]:List Nat)=[]/\∃q,q<m4/\∃e2:Nat,e2<=hs.length/\q+e2=hs.length/\IntKind.i64.wrap ((e:Int)+1)=(e2:Int)/\(∀d,d<e2->InP x hs a d nn.v.2.1->¬(Dp hs o d\/Dp hs d o))/\Ext w10 U':=fun ex hh=>⟨rfl,m4-1,by omega,e+1,he',by omega,hw he',fun d hd=>by
      rcases Nat.lt_or_ge d e with h'|h'
      ·exact hine d h'
      ·rw[show d=e by omega];exact hh,ex⟩
     have edY:=extDrew Y
     have xY:=eY.trans edY
     have EY:=E10.trans xY
     obtain⟨pq,oq,hpq,hcq⟩:=(hH.ext EY).at go
     refine⟨v,cxN h a2.new (x10.trans xY),pq,oq,hpq,bt ho',nn.v.2.1,by rw[Int.toNat_natCast];exact hcq 1 _ rfl,(c94 (h.ext EY) (hH.ext EY) hM ha' he' nn.v.2.1).use ?_⟩
     rintro _ w78 ⟨r2,rfl,hr2,e78⟩
     have x78:=xY.trans e78
     refine⟨r2,rfl,IfB.intro (fun h6=>?_) fun h6=>next4 x78 fun hi=>?_⟩
     ·have hae:=hr2.1 h6
      have hMd:=hMx.ext x78
      obtain⟨ro,hro,hrol,hrom⟩:=hsq.at ho'
      obtain⟨re,hre,hrel,hrem⟩:=hsq.at he'
      obtain⟨c1,hp1,hc1⟩:=hMd.slot hro
      obtain⟨c2,hp2,hc2⟩:=hMd.cell hrom (gM_get hro (k:=e) (by omega))
      obtain⟨c3,hp3,hc3⟩:=hMd.slot hre
      obtain⟨c4,hp4,hc4⟩:=hMd.cell hrem (gM_get hre (k:=o) (by omega))
      have hn1:=hMd.rn hrom
      have hn2:=hMd.rn hrem
      have bad:Dp hs o e\/Dp hs e o->∃b,Value.bool false=.bool b/\(b=true↔FairO x hs order)/\Ext w w78:=fun hd=>no (fun hh=>(fair_badQ hK).1 hh o a c ⟨nn,na,go,ga,hs1,hac,by omega,by omega,e,hae,hd⟩) (E10.trans x78)
      refine⟨c1,0,hp1,⟨by omega,by omega⟩,ro.1,by rw[Nat.zero_add,Int.toNat_natCast];exact hc1,c2,0,hp2,⟨by omega,by omega⟩,gM rows o e,by rw[Nat.zero_add,Int.toNat_natCast];exact hc2,IfB.intro (fun h7=>bad (.inl ((hgm o e).1 h7))) fun h7=>⟨c3,0,hp3,⟨by omega,by omega⟩,re.1,by rw[Nat.zero_add,Int.toNat_natCast];exact hc3,c4,0,hp4,⟨by omega,by omega⟩,gM rows e o,by rw[Nat.zero_add,Int.toNat_natCast];exact hc4,IfB.intro (fun h8=>bad (.inr ((hgm e o).1 h8))) fun h8=>next4 x78 fun _ hd=>?_⟩⟩
      rcases hd with hd|hd
      ·rw[(hgm o e).2 hd] at h7;cases h7
      ·rw[(hgm e o).2 hd] at h8;cases h8
     ·rw[hr2.2 hi] at h6;cases h6
    ·have hee:e=hs.length:=by omega
     subst hee
     refine next eY fun⟨n1,n2,k1,k2,k3,k4,k5,k6,u',k7,k8⟩=>?_
     rw[go] at k1;cases k1
     exact hine u' (k7.lt ha') k7 k8
   ·have hcc:c=hs.length:=by omega
    subst hcc
    refine⟨rfl,m2-1,by omega,a+1,ha',by omega,hw ha',fun a' c ha2=>?_,eU⟩
    rcases Nat.lt_or_ge a' a with h'|h'
    ·exact hina a' c h'
    ·have:a'=a:=by omega
     subst this
     intro hB
     obtain⟨n1,n2,k1,k2,k3,k4,_⟩:=id hB
     exact hinc c (k4.lt ha') hB
  ·have haa:a=hs.length:=by omega
   subst haa
   refine⟨rfl,m1-1,by omega,o+1,ho',by omega,hw ho',fun o' a c ho2=>?_,eV⟩
   rcases Nat.lt_or_ge o' o with h'|h'
   ·exact hall o' a c h'
   ·have:o'=o:=by omega
    subst this
    intro hB
    obtain⟨n1,n2,k1,k2,_⟩:=id hB
    exact hina a c (get_lt k2) hB
 ·have hoo:o=hs.length:=by omega
  subst hoo
  refine⟨true,rfl,⟨fun _=>(fair_badQ hK).2 fun o a c hB=>?_,fun _=>rfl⟩,E10.trans eW⟩
  obtain⟨n1,n2,k1,_⟩:=id hB
  exact hall o a c (get_lt k1) hB
set_option maxRecDepth 100000
def F110j2(t0:Sl)(t1:Nat)(t3:Nat)(R:RV)(y10:Nat->Int->World->Prop)(b12:Nat)(n13:Int)(y21:Nat->Int->World->Prop)(b23:Nat)(n24:Int)(w25:World):Prop:=IfB (decide (n24<n13)) (∃s28:Sl,w25.cell? ⟨t1,0,none⟩=some (Qy s28)/\Qv' 103 #[Qy s28,Qz n13,Qz n24] w25 fun t31 w30=>IfB t31 (Qv' 107 #[Qy t0,Qz n24] w30 fun t34 w33=>IfB (!t34) (Qn y10 b12 (IntKind.i64.wrap (n13+1)) w33) (Qn y21 b23 (IntKind.i64.wrap (n24+1)) w33)) (Qn y21 b23 (IntKind.i64.wrap (n24+1)) w30)) (∃(x38:Nat×Array Value),w25.drew.cell? ⟨t3,0,none⟩=some (Value.func (Fn.func x38.1) #[] x38.2)/\(Qu' 111 #[Qy t0] w25.drew fun s41 w40=>w40.cell? ⟨t3,0,none⟩=some (Value.func (Fn.func x38.1) #[] x38.2)/\1*1<=16777216/\AllocP w40 (Obj.cells #[Qz n13] 3) fun b42 w43=>w43.cell? ⟨t3,0,none⟩=some (Value.func (Fn.func x38.1) #[] x38.2)/\∃(l44:List Value),ReadC w43 (some ⟨b42,0,none⟩) (1*1) l44/\AppendP tt3 3 w43 s41.1 s41.2 s41.3 1 l44 fun s45 w46=>w46.cell? ⟨t3,0,none⟩=some (Value.func (Fn.func x38.1) #[] x38.2)/\Cx x38.1 { toList:=Qy s45::x38.snd.1 } w46 fun v47 w48=>∃t49:Bool,v47=Value.bool t49/\IfB t49 (R (Value.bool true) w48) (Qn y10 b12 (IntKind.i64.wrap (n13+1)) w48))/\1*1<=16777216/\AllocP w25.drew (Obj.cells #[Qz n13] 3) fun b51 w52=>w52.cell? ⟨t3,0,none⟩=some (Value.func (Fn.func x38.1) #[] x38.2)/\Qu' 111 #[Qy t0] w52 fun s55 w54=>w54.cell? ⟨t3,0,none⟩=some (Value.func (Fn.func x38.1) #[] x38.2)/\∃(l56:List Value),ReadC w54 (some ⟨b51,0,none⟩) (1*1) l56/\AppendP tt3 3 w54 s55.1 s55.2 s55.3 1 l56 fun s57 w58=>w58.cell? ⟨t3,0,none⟩=some (Value.func (Fn.func x38.1) #[] x38.2)/\Cx x38.1 { toList:=Qy s57::x38.snd.1 } w58 fun v59 w60=>∃t61:Bool,v59=Value.bool t61/\IfB t61 (R (Value.bool true) w60) (Qn y10 b12 (IntKind.i64.wrap (n13+1)) w60))
def F110j1(t0:Sl)(t1:Nat)(t3:Nat)(R:RV)(s9:Sl)(y10:Nat->Int->World->Prop)(b12:Nat)(n13:Int)(w14:World):Prop:=IfB (decide (n13<(s9.n:Int))) (Qv' 107 #[Qy t0,Qz n13] w14 fun t19 w18=>IfB t19 (Qn y10 b12 (IntKind.i64.wrap (n13+1)) w18) (Ql (α:=Int) 0 w18 fun y21 b23 n24 w25=>(F110j2 t0 t1 t3 R y10 b12 n13 y21 b23 n24 w25))) (R (Value.bool false) w14)
theorem F110_ok(t0:Sl)(t1:Nat)(t2:Nat)(t3:Nat)(w:World)(R:RV)(h:∃s1:Sl,w.cell? ⟨t1,0,none⟩=some (Qy s1)/\IfB ((t0.2:Int) == (s1.2:Int)) (∃(x2:Sl×List Value),CellsN w t2 0 17 (Qy x2.fst::x2.2)/\∃s5:Sl,w.cell? ⟨t1,0,none⟩=some (Qy s5)/\Cx 44 #[Value.agg { toList:=Qy x2.fst::x2.2 },Qy s5,Qy t0] w fun v6 w7=>∃t8:Bool,v6=Value.bool t8/\R (Value.bool t8) w7) (∃s9:Sl,w.cell? ⟨t1,0,none⟩=some (Qy s9)/\Ql (α:=Int) 0 w fun y10 b12 n13 w14=>(F110j1 t0 t1 t3 R s9 y10 b12 n13 w14))):Cw 110 #[Qy t0,Value.pointer (some ⟨t1,0,none⟩),Value.pointer (some ⟨t2,0,none⟩),Value.pointer (some ⟨t3,0,none⟩)] w R:=
 ckF Tryz.func110 (nd (nd (nd (.node (nd (.loop [(19,oi)] (rg [5,7,19,47]) (nd (nd (.node (nd (nd (.node (nd (.loop [(26,oi)] (rg [7,7,26,39]) .nil)) (.node (.draw (sts [0,1,3] (.ac 2 [3,0] (.ac 4 [0] (.ac 5 [0] (.ac 6 [] .fin .non) .non) .non) (.ac 4 [1,0] (.ac 2 [0] (.ac 5 [0] (.ac 6 [] .fin .non) .non) .non) .non)))) .nil)))) .nil))))) .nil)))) h (by kernel_rfl) (by kernel_rfl)
theorem F46_ok(t0:Sl×List Value)(t1:Sl)(w:World)(R:RV)(h:AllocP w (Obj.cells { toList:=Qy t0.fst::t0.2 } 26) fun b1 w2=>AllocP w2 (Obj.cells #[Qy t1] 39) fun b3 w4=>∃(x5:Sl×List Value),CellsN w4 b1 0 17 (Qy x5.fst::x5.2)/\Qs w4 b3 0 fun s8=>Qv' 84 #[Value.agg { toList:=Qy x5.fst::x5.2 },Qy s8] w4 fun t11 w10=>IfB (!t11) (R (Value.bool false) w10) (Qs w10 b3 0 fun s12=>IfB (decide (7<(s12.n:Int))) (R (Value.bool false) w10) (AllocP w10 (Obj.cells #[Value.nilFunc] 131) fun b13 w14=>#[Value.func (Fn.func 110) #[] #[Value.pointer (some ⟨b3,0,none⟩),Value.pointer (some ⟨b1,0,none⟩),Value.pointer (some ⟨b13,0,none⟩)]].size=1/\StoreP w14 b13 0 [Value.func (Fn.func 110) #[] #[Value.pointer (some ⟨b3,0,none⟩),Value.pointer (some ⟨b1,0,none⟩),Value.pointer (some ⟨b13,0,none⟩)]] fun w15=>∃(x16:Nat×Array Value),w15.cell? ⟨b13,0,none⟩=some (Value.func (Fn.func x16.1) #[] x16.2)/\Cx x16.1 { toList:=Value.slice none 0 0::x16.snd.1 } w15 fun v17 w18=>∃t19:Bool,v17=Value.bool t19/\R (Value.bool t19) w18))):Cw 46 #[Value.agg { toList:=Qy t0.fst::t0.2 },Qy t1] w R:=
 ckF Tryz.func46 .nil h (by kernel_rfl) (by kernel_rfl)
def F112k1(w20:World)(b1:Nat)(t2:Sl)(n12:Int)(t1:Sl)(R:RV)(b11:Nat)(y9:Nat->Int->World->Prop):Prop:=∃(x28:Sl×List Value),CellsN w20.drew b1 0 17 (Qy x28.fst::x28.2)/\(0*1<=16777216/\AllocP w20.drew (Obj.cells #[] 3) fun b31 w32=>CellsN w32 b1 0 17 (Qy x28.fst::x28.2)/\(∃(l35:List Value),ReadC w32 t2.1 (t2.2*1) l35/\AppendP tt3 3 w32 (some ⟨b31,0,none⟩) 0 0 t2.2 l35 fun s36 w37=>CellsN w37 b1 0 17 (Qy x28.fst::x28.2)/\1*1<=16777216/\AllocP w37 (Obj.cells #[Qz n12] 3) fun b40 w41=>CellsN w41 b1 0 17 (Qy x28.fst::x28.2)/\∃(l44:List Value),ReadC w41 (some ⟨b40,0,none⟩) (1*1) l44/\AppendP tt3 3 w41 s36.1 s36.2 s36.3 1 l44 fun s45 w46=>CellsN w46 b1 0 17 (Qy x28.fst::x28.2)/\Qv' 112 #[Value.agg { toList:=Qy x28.fst::x28.2 },Qy t1,Qy s45] w46 fun t51 w50=>IfB t51 (R (Value.bool true) w50) (Qn y9 b11 (IntKind.i64.wrap (n12+1)) w50))/\1*1<=16777216/\AllocP w32 (Obj.cells #[Qz n12] 3) fun b53 w54=>CellsN w54 b1 0 17 (Qy x28.fst::x28.2)/\∃(l57:List Value),ReadC w54 t2.1 (t2.2*1) l57/\AppendP tt3 3 w54 (some ⟨b31,0,none⟩) 0 0 t2.2 l57 fun s58 w59=>CellsN w59 b1 0 17 (Qy x28.fst::x28.2)/\∃(l62:List Value),ReadC w59 (some ⟨b53,0,none⟩) (1*1) l62/\AppendP tt3 3 w59 s58.1 s58.2 s58.3 1 l62 fun s63 w64=>CellsN w64 b1 0 17 (Qy x28.fst::x28.2)/\Qv' 112 #[Value.agg { toList:=Qy x28.fst::x28.2 },Qy t1,Qy s63] w64 fun t69 w68=>IfB t69 (R (Value.bool true) w68) (Qn y9 b11 (IntKind.i64.wrap (n12+1)) w68))/\1*1<=16777216/\AllocP w20.drew (Obj.cells #[Qz n12] 3) fun b71 w72=>CellsN w72 b1 0 17 (Qy x28.fst::x28.2)/\0*1<=16777216/\AllocP w72 (Obj.cells #[] 3) fun b75 w76=>CellsN w76 b1 0 17 (Qy x28.fst::x28.2)/\∃(l79:List Value),ReadC w76 t2.1 (t2.2*1) l79/\AppendP tt3 3 w76 (some ⟨b75,0,none⟩) 0 0 t2.2 l79 fun s80 w81=>CellsN w81 b1 0 17 (Qy x28.fst::x28.2)/\∃(l84:List Value),ReadC w81 (some ⟨b71,0,none⟩) (1*1) l84/\AppendP tt3 3 w81 s80.1 s80.2 s80.3 1 l84 fun s85 w86=>CellsN w86 b1 0 17 (Qy x28.fst::x28.2)/\Qv' 112 #[Value.agg { toList:=Qy x28.fst::x28.2 },Qy t1,Qy s85] w86 fun t91 w90=>IfB t91 (R (Value.bool true) w90) (Qn y9 b11 (IntKind.i64.wrap (n12+1)) w90)
def F112j2(t1:Sl)(t2:Sl)(R:RV)(b1:Nat)(y9:Nat->Int->World->Prop)(b11:Nat)(n12:Int)(y16:Nat->Bool×Int->World->Prop)(b18:Nat)(x19:Bool×Int)(w20:World):Prop:=IfB (decide (x19.snd<(t2.n:Int))) (IfB x19.1 (Qx t2.1 x19.2 (t2.2:Int) fun b23 b24=>Qi w20 b23 (b24+x19.2.toNat) fun n25=>Qn y16 b18 (n25 != n12,IntKind.i64.wrap (x19.2+1)) w20) (Qn y16 b18 (false,IntKind.i64.wrap (x19.2+1)) w20)) (IfB x19.1 (F112k1 w20 b1 t2 n12 t1 R b11 y9) (((Qn y9 b11 (IntKind.i64.wrap (n12+1)) w20.drew)/\Qn y9 b11 (IntKind.i64.wrap (n12+1)) w20.drew)/\Qn y9 b11 (IntKind.i64.wrap (n12+1)) w20.drew))
theorem F112_ok(t0:Sl×List Value)(t1:Sl)(t2:Sl)(w:World)(R:RV)(h:AllocP w (Obj.cells { toList:=Qy t0.fst::t0.2 } 26) fun b1 w2=>IfB ((t2.2:Int) == (t1.2:Int)) (∃(x3:Sl×List Value),CellsN w2 b1 0 17 (Qy x3.fst::x3.2)/\Qv' 45 #[Value.agg { toList:=Qy x3.fst::x3.2 },Qy t1,Qy t2] w2 fun t8 w7=>R (Value.bool t8) w7) (Ql (α:=Int) 0 w2 fun y9 b11 n12 w13=>IfB (decide (n12<(t1.n:Int))) (Ql (α:=Bool×Int) (true,0) w13 fun y16 b18 x19 w20=>(F112j2 t1 t2 R b1 y9 b11 n12 y16 b18 x19 w20)) (R (Value.bool false) w13))):Cw 112 #[Value.agg { toList:=Qy t0.fst::t0.2 },Qy t1,Qy t2] w R:=
 ckF Tryz.func112 (nd (nd (.node (nd (.loop [(7,oi)] (rg [6,9,19,51]) (nd (.node (nd (.node (nd (.loop [(8,ob),(9,oi)] (rg [8,9,25,39]) .nil)) (.node (.draw (sts [0,1,2,3,5,7] (.ac 4 [7,5,3,2] (.ac 6 [7,3,2] (.ac 8 [3,2] (.ac 9 [3,2] (.ac 10 [] (.st 11 .fin) .non) .non) .non) (.ac 8 [5,3,2] (.ac 6 [3,2] (.ac 9 [3,2] (.ac 10 [] (.st 11 .fin) .non) .non) .non) .non)) (.ac 8 [5,3,2] (.ac 4 [5,3,2] (.ac 6 [3,2] (.ac 9 [3,2] (.ac 10 [] (.st 11 .fin) .non) .non) .non) .non) .non)))) .nil))) .nil)))) .nil))) h (by kernel_rfl) (by kernel_rfl)
theorem F47_ok(t0:Sl×List Value)(t1:Sl)(w:World)(R:RV)(h:AllocP w (Obj.cells { toList:=Qy t0.fst::t0.2 } 26) fun b1 w2=>∃(x3:Sl×List Value),CellsN w2 b1 0 17 (Qy x3.fst::x3.2)/\Qv' 112 #[Value.agg { toList:=Qy x3.fst::x3.2 },Qy t1,Value.slice none 0 0] w2 fun t8 w7=>R (Value.bool t8) w7):Cw 47 #[Value.agg { toList:=Qy t0.fst::t0.2 },Qy t1] w R:=
 ckF Tryz.func47 .nil h (by kernel_rfl) (by kernel_rfl)
def F12k1(w4:World)(b1:Nat)(t1:Sl)(R:RV):Prop:=∃(x6:Sl×List Value),CellsN w4 b1 0 17 (Qy x6.fst::x6.2)/\Qv' 29 #[Value.agg { toList:=Qy x6.fst::x6.2 },Qy t1] w4 fun t11 w10=>IfB t11 (R (Value.bool true) w10) (∃(x12:Sl×List Value),CellsN w10 b1 0 17 (Qy x12.fst::x12.2)/\Qv' 31 #[Value.agg { toList:=Qy x12.fst::x12.2 },Qy t1] w10 fun t17 w16=>IfB (!t17) (∃(x18:Sl×List Value),CellsN w16 b1 0 17 (Qy x18.fst::x18.2)/\Qv' 46 #[Value.agg { toList:=Qy x18.fst::x18.2 },Qy t1] w16 fun t23 w22=>R (Value.bool !t23) w22) (IfB (decide (7<(t1.n:Int))) (∃(x24:Sl×List Value),CellsN w16 b1 0 17 (Qy x24.fst::x24.2)/\Qv' 46 #[Value.agg { toList:=Qy x24.fst::x24.2 },Qy t1] w16 fun t29 w28=>R (Value.bool !t29) w28) (∃(x30:Sl×List Value),CellsN w16 b1 0 17 (Qy x30.fst::x30.2)/\Qv' 33 #[Value.agg { toList:=Qy x30.fst::x30.2 },Qy t1] w16 fun t35 w34=>∃(x36:Sl×List Value),CellsN w34 b1 0 17 (Qy x36.fst::x36.2)/\Qv' 46 #[Value.agg { toList:=Qy x36.fst::x36.2 },Qy t1] w34 fun t41 w40=>IfB (!t41 == t35) (R (Value.bool false) w40) (IfB (decide (6<(t1.n:Int))) (R (Value.bool true) w40) (∃(x42:Sl×List Value),CellsN w40 b1 0 17 (Qy x42.fst::x42.2)/\Qv' 47 #[Value.agg { toList:=Qy x42.fst::x42.2 },Qy t1] w40 fun t47 w46=>R (Value.bool (t47 == t35)) w46)))))
theorem F12_ok(t0:Sl×List Value)(t1:Sl)(w:World)(R:RV)(h:AllocP w (Obj.cells { toList:=Qy t0.fst::t0.2 } 26) fun b1 w2=>Qv' 41 #[] w2 fun t5 w4=>IfB (!t5) (R (Value.bool false) w4) (F12k1 w4 b1 t1 R)):Cw 12 #[Value.agg { toList:=Qy t0.fst::t0.2 },Qy t1] w R:=
 ckF Tryz.func12 .nil h (by kernel_rfl) (by kernel_rfl)
abbrev zN(us:List Nat):List Int:=us.map fun k:Nat=>(k:Int)
def BegF(x:CatD)(hs:List Nd)(us:List Nat):Prop:=∃vs:List Nat,FairO x hs (zN (us++vs))
theorem zN_id(us:List Nat):(zN us).map Int.toNat=us:=by
 rw[List.map_map]
 exact(List.map_congr_left fun k _=>Int.toNat_natCast k).trans (List.map_id' us)
theorem zN_plc(us:List Nat)(k:Nat):plc (zN us) k=pos us k:=by unfold plc;rw[zN_id]
theorem BegF.full{x:CatD}{hs:List Nd}{us:List Nat}(hl:us.length=hs.length):BegF x hs us↔FairO x hs (zN us):=by
 constructor
 ·rintro⟨vs,h⟩
  have h1:=h.1.1.1
  rw[List.length_map,List.length_append] at h1
  have:vs=[]:=List.eq_nil_of_length_eq_zero (by omega)
  subst this
  rw[List.append_nil] at h;exact h
 ·intro h;exact⟨[],by rw[List.append_nil];exact h⟩
theorem BegF.back{x:CatD}{hs:List Nd}{us:List Nat}{i:Nat}(h:BegF x hs (us++[i])):BegF x hs us:=by
 obtain⟨vs,h⟩:=h
 exact⟨i::vs,by rw[List.append_assoc] at h;exact h⟩
theorem BegF.step{x:CatD}{hs:List Nd}{us:List Nat}(h:BegF x hs us)(hne:us.length<hs.length):∃i,i<hs.length/\i∉us/\(∀k,EdP hs i k->k∈us)/\BegF x hs (us++[i]):=by
 obtain⟨vs,h⟩:=h
 obtain⟨n1,n2,n3⟩:=h.1.1.nat
 rw[zN_id] at n1 n2 n3
 cases vs with
 | nil=>rw[List.append_nil] at n2;omega
 | cons i vs=>
  have hi:i∉us:=fun hm=>by
   have:=(List.nodup_append.1 n1).2.2 i hm i (List.mem_cons_self ..)
   exact this rfl
  refine⟨i,n3 i (by simp),hi,fun k hE=>?_,vs,by rw[List.append_assoc];exact h⟩
  have h1:=h.1.2 i k hE
  rw[zN_plc,zN_plc,pos_not _ hi] at h1
  obtain⟨hk,a,b,ga,gb,_⟩:=id hE
  have h2:=pos_get (full_mem n1 n3 n2 (get_lt gb))
  rw[List.getElem?_append_left h1] at h2
  exact List.mem_of_getElem? h2
theorem BegF.nil{x:CatD}{hs:List Nd}:BegF x hs []↔∃r,FairR x hs r:=by
 constructor
 ·rintro⟨vs,h⟩;exact⟨_,h.2⟩
 ·rintro⟨r,h⟩
  have tr:∀a b c:Nat,decide (r a<=r b)=true->decide (r b<=r c)=true->decide (r a<=r c)=true:=by
   intro a b c h1 h2;simp only[decide_eq_true_eq] at h1 h2 ⊢;omega
  have to:∀a b:Nat,(decide (r a<=r b)||decide (r b<=r a))=true:=by
   intro a b;simp only[Bool.or_eq_true,decide_eq_true_eq];omega
  let vs:=(List.range hs.length).mergeSort fun a b=>decide (r a<=r b)
  have hp:vs.Perm (List.range hs.length):=List.mergeSort_perm _ _
  have hw:vs.Pairwise fun a b=>decide (r a<=r b)=true:=List.pairwise_mergeSort tr to _
  have hm:∀i,i∈vs↔i<hs.length:=fun i=>by rw[hp.mem_iff,List.mem_range]
  have hnd:vs.Nodup:=hp.nodup_iff.2 List.nodup_range
  have hlen:vs.length=hs.length:=by rw[hp.length_eq,List.length_range]
  have hP:PermI hs.length (zN vs):=by
   refine⟨by rw[List.length_map,hlen],?_,fun k hk=>?_⟩
   ·rw[List.nodup_iff_pairwise_ne,List.pairwise_map]
    rw[List.nodup_iff_pairwise_ne] at hnd
    exact hnd.imp fun h e=>h (Int.ofNat.inj e)
   ·obtain⟨j,hj,rfl⟩:=List.mem_map.1 hk
    have:=(hm j).1 hj
    omega
  have lt:∀ {i j:Nat},i<hs.length->j<hs.length->(pos vs i<=pos vs j↔r i<=r j):=by
   intro i j hi hj
   have g1:=pos_get ((hm i).2 hi)
   have g2:=pos_get ((hm j).2 hj)
   obtain⟨l1,e1⟩:=List.getElem?_eq_some_iff.1 g1
   obtain⟨l2,e2⟩:=List.getElem?_eq_some_iff.1 g2
   have hw':=List.pairwise_iff_getElem.1 hw
   rcases Nat.lt_trichotomy (pos vs i) (pos vs j) with h'|h'|h'
   ·have:=hw' _ _ l1 l2 h'
    rw[e1,e2,decide_eq_true_eq] at this
    exact⟨fun _=>this,fun _=>by omega⟩
   ·have:i=j:=by rw[h',g2] at g1;exact(Option.some.inj g1).symm
    subst this
    exact⟨fun _=>Nat.le_refl _,fun _=>Nat.le_refl _⟩
   ·have h1:=hw' _ _ l2 l1 h'
    rw[e1,e2,decide_eq_true_eq] at h1
    refine⟨fun _=>by omega,fun h2=>?_⟩
    have:=h.inj i j hi hj (by omega)
    subst this;omega
  refine⟨vs,⟨hP,fun i k hE=>?_⟩,fun i j hi hj e=>hP.inj hi hj e,fun i k hE=>?_,fun o a b u no na ho ha hne hab h1 h2 hau=>?_⟩
  ·have h1:=h.keep i k hE
   obtain⟨hk,a,b,ga,gb,_⟩:=id hE
   have:=lt (get_lt ga) (get_lt gb)
   rw[List.nil_append,zN_plc,zN_plc];omega
  ·have h1:=h.keep i k hE
   obtain⟨hk,a,b,ga,gb,_⟩:=id hE
   have:=lt (get_lt ga) (get_lt gb)
   rw[List.nil_append,zN_plc,zN_plc];omega
  ·rw[List.nil_append,zN_plc,zN_plc] at h1 h2
   exact h.fair o a b u no na ho ha hne hab ((lt (get_lt ha) (get_lt ho)).1 h1) ((lt (get_lt ho) (hab.lt (get_lt ha))).1 h2) hau
abbrev fnT(b1 b2 b3:Nat):Nat×Array Value:=(110,#[.pointer (some ⟨b1,0,none⟩),.pointer (some ⟨b2,0,none⟩),.pointer (some ⟨b3,0,none⟩)])
def Caps(w:World)(v:CatV)(t:Sl)(b1 b2 b3:Nat):Prop:=∀W,Ext w W->W.cell? ⟨b1,0,none⟩=some (slV t)/\CellsN W b2 0 17 (cxC v)/\W.cell? ⟨b3,0,none⟩=some (.func (.func (fnT b1 b2 b3).1) #[] (fnT b1 b2 b3).2)
theorem Caps.ext{w w':World}{v:CatV}{t:Sl}{b1 b2 b3:Nat}(h:Caps w v t b1 b2 b3)(e:Ext w w'):Caps w' v t b1 b2 b3:=fun W e'=>h W (e.trans e')
theorem tryW{v:CatV}{x:CatD}{t:Sl}{hs:List Nd}{b1 b2 b3:Nat}(hM:HMay x hs)(hl:hs.length<=7):∀(d:Nat){w:World}{u:Sl}{us:List Nat},us.length+d=hs.length->CatM w v x->Hst w t hs->Caps w v t b1 b2 b3->Rd w u 1 ((zN us).map iv)->
  Cw 110 #[slV u,.pointer (some ⟨b1,0,none⟩),.pointer (some ⟨b2,0,none⟩),.pointer (some ⟨b3,0,none⟩)] w fun r w'=>∃b,r=.bool b/\(b=true↔BegF x hs us)/\Ext w w':=by
 intro d
 induction d with
 | zero=>
  intro w u us hd h hH hC hR
  have htn:=hH.n
  have hun:=rdI hR
  rw[List.length_map] at hun
  have hc:=hC w (Ch.refl _ _)
  refine F110_ok u b1 b2 b3 w _ ⟨t,hc.1,IfB.yes (by simp;omega) ⟨v,hc.2.1,t,hc.1,(c44 h hH (by omega) hR (by rw[List.length_map];omega)).use ?_⟩⟩
  rintro _ w7 ⟨r,rfl,hr,e7⟩
  refine⟨r,rfl,r,rfl,?_,e7⟩
  rw[hr,BegF.full (by omega)]
  exact⟨fun h=>h.2,fun h=>⟨hM,h⟩⟩
 | succ d ih=>
  intro w u us hd h hH hC hR
  have htn:=hH.n
  have hun:=rdI hR
  rw[List.length_map] at hun
  have hc:=hC w (Ch.refl _ _)
  refine F110_ok u b1 b2 b3 w _ ⟨t,hc.1,IfB.no (by simp;omega) ⟨t,hc.1,?_⟩⟩
  refine⟨fun m z W=>∃i:Nat,i<=hs.length/\m+i=hs.length/\z=(i:Int)/\(∀j,j<i->j∉us->(∀k,EdP hs j k->k∈us)->¬BegF x hs (us++[j]))/\Ext w W,⟨hs.length,0,Nat.zero_le _,rfl,rfl,fun j hj=>absurd hj (Nat.not_lt_zero _),Ch.refl _ _⟩,?_⟩
  rintro m _ W g ⟨i,hi,hmi,rfl,hall,eW⟩
  unfold F110j1
  refine IfB.dec (fun hlt=>?_) fun hge=>?_
  ·have hi':i<hs.length:=by omega
   have hwi:IntKind.i64.wrap ((i:Int)+1)=((i+1:Nat):Int):=by rw[wrap_of (by omega) (by omega)];rfl
   have next:∀ {U:World},Ext w U->(i∉us->(∀k,EdP hs i k->k∈us)->¬BegF x hs (us++[i]))->([]:List Nat)=[]/\∃b,b<m/\∃i':Nat,i'<=hs.length/\b+i'=hs.length/\IntKind.i64.wrap ((i:Int)+1)=(i':Int)/\(∀j,j<i'->j∉us->(∀k,EdP hs j k->k∈us)->¬BegF x hs (us++[j]))/\Ext w U:=fun e hh=>⟨rfl,m-1,by omega,i+1,hi',by omega,hwi,fun j hj=>by
    rcases Nat.lt_or_ge j i with h'|h'
    ·exact hall j h'
    ·rw[show j=i by omega];exact hh,e⟩
   have hin:∀ {k:Nat},(k:Int)∈zN us↔k∈us:=fun{k}=>by
    rw[List.mem_map]
    exact⟨fun⟨j,hj,e⟩=>by rw[<-show j=k by omega];exact hj,fun hk=>⟨k,hk,rfl⟩⟩
   refine(c107 (hR.ext eW) (by rw[List.length_map];omega) (i:Int)).use ?_
   rintro _ _ ⟨rfl,rfl⟩
   refine⟨_,rfl,IfB.dec (fun h1=>next eW fun h2=>absurd (hin.1 h1) h2) fun h1=>?_⟩
   have h1:i∉us:=fun h'=>h1 (hin.2 h')
   refine⟨fun m z V=>∃k:Nat,k<=i/\m+k=i/\z=(k:Int)/\(∀k',k'<k->EdP hs i k'->k'∈us)/\Ext w V,⟨i,0,Nat.zero_le _,rfl,rfl,fun k' hk=>absurd hk (Nat.not_lt_zero _),eW⟩,?_⟩
   rintro m2 _ V g2 ⟨k,hk,hmk,rfl,hpre,eV⟩
   unfold F110j2
   refine IfB.dec (fun hlk=>?_) fun hgk=>?_
   ·have hk':k<i:=by omega
    have hwk:IntKind.i64.wrap ((k:Int)+1)=((k+1:Nat):Int):=by rw[wrap_of (by omega) (by omega)];rfl
    refine⟨t,(hC V eV).1,(c103 (hH.ext eV) (i:Int) (k:Int)).use ?_⟩
    rintro _ w30 ⟨r,rfl,hr,e30⟩
    rw[Int.toNat_natCast,Int.toNat_natCast] at hr
    have x30:=eV.trans e30
    have next2:(EdP hs i k->k∈us)->([]:List Nat)=[]/\∃b,b<m2/\∃k':Nat,k'<=i/\b+k'=i/\IntKind.i64.wrap ((k:Int)+1)=(k':Int)/\(∀q,q<k'->EdP hs i q->q∈us)/\Ext w w30:=fun hh=>⟨rfl,m2-1,by omega,k+1,hk',by omega,hwk,fun q hq hE=>by
     rcases Nat.lt_or_ge q k with h'|h'
     ·exact hpre q h' hE
     ·rw[show q=k by omega] at hE ⊢;exact hh hE,x30⟩
    refine⟨r,rfl,IfB.intro (fun h3=>?_) fun h3=>next2 fun hE=>?_⟩
    ·obtain⟨_,_,hE⟩:=hr.1 h3
     refine(c107 (hR.ext x30) (by rw[List.length_map];omega) (k:Int)).use ?_
     rintro _ _ ⟨rfl,rfl⟩
     refine⟨_,rfl,IfB.intro (fun h4=>next x30 fun _ h5=>?_) fun h4=>next2 fun _=>?_⟩
     ·have h4:¬(k:Int)∈zN us:=by simpa using h4
      exact absurd (hin.2 (h5 k hE)) h4
     ·have h4:(k:Int)∈zN us:=by simpa using h4
      exact hin.1 h4
    ·rw[hr.2 ⟨by omega,by omega,hE⟩] at h3;cases h3
   ·have hki:k=i:=by omega
    subst hki
    have hrdy:∀q,EdP hs k q->q∈us:=fun q hE=>hpre q hE.1 hE
    have ed:=extDrew V
    have xV:=eV.trans ed
    have call:∀ {s:Sl}{U:World},OwS U s 1 ((zN us).map iv++[iv (k:Int)])->Ext w U->Cx 110 #[slV s,.pointer (some ⟨b1,0,none⟩),.pointer (some ⟨b2,0,none⟩),.pointer (some ⟨b3,0,none⟩)] U fun r w48=>∃b,r=.bool b/\IfB b (∃b,Value.bool true=.bool b/\(b=true↔BegF x hs us)/\Ext w w48) (([]:List Nat)=[]/\∃b,b<m/\∃i':Nat,i'<=hs.length/\b+i'=hs.length/\IntKind.i64.wrap ((k:Int)+1)=(i':Int)/\(∀j,j<i'->j∉us->(∀k,EdP hs j k->k∈us)->¬BegF x hs (us++[j]))/\Ext w w48):=fun{s U} ho e=>by
     have ho':Rd U s 1 ((zN (us++[k])).map iv):=by
      rw[show (zN (us++[k])).map iv=(zN us).map iv++[iv (k:Int)] by unfold zN;rw[List.map_append,List.map_append];rfl];exact ho.rd
     refine(ih (by rw[List.length_append,List.length_singleton];omega) (h.ext e) (hH.ext e) (hC.ext e) ho').use ?_
     rintro _ w48 ⟨r,rfl,hr,e48⟩
     have x48:=e.trans e48
     refine⟨r,rfl,IfB.intro (fun h5=>⟨true,rfl,⟨fun _=>(hr.1 h5).back,fun _=>rfl⟩,x48⟩) fun h5=>next x48 fun _ _ hB=>?_⟩
     rw[hr.2 hB] at h5;cases h5
    refine⟨fnT b1 b2 b3,(hC _ xV).2.2,(c111 (hR.ext xV) (by rw[List.length_map];omega)).use ?_,by decide,fun b51 w52 a52=>?_⟩
    ·rintro _ w40 ⟨s41,rfl,ho,e40,hb40⟩
     have x40:=xV.trans e40
     refine⟨s41,rfl,(hC _ x40).2.2,by decide,fun b42 w43 a43=>?_⟩
     have e43:Ext w40 w43:=a43.ch _
     have x43:=x40.trans e43
     have hsn:=ho.len
     rw[List.length_map,List.length_map,Nat.mul_one] at hsn
     have z40:=xV.size;have z2:=x40.size
     refine⟨(hC _ x43).2.2,(ho.ext e43).lit (new:=[iv (k:Int)]) a43.new rfl (by intro v hv;rw[List.mem_singleton.1 hv];rfl) rfl rfl (by omega) (by decide) fun s45 w46 ho46 hn46 hC46 hb46=>?_⟩
     have x46:Ext w w46:=x43.chN hC46 fun j hj=>by have:=hb40 j hj;omega
     exact⟨(hC _ x46).2.2,call ho46 x46⟩
    ·have e52:Ext V.drew w52:=a52.ch _
     have x52:=xV.trans e52
     refine⟨(hC _ x52).2.2,(c111 (hR.ext x52) (by rw[List.length_map];omega)).use ?_⟩
     rintro _ w54 ⟨s55,rfl,ho,e54,hb54⟩
     have x54:=x52.trans e54
     have hsn:=ho.len
     rw[List.length_map,List.length_map,Nat.mul_one] at hsn
     have z52:=x52.size
     refine⟨s55,rfl,(hC _ x54).2.2,ho.lit (new:=[iv (k:Int)]) (e54.at a52.new) rfl (by intro v hv;rw[List.mem_singleton.1 hv];rfl) rfl rfl (by omega) (by decide) fun s57 w58 ho58 hn58 hC58 hb58=>?_⟩
     have x58:Ext w w58:=x54.chN hC58 fun j hj=>by have:=hb54 j hj;omega
     exact⟨(hC _ x58).2.2,call ho58 x58⟩
  ·have hii:i=hs.length:=by omega
   subst hii
   refine⟨false,rfl,⟨fun h=>(by cases h),fun hB=>?_⟩,eW⟩
   obtain⟨j,h1,h2,h3,h4⟩:=hB.step (by omega)
   exact absurd h4 (hall j h1 h2 h3)
theorem c46{w:World}{v:CatV}{x:CatD}{t:Sl}{hs:List Nd}(h:CatM w v x)(hH:Hst w t hs):
  Cw 46 #[cxV v,slV t] w fun r w'=>∃b,r=.bool b/\(b=true↔GoodP x hs/\hs.length<=7)/\Ext w w':=by
 have htn:=hH.n
 refine F46_ok v t w _ fun b1 w2 a2 b3 w4 a4=>?_
 have e2:Ext w w2:=a2.ch _
 have e4:Ext w2 w4:=a4.ch _
 have E4:=e2.trans e4
 have no:∀ {W:World},¬(GoodP x hs/\hs.length<=7)->Ext w W->∃b,Value.bool false=.bool b/\(b=true↔GoodP x hs/\hs.length<=7)/\Ext w W:=fun h e=>⟨false,rfl,⟨fun h=>(by cases h),fun h'=>absurd h' h⟩,e⟩
 refine⟨v,cxN h a2.new e4,t,box1 a4.new (Ch.refl _ _),(c84 (h.ext E4) (hH.ext E4)).use ?_⟩
 rintro _ w10 ⟨m,rfl,hm,e10⟩
 have E10:=E4.trans e10
 refine⟨m,rfl,IfB.intro (fun h1=>no (fun hh=>?_) E10) fun h1=>⟨t,box1 a4.new e10,IfB.dec (fun h2=>no (fun hh=>by omega) E10) fun h2=>?_⟩⟩
 ·rw[hm.2 hh.1.1] at h1;cases h1
 have hM:=hm.1 (by simpa using h1)
 have hl:hs.length<=7:=by omega
 intro b13 w14 a14
 refine⟨rfl,store_all (vs:=[.func (.func (fnT b3 b1 b13).1) #[] (fnT b3 b1 b13).2]) a14.new rfl (by intro v hv;rw[List.mem_singleton.1 hv];rfl) fun w15 u15=>?_⟩
 have e15:Ext w10 w15:=Ext.fresh a14 u15
 have E15:=E10.trans e15
 have hC:Caps w15 v t b3 b1 b13:=fun W e=>⟨box1 a4.new (e10.trans (e15.trans e)),cxN h a2.new (e4.trans (e10.trans (e15.trans e))),box1 u15.new e⟩
 have hR0:Rd w15 ⟨none,0,0⟩ 1 ((zN []).map iv):=(OwS.nil w15 1).rd
 have hcall:=tryW (b1:=b3) (b2:=b1) (b3:=b13) (us:=[]) hM hl hs.length (Nat.zero_add _) (h.ext E15) (hH.ext E15) hC hR0
 refine⟨fnT b3 b1 b13,box1 u15.new (Ch.refl _ _),hcall.use ?_⟩
 rintro _ w18 ⟨r,rfl,hr,e18⟩
 refine⟨r,rfl,r,rfl,?_,E15.trans e18⟩
 rw[hr,BegF.nil]
 exact⟨fun h=>⟨⟨hM,h⟩,hl⟩,fun h=>h.1.2⟩
theorem ordersI{w:World}{u:Sl}{us:List Int}{n:Int}{C:World->Prop}{K:Sl->World->Prop}(hR:Rd w u 1 (us.map iv))(hl:us.length<=1000)(hC:∀W,Ext w W->C W)(hK:∀s W,OwS W s 1 (us.map iv++[iv n])->Ext w W->K s W):
  (0*1<=16777216/\AllocP w (.cells #[] 3) fun b7 w8=>C w8/\
   (∃l9,ReadC w8 u.1 (u.2*1) l9/\AppendP tt3 3 w8 (some ⟨b7,0,none⟩) 0 0 u.2 l9 fun s10 w11=>C w11/\1*1<=16777216/\AllocP w11 (.cells #[iv n] 3) fun b12 w13=>C w13/\
    ∃l14,ReadC w13 (some ⟨b12,0,none⟩) (1*1) l14/\AppendP tt3 3 w13 s10.1 s10.2 s10.3 1 l14 fun s15 w16=>C w16/\K s15 w16)/\
   1*1<=16777216/\AllocP w8 (.cells #[iv n] 3) fun b92 w93=>C w93/\∃l94,ReadC w93 u.1 (u.2*1) l94/\AppendP tt3 3 w93 (some ⟨b7,0,none⟩) 0 0 u.2 l94 fun s95 w96=>C w96/\
    ∃l97,ReadC w96 (some ⟨b92,0,none⟩) (1*1) l97/\AppendP tt3 3 w96 s95.1 s95.2 s95.3 1 l97 fun s98 w99=>C w99/\K s98 w99)/\
  1*1<=16777216/\AllocP w (.cells #[iv n] 3) fun b175 w176=>C w176/\0*1<=16777216/\AllocP w176 (.cells #[] 3) fun b177 w178=>C w178/\
   ∃l179,ReadC w178 u.1 (u.2*1) l179/\AppendP tt3 3 w178 (some ⟨b177,0,none⟩) 0 0 u.2 l179 fun s180 w181=>C w181/\
    ∃l182,ReadC w181 (some ⟨b175,0,none⟩) (1*1) l182/\AppendP tt3 3 w181 s180.1 s180.2 s180.3 1 l182 fun s183 w184=>C w184/\K s183 w184:=by
 have hn:=rdI hR
 have emp:∀ {W W':World}{b:Nat},IsAlloc W (.cells #[] 3 (0,0)) b W'->OwS W' ⟨some ⟨b,0,none⟩,0,0⟩ 1 []:=fun a=>OwS.new (cs:=[]) (n:=0) a rfl
 have bkE:∀ {b:Nat},∀i∈blk (⟨some ⟨b,0,none⟩,0,0⟩:Sl),i=b:=fun i hi=>by simpa [blk] using hi
 have one:One (us.map iv):=by intro z hz;obtain⟨k,_,rfl⟩:=List.mem_map.1 hz;rfl
 have app1:∀ {W:World}{s:Sl}{K:Sl->World->Prop},OwS W s 1 []->s.n=0->Ext w W->(∀s' W',OwS W' s' 1 (us.map iv)->s'.n=us.length->Ch (fun i=>i∈blk s) W W'->(∀i∈blk s',i∈blk s\/W.heap.size<=i)->K s' W')->∃l,ReadC W u.1 (u.2*1) l/\AppendP tt3 3 W s.1 s.2 s.3 u.2 l K:=fun{W s K} ho hs e hK=>by
  refine⟨_,(hR.ext e).2,ho.append (cnt:=u.n) rfl rfl hR.1 one ⟨by omega,?_⟩ fun s' W' h1 h2 h3 h4 _=>hK s' W' h1 (by omega) h3 h4⟩
  show 2*(s.n+u.n)*8<=_
  omega
 have app2:∀ {W:World}{s:Sl}{cs:List Value}{b:Nat}{T:TypeId}{K:Sl->World->Prop},OwS W s 1 cs->s.n<=1000->W.heap[b]? =some (.cells #[iv n] T (0,0))->(∀s' W',OwS W' s' 1 (cs++[iv n])->Ch (fun i=>i∈blk s) W W'->K s' W')->∃l,ReadC W (some ⟨b,0,none⟩) (1*1) l/\AppendP tt3 3 W s.1 s.2 s.3 1 l K:=fun{W s cs b T K} ho hs hb hK=>
  ho.lit (new:=[iv n]) hb rfl (by intro v hv;rw[List.mem_singleton.1 hv];rfl) rfl rfl (by omega) (by decide) fun s' W' h1 h2 h3 h4=>hK s' W' h1 h3
 refine⟨⟨by decide,fun b7 w8 a8=>?_⟩,by decide,fun b175 w176 a176=>⟨hC _ (a176.ch _),by decide,fun b177 w178 a178=>?_⟩⟩
 ·have e8:Ext w w8:=a8.ch _
  have p8:=a8.here
  refine⟨hC _ e8,?_,by decide,fun b92 w93 a93=>?_⟩
  ·refine app1 (s:=⟨some ⟨b7,0,none⟩,0,0⟩) (emp a8) rfl e8 fun s10 w11 ho hn hCh hb=>?_
   have e11:Ext w w11:=e8.chN hCh fun i hi=>by have:=bkE i hi;omega
   refine⟨hC _ e11,by decide,fun b12 w13 a13=>?_⟩
   have e13:Ext w11 w13:=a13.ch _
   refine⟨hC _ (e11.trans e13),app2 (ho.ext e13) (by omega) a13.new fun s15 w16 ho' hC'=>?_⟩
   have e16:Ext w w16:=(e11.trans e13).chN hC' fun i hi=>by
    rcases hb i hi with h|h
    ·have:=bkE i h;omega
    ·have:=e8.size;omega
   exact⟨hC _ e16,hK _ _ ho' e16⟩
  ·have e93:Ext w8 w93:=a93.ch _
   have z8:=e8.size;have z93:=e93.size
   refine⟨hC _ (e8.trans e93),app1 (s:=⟨some ⟨b7,0,none⟩,0,0⟩) ((emp a8).ext e93) rfl (e8.trans e93) fun s95 w96 ho hn hCh hb=>?_⟩
   have e96:Ext w w96:=(e8.trans e93).chN hCh fun i hi=>by have:=bkE i hi;omega
   have hb92:=hCh.at a93.new fun hi=>by have:=bkE _ hi;have:=a93.here;have:=a8.size;omega
   refine⟨hC _ e96,app2 ho (by omega) hb92 fun s98 w99 ho' hC'=>?_⟩
   have e99:Ext w w99:=e96.chN hC' fun i hi=>by
    rcases hb i hi with h|h
    ·have:=bkE i h;omega
    ·omega
   exact⟨hC _ e99,hK _ _ ho' e99⟩
 ·have e176:Ext w w176:=a176.ch _
  have e178:Ext w176 w178:=a178.ch _
  have p178:=a178.here
  have z176:=a176.size
  have p176:=a176.here
  have z178:=e178.size
  refine⟨hC _ (e176.trans e178),app1 (s:=⟨some ⟨b177,0,none⟩,0,0⟩) (emp a178) rfl (e176.trans e178) fun s180 w181 ho hn hCh hb=>?_⟩
  have e181:Ext w w181:=(e176.trans e178).chN hCh fun i hi=>by have:=bkE i hi;omega
  have hb175:=hCh.at (e178.at a176.new) fun hi=>by have:=bkE _ hi;omega
  refine⟨hC _ e181,app2 ho (by omega) hb175 fun s183 w184 ho' hC'=>?_⟩
  have e184:Ext w w184:=e181.chN hC' fun i hi=>by
   rcases hb i hi with h|h
   ·have:=bkE i h;omega
   ·omega
  exact⟨hC _ e184,hK _ _ ho' e184⟩
theorem c112{v:CatV}{x:CatD}{t:Sl}{hs:List Nd}(hM:HMay x hs)(hl:hs.length<=7):∀(d:Nat){w:World}{u:Sl}{us:List Nat},us.length+d=hs.length->CatM w v x->Hst w t hs->Rd w u 1 ((zN us).map iv)->
  Cw 112 #[cxV v,slV t,slV u] w fun r w'=>∃b,r=.bool b/\(b=true↔BegF x hs us)/\Ext w w':=by
 intro d
 induction d with
 | zero=>
  intro w u us hd h hH hR
  have htn:=hH.n
  have hun:=rdI hR
  rw[List.length_map] at hun
  refine F112_ok v t u w _ fun b1 w2 a2=>IfB.yes (by simp;omega) ?_
  have e2:Ext w w2:=a2.ch _
  refine⟨v,cxN h a2.new (Ch.refl _ _),(c45 (h.ext e2) (hH.ext e2) hM (hR.ext e2) (by rw[List.length_map];omega)).use ?_⟩
  rintro _ w7 ⟨r,rfl,hr,e7⟩
  exact⟨r,rfl,r,rfl,by rw[hr,BegF.full (by omega)],e2.trans e7⟩
 | succ d ih=>
  intro w u us hd h hH hR
  have htn:=hH.n
  have hun:=rdI hR
  rw[List.length_map] at hun
  refine F112_ok v t u w _ fun b1 w2 a2=>IfB.no (by simp;omega) ?_
  have e2:Ext w w2:=a2.ch _
  refine⟨fun m z W=>∃i:Nat,i<=hs.length/\m+i=hs.length/\z=(i:Int)/\(∀j,j<i->j∉us->¬BegF x hs (us++[j]))/\Ext w2 W,⟨hs.length,0,Nat.zero_le _,rfl,rfl,fun j hj=>absurd hj (Nat.not_lt_zero _),Ch.refl _ _⟩,?_⟩
  rintro m _ W g ⟨i,hi,hmi,rfl,hall,eW⟩
  refine IfB.dec (fun hlt=>?_) fun hge=>?_
  ·have hi':i<hs.length:=by omega
   have hwi:IntKind.i64.wrap ((i:Int)+1)=((i+1:Nat):Int):=by rw[wrap_of (by omega) (by omega)];rfl
   have next:∀ {U:World},Ext w2 U->(i∉us->¬BegF x hs (us++[i]))->([]:List Nat)=[]/\∃b,b<m/\∃i':Nat,i'<=hs.length/\b+i'=hs.length/\IntKind.i64.wrap ((i:Int)+1)=(i':Int)/\(∀j,j<i'->j∉us->¬BegF x hs (us++[j]))/\Ext w2 U:=fun e hh=>⟨rfl,m-1,by omega,i+1,hi',by omega,hwi,fun j hj=>by
    rcases Nat.lt_or_ge j i with h'|h'
    ·exact hall j h'
    ·rw[show j=i by omega];exact hh,e⟩
   refine⟨fun m z V=>∃k:Nat,k<=us.length/\m+k=us.length/\z=(decide (i∉us.take k),(k:Int))/\Ext w2 V,⟨us.length,0,Nat.zero_le _,rfl,(by simp),eW⟩,?_⟩
   rintro m2 _ V g2 ⟨k,hk,hmk,rfl,eV⟩
   unfold F112j2
   refine IfB.dec (fun hlk=>?_) fun hgk=>?_
   ·dsimp only at hlk
    have hk':k<us.length:=by omega
    have hwk:IntKind.i64.wrap ((k:Int)+1)=((k+1:Nat):Int):=by rw[wrap_of (by omega) (by omega)];rfl
    have gk:us[k]? =some us[k]:=List.getElem?_eq_getElem hk'
    generalize us[k]=q at gk
    have htk:∀j,j∈us.take (k+1)↔j∈us.take k\/j=q:=fun j=>by
     rw[List.take_add_one,gk,List.mem_append];simp
    refine IfB.dec (fun h1=>?_) fun h1=>⟨(by trivial),m2-1,by omega,k+1,hk',by omega,?_,eV⟩
    ·obtain⟨p,o,hp,hc⟩:=rdI_get (hR.ext (e2.trans eV)) (show (zN us)[k]? =some (q:Int) by rw[List.getElem?_map,gk];rfl)
     refine⟨p,o,hp,⟨by dsimp only;omega,by dsimp only;omega⟩,(q:Int),by dsimp only;rw[Int.toNat_natCast];exact hc,(by trivial),m2-1,by omega,k+1,hk',by omega,?_,eV⟩
     dsimp only
     rw[hwk]
     congr 1
     rw[Bool.eq_iff_iff]
     simp only[bne_iff_ne,ne_eq,decide_eq_true_eq,htk]
     exact⟨fun h2 h3=>h3.elim h1 fun h4=>h2 (by rw[h4]),fun h2 h3=>h2 (.inr (by omega))⟩
    ·dsimp only
     rw[hwk]
     congr 1
     symm
     rw[decide_eq_false_iff_not]
     exact fun h2=>h1 fun h3=>h2 ((htk i).2 (.inl h3))
   ·dsimp only at hgk
    have hku:k=us.length:=by omega
    subst hku
    have ed:=extDrew V
    have xV:=eV.trans ed
    have EV:=e2.trans xV
    rw[List.take_length]
    refine IfB.dec (fun h1=>?_) fun h1=>?_
    ·unfold F112k1
     refine⟨v,cxN h a2.new xV,ordersI (C:=fun U=>CellsN U b1 0 17 (cxC v)) (hR.ext EV) (by rw[List.length_map];omega) (fun U e=>cxN h a2.new (xV.trans e)) fun s U ho e=>?_⟩
     have E:=EV.trans e
     have ho':Rd U s 1 ((zN (us++[i])).map iv):=by
      rw[show (zN (us++[i])).map iv=(zN us).map iv++[iv (i:Int)] by unfold zN;rw[List.map_append,List.map_append];rfl];exact ho.rd
     refine(ih (by rw[List.length_append,List.length_singleton];omega) (h.ext E) (hH.ext E) ho').use ?_
     rintro _ w48 ⟨r,rfl,hr,e48⟩
     have x48:=(xV.trans e).trans e48
     refine⟨r,rfl,IfB.intro (fun h5=>⟨true,rfl,⟨fun _=>(hr.1 h5).back,fun _=>rfl⟩,e2.trans x48⟩) fun h5=>next x48 fun _ hB=>?_⟩
     rw[hr.2 hB] at h5;cases h5
    ·have nx:=next xV fun h2=>absurd h2 h1
     exact⟨⟨nx,nx⟩,nx⟩
  ·have hii:i=hs.length:=by omega
   subst hii
   refine⟨false,rfl,⟨fun h=>(by cases h),fun hB=>?_⟩,e2.trans eW⟩
   obtain⟨j,h1,h2,h3,h4⟩:=hB.step (by omega)
   exact absurd h4 (hall j h1 h2)
theorem c47{w:World}{v:CatV}{x:CatD}{t:Sl}{hs:List Nd}(h:CatM w v x)(hH:Hst w t hs)(hM:HMay x hs)(hl:hs.length<=7):
  Cw 47 #[cxV v,slV t] w fun r w'=>∃b,r=.bool b/\(b=true↔GoodP x hs)/\Ext w w':=by
 refine F47_ok v t w _ fun b1 w2 a2=>?_
 have e2:Ext w w2:=a2.ch _
 have hR0:Rd w2 ⟨none,0,0⟩ 1 ((zN []).map iv):=(OwS.nil w2 1).rd
 have hcall:=c112 (us:=[]) hM hl hs.length (Nat.zero_add _) (h.ext e2) (hH.ext e2) hR0
 refine⟨v,cxN h a2.new (Ch.refl _ _),hcall.use ?_⟩
 rintro _ w18 ⟨r,rfl,hr,e18⟩
 refine⟨r,rfl,r,rfl,?_,e2.trans e18⟩
 rw[hr,BegF.nil]
 exact⟨fun h=>⟨hM,h⟩,fun h=>h.2⟩
theorem witnessSearch(w:World){x:tyCat.den}{cs:Array Value}(h0:rep (fun _=>True) w tyCat x cs.toList){l:List tyNd.den}{c1:Value}(h1:rep (fun _=>True) w (.sl tyNd) l [c1]):
  Cw 12 #[.agg cs,c1] w fun v w'=>v=.bool true/\Ext w w':=by
 obtain⟨v,e0,hC⟩:=rep_cat h0
 obtain⟨t,hs,e1,hH⟩:=rep_hist h1
 simp only[List.cons.injEq,and_true] at e1
 subst e1
 rw[arr_eq e0]
 have htn:=hH.n
 refine F12_ok v t w _ fun b1 w2 a2=>(c41 w2).use ?_
 rintro _ w4 ⟨rfl,e4⟩
 have e2:Ext w w2:=a2.ch _
 have E4:=e2.trans e4
 refine⟨true,rfl,IfB.no rfl ?_⟩
 unfold F12k1
 refine⟨v,cxN hC a2.new e4,(c29 (hC.ext E4) (hH.ext E4)).use ?_⟩
 rintro _ w10 ⟨g,rfl,hg,e10⟩
 have x10:=e4.trans e10
 have E10:=E4.trans e10
 refine⟨g,rfl,IfB.intro (fun _=>⟨rfl,E10⟩) fun hg1=>?_⟩
 obtain⟨hS,hl⟩:=hg hg1
 refine⟨v,cxN hC a2.new x10,(c31 (hC.ext E10) hS).use ?_⟩
 rintro _ w16 ⟨m0,rfl,hm0,e16⟩
 have x16:=x10.trans e16
 have E16:=E10.trans e16
 have hS16:=hS.ext e16
 refine⟨m0,rfl,IfB.intro (fun hm1=>?_) fun hm1=>?_⟩
 ·refine⟨v,cxN hC a2.new x16,(c46 (hC.ext E16) hS16).use ?_⟩
  rintro _ w22 ⟨q,rfl,hq,e22⟩
  have hqf:q=false:=by
   cases q with
   | false=>rfl
   | true=>
    have:=hm0.2 (hq.1 rfl).1.1
    rw[this] at hm1;cases hm1
  subst hqf
  exact⟨false,rfl,rfl,E16.trans e22⟩
 have hM:=hm0.1 (by simpa using hm1)
 refine IfB.dec (fun h7=>?_) fun h7=>?_
 ·refine⟨v,cxN hC a2.new x16,(c46 (hC.ext E16) hS16).use ?_⟩
  rintro _ w22 ⟨q,rfl,hq,e22⟩
  have hqf:q=false:=by
   cases q with
   | false=>rfl
   | true=>have:=(hq.1 rfl).2;omega
  subst hqf
  exact⟨false,rfl,rfl,E16.trans e22⟩
 have hl7:hs.length<=7:=by have:=hS16.n;omega
 refine⟨v,cxN hC a2.new x16,(c33 (hC.ext E16) hS16).use ?_⟩
 rintro _ w34 ⟨g2,rfl,hg2,e34⟩
 have x34:=x16.trans e34
 have E34:=E16.trans e34
 have hS34:=hS16.ext e34
 refine⟨g2,rfl,v,cxN hC a2.new x34,(c46 (hC.ext E34) hS34).use ?_⟩
 rintro _ w40 ⟨q,rfl,hq,e40⟩
 have x40:=x34.trans e40
 have E40:=E34.trans e40
 have hqg:q=g2:=by
  rw[Bool.eq_iff_iff,hq,hg2]
  exact⟨fun h=>h.1,fun h=>⟨h,hl7⟩⟩
 subst hqg
 refine⟨q,rfl,IfB.no (by cases q<;>rfl) (IfB.dec (fun _=>⟨rfl,E40⟩) fun _=>?_)⟩
 refine⟨v,cxN hC a2.new x40,(c47 (hC.ext E40) (hS34.ext e40) hM hl7).use ?_⟩
 rintro _ w46 ⟨r,rfl,hr,e46⟩
 have:r=q:=by rw[Bool.eq_iff_iff,hr,hg2]
 subst this
 exact⟨r,rfl,by cases r<;>rfl,E40.trans e46⟩
end Go.Proofs.YtlpgdngcgbeegaaGreat.Gx
namespace Go.Proofs.YtlpgdngcgbeegaaGreat.witnessSearch
open Go.ChangeShapes Go.WideShapes Go.ChangeAt Go.RowKit
open Go.ChangeMaps (open_string shut_string)
set_option linter.unusedVariables false
theorem own:ownKnob Tryz.prog.godebug=none:=by kernel_rfl
set_option maxRecDepth 100000 in
theorem lifted(os:Os)(started:os.Started)(H:Type)(enc:TypeId×Value->H):
  ReturnsInHanded {} Tryz.checked os 12 .any (Rows.witnessSearchSpec.pre6 enc Tryz.prog Tryz.f12 Rows.witnessSearchRow.domain false) (Rows.witnessSearchSpec.post enc Tryz.prog Tryz.f12 false true false false):=by
 refine returnsInHanded_of_change (C:=Tryz.checked) own started (by kernel_rfl) Tryz.func12
  (ChangeSpec.witness6 (enc:=enc) (C:=Tryz.checked) false ⟨#[],#[.agg #[.slice none 0 0,.int .i64 0,.int .i64 0,.int .i64 0,.int .i64 0,.int .i64 0,.int .i64 0,.int .i64 0,.int .i64 0,.int .i64 0,.int .i64 0,.int .i64 0,.int .i64 0,.int .i64 0,.int .i64 0,.int .i64 0,.int .i64 0],.slice none 0 0],[]⟩ 8 (by kernel_rfl) (by kernel_rfl) (by kernel_rfl) (by kernel_rfl)) ?_
 intro W base args ds gs before hval0 hW hcnd _
 have hval:∀(j:Nat) t v,Tryz.f12.params[j]? =some t->args[j]? =some v->Value.okWide Tryz.prog W .any base t v:=hval0
 have hW':=hW
 have hlt:=hW.lt
 obtain⟨p,q,hA0,hV,rfl,hfz,hnd⟩:=hW
 have hA:DataW.TrodAll enc Tryz.prog W 0 (fun _=>true) true Tryz.f12.params.toList args.toList ds p:=hA0
 have hpar:Tryz.f12.params=#[26,39]:=rfl
 rw[hpar] at hA hval
 obtain⟨v0,vs0,d0,ds0,p0,q0,hargs,rfl,rfl,h0,r0⟩:=trodAll_cons hA
 obtain⟨v1,vs1,d1,ds1,p1,q1,rfl,rfl,rfl,h1,r1⟩:=trodAll_cons r0
 obtain⟨rfl,rfl,rfl⟩:=trodAll_nil r1
 obtain rfl:args=#[v0,v1]:=by cases args;simp_all
 obtain⟨rfl,rfl⟩:=trodVars_none hV
 clear hA0 hval0
 obtain⟨x0,e0⟩:=Gx.open_arg (d:=12) (ty:=(.pair (.sl (.pair .str (.pair (.int .i64) (.pair (.sl (.pair (.sl (.pair (.int .i64) (.pair (.int .i64) (.pair (.int .i64) (.pair (.int .i64) (.pair (.pair (.int .i64) (.int .i64)) (.pair (.pair (.int .i64) (.int .i64)) (.int .i64)))))))) (.sl (.pair (.pair (.int .i64) (.int .i64)) (.pair (.pair (.int .i64) (.int .i64)) .bool))))) (.pair (.sl (.pair (.sl (.pair (.int .i64) (.pair (.int .i64) (.pair (.int .i64) (.pair (.int .i64) (.pair (.pair (.int .i64) (.int .i64)) (.pair (.pair (.int .i64) (.int .i64)) (.int .i64)))))))) (.sl (.pair (.pair (.int .i64) (.int .i64)) (.pair (.pair (.int .i64) (.int .i64)) .bool))))) .bool))))) (.arr 4 (.arr 4 (.int .i64))))) (by kernel_rfl) h0
 have f0:v0=.agg v0.cells:=Gx.val_agg (hval 0 26 v0 rfl rfl) (.inl ⟨_,Tryz.underlying26⟩)
 obtain⟨x1,e1⟩:=Gx.open_arg (d:=12) (ty:=(.sl (.pair (.int .i64) (.pair (.int .i64) (.pair (.int .i64) (.pair .bool (.pair (.sl (.pair (.int .i64) (.int .i64))) (.sl (.pair (.int .i64) (.int .i64)))))))))) (by kernel_rfl) h1
 obtain⟨c1,g1⟩:∃c,v1.cells.toList=[c]:=List.length_eq_one_iff.1 (Gx.rep_len e1)
 have f1:v1=c1:=Gx.val_of_cells (hval 1 39 v1 rfl rfl) (fun fs n e=>by rw[Tryz.underlying39];exact⟨by simp,by simp⟩) g1
 rw[g1] at e1
 have call:Calls Tryz.prog 12 #[v0,v1] W fun e w'=>e=.returned (.bool true)/\Below W.heap.size W w':=by
  rw[f0,f1]
  refine(Gx.witnessSearch W e0 e1).calls.mono ?_
  rintro e w' ⟨v,rfl,rfl,hx⟩
  exact⟨rfl,hx.below⟩
 refine call.mono fun e W' ⟨he,hg⟩=>?_
 subst he
 have b1:∀sp:Nat->Bool,(∀x∈p1,sp x.block=true)->DataW.Trod enc Tryz.prog W' 0 sp true 39 v1 d1 p1:=fun sp hsp=>Gx.trod_keep (by kernel_rfl) (by kernel_rfl) (by decide+kernel) h1 hg (fun x hx=>hlt x (by simp[hx])) hsp
 have b0:∀sp:Nat->Bool,(∀x∈p0,sp x.block=true)->DataW.Trod enc Tryz.prog W' 0 sp true 26 v0 d0 p0:=fun sp hsp=>Gx.trod_keep (by kernel_rfl) (by kernel_rfl) (by decide+kernel) h0 hg (fun x hx=>hlt x (by simp[hx])) hsp
 exact⟨_,rfl,Gx.post_of_below (pa:=(p0++(p1++[]))) (pv:=[]) hW' hg (fun _ _ _=>(trodAll_cons_mk (shut_bool Tryz.underlying4 _) trodAll_mk0)) (fun sp hsp=>by rw[hpar];exact(trodAll_cons_mk (b0 sp fun x hx=>hsp x (by simp[hx])) (trodAll_cons_mk (b1 sp fun x hx=>hsp x (by simp[hx])) trodAll_mk0))) (fun _ _=>rfl) (by simp)
  (ok_one (by kernel_rfl) rfl (okWide_bool_mk Tryz.underlying4 _))⟩
set_option maxRecDepth 100000
theorem ft1:(laidOutB Tryz.checked.prog&&mapsRowed Tryz.checked.prog)=true:=by kernel_rfl
theorem ft2:(Rows.witnessSearchRow.inPlace == Tryz.checked.prog.inPlace 12)=true:=by kernel_rfl
theorem ft3:(Rows.witnessSearchRow.unfollowed == Tryz.checked.prog.unfollowed 12)=true:=by kernel_rfl
theorem ft4:(Rows.witnessSearchRow.named == Tryz.checked.prog.varsNamed 12)=true:=by kernel_rfl
theorem ft6:((Tryz.checked.prog.stops == [])&&(Tryz.checked.prog.stopKnobs == []))=true:=by kernel_rfl
theorem ft7:(Rows.witnessSearchRow.plainKeys == Tryz.checked.prog.plainKeys)=true:=by kernel_rfl
theorem ft8:Tryz.checked.prog.stopsHeard=true:=by kernel_rfl
theorem ft9:(Tryz.checked.prog.mayEnter&&((Rows.witnessSearchRow.lifted == Tryz.checked.prog.liftsFinal)&&(Tryz.checked.prog.make == some Rows.witnessSearchRow.make)))=true:=by kernel_rfl
theorem ft5:(Rows.witnessSearchRow.recurses == Tryz.checked.prog.recurses 12)=true:=by
 have h:Tryz.checked.prog.unfollowed 12=true:=by have:=ft3;rw[beq_iff_eq] at this;exact this.symm
 unfold Program.recurses;rw[h];rfl
theorem facts:joinedFacts Tryz.checked.prog 12 Tryz.f12 Rows.witnessSearchSpec Rows.witnessSearchRow=true:=by
 obtain⟨h1,h2⟩:=Bool.and_eq_true_iff.1 ft1
 obtain⟨h3,h4⟩:=Bool.and_eq_true_iff.1 ft6
 obtain⟨h5,h6⟩:=Bool.and_eq_true_iff.1 ft9
 obtain⟨h7,h8⟩:=Bool.and_eq_true_iff.1 h6
 unfold joinedFacts
 rw[h1,h2,ft2,ft3,ft4,ft5,h3,h4,ft7,ft8,h5,h7,h8]
 kernel_rfl
theorem over:Rows.witnessSearchRow.holds Tryz.pinned (OpenSpec.ofChange Rows.witnessSearchSpec):=
 OpenClaim.holds_of_wide 12 Tryz.f12 rfl rfl rfl rfl rfl rfl rfl ⟨rfl,rfl,rfl,rfl,rfl⟩ rfl rfl rfl rfl rfl (by kernel_rfl) Tryz.func12 facts
  (of_decide_eq_true (by kernel_rfl)) (by unfold Func.isWrapper;first|(rw[if_pos (by decide+kernel)];kernel_rfl)|(rw[if_neg (by decide+kernel)];exact⟨rfl,rfl⟩))
  (fun os started H enc _=>lifted os started H enc)
theorem proved:Rows.WitnessSearchSaid:=
 over
#print axioms proved
end Go.Proofs.YtlpgdngcgbeegaaGreat.witnessSearch
