/- gimmallaw18.IncTrims returns true for all arguments, and leaves what was there as it was. No condition beyond the statement. -/
/- Merged by pack.py: GxOZ, IncK, IncL, IncM, IcTrim. -/
import Derived.Test.YtlpgdngcgbeegaaGreatIt1
import Derived.Test.YtlpgdngcgbeegaaGreatIt2
import Derived.Test.YtlpgdngcgbeegaaGreatIt3
import Derived.Test.YtlpgdngcgbeegaaGreatIt4
import Derived.Test.YtlpgdngcgbeegaaGreatIt5
import Derived.Test.YtlpgdngcgbeegaaGreatIt6
import Derived.Test.YtlpgdngcgbeegaaGreatIt7
import Derived.Test.YtlpgdngcgbeegaaGreatRows
import Derived.WalkKit
import Derived.ProofKit
import Derived.OpenShut
import Derived.ShutString
import Derived.Below
import Derived.Carry
import Derived.SizedLaws
namespace Go.Proofs.YtlpgdngcgbeegaaGreat.Gx
open Go
set_option linter.unusedVariables false
set_option maxRecDepth 100000
def F18k5(w34:World)(b1:Nat)(y10:Bool->World->Prop)(b3:Nat):Prop:=∃(x36:Sl×List Value),CellsN w34 b1 0 17 (Qy x36.fst::x36.2)/\Qv' 53 #[Value.agg { toList:=Qy x36.fst::x36.2 }] w34 fun t41 w40=>IfB (!t41) (([]:List Nat)=[]/\y10 true w40) (Qs w40 b3 0 fun s42=>([]:List Nat)=[]/\y10 (decide (50<(s42.n:Int))) w40)
def F18k4(x242:Bool×Int)(b241:Nat)(y239:Nat->Bool×Int->World->Prop)(w243:World)(x108:Sl×Int)(s231:Sl)(n235:Int):Prop:=IfB x242.1 (Qn y239 b241 (true,IntKind.i64.wrap (x242.2+1)) w243.drew) (Qx x108.fst.1 x242.2 (x108.fst.2:Int) fun b247 b248=>Qi w243.drew b247 (b248+x242.2.toNat*6+0) fun n249=>Qx s231.1 n235 (s231.2:Int) fun b250 b251=>Qi w243.drew b250 (b251+n235.toNat) fun n252=>Qn y239 b241 (n249 == n252,IntKind.i64.wrap (x242.2+1)) w243.drew)
def F18k2(x242:Bool×Int)(R:RV)(w243:World)(n235:Int)(s231:Sl)(b234:Nat)(y232:Nat->Int->World->Prop):Prop:=IfB (!x242.1) (R (Value.bool false) w243.drew) (IfB (decide (0<n235)) (Qx s231.1 n235 (s231.2:Int) fun b254 b255=>Qi w243.drew b254 (b255+n235.toNat) fun n256=>Qx s231.1 (IntKind.i64.wrap (n235-1)) (s231.2:Int) fun b257 b258=>Qi w243.drew b257 (b258+(IntKind.i64.wrap (n235-1)).toNat) fun n259=>IfB (decide (n256<=n259)) (R (Value.bool false) w243.drew) (Qn y232 b234 (IntKind.i64.wrap (n235+1)) w243.drew)) (Qn y232 b234 (IntKind.i64.wrap (n235+1)) w243.drew))
def F18j4(R:RV)(x108:Sl×Int)(s143:Sl)(y144:Nat->Int->World->Prop)(b146:Nat)(n147:Int)(y151:Nat->Bool×Int->World->Prop)(b153:Nat)(x154:Bool×Int)(w155:World):Prop:=IfB (decide (x154.snd<(x108.fst.n:Int))) (F18k4 x154 b153 y151 w155 x108 s143 n147) (F18k2 x154 R w155 n147 s143 b146 y144)
def F18k3(x272:Bool×Int)(b271:Nat)(y269:Nat->Bool×Int->World->Prop)(w273:World)(x108:Sl×Int)(n265:Int)(s231:Sl):Prop:=IfB x272.1 (Qn y269 b271 (true,IntKind.i64.wrap (x272.2+1)) w273.drew) (Qx x108.fst.1 n265 (x108.fst.2:Int) fun b277 b278=>Qi w273.drew b277 (b278+n265.toNat*6+0) fun n279=>Qx s231.1 x272.2 (s231.2:Int) fun b280 b281=>Qi w273.drew b280 (b281+x272.2.toNat) fun n282=>Qn y269 b271 (n279 == n282,IntKind.i64.wrap (x272.2+1)) w273.drew)
def F18j6(R:RV)(x108:Sl×Int)(s143:Sl)(y174:Nat->Int->World->Prop)(b176:Nat)(n177:Int)(y181:Nat->Bool×Int->World->Prop)(b183:Nat)(x184:Bool×Int)(w185:World):Prop:=IfB (decide (x184.snd<(s143.n:Int))) (F18k3 x184 b183 y181 w185 x108 n177 s143) (IfB (!x184.1) (R (Value.bool false) w185) (Qn y174 b176 (IntKind.i64.wrap (n177+1)) w185))
def F18k1(p104:Option Addr)(b3:Nat)(w266:World)(x108:Sl×Int)(b1:Nat)(R:RV):Prop:=Cx 61 #[Value.pointer p104,Value.func (Fn.func 62) #[] #[Value.pointer (some ⟨b3,0,none⟩)]] w266 fun v285 w286=>∃(x287:Option Addr×Bool),v285=Value.tuple #[Value.pointer x287.1,Value.bool x287.2]/\Qs w286 b3 0 fun s288=>Qu' 63 #[Qy x108.fst,Qy s288] w286 fun s291 w290=>∃(x292:Sl×List Value),CellsN w290 b1 0 17 (Qy x292.fst::x292.2)/\Qv' 33 #[Value.agg { toList:=Qy x292.fst::x292.2 },Qy s291] w290 fun t297 w296=>IfB (!x287.2 == t297) (R (Value.bool false) w296) (IfB (!x287.2) (R (Value.bool x287.1.isNone) w296) (IfB (!x287.1.isNone) (∃(x298:Sl×List Value),CellsN w296 b1 0 17 (Qy x298.fst::x298.2)/\Qv' 59 #[Value.pointer x287.1,Value.agg { toList:=Qy x298.fst::x298.2 },Qy s291] w296 fun t303 w302=>R (Value.bool t303) w302) (R (Value.bool false) w296)))
def F18j5(R:RV)(b1:Nat)(b3:Nat)(p104:Option Addr)(x108:Sl×Int)(s143:Sl)(y174:Nat->Int->World->Prop)(b176:Nat)(n177:Int)(w178:World):Prop:=IfB (decide (n177<(x108.fst.n:Int))) (Ql (α:=Bool×Int) (false,0) w178 fun y181 b183 x184 w185=>(F18j6 R x108 s143 y174 b176 n177 y181 b183 x184 w185)) (F18k1 p104 b3 w178 x108 b1 R)
def F18j3(R:RV)(b1:Nat)(b3:Nat)(p104:Option Addr)(x108:Sl×Int)(s143:Sl)(y144:Nat->Int->World->Prop)(b146:Nat)(n147:Int)(w148:World):Prop:=IfB (decide (n147<(s143.n:Int))) (Ql (α:=Bool×Int) (false,0) w148 fun y151 b153 x154 w155=>(F18j4 R x108 s143 y144 b146 n147 y151 b153 x154 w155)) (Ql (α:=Int) 0 w148 fun y174 b176 n177 w178=>(F18j5 R b1 b3 p104 x108 s143 y174 b176 n177 w178))
def F18k6(x108:Sl×Int)(t1:Sl)(w109:World)(p104:Option Addr)(b107:Nat)(y105:Nat->Sl×Int->World->Prop)(b5:Nat)(b1:Nat)(R:RV)(b3:Nat):Prop:=IfB (decide (x108.snd<16)) (Qx t1.1 x108.2 (t1.2:Int) fun b112 b113=>∃(x114:Int×Int×Int×Bool×Sl×Sl),CellsAt w109 b112 (b113+x108.2.toNat*6) (lC53 x114)/\Qw' 56 #[Value.pointer p104,Value.agg (lC53 x114).toArray] w109 fun n117 w116=>IfB (n117 == 0) (Qx t1.1 x108.2 (t1.2:Int) fun b118 b119=>∃(x120:Int×Int×Int×Bool×Sl×Sl),CellsAt w116 b118 (b119+x108.2.toNat*6) (lC53 x120)/\1*6<=16777216/\AllocP w116 (Obj.cells (lC53 x120).toArray 53) fun b121 w122=>∃(l123:List Value),ReadC w122 (some ⟨b121,0,none⟩) (1*6) l123/\AppendP tt53 53 w122 x108.fst.1 x108.fst.2 x108.fst.3 1 l123 fun s124 w125=>Qn y105 b107 ({ p:=s124.1,n:=s124.2,c:=s124.3 },IntKind.i64.wrap (x108.2+1)) w125) (Qn y105 b107 ({ p:=x108.fst.1,n:=x108.fst.2,c:=x108.fst.3 },IntKind.i64.wrap (x108.2+1)) w116)) (Cx 57 #[Value.pointer p104] w109 fun v128 w129=>∃(p130:Option Addr),v128=Value.pointer p130/\∃(x131:Int×Int×Int×Bool×Sl×Sl),CellsAt w129 b5 0 (lC53 x131)/\Qw' 56 #[Value.pointer p130,Value.agg (lC53 x131).toArray] w129 fun n134 w133=>∃(x135:Sl×List Value),CellsN w133 b1 0 17 (Qy x135.fst::x135.2)/\Qv' 59 #[Value.pointer p104,Value.agg { toList:=Qy x135.fst::x135.2 },Qy x108.fst] w133 fun t140 w139=>IfB (!t140) (R (Value.bool false) w139) (Qu' 60 #[Value.pointer p104] w139 fun s143 w142=>Ql (α:=Int) 0 w142 fun y144 b146 n147 w148=>(F18j3 R b1 b3 p104 x108 s143 y144 b146 n147 w148)))
def F18j8(R:RV)(x108:Sl×Int)(s231:Sl)(y232:Nat->Int->World->Prop)(b234:Nat)(n235:Int)(y239:Nat->Bool×Int->World->Prop)(b241:Nat)(x242:Bool×Int)(w243:World):Prop:=IfB (decide (x242.snd<(x108.fst.n:Int))) (F18k4 x242 b241 y239 w243 x108 s231 n235) (F18k2 x242 R w243 n235 s231 b234 y232)
def F18j10(R:RV)(x108:Sl×Int)(s231:Sl)(y262:Nat->Int->World->Prop)(b264:Nat)(n265:Int)(y269:Nat->Bool×Int->World->Prop)(b271:Nat)(x272:Bool×Int)(w273:World):Prop:=IfB (decide (x272.snd<(s231.n:Int))) (F18k3 x272 b271 y269 w273 x108 n265 s231) (IfB (!x272.1) (R (Value.bool false) w273) (Qn y262 b264 (IntKind.i64.wrap (n265+1)) w273))
def F18j9(R:RV)(b1:Nat)(b3:Nat)(p104:Option Addr)(x108:Sl×Int)(s231:Sl)(y262:Nat->Int->World->Prop)(b264:Nat)(n265:Int)(w266:World):Prop:=IfB (decide (n265<(x108.fst.n:Int))) (Ql (α:=Bool×Int) (false,0) w266 fun y269 b271 x272 w273=>(F18j10 R x108 s231 y262 b264 n265 y269 b271 x272 w273)) (F18k1 p104 b3 w266 x108 b1 R)
def F18j7(R:RV)(b1:Nat)(b3:Nat)(p104:Option Addr)(x108:Sl×Int)(s231:Sl)(y232:Nat->Int->World->Prop)(b234:Nat)(n235:Int)(w236:World):Prop:=IfB (decide (n235<(s231.n:Int))) (Ql (α:=Bool×Int) (false,0) w236 fun y239 b241 x242 w243=>(F18j8 R x108 s231 y232 b234 n235 y239 b241 x242 w243)) (Ql (α:=Int) 0 w236 fun y262 b264 n265 w266=>(F18j9 R b1 b3 p104 x108 s231 y262 b264 n265 w266))
def F18j2(t1:Sl)(R:RV)(b1:Nat)(b3:Nat)(b5:Nat)(p104:Option Addr)(y105:Nat->Sl×Int->World->Prop)(b107:Nat)(x108:Sl×Int)(w109:World):Prop:=IfB (decide (x108.snd<(t1.n:Int))) (F18k6 x108 t1 w109 p104 b107 y105 b5 b1 R b3) (Cx 57 #[Value.pointer p104] w109 fun v216 w217=>∃(p218:Option Addr),v216=Value.pointer p218/\∃(x219:Int×Int×Int×Bool×Sl×Sl),CellsAt w217 b5 0 (lC53 x219)/\Qw' 56 #[Value.pointer p218,Value.agg (lC53 x219).toArray] w217 fun n222 w221=>∃(x223:Sl×List Value),CellsN w221 b1 0 17 (Qy x223.fst::x223.2)/\Qv' 59 #[Value.pointer p104,Value.agg { toList:=Qy x223.fst::x223.2 },Qy x108.fst] w221 fun t228 w227=>IfB (!t228) (R (Value.bool false) w227) (Qu' 60 #[Value.pointer p104] w227 fun s231 w230=>Ql (α:=Int) 0 w230 fun y232 b234 n235 w236=>(F18j7 R b1 b3 p104 x108 s231 y232 b234 n235 w236)))
def F18j1(t1:Sl)(R:RV)(b1:Nat)(b3:Nat)(b5:Nat)(t95:Bool)(w96:World):Prop:=IfB t95 (R (Value.bool true) w96) (∃(x99:Sl×List Value),CellsN w96 b1 0 17 (Qy x99.fst::x99.2)/\Cx 54 #[Value.agg { toList:=Qy x99.fst::x99.2 }] w96 fun v102 w103=>∃(p104:Option Addr),v102=Value.pointer p104/\IfB p104.isNone (R (Value.bool false) w103) (Ql (α:=Sl×Int) ({ p:=none,n:=0,c:=0 },0) w103 fun y105 b107 x108 w109=>(F18j2 t1 R b1 b3 b5 p104 y105 b107 x108 w109)))
def F18k7(w8:World)(b1:Nat)(b5:Nat)(t1:Sl)(b3:Nat)(R:RV):Prop:=∃(y10:Bool->World->Prop),(∃(x11:Sl×List Value),CellsN w8.drew b1 0 17 (Qy x11.fst::x11.2)/\∃(x14:Int×Int×Int×Bool×Sl×Sl),CellsAt w8.drew b5 0 (lC53 x14)/\(0*6<=16777216/\AllocP w8.drew (Obj.cells #[] 53) fun b15 w16=>CellsAt w16 b5 0 (lC53 x14)/\CellsN w16 b1 0 17 (Qy x11.fst::x11.2)/\(∃(l19:List Value),ReadC w16 t1.1 (t1.2*6) l19/\AppendP tt53 53 w16 (some ⟨b15,0,none⟩) 0 0 t1.2 l19 fun s20 w21=>CellsAt w21 b5 0 (lC53 x14)/\CellsN w21 b1 0 17 (Qy x11.fst::x11.2)/\1*6<=16777216/\AllocP w21 (Obj.cells (lC53 x14).toArray 53) fun b24 w25=>CellsN w25 b1 0 17 (Qy x11.fst::x11.2)/\∃(l28:List Value),ReadC w25 (some ⟨b24,0,none⟩) (1*6) l28/\AppendP tt53 53 w25 s20.1 s20.2 s20.3 1 l28 fun s29 w30=>CellsN w30 b1 0 17 (Qy x11.fst::x11.2)/\Qv' 29 #[Value.agg { toList:=Qy x11.fst::x11.2 },Qy s29] w30 fun t35 w34=>IfB t35 (([]:List Nat)=[]/\y10 true w34) (F18k5 w34 b1 y10 b3))/\1*6<=16777216/\AllocP w16 (Obj.cells (lC53 x14).toArray 53) fun b43 w44=>CellsN w44 b1 0 17 (Qy x11.fst::x11.2)/\∃(l47:List Value),ReadC w44 t1.1 (t1.2*6) l47/\AppendP tt53 53 w44 (some ⟨b15,0,none⟩) 0 0 t1.2 l47 fun s48 w49=>CellsN w49 b1 0 17 (Qy x11.fst::x11.2)/\∃(l52:List Value),ReadC w49 (some ⟨b43,0,none⟩) (1*6) l52/\AppendP tt53 53 w49 s48.1 s48.2 s48.3 1 l52 fun s53 w54=>CellsN w54 b1 0 17 (Qy x11.fst::x11.2)/\Qv' 29 #[Value.agg { toList:=Qy x11.fst::x11.2 },Qy s53] w54 fun t59 w58=>IfB t59 (([]:List Nat)=[]/\y10 true w58) (F18k5 w58 b1 y10 b3))/\1*6<=16777216/\AllocP w8.drew (Obj.cells (lC53 x14).toArray 53) fun b67 w68=>CellsN w68 b1 0 17 (Qy x11.fst::x11.2)/\0*6<=16777216/\AllocP w68 (Obj.cells #[] 53) fun b71 w72=>CellsN w72 b1 0 17 (Qy x11.fst::x11.2)/\∃(l75:List Value),ReadC w72 t1.1 (t1.2*6) l75/\AppendP tt53 53 w72 (some ⟨b71,0,none⟩) 0 0 t1.2 l75 fun s76 w77=>CellsN w77 b1 0 17 (Qy x11.fst::x11.2)/\∃(l80:List Value),ReadC w77 (some ⟨b67,0,none⟩) (1*6) l80/\AppendP tt53 53 w77 s76.1 s76.2 s76.3 1 l80 fun s81 w82=>CellsN w82 b1 0 17 (Qy x11.fst::x11.2)/\Qv' 29 #[Value.agg { toList:=Qy x11.fst::x11.2 },Qy s81] w82 fun t87 w86=>IfB t87 (([]:List Nat)=[]/\y10 true w86) (F18k5 w86 b1 y10 b3))/\∀(t95:Bool)(w96:World)(y97:Nat->Value),y10 t95 w96->(F18j1 t1 R b1 b3 b5 t95 w96)
theorem F18_ok(t0:Sl×List Value)(t1:Sl)(t2:Sl)(t3:Int×Int×Int×Bool×Sl×Sl)(w:World)(R:RV)(h:AllocP w (Obj.cells { toList:=Qy t0.fst::t0.2 } 26) fun b1 w2=>AllocP w2 (Obj.cells #[Qy t2] 70) fun b3 w4=>AllocP w4 (Obj.cells (lC53 t3).toArray 53) fun b5 w6=>Qv' 52 #[] w6 fun t9 w8=>IfB (!t9) (R (Value.bool false) w8) (F18k7 w8 b1 b5 t1 b3 R)):Cw 18 #[Value.agg { toList:=Qy t0.fst::t0.2 },Qy t1,Qy t2,(.agg (lC53 t3).toArray)] w R:=
 ckF Tryz.func18 (nd (nd (.node (.join [(42,ob)] (rg [25,42]) (.draw (sts [0,2,4] (.ac 1 [4,2,0] (.ac 3 [4,0] (.ac 5 [0] (.ac 6 [0] (.ac 7 [] (sts [8,9] (.ac 10 [] (sts [11,12,13,14,15,16,17] .fin) .non)) .non) .non) .non) (.ac 5 [2,0] (.ac 3 [0] (.ac 6 [0] (.ac 7 [] (sts [8,9] (.ac 10 [] (sts [11,12,13,14,15,16,17] .fin) .non)) .non) .non) .non) .non)) (.ac 5 [2,0] (.ac 1 [2,0] (.ac 3 [0] (.ac 6 [0] (.ac 7 [] (sts [8,9] (.ac 10 [] (sts [11,12,13,14,15,16,17] .fin) .non)) .non) .non) .non) .non) .non)))) .nil) (nd (nd (nd (.node (nd (.loop [(10,.one (.sl)),(11,oi)] (rg [10,11,47,70]) .nil)) (nd (nd (nd (nd (.node (nd (.loop [(14,oi)] (rg [8,8,14,16,83,125]) (nd (.node (nd (.node (nd (.loop [(15,ob),(16,oi)] (rg [15,16,89,107]) (nd (.node (.draw (sts [0,1,2,3,4,5,6,7,8,9,10,11,12,13] .fin)) .nil)))) (.node (.draw (sts [0,1,2,3,4,5,6,7,8,9,10,11,12,13,14,15,16,17] .fin)) .nil))) .nil)))) (.node (nd (.loop [(17,oi)] (rg [8,8,17,19,126,152]) (nd (.node (nd (.node (nd (.loop [(18,ob),(19,oi)] (rg [18,19,132,150]) (nd (.node (.draw (sts [0,1,2,3,4,5,6,7,8,9,10,11,12,13] .fin)) .nil)))) .nil)) .nil)))) .nil))))))))))))) h (by kernel_rfl) (by kernel_rfl)
theorem F62_ok(t0:Int)(t1:Nat)(w:World)(R:RV)(h:IfB (decide (0<=t0)) (∃s1:Sl,w.cell? ⟨t1,0,none⟩=some (Qy s1)/\IfB (decide (t0<(s1.n:Int))) (∃s2:Sl,w.cell? ⟨t1,0,none⟩=some (Qy s2)/\Qx s2.1 t0 (s2.2:Int) fun b3 b4=>∃t5:Bool,w.cell? ⟨b3,b4+t0.toNat,none⟩=some (Value.bool t5)/\R (Value.bool t5) w) (R (Value.bool false) w)) (R (Value.bool false) w)):Cw 62 #[Qz t0,Value.pointer (some ⟨t1,0,none⟩)] w R:=
 ckF Tryz.func62 .nil h (by kernel_rfl) (by kernel_rfl)
def F63j1(t0:Sl)(t1:Sl)(R:RV)(y1:Nat->Sl×Int->World->Prop)(b3:Nat)(x4:Sl×Int)(w5:World):Prop:=IfB (decide (x4.snd<(t0.n:Int))) (Qx t0.1 x4.2 (t0.2:Int) fun b8 b9=>Qi w5 b8 (b9+x4.2.toNat*6+0) fun n10=>IfB (decide (n10<(t1.n:Int))) (Qx t0.1 x4.2 (t0.2:Int) fun b11 b12=>Qi w5 b11 (b12+x4.2.toNat*6+0) fun n13=>Qx t1.1 n13 (t1.2:Int) fun b14 b15=>Qb w5 b14 (b15+n13.toNat) fun t16=>IfB t16 (Qx t0.1 x4.2 (t0.2:Int) fun b17 b18=>∃(x19:Int×Int×Int×Bool×Sl×Sl),CellsAt w5 b17 (b18+x4.2.toNat*6) (lC53 x19)/\1*6<=16777216/\AllocP w5 (Obj.cells (lC53 x19).toArray 53) fun b20 w21=>∃(l22:List Value),ReadC w21 (some ⟨b20,0,none⟩) (1*6) l22/\AppendP tt53 53 w21 x4.fst.1 x4.fst.2 x4.fst.3 1 l22 fun s23 w24=>Qn y1 b3 ({ p:=s23.1,n:=s23.2,c:=s23.3 },IntKind.i64.wrap (x4.2+1)) w24) (Qn y1 b3 ({ p:=x4.fst.1,n:=x4.fst.2,c:=x4.fst.3 },IntKind.i64.wrap (x4.2+1)) w5)) (Qn y1 b3 ({ p:=x4.fst.1,n:=x4.fst.2,c:=x4.fst.3 },IntKind.i64.wrap (x4.2+1)) w5)) (R (Qy x4.fst) w5)
theorem F63_ok(t0:Sl)(t1:Sl)(w:World)(R:RV)(h:Ql (α:=Sl×Int) ({ p:=none,n:=0,c:=0 },0) w fun y1 b3 x4 w5=>(F63j1 t0 t1 R y1 b3 x4 w5)):Cw 63 #[Qy t0,Qy t1] w R:=
 ckF Tryz.func63 (nd (nd (.node (nd (.loop [(5,.one (.sl)),(6,oi)] (rg [5,37]) .nil)) .nil))) h (by kernel_rfl) (by kernel_rfl)
set_option linter.unusedSimpArgs false
theorem c181{w:World}{t:Sl}{xs:List NdV}{t1:Nat×Array Value}{q:NdV->Bool}(h:Rd w t 6 (xs.flatMap nC))(hl:xs.length<=1000000)
  (hq:∀(x:NdV)(W:World),x∈xs->Ext w W->∀R':RV,(∀w',Ext W w'->R' (.bool (q x)) w')->Cx t1.1 { toList:=ndV x::t1.2.toList } W R'):
  Cw 181 #[slV t,.func (.func t1.1) #[] t1.2] w fun v w'=>v=iv (idxV (xs.findIdx? q))/\Ext w w':=by
 refine F181_ok t t1 w _ ?_
 have hn:=rdN nC_len (by omega) h
 have e:F181 t t1 w (fun v w'=>v=iv (idxV (xs.findIdx? q))/\Ext w w')=IndexF Tryz.prog (fun W b o i (x:NdV)=>CellsAt W b (o+i*6) (nC x)) ndV t t1 w (fun v w'=>v=iv (idxV (xs.findIdx? q))/\Ext w w'):=rfl
 rw[e]
 refine IndexF_of xs id q hn (by omega) (fun i x W hx e=>?_) (fun i x W hx e R' hR=>hq x W (List.mem_of_getElem? hx) e R' hR) fun w' e=>⟨rfl,e⟩
 obtain⟨hi,_⟩:=List.getElem?_eq_some_iff.1 hx
 obtain⟨b,o,hp,hc⟩:=(h.ext e).elem (i:=i) (by omega) (by omega) (flatGet nC_len hx)
 exact⟨b,o,hp,hc⟩
theorem c125{w:World}{t0:Sl}{xs:List NdV}{t1:Nat×Array Value}{q:NdV->Bool}(ho:OwS w t0 6 (xs.flatMap nC))(hn:xs.length<=1000000)
  (hq:∀(x:NdV)(W:World),x∈xs->Ch (fun i=>i∈blk t0) w W->∀R':RV,(∀w',Ext W w'->R' (.bool (q x)) w')->Cx t1.1 { toList:=ndV x::t1.2.toList } W R'):
  Cw 125 #[slV t0,.func (.func t1.1) #[] t1.2] w fun v w'=>∃t',v=slV t'/\OwS w' t' 6 ((xs.filter fun x=> !q x).flatMap nC)/\t'.p=t0.p/\Ch (fun i=>i∈blk t0) w w':=by
 have htn:=owsN nC_len (by omega) ho
 have hl:=nC_len
 refine F125_ok t0 t1 w _ ((c181 ho.rd hn fun x W hx e=>hq x W hx (e.mono fun _ _ h=>h.elim)).use ?_)
 rintro _ w2 ⟨rfl,e2⟩
 refine⟨_,rfl,?_⟩
 cases hf:xs.findIdx? q with
 | none=>
  refine IfB.yes rfl ?_
  have:(xs.filter fun x=> !q x)=xs:=List.filter_eq_self.2 fun x hx=>by rw[List.findIdx?_eq_none_iff.1 hf x hx];rfl
  exact⟨t0,rfl,by rw[this];exact ho.ext e2,rfl,e2.mono fun _ _ h=>h.elim⟩
 | some i0=>
  obtain⟨hi0,hqi,hlow⟩:=List.findIdx?_eq_some_iff_getElem.1 hf
  refine IfB.no (by simp[idxV]) ?_
  have hx0:xs[i0]? =some xs[i0]:=List.getElem?_eq_getElem hi0
  have hkeep0:(xs.take i0).filter (fun x=> !q x)=xs.take i0:=List.filter_eq_self.2 fun x hx=>by
   obtain⟨j,hj,rfl⟩:=List.getElem_of_mem hx
   rw[List.length_take] at hj
   rw[List.getElem_take]
   have:=hlow j (by omega)
   simpa using this
  have hkeep1:(xs.take (i0+1)).filter (fun x=> !q x)=xs.take i0:=by rw[takeFilter hx0,hkeep0,hqi];simp
  refine⟨fun n x W=>∃(j:Nat)(gs:List NdV),gs≠[]/\n+j=xs.length/\((xs.take j).filter fun x=> !q x).length+gs.length=j/\j<=xs.length/\x=((((xs.take j).filter fun x=> !q x).length:Int),(j:Int))/\OwS W t0 6 ((((xs.take j).filter fun x=> !q x)++gs++xs.drop j).flatMap nC)/\Ch (fun i=>i∈blk t0) w W,
   ⟨xs.length-(i0+1),i0+1,[xs[i0]],by simp,by omega,by rw[hkeep1,List.length_take];simp;omega,by omega,?_,?_,e2.mono fun _ _ h=>h.elim⟩,?_⟩
  ·rw[hkeep1,List.length_take,Nat.min_eq_left (by omega)]
   show ((i0:Int),IntKind.i64.wrap ((i0:Int)+1))=_
   rw[wrap_of (by omega) (by omega)];rfl
  ·rw[hkeep1]
   have:xs.take i0++[xs[i0]]++xs.drop (i0+1)=xs:=by
    rw[List.append_assoc,List.singleton_append,<-List.drop_eq_getElem_cons hi0,List.take_append_drop]
   rw[this]
   exact ho.ext e2
  ·rintro n _ W g ⟨j,gs,hgs,hnj,hlen,hj,rfl,hO,hC⟩
   generalize hkd:(xs.take j).filter (fun x=> !q x)=kd at hlen hO
   have hg0:0<gs.length:=List.length_pos_iff.2 hgs
   have hcap:=ho.cap
   obtain⟨b,hp⟩:=ho.ptr (by omega)
   have hbl:b<w.heap.size:=ho.lt b (by simp[blk,hp])
   unfold F125j1
   refine IfB.dec (fun hlt=>?_) fun hge=>?_
   ·have hj':j<xs.length:=by dsimp only at hlt;omega
    have hx:xs[j]? =some xs[j]:=List.getElem?_eq_getElem hj'
    have hxm:=List.mem_of_getElem? hx
    have htf:=takeFilter (p:=fun x=> !q x) hx
    rw[hkd] at htf
    have hdrop:xs.drop j=xs[j]::xs.drop (j+1):=List.drop_eq_getElem_cons hj'
    generalize xs[j]=x at hx hxm htf hdrop
    have hLx:(kd++gs++xs.drop j)[j]? =some x:=by
     rw[List.getElem?_append_right (by rw[List.length_append];omega),List.length_append,show j-(kd.length+gs.length)=0 by omega,hdrop];rfl
    obtain⟨b',hp',hc⟩:=hO.elem (i:=j) (by omega) (flatGet hl hLx)
    rw[hp] at hp';cases hp'
    refine⟨b,0,hp,⟨by dsimp only;omega,hlt⟩,x,?_,boxNd rfl fun b14 w16 hb14 hs16 h16 e16 _=>⟨x,cellsAt_of h16 fun i v hv=>by simpa using hv,hq x w16 hxm (hC.then e16 fun _ _ h=>h.elim) _ fun w19 e19=>⟨q x,rfl,?_⟩⟩⟩
    ·dsimp only
     rw[Int.toNat_natCast,Nat.zero_add]
     exact hc
    ·have e15:Ext W w19:=e16.trans e19
     have h19:=e19.at h16
     have hO15:=hO.ext e15
     have hC15:=hC.then e15 fun _ _ h=>h.elim
     refine IfB.intro (fun hk=>?_) fun hk=>?_
     ·have hqx:q x=false:=by simpa using hk
      rw[hqx] at htf
      simp only[Bool.not_false,if_true] at htf
      refine⟨x,cellsAt_of h19 fun i v hv=>by simpa using hv,b,0,hp,⟨by dsimp only;omega,by show (kd.length:Int)<(t0.n:Int);omega⟩,rfl,?_⟩
      dsimp only
      rw[Int.toNat_natCast,Nat.zero_add]
      have hLl:(kd++gs++xs.drop j).length=xs.length:=by rw[List.length_append,List.length_append,List.length_drop];omega
      refine hO15.store (vs:=nC x) hp (by rw[hl];omega) (nC_one x) fun w19 hO19 hC19=>⟨rfl,n-1,by omega,j+1,gs.tail++[x],by simp,by omega,?_,by omega,?_,?_,hC15.then hC19 fun i _ e=>by simp[blk,hp,e]⟩
      ·rw[htf];simp;omega
      ·rw[htf,wrap_of (by omega) (by omega),wrap_of (by omega) (by omega)];simp
      ·rw[hl,flatSet hl (by omega)] at hO19
       rw[htf]
       have:(kd++gs++xs.drop j).set kd.length x=kd++[x]++(gs.tail++[x])++xs.drop (j+1):=by
        rw[hdrop]
        cases gs with
        | nil=>exact absurd rfl hgs
        | cons g0 gs=>simp
       rw[<-this];exact hO19
     ·have hqx:q x=true:=by simpa using hk
      rw[hqx] at htf
      simp only[Bool.not_true,Bool.false_eq_true,if_false,List.append_nil] at htf
      refine⟨rfl,n-1,by omega,j+1,gs++[x],by simp,by omega,by rw[htf];simp;omega,by omega,?_,?_,hC15⟩
      ·rw[htf];dsimp only;rw[wrap_of (by omega) (by omega)];rfl
      ·rw[htf]
       rw[hdrop] at hO15
       simpa using hO15
   ·have hjn:j=xs.length:=by dsimp only at hge;omega
    subst hjn
    rw[List.take_length] at hkd
    rw[List.drop_length,List.append_nil] at hO
    have hkl:kd.length<t0.n:=by omega
    refine⟨⟨by dsimp only;omega,by show (kd.length:Int)<=(t0.n:Int);omega⟩,?_⟩
    dsimp only
    rw[Int.toNat_natCast,hp,slAddr_some]
    have hcut:=hO.cut (k:=kd.length) (by omega)
    rw[flatTake hl,List.take_append_of_le_length (Nat.le_refl _),List.take_length] at hcut
    dsimp only
    rw[if_neg (by omega),Nat.zero_add]
    refine hcut.storeTail hp (Nat.le_refl _) (by rw[zc_len];show kd.length*6+(t0.n-kd.length)*6<=t0.c*6;omega) (zc_one (by intro y hy;simp at hy;rcases hy with rfl|rfl|rfl|rfl|rfl|rfl<;>rfl) _) fun w25 hO25 hC25=>⟨⟨by omega,by omega⟩,⟨t0.p,kd.length,t0.c⟩,?_,by rw[hkd];exact hO25,hp,hC.then hC25 fun i _ e=>by simp[blk,hp,e]⟩
    rw[<-hp,slAddr_zero]
def tbM:Tab:=fun t=>match Nat.beq t 66 with
 | true=>some { kd:=.func,size:=1,bytes:=8,zero:=.nilFunc,sh:=.one .any }
 | false=>tb t
theorem tbM_ok:tbM.Ok Tryz.prog:=by
 intro t i h
 unfold tbM at h
 split at h
 ·rename_i ht
  have:=Nat.eq_of_beq_eq_true ht
  subst this
  cases h
  exact⟨ti66.kd,ti66.info,ti66.zsz⟩
 ·exact tbOk t i h
def H127(t0:Sl)(g:Nat)(p:Option Addr)(w:World)(R:RV):Prop:=
 AllocP w (Obj.cells #[Value.func (Fn.func g) #[Value.pointer p] #[]] 66) fun(b1:Nat) (w2:World)=>
 Cx 182 #[Value.slice t0.1 t0.2 t0.3,Value.func (Fn.func 183) #[] #[Value.pointer (some ⟨b1,0,none⟩)]] w2
 fun(v3:Value) (w4:World)=>∃t5:Bool,v3=Value.bool t5/\R (Value.bool !t5) w4
theorem H127_ok(t0:Sl)(g:Nat)(p:Option Addr)(w:World)(R:RV)(h:H127 t0 g p w R):Cw 127 #[Value.slice t0.1 t0.2 t0.3,Value.func (Fn.func g) #[Value.pointer p] #[]] w R:=
 call_of tbOk mixed en127 Tryz.func127 rfl .nil (by kernel_rfl) (Nat.le_of_ble_eq_true (by kernel_rfl)) (Eq.mp (α:=H127 t0 g p w R) (by kernel_rfl) h)
def H183(t0:NdV)(t1:Nat)(w:World)(R:RV):Prop:=
 AllocP w (Obj.cells (nC t0).toArray 53) fun(b1:Nat) (w2:World)=>
 ∃v3:Value,w2.cell? ⟨t1,0,none⟩=some v3/\
 ∃(x4:NdV),CellsAt w2 b1 0 (nC x4)/\
 match v3 with
 | .func (.func f) first captured=>Cx f (appL first.toList ((.agg (nC x4).toArray)::captured.toList)).toArray w2 fun(v5:Value) (w6:World)=>∃n7:Int,v5=Value.int IntKind.i64 n7/\R (Value.bool (n7 != 0)) w6
 | .func (.yield l) first _=>YW Tryz.prog l (appL first.toList [.agg (nC x4).toArray]).toArray w2 fun b w'=>∃b',EqAt Tryz.prog 35 (.bool b) (.int .i64 0) b'/\R (.bool !b') w'
 | _=>False
theorem H183_ok(t0:NdV)(t1:Nat)(w:World)(R:RV)(h:H183 t0 t1 w R):Cw 183 #[(.agg (nC t0).toArray),Value.pointer (some ⟨t1,0,none⟩)] w R:=
 call_of tbM_ok mixed en183 Tryz.func183 rfl (.nil) (by kernel_rfl) (Nat.le_of_ble_eq_true (by kernel_rfl)) (Eq.mp (α:=H183 t0 t1 w R) (by kernel_rfl) h)
abbrev addV(b:Nat):Value:=.func (.func 56) #[.pointer (some ⟨b,0,none⟩)] #[]
theorem addedOne{W:World}{b1 b:Nat}{T:TypeId}(n:NdV)(hb:W.heap[b1]? =some (.cells #[addV b] T (0,0))){R:RV}
  (h:∀W',Ext W W'->Cx 56 #[.pointer (some ⟨b,0,none⟩),ndV n] W' fun v w'=>∃e:Int,v=iv e/\R (.bool (e != 0)) w'):Cw 183 #[ndV n,.pointer (some ⟨b1,0,none⟩)] W R:=
 H183_ok n b1 W R fun b2 w2 a2=>⟨addV b,boxAt (cs:=[addV b]) hb 0 (a2.ch _),n,boxAll (cs:=nC n) a2.new (Ch.refl _ _),h w2 (a2.ch _)⟩
theorem GoodP.init{x:CatD}{hs ks:List Nd}(h:GoodP x (hs++ks)):GoodP x hs:=by
 obtain⟨r,hr⟩:=h.2
 refine⟨?_,_,FairR.sub (φ:=fun i=>i) (fun i k h=>h) (fun i a ha=>?_) hr⟩
 ·have:=h.1.take hs.length
  rwa [List.take_left] at this
 ·rw[List.getElem?_append_left (get_lt ha)];exact ha
theorem c127{D:Nat->Prop}{w:World}{b:Nat}{th t:Sl}{x:CatD}{ls:List Nd}(hG:GrM D w b th x [])(hDt:∀j,D j->j∉blk t)(hDl:∀j,D j->j<w.heap.size)(hT:Rd w t 6 (ls.flatMap nL))(hN:∀n∈ls,NdA (fun j=>j<w.heap.size/\¬D j) w n)(hl:ls.length<=49):
  Cw 127 #[slV t,addV b] w fun v w'=>∃r,v=.bool r/\(r=true↔GoodP x ls)/\(r=true->∃th' ns,GrM (fun j=>D j\/w.heap.size<=j) w' b th' x ns/\Cg ns ls)/\Ch D w w':=by
 have htn:=rdN nL_len (by omega) hT
 refine H127_ok t 56 (some ⟨b,0,none⟩) w _ fun b1 w2 a2=>?_
 have e2:Ext w w2:=a2.ch _
 have p2:=a2.here
 have c2:Ch D w w2:=e2.mono fun _ _ h=>h.elim
 have z2:=e2.size
 have key:Cw 181 #[slV t,.func (.func 183) #[] #[.pointer (some ⟨b1,0,none⟩)]] w2 fun v w'=>∃k:Int,v=iv k/\(k<0↔GoodP x ls)/\(k<0->∃th' ns,GrM (fun j=>D j\/w2.heap.size<=j) w' b th' x ns/\Cg ns ls)/\Ch D w w':=by
  refine F181_ok t (183,#[.pointer (some ⟨b1,0,none⟩)]) w2 _ ⟨fun m k W=>∃(i:Nat)(th':Sl)(ns:List Nd),i<=ls.length/\m+i=ls.length/\k=(i:Int)/\GrM (fun j=>D j\/w2.heap.size<=j) W b th' x ns/\Cg ns (ls.take i)/\Ch D w2 W,
   ⟨ls.length,0,th,[],Nat.zero_le _,rfl,rfl,(hG.ext e2).mono fun j hj=>.inl hj,rfl,Ch.refl _ _⟩,?_⟩
  rintro m _ W g ⟨i,th',ns,hi,hm,rfl,hGW,hcg,hC⟩
  have cW:Ch D w W:=c2.trans hC
  unfold F181j1
  refine IfB.dec (fun hlt=>?_) fun hge=>?_
  ·have hi':i<ls.length:=by omega
   have hx:ls[i]? =some ls[i]:=List.getElem?_eq_getElem hi'
   have hxm:ls[i]∈ls:=List.getElem_mem hi'
   have htk:ls.take (i+1)=ls.take i++[ls[i]]:=take_succ_get hx
   generalize ls[i]=n at hx hxm htk
   obtain⟨pb,po,hp,hc⟩:=(hT.ch cW fun j hj hd=>hDt j hd hj).elem (i:=i) (by omega) (by omega) (flatGet nL_len hx)
   have hlen:=Cg.len hcg
   rw[List.length_take] at hlen
   obtain⟨hgb,hgt⟩:=hGW.db
   have hwz:=cW.size
   have hNW:NdA (fun j=>j≠b/\j∉blk th') W n:=((hN n hxm).ch cW fun j hj=>hj.2).mono fun j hj=>⟨fun h=>by
    rcases hgb with h'|h'
    ·exact hj.2 (h ▸ h')
    ·have:=hj.1;omega,fun h=>by
    rcases hgt j h with h'|h'
    ·exact hj.2 h'
    ·have:=hj.1;omega⟩
   have hb1:=hC.at a2.new fun hd=>by have:=hDl _ hd;omega
   refine⟨pb,po,hp,⟨by omega,hlt⟩,n.v,by rw[Int.toNat_natCast];exact hc,.inl (addedOne n.v hb1 fun W' eW=>(c56 (hGW.ext eW) (hNW.ext eW) (by omega)).use ?_)⟩
   rintro _ w50 ⟨e,th2,ns2,rfl,hA,hz,hnz,hG2,hC2,_⟩
   have x50:Ch D w2 w50:=(hC.then eW fun _ _ h=>h.elim).then hC2 fun j hj h=>by
    rcases h with h|h
    ·exact hgb.elim (fun h'=>h ▸ h') fun h'=>by omega
    ·exact(hgt j h).elim id fun h'=>by omega
   have hGn:GrM (fun j=>D j\/w2.heap.size<=j) w50 b th2 x ns2:=hG2.mono fun j hj=>hj.elim id fun h=>.inr (by have:=eW.size;have:=hC.size;omega)
   refine⟨e,rfl,_,rfl,IfB.intro (fun he=>?_) fun he=>?_⟩
   ·have he:e≠0:=by simpa using he
    refine⟨_,rfl,⟨fun h=>by omega,fun h=>absurd ?_ he⟩,fun h=>by omega,c2.trans x50⟩
    refine hA.good (GoodP.cg (hs:=ls.take (i+1)) ?_ (GoodP.init (ks:=ls.drop (i+1)) (by rw[List.take_append_drop];exact h)))
    rw[htk]
    exact Cg.snoc (hs:=ls.take i) hcg.symm rfl
   ·have he:e=0:=by simpa using he
    obtain⟨n',hd,rfl⟩:=hz he
    exact⟨rfl,m-1,by omega,i+1,th2,_,hi',by omega,by rw[wrap_of (by omega) (by omega)];rfl,hGn,by rw[htk];exact hcg.snoc hd,x50⟩
  ·have:i=ls.length:=by omega
   subst this
   rw[List.take_length] at hcg
   exact⟨_,rfl,⟨fun _=>hGW.good.cg hcg,fun _=>by decide⟩,fun _=>⟨th',ns,hGW,hcg⟩,cW⟩
 refine .inl (F182_ok t (183,#[.pointer (some ⟨b1,0,none⟩)]) w2 _ (key.use ?_))
 rintro _ w4 ⟨k,rfl,h1,h2,h3⟩
 refine⟨k,rfl,_,rfl,_,rfl,?_,fun h=>(h2 ?_).imp fun th' ⟨ns,hg,hc⟩=>⟨ns,hg.mono fun j hj=>hj.imp id fun h=>by omega,hc⟩,h3⟩
 ·rw[<-h1];simp
 ·simpa using h
theorem c126{W:World}{b1:Nat}{T:TypeId}{cl:Nat×Array Value}{kp:Int->Bool}(n:NdV)(hb:W.heap[b1]? =some (.cells #[.func (.func cl.1) #[] cl.2] T (0,0)))
  (hk:∀W',Ext W W'->∀R':RV,(∀w',Ext W' w'->R' (.bool (kp n.1)) w')->Cx cl.1 { toList:=iv n.1::cl.2.toList } W' R'):
  Cw 126 #[ndV n,.pointer (some ⟨b1,0,none⟩)] W fun v w'=>v=.bool (!kp n.1)/\Ext W w':=
 F126_ok n b1 W _ fun b2 w2 a2=>⟨cl,boxAt (cs:=[.func (.func cl.1) #[] cl.2]) hb 0 (a2.ch _),n.1,boxAt (cs:=nC n) a2.new 0 (Ch.refl _ _),hk w2 (a2.ch _) _ fun w' e=>⟨_,rfl,rfl,Ch.trans (a2.ch _) e⟩⟩
theorem c61{D:Nat->Prop}{w:World}{b:Nat}{th:Sl}{x:CatD}{ns:List Nd}(hG:GrM D w b th x ns){cl:Nat×Array Value}{kp:Int->Bool}(hl:ns.length<=49)
  (hk:∀(n:Int)(W:World),Ext w W->∀R':RV,(∀w',Ext W w'->R' (.bool (kp n)) w')->Cx cl.1 { toList:=iv n::cl.2.toList } W R'):
  Cw 61 #[.pointer (some ⟨b,0,none⟩),.func (.func cl.1) #[] cl.2] w fun r w'=>∃p ok,r=.tuple #[.pointer p,.bool ok]/\(ok=true↔GoodP x (ns.filter fun n=>kp n.v.1))/\(ok=false->p=none)/\(ok=true->∃b' th' ns',p=some ⟨b',0,none⟩/\GrM (fun j=>w.heap.size<=j) w' b' th' x ns'/\Cg ns' (ns.filter fun n=>kp n.v.1))/\Ext w w':=by
 obtain⟨v,ton,tw,rows,ms0,hK0,hP⟩:=hG
 have hK:=hK0.old
 refine F61_ok (some ⟨b,0,none⟩) cl w _ fun b1 w2 a2=>IfB.no rfl ?_
 have e2:Ext w w2:=a2.ch _
 have z2:=e2.size
 have hK2:=hK.ch e2 fun _ _=>id
 refine⟨b,0,rfl,v,hK2.slot.2.2.2,(c54 hK2.catM).use ?_⟩
 rintro _ w9 ⟨hN,e9⟩
 obtain⟨b',rfl,hG0⟩:∃b',_=Value.pointer (some ⟨b',0,none⟩)/\GrM (fun j=>w2.heap.size<=j) w9 b' ⟨none,0,0⟩ x []:=by
  rcases hN with h|h
  ·exact absurd hP.ok h.1
  ·exact h.2
 have hG9:=hG0.old
 have z9:=e9.size
 have hK9:=hK2.ch e9 fun _ _=>id
 have hrd:=hK9.own.rd
 rw[flat_v] at hrd
 refine⟨_,rfl,b,0,rfl,th,hK9.slot.1,(c96 hrd (by rw[List.length_map];omega)).use ?_⟩
 rintro _ w15 ⟨s16,rfl,ho16,e15,hb16⟩
 have E15:=(e2.trans e9).trans e15
 refine⟨s16,rfl,(c125 (t1:=(126,#[.pointer (some ⟨b1,0,none⟩)])) (q:=fun n=> !kp n.1) ho16 (by rw[List.length_map];omega) fun y W _ hC R' hR=>(c126 (cl:=cl) (kp:=kp) y (hC.at (Ext.at (e9.trans e15) a2.new) fun hi=>by have:=hb16 _ hi;have:=a2.here;have:=a2.size;omega) fun W' eW R2 hR2=>hk y.1 W' ((E15.chN hC fun i hi=>by have:=hb16 i hi;omega).trans eW) R2 hR2).use fun v w' ⟨hv,e'⟩=>hv ▸ hR w' e').use ?_⟩
 rintro _ w18 ⟨t',rfl,ho18,hp18,hC18⟩
 have E18:Ext w w18:=E15.chN hC18 fun i hi=>by have:=hb16 i hi;omega
 have e18:Ext w9 w18:=e15.chN hC18 hb16
 have z18:=e18.size
 have hfl:((ns.map (·.v)).filter fun y=> !!kp y.1)=(ns.filter fun n=>kp n.v.1).map (·.v):=by
  rw[List.filter_map]
  congr 1
  exact List.filter_congr fun n _=>by simp
 rw[hfl,<-flat_v] at ho18
 have hbt:∀j∈blk t',w9.heap.size<=j:=fun j hj=>hb16 j (by
  unfold blk at hj ⊢
  rw[hp18] at hj
  exact hj)
 refine⟨t',rfl,(c127 (hG9.ext e18) (fun j hj h=>by have:=hbt j h;have:=hj.2;omega) (fun j hj=>by have:=hj.2;omega) ho18.rd (fun n hn=>?_) (Nat.le_trans (List.length_filter_le _ _) hl)).use ?_⟩
 ·have hd:=(hK.nd n (List.mem_filter.1 hn).1).ch E18 fun _ _=>id
  exact⟨hd.rs.rd,hd.ws.rd,fun _ j hj=>⟨by have:=(hd.rp j hj).1.2;omega,fun h=>by have:=(hd.rp j hj).1.2;have:=h.1;omega⟩,fun _ j hj=>⟨by have:=(hd.wp j hj).1.2;omega,fun h=>by have:=(hd.wp j hj).1.2;have:=h.1;omega⟩,hd.rl,hd.wl⟩
 rintro _ w21 ⟨r,rfl,h1,h2,h3⟩
 have E21:Ext w w21:=E18.chN h3 fun j hj=>by have:=hj.1;omega
 refine⟨r,rfl,IfB.intro (fun hr=>?_) fun hr=>?_⟩
 ·have hr:r=false:=by simpa using hr
  subst hr
  exact⟨none,false,rfl,h1,fun _=>rfl,fun h=>(by cases h),E21⟩
 ·have hr:r=true:=by simpa using hr
  subst hr
  obtain⟨th',ns',hg,hcg⟩:=h2 rfl
  exact⟨_,true,rfl,h1,fun h=>(by cases h),fun _=>⟨b',th',ns',rfl,hg.mono fun j hj=>hj.elim (fun h=>by have:=h.1;omega) fun h=>by omega,hcg⟩,E21⟩
theorem rd_bools{A:Nat->Prop}{w:World}{l:List Bool}{t:Sl}(h:rep A w (.sl .bool) l [slV t]):Rd w t 1 (l.map Value.bool):=by
 obtain⟨s,hs,h1,h2,h3,h4,css,h5,h6,h7⟩:=h
 have:=slEq hs
 subst this
 have e:css.flatten=l.map Value.bool:=by
  have:css=l.map fun b=>[Value.bool b]:=by
   apply List.ext_getElem?
   intro i
   rw[List.getElem?_map]
   by_cases hi:i<l.length
   ·have hc:css[i]? =some (css[i]'(by omega)):=List.getElem?_eq_getElem (by omega)
    have hx:l[i]? =some l[i]:=List.getElem?_eq_getElem hi
    have:=h6 i _ _ hc hx
    rw[hc,hx,show css[i]=_ from this];rfl
   ·rw[List.getElem?_eq_none (by omega),List.getElem?_eq_none (by omega)];rfl
  rw[this]
  clear h6 h7 this h5 h1
  induction l with
  | nil=>rfl
  | cons x l ih=>simpa using ih
 rw[<-e];exact h7
def kpB(bs:List Bool)(n:Int):Bool:=decide (0<=n)&&(bs[n.toNat]?).getD false
theorem kpB_in{bs:List Bool}{n:Int}{b:Bool}(h:0<=n)(hb:bs[n.toNat]? =some b):kpB bs n=b:=by
 unfold kpB;rw[hb,decide_eq_true h];rfl
theorem kpB_out{bs:List Bool}{n:Int}(h:¬(0<=n/\n<(bs.length:Int))):kpB bs n=false:=by
 unfold kpB
 by_cases h0:0<=n
 ·rw[List.getElem?_eq_none (by omega),decide_eq_true h0];rfl
 ·rw[decide_eq_false h0];rfl
theorem rdB_n{w:World}{t:Sl}{bs:List Bool}(h:Rd w t 1 (bs.map Value.bool)):t.n=bs.length:=by have:=h.len1;rw[List.length_map] at this;exact this
theorem rdB_get{w:World}{t:Sl}{bs:List Bool}(h:Rd w t 1 (bs.map Value.bool)){n:Int}(h0:0<=n)(hn:n<(bs.length:Int)):∃a o,t.p=some ⟨a,o,none⟩/\w.cell? ⟨a,o+n.toNat,none⟩=some (.bool (kpB bs n)):=by
 have hi:n.toNat<bs.length:=by omega
 have hx:bs[n.toNat]? =some bs[n.toNat]:=List.getElem?_eq_getElem hi
 rw[kpB_in h0 hx]
 exact h.elem1 (by rw[List.getElem?_map,hx];rfl)
theorem c62{w:World}{b:Nat}{t:Sl}{bs:List Bool}(hb:w.cell? ⟨b,0,none⟩=some (slV t))(h:Rd w t 1 (bs.map Value.bool))(n:Int):
  Cw 62 #[iv n,.pointer (some ⟨b,0,none⟩)] w fun v w'=>v=.bool (kpB bs n)/\w=w':=by
 have hn:=rdB_n h
 refine F62_ok n b w _ (IfB.dec (fun h0=>⟨t,hb,IfB.dec (fun h1=>?_) fun h1=>⟨?_,rfl⟩⟩) fun h0=>⟨?_,rfl⟩)
 ·obtain⟨a,o,hp,hc⟩:=rdB_get h h0 (by omega)
  exact⟨t,hb,a,o,hp,⟨h0,h1⟩,_,hc,rfl,rfl⟩
 ·rw[kpB_out (by omega)]
 ·rw[kpB_out (by omega)]
theorem c63{w:World}{t u:Sl}{hl:List Nd}{bs:List Bool}(hH:Hst w t hl)(hB:Rd w u 1 (bs.map Value.bool))(hs:∀n∈hl,0<=n.v.1)(hlen:hl.length<=1000):
  Cw 63 #[slV t,slV u] w fun v w'=>∃s,v=slV s/\Hst w' s (hl.filter fun n=>kpB bs n.v.1)/\Ext w w':=by
 have htn:=hH.n
 have hun:=rdB_n hB
 refine F63_ok t u w _ ⟨fun m z W=>∃(i:Nat)(s:Sl),i<=hl.length/\m+i=hl.length/\z=(s,(i:Int))/\OwS W s 6 (((hl.take i).filter fun n=>kpB bs n.v.1).flatMap nL)/\(∀j∈blk s,w.heap.size<=j)/\Ext w W,
  ⟨hl.length,0,⟨none,0,0⟩,Nat.zero_le _,rfl,rfl,.nil _ _,by simp[blk],Ch.refl _ _⟩,?_⟩
 rintro m _ W g ⟨i,s,hi,hm,rfl,hO,hnew,eW⟩
 unfold F63j1
 have hsn:=owsN nL_len (by omega) hO
 have hfl:=List.length_filter_le (fun n:Nd=>kpB bs n.v.1) (hl.take i)
 rw[List.length_take] at hfl
 refine IfB.dec (fun hlt=>?_) fun hge=>?_
 ·have hi':i<hl.length:=by dsimp only at hlt;omega
  have hx:hl[i]? =some hl[i]:=List.getElem?_eq_getElem hi'
  have hxm:hl[i]∈hl:=List.getElem_mem hi'
  have htf:=takeFilter (p:=fun n:Nd=>kpB bs n.v.1) hx
  generalize hl[i]=n at hx hxm htf
  have h0:=hs n hxm
  obtain⟨pb,po,hp,hc⟩:=(hH.rd.ext eW).elem (i:=i) (by omega) (by omega) (flatGet nL_len hx)
  have hbn:(0:Int)<=(i:Int)/\(i:Int)<(t.n:Int):=⟨by omega,hlt⟩
  have hwi:IntKind.i64.wrap ((i:Int)+1)=((i+1:Nat):Int):=by rw[wrap_of (by omega) (by omega)];rfl
  have skip:kpB bs n.v.1=false->OwS W s 6 (((hl.take (i+1)).filter fun n=>kpB bs n.v.1).flatMap nL):=fun hk=>by
   rw[htf,hk];simpa using hO
  refine⟨pb,po,hp,hbn,n.v.1,hc 0 _ rfl,IfB.dec (fun h1=>?_) fun h1=>⟨(by trivial),m-1,by omega,i+1,s,hi',by omega,by(try dsimp only);rw[hwi],skip (kpB_out (by omega)),hnew,eW⟩⟩
  obtain⟨a,o,hpa,hca⟩:=rdB_get (hB.ext eW) h0 (by omega)
  refine⟨pb,po,hp,hbn,n.v.1,hc 0 _ rfl,a,o,hpa,⟨h0,h1⟩,kpB bs n.v.1,hca,IfB.intro (fun hk=>?_) fun hk=>⟨(by trivial),m-1,by omega,i+1,s,hi',by omega,by(try dsimp only);rw[hwi],skip hk,hnew,eW⟩⟩
  refine⟨pb,po,hp,hbn,n.v,hc,by decide,fun b20 w21 a21=>app2 (s:=s) (hO.ext (a21.ch _)) (by omega) a21.new fun s23 w24 ho hC hb=>⟨(by trivial),m-1,by omega,i+1,s23,hi',by omega,by(try dsimp only);rw[hwi],?_,fun j hj=>?_,(eW.trans (a21.ch _)).chN hC hnew⟩⟩
  ·rw[htf,hk]
   rw[if_pos rfl,List.flatMap_append,List.flatMap_cons,List.flatMap_nil,List.append_nil]
   exact ho
  ·rcases hb j hj with h|h
   ·exact hnew j h
   ·have:=eW.size;have:=a21.size;omega
 ·have:i=hl.length:=by dsimp only at hge;omega
  subst this
  rw[List.take_length] at hO
  refine⟨s,rfl,⟨hO.rd,fun n hn=>(hH.ok n (List.mem_filter.1 hn).1).ext eW,?_,hO.cap⟩,eW⟩
  have:=List.length_filter_le (fun n:Nd=>kpB bs n.v.1) hl
  omega
theorem ordersC{w:World}{t:Sl}{hs:List Nd}{n:Nd}{b1:Nat}{C:World->Prop}(hH:HIn w t hs)(hN:NdIn w n)(hr:t.n*80<=140737488351232)(at1:∀ {W:World},Ext w W->CellsAt W b1 0 (nC n.v))(hc:∀ {W:World},Ext w W->C W){K:Sl->World->Prop}
  (hK:∀s w',HIn w' s (hs++[n])->Ext w w'->K s w'):
  (0*6<=16777216/\AllocP w (Obj.cells #[] 53) fun b15 w16=>CellsAt w16 b1 0 (nC n.v)/\C w16/\
   (∃l19,ReadC w16 t.1 (t.2*6) l19/\AppendP tt53 53 w16 (some ⟨b15,0,none⟩) 0 0 t.2 l19 fun s20 w21=>CellsAt w21 b1 0 (nC n.v)/\C w21/\1*6<=16777216/\AllocP w21 (Obj.cells (nC n.v).toArray 53) fun b24 w25=>C w25/\
    ∃l28,ReadC w25 (some ⟨b24,0,none⟩) (1*6) l28/\AppendP tt53 53 w25 s20.1 s20.2 s20.3 1 l28 fun s29 w30=>C w30/\K s29 w30)/\
   1*6<=16777216/\AllocP w16 (Obj.cells (nC n.v).toArray 53) fun b43 w44=>C w44/\∃l47,ReadC w44 t.1 (t.2*6) l47/\AppendP tt53 53 w44 (some ⟨b15,0,none⟩) 0 0 t.2 l47 fun s48 w49=>C w49/\
    ∃l52,ReadC w49 (some ⟨b43,0,none⟩) (1*6) l52/\AppendP tt53 53 w49 s48.1 s48.2 s48.3 1 l52 fun s53 w54=>C w54/\K s53 w54)/\
  1*6<=16777216/\AllocP w (Obj.cells (nC n.v).toArray 53) fun b67 w68=>C w68/\0*6<=16777216/\AllocP w68 (Obj.cells #[] 53) fun b71 w72=>C w72/\
   ∃l75,ReadC w72 t.1 (t.2*6) l75/\AppendP tt53 53 w72 (some ⟨b71,0,none⟩) 0 0 t.2 l75 fun s76 w77=>C w77/\
    ∃l80,ReadC w77 (some ⟨b67,0,none⟩) (1*6) l80/\AppendP tt53 53 w77 s76.1 s76.2 s76.3 1 l80 fun s81 w82=>C w82/\K s81 w82:=by
 have htn:=hH.n
 have emp:∀ {W W':World}{b:Nat},IsAlloc W (.cells #[] 53 (0,0)) b W'->OwS W' ⟨some ⟨b,0,none⟩,0,0⟩ 6 []:=fun a=>OwS.new (cs:=[]) (n:=0) a rfl
 have bkE:∀ {b:Nat},∀i∈blk (⟨some ⟨b,0,none⟩,0,0⟩:Sl),i=b:=fun i hi=>by simpa [blk] using hi
 have fin:∀ {s:Sl}{W W':World},OwS W' s 6 (hs.flatMap nL++nC n.v)->Ext w W'->C W'/\K s W':=fun{s W W'} ho e=>by
  have hlist:hs.flatMap nL++nC n.v=(hs++[n]).flatMap nL:=by rw[List.flatMap_append];simp
  rw[hlist] at ho
  refine⟨hc e,hK s W' ⟨ho.rd,fun m hm=>?_,ho.cap,?_⟩ e⟩
  ·rcases List.mem_append.1 hm with h|h
   ·exact(hH.nd m h).ext e
   ·rw[List.mem_singleton.1 h];exact hN.ext e
  ·rw[List.length_append,List.length_singleton]
   have:maxLen=9223372036854775807:=by decide+kernel
   omega
 refine⟨⟨by decide,fun b7 w8 a8=>?_⟩,by decide,fun b175 w176 a176=>⟨hc (a176.ch _),by decide,fun b177 w178 a178=>⟨hc (Ch.trans (a176.ch _) (a178.ch _)),?_⟩⟩⟩
 ·have e8:Ext w w8:=a8.ch _
  have p8:=a8.here
  refine⟨at1 e8,hc e8,?_,by decide,fun b92 w93 a93=>⟨hc (e8.trans (a93.ch _)),?_⟩⟩
  ·refine app1 (s:=⟨some ⟨b7,0,none⟩,0,0⟩) (emp a8) rfl (hH.ext e8) hr fun s10 w11 ho hn hC hb=>?_
   have e11:Ext w w11:=e8.chN hC fun i hi=>by have:=bkE i hi;omega
   refine⟨at1 e11,hc e11,by decide,fun b12 w13 a13=>?_⟩
   have e13:Ext w11 w13:=a13.ch _
   have bkN:∀i∈blk s10,w.heap.size<=i:=fun i hi=>by
    rcases hb i hi with h|h
    ·have:=bkE i h;omega
    ·have:=e8.size;omega
   exact⟨hc (e11.trans e13),app2 (ho.ext e13) (by omega) a13.new fun s15 w16 ho' hC' hb'=>fin (W:=w) ho' ((e11.trans e13).chN hC' bkN)⟩
  ·have e93:Ext w8 w93:=a93.ch _
   refine app1 (s:=⟨some ⟨b7,0,none⟩,0,0⟩) ((emp a8).ext e93) rfl (hH.ext (e8.trans e93)) hr fun s95 w96 ho hn hC hb=>?_
   have e96:Ext w w96:=(e8.trans e93).chN hC fun i hi=>by have:=bkE i hi;omega
   have hb92:=hC.at a93.new fun hi=>by have:=bkE _ hi;have:=a93.here;have:=a8.size;omega
   have bkN:∀i∈blk s95,w.heap.size<=i:=fun i hi=>by
    rcases hb i hi with h|h
    ·have:=bkE i h;omega
    ·have:=e8.size;have:=e93.size;omega
   exact⟨hc e96,app2 ho (by omega) hb92 fun s98 w99 ho' hC' hb'=>fin (W:=w) ho' (e96.chN hC' bkN)⟩
 ·have e176:Ext w w176:=a176.ch _
  have e178:Ext w176 w178:=a178.ch _
  have p178:=a178.here
  have z176:=a176.size
  have p176:=a176.here
  refine app1 (s:=⟨some ⟨b177,0,none⟩,0,0⟩) (emp a178) rfl (hH.ext (e176.trans e178)) hr fun s180 w181 ho hn hC hb=>?_
  have e181:Ext w w181:=(e176.trans e178).chN hC fun i hi=>by have:=bkE i hi;omega
  have hb175:=hC.at (e178.at a176.new) fun hi=>by have:=bkE _ hi;omega
  have bkN:∀i∈blk s180,w.heap.size<=i:=fun i hi=>by
   rcases hb i hi with h|h
   ·have:=bkE i h;omega
   ·have:=e178.size;omega
  exact⟨hc e181,app2 ho (by omega) hb175 fun s183 w184 ho' hC' hb'=>fin (W:=w) ho' (e181.chN hC' bkN)⟩
theorem Cg.filter{hs ks:List Nd}(h:Cg hs ks)(p:Int->Bool):Cg (hs.filter fun n=>p n.v.1) (ks.filter fun n=>p n.v.1):=by
 induction hs generalizing ks with
 | nil=>
  have:ks=[]:=List.length_eq_zero_iff.1 (Cg.len h).symm
  subst this;exact h
 | cons a hs ih=>
  cases ks with
  | nil=>exact absurd (Cg.len h) (by simp)
  | cons b ks=>
   obtain⟨h1,h2⟩:=List.cons.inj (show dOf a::hs.map dOf=dOf b::ks.map dOf from h)
   have e:a.v.1=b.v.1:=(dOf_iff.1 h1).1
   have:=ih (ks:=ks) h2
   rw[List.filter_cons,List.filter_cons,e]
   split
   ·show dOf a::_=dOf b::_
    rw[h1];exact congrArg _ this
   ·exact this
theorem Cg.saga{hs ks:List Nd}(h:Cg hs ks)(s:Int):(∃n∈hs,n.v.1=s)↔∃n∈ks,n.v.1=s:=by
 have one:∀ {hs ks:List Nd},Cg hs ks->(∃n∈hs,n.v.1=s)->∃n∈ks,n.v.1=s:=fun h ⟨n,hn,e⟩=>by
  obtain⟨i,hi,rfl⟩:=List.getElem_of_mem hn
  obtain⟨b,hb,d⟩:=h.get (List.getElem?_eq_getElem hi)
  exact⟨b,List.mem_of_getElem? hb,by rw[<- (dOf_iff.1 d).1];exact e⟩
 exact⟨one h,one h.symm⟩
theorem GoodP.saga{x:CatD}{hs:List Nd}(h:GoodP x hs):∀n∈hs,0<=n.v.1:=fun n hn=>by
 obtain⟨i,hi,rfl⟩:=List.getElem_of_mem hn
 exact(h.1.ok i _ (List.getElem?_eq_getElem hi)).s0
theorem mem_take_succ{α:Type}{l:List α}{k:Nat}{a:α}(hx:l[k]? =some a){p:α->Prop}:(∃b∈l.take (k+1),p b)↔(∃b∈l.take k,p b)\/p a:=by
 rw[take_succ_get hx]
 constructor
 ·rintro⟨b,hb,hp⟩
  rcases List.mem_append.1 hb with h|h
  ·exact .inl ⟨b,h,hp⟩
  ·rw[List.mem_singleton.1 h] at hp;exact .inr hp
 ·rintro(⟨b,hb,hp⟩|hp)
  ·exact⟨b,List.mem_append.2 (.inl hb),hp⟩
  ·exact⟨a,by simp,hp⟩
theorem incTrims(w:World){x:tyCat.den}{cs:Array Value}(h0:rep (fun _=>True) w tyCat x cs.toList){l:List tyNd.den}{c1:Value}(h1:rep (fun _=>True) w (.sl tyNd) l [c1]){sg:List Bool}{c2:Value}(h2:rep (fun _=>True) w (.sl .bool) sg [c2]){y:tyNd.den}{cn:Array Value}(h3:rep (fun _=>True) w tyNd y cn.toList)(hr1:∀s:Sl,c1=slV s->s.n*80<=140737488351232)(hr2:∀s:Sl,c2=slV s->s.n*1<=140737488351232):
  Cw 18 #[.agg cs,c1,c2,.agg cn] w fun v w'=>v=.bool true/\Ext w w':=by
 obtain⟨v,e0,hC⟩:=rep_cat h0
 obtain⟨t,hs,e1,hH,hJ⟩:=rep_histJ (rep_old (by decide) h1)
 obtain⟨n,e3,hNJ⟩:=rep_ndJ (rep_old (by decide) h3)
 obtain⟨u,e4⟩:∃u,c2=slV u:=by
  obtain⟨s,hs,_⟩:=id h2
  exact⟨s,(List.cons.inj hs).1⟩
 subst e4
 have hB:=rd_bools h2
 have hun:=rdB_n hB
 simp only[List.cons.injEq,and_true] at e1
 subst e1
 have hr:=hr1 t rfl
 rw[arr_eq e0,arr_eq e3]
 refine F18_ok v t u n.v w _ fun b1 w2 a2 b3 w4 a4 b5 w6 a6=>(c52 w6).use ?_
 rintro _ w8 ⟨rfl,e8⟩
 have e2:Ext w w2:=a2.ch _
 have e4:Ext w2 w4:=a4.ch _
 have e6:Ext w4 w6:=a6.ch _
 have E6:Ext w w6:=(e2.trans e4).trans e6
 have E8:=E6.trans e8
 have ed8:=extDrew w8
 have qc:∀ {W:World},Ext w8 W->CellsN W b1 0 17 (cxC v):=fun e=>cxN hC a2.new (((e4.trans e6).trans e8).trans e)
 have qn:∀ {W:World},Ext w8 W->CellsAt W b5 0 (nC n.v):=fun e=>boxAll (cs:=nC n.v) a6.new (e8.trans e)
 have qu:∀ {W:World},Ext w8 W->W.cell? ⟨b3,0,none⟩=some (slV u):=fun e=>boxAt (cs:=[slV u]) a4.new 0 ((e6.trans e8).trans e)
 refine⟨true,rfl,IfB.no rfl ?_⟩
 unfold F18k7
 refine⟨fun r W=>Ext w8 W/\(r=false->(∃W',Hst W' t hs/\NdOk W' n)/\hs.length<=23/\CatOk (catOf x)),⟨v,qc ed8,n.v,qn ed8,ordersC (n:=n) (hH.ext (E8.trans ed8)) ((⟨hNJ.i.rs,hNJ.i.ws⟩:NdIn w n).ext (E8.trans ed8)) hr (fun e=>qn (ed8.trans e)) (fun e=>qc (ed8.trans e)) fun s W hS eW=>?_⟩,?_⟩
 ·have xW:Ext w8 W:=ed8.trans eW
  have EW:=E8.trans xW
  refine(c29 (hC.ext EW) hS).use ?_
  rintro _ w34 ⟨g,rfl,hg,e34⟩
  have x34:=xW.trans e34
  have E34:=E8.trans x34
  refine⟨g,rfl,IfB.intro (fun hg1=>⟨(by trivial),x34,fun h=>(by cases h)⟩) fun hg1=>?_⟩
  obtain⟨hSt,hl⟩:=hg hg1
  rw[List.length_append,List.length_singleton] at hl
  have hHt:Hst w34 t hs:=⟨(hH.ext E34).rd,fun m hm=>hSt.ok m (List.mem_append.2 (.inl hm)),by omega,hH.cap⟩
  unfold F18k5
  refine⟨v,qc x34,(c53 (hC.ext E34)).use ?_⟩
  rintro _ w40 ⟨m,rfl,hm,e40⟩
  have x40:=x34.trans e40
  refine⟨m,rfl,IfB.intro (fun h=>⟨(by trivial),x40,fun h=>(by cases h)⟩) fun h=>⟨u,qu x40,(by trivial),x40,fun _=>⟨⟨w34,hHt,hSt.ok n (by simp)⟩,by omega,hm.1 (by simpa using h)⟩⟩⟩
 rintro r w96 _ ⟨x96,hfin⟩
 have E96:=E8.trans x96
 unfold F18j1
 refine IfB.intro (fun _=>⟨rfl,E96⟩) fun hr96=>?_
 obtain⟨⟨W',hHt',hNt'⟩,hlen,hk⟩:=hfin hr96
 have hnOk:∀m∈hs,NdOk w m:=fun m hm=>⟨(hJ m hm).i.rs,(hJ m hm).i.ws,(hHt'.ok m hm).rl,(hHt'.ok m hm).wl⟩
 have hmOk:NdOk w n:=⟨hNJ.i.rs,hNJ.i.ws,hNt'.rl,hNt'.wl⟩
 have htn:=hH.n
 refine⟨v,qc x96,(c54 (hC.ext E96)).use ?_⟩
 rintro _ w103 ⟨hN,e103⟩
 obtain⟨b,rfl,hG⟩:∃b,_=Value.pointer (some ⟨b,0,none⟩)/\GrM (fun j=>w96.heap.size<=j) w103 b ⟨none,0,0⟩ (catOf x) []:=by
  rcases hN with h|h
  ·exact absurd hk h.1
  ·exact h.2
 have z96:=x96.size
 have z8:=E8.size
 refine⟨some ⟨b,0,none⟩,rfl,IfB.no rfl ⟨fun m z W=>∃(i:Nat)(so th:Sl)(hl ns:List Nd),i<=hs.length/\i<=16/\m+i=hs.length/\z=(so,(i:Int))/\GrM (fun j=>w8.heap.size<=j/\j∉blk so) W b th (catOf x) ns/\Cg ns hl/\hl.length<=i/\(∀q∈hl,q∈hs)/\OwS W so 6 (hl.flatMap nL)/\(∀j∈blk so,w8.heap.size<=j)/\Ext w8 W,
  ⟨hs.length,0,⟨none,0,0⟩,⟨none,0,0⟩,[],[],Nat.zero_le _,Nat.zero_le _,rfl,rfl,hG.mono fun j hj=>⟨by omega,by simp[blk]⟩,rfl,Nat.zero_le _,by simp,.nil _ _,by simp[blk],x96.trans e103⟩,?_⟩⟩
 rintro m _ W g ⟨i,so,th,hl,ns,hi,hi16,hmi,rfl,hG,hcg,hll,hsub,hO,hnew,xW⟩
 have EW:=E8.trans xW
 have hnl:=Cg.len hcg
 have hgood:=hG.good.cg hcg
 have hSt:∀ {V:World},Ext w V->OwS V so 6 (hl.flatMap nL)->Hst V so hl:=fun e h=>⟨h.rd,fun q hq=>(hnOk q (hsub q hq)).ext e,by omega,h.cap⟩
 have hson:=owsN nL_len (by omega) hO
 obtain⟨hgb,hgt⟩:=hG.db
 have zW:=xW.size
 unfold F18j2
 refine IfB.dec (fun hlt=>?_) fun hge=>?_
 unfold F18k6
 refine IfB.dec (fun h16=>?_) fun hge=>?_
 ·-- a node more
  have hi':i<hs.length:=by dsimp only at hlt;omega
  have hi6:i<16:=by dsimp only at h16;omega
  have hx:hs[i]? =some hs[i]:=List.getElem?_eq_getElem hi'
  have hxm:hs[i]∈hs:=List.getElem_mem hi'
  generalize hs[i]=q at hx hxm
  have hbn:(0:Int)<=(i:Int)/\(i:Int)<(t.n:Int):=⟨by omega,hlt⟩
  obtain⟨pb,po,hp,_⟩:=hH.rd.elem (i:=i) (by omega) (by omega) (flatGet nL_len hx)
  have at':∀ {V:World},Ext w V->CellsAt V pb (po+(i:Int).toNat*6) (nC q.v):=fun e=>by
   rw[Int.toNat_natCast]
   obtain⟨pb',po',hp',hc'⟩:=(hH.rd.ext e).elem (i:=i) (by omega) (by omega) (flatGet nL_len hx)
   rw[hp] at hp';cases hp'
   exact hc'
  have hwi:IntKind.i64.wrap ((i:Int)+1)=((i+1:Nat):Int):=by rw[wrap_of (by omega) (by omega)];rfl
  have hqA:NdA (fun j=>j≠b/\j∉blk th) W q:=(((hJ q hxm).a (hnOk q hxm)).ext EW).mono fun j hj=>⟨fun h=>by have:=hgb.1;omega,fun h=>by have:=(hgt j h).1;omega⟩
  refine⟨pb,po,hp,hbn,q.v,at' EW,(c56 hG hqA (by omega)).use ?_⟩
  rintro _ w116 ⟨e,th',ns',rfl,hA,hz,hnz,hG',hC',_⟩
  have x116:Ext w8 w116:=xW.chN hC' fun j hj=>by
   rcases hj with h|h
   ·rw[h];exact hgb.1
   ·exact(hgt j h).1
  have E116:=E8.trans x116
  have hO116:OwS w116 so 6 (hl.flatMap nL):=hO.ch hC' fun j hj h=>by
   rcases h with h|h
   ·exact hgb.2 (h ▸ hj)
   ·exact(hgt j h).2 hj
  have hlt:=hO.lt
  have hG1:GrM (fun j=>w8.heap.size<=j/\j∉blk so) w116 b th' (catOf x) ns':=hG'.mono fun j hj=>hj.elim id fun h=>⟨by omega,fun h'=>by have:=hlt j h';omega⟩
  refine⟨e,rfl,IfB.intro (fun he=>?_) fun he=>?_⟩
  ·have he:e=0:=by simpa using he
   obtain⟨n',hd,rfl⟩:=hz he
   refine⟨pb,po,hp,hbn,q.v,at' E116,by decide,fun b121 w122 a122=>app2 (s:=so) (hO116.ext (a122.ch _)) (by omega) a122.new fun s124 w125 ho hC hb=>⟨(by trivial),m-1,by omega,i+1,s124,th',hl++[q],ns++[n'],hi',hi6,by omega,by(try dsimp only);rw[hwi],((hG1.ext (a122.ch _)).old.ch hC fun j hj h=>hj.1.2 h).mono fun j hj=>⟨hj.1.1,fun h=>?_⟩,hcg.snoc hd,by rw[List.length_append,List.length_singleton];omega,fun p hp=>?_,?_,fun j hj=>?_,(x116.trans (a122.ch _)).chN hC hnew⟩⟩
   ·rcases hb j h with h'|h'
    ·exact hj.1.2 h'
    ·have:=hj.2;omega
   ·rcases List.mem_append.1 hp with h|h
    ·exact hsub p h
    ·rw[List.mem_singleton.1 h];exact hxm
   ·rw[List.flatMap_append,List.flatMap_cons,List.flatMap_nil,List.append_nil];exact ho
   ·rcases hb j hj with h'|h'
    ·exact hnew j h'
    ·have:=x116.size;have:=a122.size;omega
  ·have he:e≠0:=by simpa using he
   obtain⟨rfl,rfl⟩:=hnz he
   exact⟨(by trivial),m-1,by omega,i+1,so,th',hl,ns',hi',hi6,by omega,by(try dsimp only);rw[hwi],hG1,hcg,by omega,hsub,hO116,hnew,x116⟩
 all_goals
  refine(c57 hG).use ?_
  rintro _ w129 ⟨b',th',rfl,hGc,hb',hth',e129⟩
  have E129:=EW.trans e129
  have z129:=E129.size
  have hmA:NdA (fun j=>j≠b'/\j∉blk th') w129 n:=((hNJ.a hmOk).ext E129).mono fun j hj=>⟨by omega,fun h=>by have:=hth' j h;omega⟩
  refine⟨some ⟨b',0,none⟩,rfl,n.v,qn (xW.trans e129),(c56 hGc hmA (by omega)).use ?_⟩
  rintro _ w133 ⟨e',th2,ns2,rfl,_,_,_,_,hC2,_⟩
  have e133:Ext W w133:=e129.chN hC2 fun j hj=>by
   rcases hj with h|h
   ·rw[h];exact hb'
   ·exact hth' j h
  have x133:=xW.trans e133
  have E133:=E8.trans x133
  refine⟨e',rfl,v,qc x133,(c59 (hG.ext e133) (hC.ext E133) (hSt E133 (hO.ext e133)) hcg).use ?_⟩
  rintro _ w139 ⟨rfl,e139⟩
  have y139:=e133.trans e139
  refine⟨true,rfl,IfB.no rfl ((c60 (hG.ext y139)).use ?_)⟩
  rintro _ w142 ⟨s,xs,rfl,hsrt,hmem,hos,e142⟩
  have hmem:∀k,k∈xs↔∃q∈hl,q.v.1=k:=fun k=>(hmem k).trans (hcg.saga k)
  have hsn:=rdI hos.rd
  have y142:=y139.trans e142
  have hOV:∀ {V:World},Ext w142 V->∀ {k:Nat}{q:Nd},hl[k]? =some q->∃pb po,so.p=some ⟨pb,po,none⟩/\V.cell? ⟨pb,po+(k:Int).toNat*6+0,none⟩=some (iv q.v.1):=fun{V} e {k} {q} hx=>by
   rw[Int.toNat_natCast]
   have hk:=get_lt hx
   obtain⟨pb,po,hp,hc⟩:=(hO.ext (y142.trans e)).rd.elem (i:=k) (by omega) (by omega) (flatGet nL_len hx)
   exact⟨pb,po,hp,hc 0 _ rfl⟩
  have hsV:∀ {V:World},Ext w142 V->∀ {k:Nat}{c:Int},xs[k]? =some c->∃pb po,s.p=some ⟨pb,po,none⟩/\V.cell? ⟨pb,po+(k:Int).toNat,none⟩=some (iv c):=fun{V} e {k} {c} hx=>by
   rw[Int.toNat_natCast]
   exact rdI_get (hos.rd.ext e) hx
  have hxl:xs.length<=hl.length:=by
   have:=nodup_le (a:=xs) (b:=hl.map (·.v.1)) (sorted_nodup hsrt) fun k hk=>by
    obtain⟨q,hq,e⟩:=(hmem k).1 hk
    exact List.mem_map.2 ⟨q,hq,e⟩
   rw[List.length_map] at this
   exact this
  have hxn:∀ {i:Nat},i<xs.length->(0:Int)<=(i:Int)/\(i:Int)<(s.2:Int):=fun h=>⟨by omega,by show _<(s.n:Int);omega⟩
  have hln:∀ {i:Nat},i<hl.length->(0:Int)<=(i:Int)/\(i:Int)<(so.2:Int):=fun h=>⟨by omega,by show _<(so.n:Int);omega⟩
  have wr:∀ {i:Nat},i<1000->IntKind.i64.wrap ((i:Int)+1)=((i+1:Nat):Int):=fun h=>by rw[wrap_of (by omega) (by omega)];rfl
  have x142:=xW.trans y142
  have E142:=E8.trans x142
  refine⟨s,rfl,fun m z V=>∃k:Nat,k<=xs.length/\m+k=xs.length/\z=(k:Int)/\Ext w142 V,⟨xs.length,0,Nat.zero_le _,rfl,rfl,Ch.refl _ _⟩,?_⟩
  rintro m1 _ V1 g1 ⟨k,hk,hmk,rfl,eV1⟩
  first|unfold F18j3|unfold F18j7
  refine IfB.dec (fun hlt1=>?_) fun hge1=>?_
  ·-- a saga of the list is one of the history, and they rise
   have hk':k<xs.length:=by omega
   obtain⟨c,hxk⟩:∃c,xs[k]? =some c:=⟨_,List.getElem?_eq_getElem hk'⟩
   have hin:∃q∈hl,q.v.1=c:=(hmem c).1 (List.mem_of_getElem? hxk)
   have hpr:∀d,0<k->xs[k-1]? =some d->d<c:=fun d h hd=>by
    obtain⟨h1,rfl⟩:=List.getElem?_eq_some_iff.1 hxk
    obtain⟨h2,rfl⟩:=List.getElem?_eq_some_iff.1 hd
    exact List.pairwise_iff_getElem.1 hsrt _ _ h2 h1 (by omega)
   refine⟨fun m z V=>∃(j:Nat)(fd:Bool),j<=hl.length/\m+j=hl.length/\z=(fd,(j:Int))/\(fd=true↔∃q∈hl.take j,q.v.1=c)/\Ext w142 V,⟨hl.length,0,false,Nat.zero_le _,rfl,rfl,by simp,eV1⟩,?_⟩
   rintro m2 _ V2 g2 ⟨j,fd,hj,hmj,rfl,hfd,eV2⟩
   have edV:=extDrew V2
   first|unfold F18j4|unfold F18j8
   refine IfB.dec (fun hlt2=>?_) fun hge2=>?_
   ·have hj':j<hl.length:=by dsimp only at hlt2;omega
    have hxj:hl[j]? =some hl[j]:=List.getElem?_eq_getElem hj'
    generalize hl[j]=q at hxj
    unfold F18k4
    refine IfB.intro (fun h=>⟨(by trivial),m2-1,by omega,j+1,true,hj',by omega,by(try dsimp only);rw[wr (by omega)],⟨fun _=>(mem_take_succ hxj).2 (.inl (hfd.1 h)),fun _=>rfl⟩,eV2.trans edV⟩) fun h=>?_
    obtain⟨pb,po,hp,hc⟩:=hOV (eV2.trans edV) hxj
    obtain⟨qb,qo,hq,hd⟩:=hsV (eV2.trans edV) hxk
    refine⟨pb,po,hp,hln hj',q.v.1,hc,qb,qo,hq,hxn hk',c,hd,(by trivial),m2-1,by omega,j+1,q.v.1 == c,hj',by omega,by(try dsimp only);rw[wr (by omega)],?_,eV2.trans edV⟩
    rw[beq_iff_eq,mem_take_succ hxj]
    exact⟨fun h=>.inr h,fun h'=>h'.elim (fun h'=>by rw[hfd.2 h'] at h;cases h) id⟩
   ·have:j=hl.length:=by dsimp only at hge2;omega
    subst this
    rw[List.take_length] at hfd
    have hfd:=hfd.2 hin
    subst hfd
    unfold F18k2
    refine IfB.no rfl (IfB.dec (fun h0=>?_) fun h0=>⟨(by trivial),m1-1,by omega,k+1,by omega,by omega,wr (by omega),eV2.trans edV⟩)
    have hk0:0<k:=by omega
    have hw:IntKind.i64.wrap ((k:Int)-1)=((k-1:Nat):Int):=by rw[wrap_of (by omega) (by omega)];omega
    obtain⟨qb,qo,hq,hd⟩:=hsV (eV2.trans edV) hxk
    obtain⟨d,hxd⟩:∃d,xs[k-1]? =some d:=⟨_,List.getElem?_eq_getElem (show k-1<xs.length by omega)⟩
    obtain⟨qb2,qo2,hq2,hd2⟩:=hsV (eV2.trans edV) hxd
    have:=hpr d hk0 hxd
    exact⟨qb,qo,hq,hxn hk',c,hd,qb2,qo2,hq2,by(try dsimp only);rw[hw];exact hxn (by omega),_,by(try dsimp only);rw[hw];exact hd2,IfB.no (decide_eq_false (by omega)) ⟨(by trivial),m1-1,by omega,k+1,by omega,by omega,wr (by omega),eV2.trans edV⟩⟩
  refine⟨fun m z V=>∃j:Nat,j<=hl.length/\m+j=hl.length/\z=(j:Int)/\Ext w142 V,⟨hl.length,0,Nat.zero_le _,rfl,rfl,eV1⟩,?_⟩
  rintro m2 _ V2 g2 ⟨j,hj,hmj,rfl,eV2⟩
  first|unfold F18j5|unfold F18j9
  refine IfB.dec (fun hlt2=>?_) fun hge2=>?_
  ·-- a node's saga is one of the list
   have hj':j<hl.length:=by dsimp only at hlt2;omega
   have hxj:hl[j]? =some hl[j]:=List.getElem?_eq_getElem hj'
   have hin:hl[j].v.1∈xs:=(hmem _).2 ⟨_,List.getElem_mem hj',rfl⟩
   generalize hl[j]=q at hxj hin
   refine⟨fun m z V=>∃(k:Nat)(fd:Bool),k<=xs.length/\m+k=xs.length/\z=(fd,(k:Int))/\(fd=true↔∃c∈xs.take k,q.v.1=c)/\Ext w142 V,⟨xs.length,0,false,Nat.zero_le _,rfl,rfl,by simp,eV2⟩,?_⟩
   rintro m3 _ V3 g3 ⟨k,fd,hk,hmk,rfl,hfd,eV3⟩
   have edV:=extDrew V3
   first|unfold F18j6|unfold F18j10
   refine IfB.dec (fun hlt3=>?_) fun hge3=>?_
   ·have hk':k<xs.length:=by dsimp only at hlt3;omega
    have hxk:xs[k]? =some xs[k]:=List.getElem?_eq_getElem hk'
    generalize xs[k]=c at hxk
    unfold F18k3
    refine IfB.intro (fun h=>⟨(by trivial),m3-1,by omega,k+1,true,hk',by omega,by(try dsimp only);rw[wr (by omega)],⟨fun _=>(mem_take_succ hxk).2 (.inl (hfd.1 h)),fun _=>rfl⟩,eV3.trans edV⟩) fun h=>?_
    obtain⟨pb,po,hp,hc⟩:=hOV (eV3.trans edV) hxj
    obtain⟨qb,qo,hq,hd⟩:=hsV (eV3.trans edV) hxk
    refine⟨pb,po,hp,hln hj',q.v.1,hc,qb,qo,hq,hxn hk',c,hd,(by trivial),m3-1,by omega,k+1,q.v.1 == c,hk',by omega,by(try dsimp only);rw[wr (by omega)],?_,eV3.trans edV⟩
    rw[beq_iff_eq,mem_take_succ hxk]
    exact⟨fun h=>.inr h,fun h'=>h'.elim (fun h'=>by rw[hfd.2 h'] at h;cases h) id⟩
   ·have:k=xs.length:=by dsimp only at hge3;omega
    subst this
    rw[List.take_length] at hfd
    have hfd:=hfd.2 ⟨_,hin,rfl⟩
    subst hfd
    exact IfB.no rfl ⟨(by trivial),m2-1,by omega,j+1,hj',by omega,wr (by omega),eV3⟩
  have x2:=x142.trans eV2
  have E2:=E8.trans x2
  have yV:=y142.trans eV2
  unfold F18k1
  refine(c61 (cl:=(62,#[.pointer (some ⟨b3,0,none⟩)])) (kp:=kpB sg) (hG.ext yV) (by omega) fun n W e R' hR=>(c62 (qu (x2.trans e)) (hB.ext (E2.trans e)) n).use fun v w' ⟨hv,hw⟩=>by subst hv;subst hw;exact hR _ (Ch.refl _ _)).use ?_
  rintro _ w286 ⟨p,ok,rfl,hok,hno,hyes,e286⟩
  have x286:=x2.trans e286
  have E286:=E8.trans x286
  have hS286:=hSt E286 (hO.ext (yV.trans e286))
  refine⟨(p,ok),rfl,u,qu x286,(c63 hS286 (hB.ext E286) hgood.saga (by omega)).use ?_⟩
  rintro _ w290 ⟨s291,rfl,hSk,e290⟩
  have x290:=x286.trans e290
  have E290:=E8.trans x290
  refine⟨s291,rfl,v,qc x290,(c33 (hC.ext E290) hSk).use ?_⟩
  rintro _ w296 ⟨t297,rfl,h297,e296⟩
  have x296:=x290.trans e296
  have E296:=E8.trans x296
  have hcf:=hcg.filter (kpB sg)
  have ht:t297=ok:=by
   rw[Bool.eq_iff_iff,h297,hok]
   exact⟨fun h=>h.cg hcf.symm,fun h=>h.cg hcf⟩
  subst ht
  refine⟨t297,rfl,IfB.no (by cases t297<;>rfl) (IfB.intro (fun h=>?_) fun h=>?_)⟩
  ·have h:t297=false:=by simpa using h
   have hp:=hno h
   subst hp
   exact⟨rfl,E296⟩
  ·have h:t297=true:=by simpa using h
   obtain⟨b',th',ns',rfl,hG',hcg'⟩:=hyes h
   refine IfB.yes rfl ⟨v,qc x296,(c59 (hG'.ext (e290.trans e296)) (hC.ext E296) (hSk.ext e296) (Eq.trans hcg' hcf)).use ?_⟩
   rintro _ w302 ⟨rfl,e302⟩
   exact⟨true,rfl,rfl,E296.trans e302⟩
end Go.Proofs.YtlpgdngcgbeegaaGreat.Gx
namespace Go.Proofs.YtlpgdngcgbeegaaGreat.incTrims
open Go.ChangeShapes Go.WideShapes Go.ChangeAt Go.RowKit
open Go.ChangeMaps (open_string shut_string)
set_option linter.unusedVariables false
theorem own:ownKnob Tryz.prog.godebug=none:=by kernel_rfl
set_option maxRecDepth 100000 in
theorem lifted(os:Os)(started:os.Started)(H:Type)(enc:TypeId×Value->H):
  ReturnsInHanded {} Tryz.checked os 18 .any (Rows.incTrimsSpec.pre6 enc Tryz.prog Tryz.f18 Rows.incTrimsRow.domain false) (Rows.incTrimsSpec.post enc Tryz.prog Tryz.f18 false true false false):=by
 refine returnsInHanded_of_change_sized (C:=Tryz.checked) own started (by kernel_rfl) Tryz.func18
  (ChangeSpec.witness6 (enc:=enc) (C:=Tryz.checked) false ⟨#[],#[.agg #[.slice none 0 0,.int .i64 0,.int .i64 0,.int .i64 0,.int .i64 0,.int .i64 0,.int .i64 0,.int .i64 0,.int .i64 0,.int .i64 0,.int .i64 0,.int .i64 0,.int .i64 0,.int .i64 0,.int .i64 0,.int .i64 0,.int .i64 0],.slice none 0 0,.slice none 0 0,.agg #[.int .i64 0,.int .i64 0,.int .i64 0,.bool false,.slice none 0 0,.slice none 0 0]],[]⟩ 8 (by kernel_rfl) (by kernel_rfl) (by kernel_rfl) (by kernel_rfl)) ?_
 intro W base args ds gs before hval0 hW hcnd hsz _
 have hval:∀(j:Nat) t v,Tryz.f18.params[j]? =some t->args[j]? =some v->Value.okWide Tryz.prog W .any base t v:=hval0
 have hW':=hW
 have hlt:=hW.lt
 obtain⟨p,q,hA0,hV,rfl,hfz,hnd⟩:=hW
 have hA:DataW.TrodAll enc Tryz.prog W 0 (fun _=>true) true Tryz.f18.params.toList args.toList ds p:=hA0
 have hpar:Tryz.f18.params=#[26,39,70,53]:=rfl
 rw[hpar] at hA hval
 obtain⟨v0,vs0,d0,ds0,p0,q0,hargs,rfl,rfl,h0,r0⟩:=trodAll_cons hA
 obtain⟨v1,vs1,d1,ds1,p1,q1,rfl,rfl,rfl,h1,r1⟩:=trodAll_cons r0
 obtain⟨v2,vs2,d2,ds2,p2,q2,rfl,rfl,rfl,h2,r2⟩:=trodAll_cons r1
 obtain⟨v3,vs3,d3,ds3,p3,q3,rfl,rfl,rfl,h3,r3⟩:=trodAll_cons r2
 obtain⟨rfl,rfl,rfl⟩:=trodAll_nil r3
 obtain rfl:args=#[v0,v1,v2,v3]:=by cases args;simp_all
 obtain⟨rfl,rfl⟩:=trodVars_none hV
 clear hA0 hval0
 obtain⟨x0,e0⟩:=Gx.open_arg (d:=12) (ty:=(.pair (.sl (.pair .str (.pair (.int .i64) (.pair (.sl (.pair (.sl (.pair (.int .i64) (.pair (.int .i64) (.pair (.int .i64) (.pair (.int .i64) (.pair (.pair (.int .i64) (.int .i64)) (.pair (.pair (.int .i64) (.int .i64)) (.int .i64)))))))) (.sl (.pair (.pair (.int .i64) (.int .i64)) (.pair (.pair (.int .i64) (.int .i64)) .bool))))) (.pair (.sl (.pair (.sl (.pair (.int .i64) (.pair (.int .i64) (.pair (.int .i64) (.pair (.int .i64) (.pair (.pair (.int .i64) (.int .i64)) (.pair (.pair (.int .i64) (.int .i64)) (.int .i64)))))))) (.sl (.pair (.pair (.int .i64) (.int .i64)) (.pair (.pair (.int .i64) (.int .i64)) .bool))))) .bool))))) (.arr 4 (.arr 4 (.int .i64))))) (by kernel_rfl) h0
 have f0:v0=.agg v0.cells:=Gx.val_agg (hval 0 26 v0 rfl rfl) (.inl ⟨_,Tryz.underlying26⟩)
 obtain⟨x1,e1⟩:=Gx.open_arg (d:=12) (ty:=(.sl (.pair (.int .i64) (.pair (.int .i64) (.pair (.int .i64) (.pair .bool (.pair (.sl (.pair (.int .i64) (.int .i64))) (.sl (.pair (.int .i64) (.int .i64)))))))))) (by kernel_rfl) h1
 obtain⟨c1,g1⟩:∃c,v1.cells.toList=[c]:=List.length_eq_one_iff.1 (Gx.rep_len e1)
 have f1:v1=c1:=Gx.val_of_cells (hval 1 39 v1 rfl rfl) (fun fs n e=>by rw[Tryz.underlying39];exact⟨by simp,by simp⟩) g1
 rw[g1] at e1
 obtain⟨x2,e2⟩:=Gx.open_arg (d:=12) (ty:=(.sl .bool)) (by kernel_rfl) h2
 obtain⟨c2,g2⟩:∃c,v2.cells.toList=[c]:=List.length_eq_one_iff.1 (Gx.rep_len e2)
 have f2:v2=c2:=Gx.val_of_cells (hval 2 70 v2 rfl rfl) (fun fs n e=>by rw[Tryz.underlying70];exact⟨by simp,by simp⟩) g2
 rw[g2] at e2
 obtain⟨x3,e3⟩:=Gx.open_arg (d:=12) (ty:=(.pair (.int .i64) (.pair (.int .i64) (.pair (.int .i64) (.pair .bool (.pair (.sl (.pair (.int .i64) (.int .i64))) (.sl (.pair (.int .i64) (.int .i64))))))))) (by kernel_rfl) h3
 have f3:v3=.agg v3.cells:=Gx.val_agg (hval 3 53 v3 rfl rfl) (.inl ⟨_,Tryz.underlying53⟩)
 have r_1:∀s:Gx.Sl,c1=Gx.slV s->s.n*Tryz.prog.bytesOf 53<=140737488351232:=fun s hs=>Gx.arg_reach (B:=140737488351232) Tryz.underlying39 h1 (by rw[g1,hs]) fun elems spare hd=>sized_slice hsz (j:=1) (t:=39) (e:=53) rfl (by rw[hd];rfl) Tryz.underlying39
 have by_1:Tryz.prog.bytesOf 53=80:=by kernel_rfl
 rw[by_1] at r_1
 have r_2:∀s:Gx.Sl,c2=Gx.slV s->s.n*Tryz.prog.bytesOf 4<=140737488351232:=fun s hs=>Gx.arg_reach (B:=140737488351232) Tryz.underlying70 h2 (by rw[g2,hs]) fun elems spare hd=>sized_slice hsz (j:=2) (t:=70) (e:=4) rfl (by rw[hd];rfl) Tryz.underlying70
 have by_2:Tryz.prog.bytesOf 4=1:=by kernel_rfl
 rw[by_2] at r_2
 have call:Calls Tryz.prog 18 #[v0,v1,v2,v3] W fun e w'=>e=.returned (.bool true)/\Below W.heap.size W w':=by
  rw[f0,f1,f2,f3]
  refine(Gx.incTrims W e0 e1 e2 e3 r_1 r_2).calls.mono ?_
  rintro e w' ⟨v,rfl,rfl,hx⟩
  exact⟨rfl,hx.below⟩
 refine call.mono fun e W' ⟨he,hg⟩=>?_
 subst he
 have b3:∀sp:Nat->Bool,(∀x∈p3,sp x.block=true)->DataW.Trod enc Tryz.prog W' 0 sp true 53 v3 d3 p3:=fun sp hsp=>Gx.trod_keep (by kernel_rfl) (by kernel_rfl) (by decide+kernel) h3 hg (fun x hx=>hlt x (by simp[hx])) hsp
 have b2:∀sp:Nat->Bool,(∀x∈p2,sp x.block=true)->DataW.Trod enc Tryz.prog W' 0 sp true 70 v2 d2 p2:=fun sp hsp=>Gx.trod_keep (by kernel_rfl) (by kernel_rfl) (by decide+kernel) h2 hg (fun x hx=>hlt x (by simp[hx])) hsp
 have b1:∀sp:Nat->Bool,(∀x∈p1,sp x.block=true)->DataW.Trod enc Tryz.prog W' 0 sp true 39 v1 d1 p1:=fun sp hsp=>Gx.trod_keep (by kernel_rfl) (by kernel_rfl) (by decide+kernel) h1 hg (fun x hx=>hlt x (by simp[hx])) hsp
 have b0:∀sp:Nat->Bool,(∀x∈p0,sp x.block=true)->DataW.Trod enc Tryz.prog W' 0 sp true 26 v0 d0 p0:=fun sp hsp=>Gx.trod_keep (by kernel_rfl) (by kernel_rfl) (by decide+kernel) h0 hg (fun x hx=>hlt x (by simp[hx])) hsp
 exact⟨_,rfl,Gx.post_of_below (pa:=(p0++(p1++(p2++(p3++[]))))) (pv:=[]) hW' hg (fun _ _ _=>(trodAll_cons_mk (shut_bool Tryz.underlying4 _) trodAll_mk0)) (fun sp hsp=>by rw[hpar];exact(trodAll_cons_mk (b0 sp fun x hx=>hsp x (by simp[hx])) (trodAll_cons_mk (b1 sp fun x hx=>hsp x (by simp[hx])) (trodAll_cons_mk (b2 sp fun x hx=>hsp x (by simp[hx])) (trodAll_cons_mk (b3 sp fun x hx=>hsp x (by simp[hx])) trodAll_mk0))))) (fun _ _=>rfl) (by simp)
  (ok_one (by kernel_rfl) rfl (okWide_bool_mk Tryz.underlying4 _))⟩
set_option maxRecDepth 100000
theorem ft1:(laidOutB Tryz.checked.prog&&mapsRowed Tryz.checked.prog)=true:=by kernel_rfl
theorem ft2:(Rows.incTrimsRow.inPlace == Tryz.checked.prog.inPlace 18)=true:=by kernel_rfl
theorem ft3:(Rows.incTrimsRow.unfollowed == Tryz.checked.prog.unfollowed 18)=true:=by kernel_rfl
theorem ft4:(Rows.incTrimsRow.named == Tryz.checked.prog.varsNamed 18)=true:=by kernel_rfl
theorem ft6:((Tryz.checked.prog.stops == [])&&(Tryz.checked.prog.stopKnobs == []))=true:=by kernel_rfl
theorem ft7:(Rows.incTrimsRow.plainKeys == Tryz.checked.prog.plainKeys)=true:=by kernel_rfl
theorem ft8:Tryz.checked.prog.stopsHeard=true:=by kernel_rfl
theorem ft9:(Tryz.checked.prog.mayEnter&&((Rows.incTrimsRow.lifted == Tryz.checked.prog.liftsFinal)&&(Tryz.checked.prog.make == some Rows.incTrimsRow.make)))=true:=by kernel_rfl
theorem ft5:(Rows.incTrimsRow.recurses == Tryz.checked.prog.recurses 18)=true:=by
 have h:Tryz.checked.prog.unfollowed 18=true:=by have:=ft3;rw[beq_iff_eq] at this;exact this.symm
 unfold Program.recurses;rw[h];rfl
theorem facts:joinedFacts Tryz.checked.prog 18 Tryz.f18 Rows.incTrimsSpec Rows.incTrimsRow=true:=by
 obtain⟨h1,h2⟩:=Bool.and_eq_true_iff.1 ft1
 obtain⟨h3,h4⟩:=Bool.and_eq_true_iff.1 ft6
 obtain⟨h5,h6⟩:=Bool.and_eq_true_iff.1 ft9
 obtain⟨h7,h8⟩:=Bool.and_eq_true_iff.1 h6
 unfold joinedFacts
 rw[h1,h2,ft2,ft3,ft4,ft5,h3,h4,ft7,ft8,h5,h7,h8]
 kernel_rfl
theorem over:Rows.incTrimsRow.holds Tryz.pinned (OpenSpec.ofChange Rows.incTrimsSpec):=
 OpenClaim.holds_of_wide 18 Tryz.f18 rfl rfl rfl rfl rfl rfl rfl ⟨rfl,rfl,rfl,rfl,rfl⟩ rfl rfl rfl rfl rfl (by kernel_rfl) Tryz.func18 facts
  (of_decide_eq_true (by kernel_rfl)) (by unfold Func.isWrapper;first|(rw[if_pos (by decide+kernel)];kernel_rfl)|(rw[if_neg (by decide+kernel)];exact⟨rfl,rfl⟩))
  (fun os started H enc _=>lifted os started H enc)
theorem proved:Rows.IncTrimsSaid:=
 over
#print axioms proved
end Go.Proofs.YtlpgdngcgbeegaaGreat.incTrims
