/- Merged by pack.py: GxOG, RefA, RefB, KeyC, GxNQ, GxLK, IntK, GxN, DepA, UntB, UntC, GxOH, RefC, RefD, GxOV, WayF, GxNR, DepD, WayG, GxLV, GxJV, GxLC, IntC, GxLX, IntX, GxLP, IntP, GxOW, WayC. -/
import Derived.Test.YtlpgdngcgbeegaaGreatWb1
import Derived.Test.YtlpgdngcgbeegaaGreatWb2
import Derived.Test.YtlpgdngcgbeegaaGreatWb3
import Derived.Test.YtlpgdngcgbeegaaGreatWb4
namespace Go.Proofs.YtlpgdngcgbeegaaGreat.Gx
open Go
set_option linter.unusedVariables false
set_option maxRecDepth 100000
theorem F219_ok(t0:Int×Int)(t1:Int)(w:World)(R:RV)(h:AllocP w (Obj.cells #[Qz t0.1,Qz t0.2] 93) fun b1 w2=>Qi w2 b1 (0+0) fun n3=>IfB (decide ((-1:Int)<=n3)) (Qi w2 b1 (0+0) fun n4=>IfB (decide (n4<t1)) (Qi w2 b1 (0+1) fun n5=>IfB (decide (0<=n5)) (Qi w2 b1 (0+1) fun n6=>R (Value.bool (decide (n6<=900))) w2) (R (Value.bool false) w2)) (R (Value.bool false) w2)) (R (Value.bool false) w2)):Cw 219 #[Value.agg #[Qz t0.1,Qz t0.2],Qz t1] w R:=
 ckF Tryz.func219 .nil h (by kernel_rfl) (by kernel_rfl)
def F218k4(n11:Int)(w23:World)(b1:Nat)(b7:Nat)(y26:Bool->World->Prop):Prop:=IfB (!n11 == 4) (∃(x107:Int×Int),CellsAt w23 b1 (0+6) [Qz x107.1,Qz x107.2]/\∃(x108:Int×Int),CellsAt w23 b7 0 [Qz x108.1,Qz x108.2]/\∃t109:Bool,EqAt Tryz.prog 93 (Value.agg #[Qz x107.1,Qz x107.2]) (Value.agg #[Qz x108.1,Qz x108.2]) t109/\([]:List Nat)=[]/\y26 (!t109) w23) (([]:List Nat)=[]/\y26 false w23)
def F218k3(n10:Int)(w23:World)(b1:Nat)(b7:Nat)(y26:Bool->World->Prop)(n11:Int):Prop:=IfB (!decide (n10<=4)) (∃(x101:Int×Int),CellsAt w23 b1 (0+4) [Qz x101.1,Qz x101.2]/\∃(x102:Int×Int),CellsAt w23 b7 0 [Qz x102.1,Qz x102.2]/\∃t103:Bool,EqAt Tryz.prog 93 (Value.agg #[Qz x101.1,Qz x101.2]) (Value.agg #[Qz x102.1,Qz x102.2]) t103/\IfB (!t103) (([]:List Nat)=[]/\y26 true w23) (F218k4 n11 w23 b1 b7 y26)) (F218k4 n11 w23 b1 b7 y26)
def F218k2(t15:Bool)(w23:World)(b1:Nat)(y26:Bool->World->Prop)(n10:Int)(b7:Nat)(n11:Int):Prop:=IfB (!t15) (Qi w23 b1 (0+2) fun n90=>IfB (n90 != 0) (([]:List Nat)=[]/\y26 true w23) (Qi w23 b1 (0+3) fun n91=>IfB (n91 != 0) (([]:List Nat)=[]/\y26 true w23) (F218k3 n10 w23 b1 b7 y26 n11))) (F218k3 n10 w23 b1 b7 y26 n11)
def F218k1(t22:Bool)(w23:World)(b1:Nat)(y26:Bool->World->Prop)(t15:Bool)(n10:Int)(b7:Nat)(n11:Int):Prop:=IfB (!t22) (Qi w23 b1 (0+8) fun n69=>IfB (n69 != 0) (([]:List Nat)=[]/\y26 true w23) (F218k2 t15 w23 b1 y26 n10 b7 n11)) (F218k2 t15 w23 b1 y26 n10 b7 n11)
def F218j4(t1:Int)(R:RV)(b1:Nat)(n10:Int)(n11:Int)(t119:Bool)(w120:World):Prop:=IfB t119 (R (Value.bool false) w120) (IfB (!decide (n10<=4)) (IfB (!n11 == 4) (R (Value.bool true) w120) (∃(x123:Int×Int),CellsAt w120 b1 (0+6) [Qz x123.1,Qz x123.2]/\Qv' 219 #[Value.agg #[Qz x123.1,Qz x123.2],Qz t1] w120 fun t126 w125=>R (Value.bool t126) w125)) (∃(x127:Int×Int),CellsAt w120 b1 (0+4) [Qz x127.1,Qz x127.2]/\Qv' 219 #[Value.agg #[Qz x127.1,Qz x127.2],Qz t1] w120 fun t130 w129=>IfB t130 (IfB (!n11 == 4) (R (Value.bool true) w129) (∃(x131:Int×Int),CellsAt w129 b1 (0+6) [Qz x131.1,Qz x131.2]/\Qv' 219 #[Value.agg #[Qz x131.1,Qz x131.2],Qz t1] w129 fun t134 w133=>R (Value.bool t134) w133)) (R (Value.bool false) w129)))
def F218j3(t1:Int)(R:RV)(b1:Nat)(n10:Int)(n11:Int)(t15:Bool)(t110:Bool)(w111:World):Prop:=IfB t110 (R (Value.bool false) w111) (∃(y114:Bool->World->Prop),IfB t15 (Qi w111 b1 (0+2) fun n115=>IfB (decide (n115<0)) (([]:List Nat)=[]/\y114 true w111) (Qi w111 b1 (0+2) fun n116=>IfB (decide (3<n116)) (([]:List Nat)=[]/\y114 true w111) (Qi w111 b1 (0+3) fun n117=>IfB (decide (n117<0)) (([]:List Nat)=[]/\y114 true w111) (Qi w111 b1 (0+3) fun n118=>([]:List Nat)=[]/\y114 (decide (3<n118)) w111)))) (([]:List Nat)=[]/\y114 false w111)/\∀(t119:Bool)(w120:World)(y121:Nat->Value),y114 t119 w120->(F218j4 t1 R b1 n10 n11 t119 w120))
def F218j2(t1:Int)(R:RV)(b1:Nat)(b7:Nat)(n9:Int)(n10:Int)(n11:Int)(t15:Bool)(t22:Bool)(w23:World):Prop:=∃(y26:Bool->World->Prop),IfB (!n9 != 3) (Qi w23 b1 (0+1) fun n27=>IfB (n27 != 0) (([]:List Nat)=[]/\y26 true w23) (F218k1 t22 w23 b1 y26 t15 n10 b7 n11)) (F218k1 t22 w23 b1 y26 t15 n10 b7 n11)/\∀(t110:Bool)(w111:World)(y112:Nat->Value),y26 t110 w111->(F218j3 t1 R b1 n10 n11 t15 t110 w111)
def F218j1(t1:Int)(R:RV)(b1:Nat)(b7:Nat)(n9:Int)(n10:Int)(n11:Int)(t15:Bool)(w16:World):Prop:=∃(y19:Bool->World->Prop),(Qi w16 b1 (0+0) fun n20=>IfB (n20 == 5) (([]:List Nat)=[]/\y19 true w16) (Qi w16 b1 (0+0) fun n21=>([]:List Nat)=[]/\y19 (n21 == 8) w16))/\∀(t22:Bool)(w23:World)(y24:Nat->Value),y19 t22 w23->(F218j2 t1 R b1 b7 n9 n10 n11 t15 t22 w23)
theorem F218_ok(t0:Int×Int×Int×Int×Int×Int×Int×Int×Int)(t1:Int)(w:World)(R:RV)(h:AllocP w (Obj.cells (lC95 t0).toArray 95) fun b1 w2=>Qi w2 b1 (0+0) fun n3=>IfB (decide (n3<1)) (R (Value.bool false) w2) (Qi w2 b1 (0+0) fun n4=>IfB (decide (8<n4)) (R (Value.bool false) w2) (Qi w2 b1 (0+1) fun n5=>IfB (decide (n5<0)) (R (Value.bool false) w2) (Qi w2 b1 (0+1) fun n6=>IfB (decide (3<n6)) (R (Value.bool false) w2) (AllocP w2 (Obj.cells #[Qz 0,Qz 0] 93) fun b7 w8=>Qi w8 b1 (0+0) fun n9=>Qi w8 b1 (0+0) fun n10=>Qi w8 b1 (0+0) fun n11=>∃(y12:Bool->World->Prop),(Qi w8 b1 (0+0) fun n13=>IfB (n13 == 6) (([]:List Nat)=[]/\y12 true w8) (Qi w8 b1 (0+0) fun n14=>([]:List Nat)=[]/\y12 (n14 == 7) w8))/\∀(t15:Bool)(w16:World)(y17:Nat->Value),y12 t15 w16->(F218j1 t1 R b1 b7 n9 n10 n11 t15 w16)))))):Cw 218 #[(.agg (lC95 t0).toArray),Qz t1] w R:=
 ckF Tryz.func218 (nd (nd (nd (nd (nd (nd (.join [(9,ob)] (rg [9,9,38,45]) .nil (.join [(10,ob)] (rg [10,10,46,53]) .nil (.node (.join [(103,ob)] (rg [54,103]) .nil .nil) (.node (.join [(124,ob)] (rg [104,124]) .nil .nil) .nil)))))))))) h (by kernel_rfl) (by kernel_rfl)
def F172j1(t0:Sl)(t1:Int)(R:RV)(y1:Nat->Int->World->Prop)(b3:Nat)(n4:Int)(w5:World):Prop:=IfB (decide (n4<(t0.n:Int))) (Qx t0.1 n4 (t0.2:Int) fun b8 b9=>∃(x10:Int×Int×Int×Int×Int×Int×Int×Int×Int),CellsAt w5 b8 (b9+n4.toNat*9) (lC95 x10)/\Qv' 218 #[Value.agg (lC95 x10).toArray,Qz t1] w5 fun t13 w12=>IfB (!t13) (R (Value.bool false) w12) (Qn y1 b3 (IntKind.i64.wrap (n4+1)) w12)) (R (Value.bool true) w5)
theorem F172_ok(t0:Sl)(t1:Int)(w:World)(R:RV)(h:IfB (decide (t1<0)) (R (Value.bool false) w) (IfB (decide (3<t1)) (R (Value.bool false) w) (IfB (decide ((t0.n:Int)<1)) (R (Value.bool false) w) (IfB (decide (8<(t0.n:Int))) (R (Value.bool false) w) (Ql (α:=Int) 0 w fun y1 b3 n4 w5=>(F172j1 t0 t1 R y1 b3 n4 w5)))))):Cw 172 #[Qy t0,Qz t1] w R:=
 ckF Tryz.func172 (nd (nd (.node (nd (.loop [(5,oi)] (rg [4,5,22,34]) .nil)) .nil))) h (by kernel_rfl) (by kernel_rfl)
def F173j1(t0:Sl)(t1:Int)(R:RV)(y1:Nat->Int->World->Prop)(b3:Nat)(n4:Int)(w5:World):Prop:=IfB (decide (n4<(t0.n:Int))) (Qx t0.1 n4 (t0.2:Int) fun b8 b9=>∃(x10:Int×Int),CellsAt w5 b8 (b9+n4.toNat*5+0) [Qz x10.1,Qz x10.2]/\Qv' 219 #[Value.agg #[Qz x10.1,Qz x10.2],Qz t1] w5 fun t13 w12=>IfB (!t13) (R (Value.bool false) w12) (Qx t0.1 n4 (t0.2:Int) fun b14 b15=>∃(x16:Int×Int),CellsAt w12 b14 (b15+n4.toNat*5+2) [Qz x16.1,Qz x16.2]/\Qv' 219 #[Value.agg #[Qz x16.1,Qz x16.2],Qz t1] w12 fun t19 w18=>IfB (!t19) (R (Value.bool false) w18) (Qn y1 b3 (IntKind.i64.wrap (n4+1)) w18))) (R (Value.bool true) w5)
theorem F173_ok(t0:Sl)(t1:Int)(w:World)(R:RV)(h:IfB (decide (t1<0)) (R (Value.bool false) w) (IfB (decide (3<t1)) (R (Value.bool false) w) (IfB (decide (4<(t0.n:Int))) (R (Value.bool false) w) (Ql (α:=Int) 0 w fun y1 b3 n4 w5=>(F173j1 t0 t1 R y1 b3 n4 w5))))):Cw 173 #[Qy t0,Qz t1] w R:=
 ckF Tryz.func173 (nd (nd (.node (nd (.loop [(5,oi)] (rg [4,5,17,40]) .nil)) .nil))) h (by kernel_rfl) (by kernel_rfl)
def F115j2(R:RV)(y9:Nat->Int->World->Prop)(b11:Nat)(n12:Int)(s43:Sl)(y48:Nat->Int->World->Prop)(b50:Nat)(n51:Int)(w52:World):Prop:=IfB (decide (n51<(s43.n:Int))) (Qx s43.1 n51 (s43.2:Int) fun b55 b56=>Qi w52 b55 (b56+n51.toNat*9+0) fun n57=>IfB (decide (6<=n57)) (R (Value.bool false) w52) (Qn y48 b50 (IntKind.i64.wrap (n51+1)) w52)) (Qn y9 b11 (IntKind.i64.wrap (n12+1)) w52)
def F115j3(R:RV)(y9:Nat->Int->World->Prop)(b11:Nat)(n12:Int)(s43:Sl)(y60:Nat->Int->World->Prop)(b62:Nat)(n63:Int)(w64:World):Prop:=IfB (decide (n63<(s43.n:Int))) (Qx s43.1 n63 (s43.2:Int) fun b67 b68=>Qi w64 b67 (b68+n63.toNat*9+0) fun n69=>IfB (decide (6<=n69)) (R (Value.bool false) w64) (Qn y60 b62 (IntKind.i64.wrap (n63+1)) w64)) (Qn y9 b11 (IntKind.i64.wrap (n12+1)) w64)
def F115k1(w13:World)(b1:Nat)(n12:Int)(R:RV)(y9:Nat->Int->World->Prop)(b11:Nat):Prop:=Qs w13.drew b1 (0+2) fun s16=>Qx s16.1 n12 (s16.2:Int) fun b17 b18=>Qs w13.drew b17 (b18+n12.toNat*2+0) fun s19=>Qi w13.drew b1 (0+1) fun n20=>Qv' 172 #[Qy s19,Qz n20] w13.drew fun t23 w22=>IfB (!t23) (R (Value.bool false) w22) (Qs w22 b1 (0+2) fun s24=>Qx s24.1 n12 (s24.2:Int) fun b25 b26=>Qs w22 b25 (b26+n12.toNat*2+1) fun s27=>Qi w22 b1 (0+1) fun n28=>Qv' 173 #[Qy s27,Qz n28] w22 fun t31 w30=>IfB (!t31) (R (Value.bool false) w30) (Qs w30 b1 (0+3) fun s32=>Qx s32.1 n12 (s32.2:Int) fun b33 b34=>Qs w30 b33 (b34+n12.toNat*2+1) fun s35=>Qi w30 b1 (0+1) fun n36=>Qv' 173 #[Qy s35,Qz n36] w30 fun t39 w38=>IfB (!t39) (R (Value.bool false) w38) (Qs w38 b1 (0+3) fun s40=>Qx s40.1 n12 (s40.2:Int) fun b41 b42=>Qs w38 b41 (b42+n12.toNat*2+0) fun s43=>IfB (decide (0<(s43.n:Int))) (Qi w38 b1 (0+1) fun n44=>Qv' 172 #[Qy s43,Qz n44] w38 fun t47 w46=>IfB (!t47) (R (Value.bool false) w46) (Ql (α:=Int) 0 w46 fun y48 b50 n51 w52=>(F115j2 R y9 b11 n12 s43 y48 b50 n51 w52))) (Ql (α:=Int) 0 w38 fun y60 b62 n63 w64=>(F115j3 R y9 b11 n12 s43 y60 b62 n63 w64)))))
def F115j1(R:RV)(b1:Nat)(s3:Sl)(y9:Nat->Int->World->Prop)(b11:Nat)(n12:Int)(w13:World):Prop:=IfB (decide (n12<(s3.n:Int))) (F115k1 w13 b1 n12 R y9 b11) (R (Value.bool true) w13)
theorem F115_ok(t0:ByteArray×Int×Sl×Sl×Bool)(w:World)(R:RV)(h:AllocP w (Obj.cells (lC49 t0).toArray 49) fun b1 w2=>Qs w2 b1 (0+2) fun s3=>∃z4:ByteArray,w2.cell? ⟨b1,0+0,none⟩=some (Value.string z4)/\IfB (decide ((z4.size:Int)<1)) (R (Value.bool false) w2) (∃z5:ByteArray,w2.cell? ⟨b1,0+0,none⟩=some (Value.string z5)/\IfB (decide (16<(z5.size:Int))) (R (Value.bool false) w2) (Qi w2 b1 (0+1) fun n6=>IfB (decide (n6<0)) (R (Value.bool false) w2) (Qi w2 b1 (0+1) fun n7=>IfB (decide (3<n7)) (R (Value.bool false) w2) (IfB (decide ((s3.n:Int)<1)) (R (Value.bool false) w2) (IfB (decide (4<(s3.n:Int))) (R (Value.bool false) w2) (Qs w2 b1 (0+3) fun s8=>IfB ((s8.2:Int) != (s3.2:Int)) (R (Value.bool false) w2) (Ql (α:=Int) 0 w2 fun y9 b11 n12 w13=>(F115j1 R b1 s3 y9 b11 n12 w13))))))))):Cw 115 #[(.agg (lC49 t0).toArray)] w R:=
 ckF Tryz.func115 (nd (nd (nd (.node (nd (.loop [(4,oi)] (rg [2,2,4,6,45,111]) (nd (.node (.node (.node (.draw (sts [0,1,2,3,4,5,6,7] (.ac 8 [] (sts [9,10,11,12,13,14,15,16,17,18] (.ac 19 [] (sts [20,21,22,23,24,25,26,27,28,29,30] (.ac 31 [] (sts [32,33] .fin) .non)) .non)) .non))) .nil) (nd (nd (nd (.loop [(6,oi)] (rg [2,2,6,6,100,111]) .nil))))) .nil)))) .nil)))) h (by kernel_rfl) (by kernel_rfl)
theorem F240_ok(t0:Int)(t1:Int)(w:World)(R:RV)(h:Ql (α:=Int×Int) (t0,0) w fun y1 b3 x4 w5=>IfB (decide (x4.snd<t1)) (¬(2:Int)=0/\Qn y1 b3 (IntKind.i64.wrap (x4.1.tdiv 2),IntKind.i64.wrap (x4.2+1)) w5) (¬(2:Int)=0/\R (Value.bool (x4.1.tmod (2:Int) == 1)) w5)):Cw 240 #[Qz t0,Qz t1] w R:=
 ckF Tryz.func240 (nd (.node (nd (.loop [(0,oi),(5,oi)] (rg [0,0,5,12]) .nil)) .nil)) h (by kernel_rfl) (by kernel_rfl)
theorem F194_ok(t0:Sl×List Value)(t1:Int)(t2:Int)(t3:Int)(w:World)(R:RV)(h:AllocP w (Obj.cells { toList:=Qy t0.fst::t0.2 } 26) fun b1 w2=>Qs w2 b1 (0+0) fun s3=>IfB (decide (0<=t1)) (IfB (decide (t1<(s3.n:Int))) (IfB (decide (t1<4)) (IfB (decide (0<=t2)) (IfB (decide (t2<(s3.n:Int))) (IfB (decide (t2<4)) (IfB (decide (0<=t3)) (Qs w2 b1 (0+0) fun s4=>Qx s4.1 t1 (s4.2:Int) fun b5 b6=>Qs w2 b5 (b6+t1.toNat*5+2) fun s7=>IfB (decide (IntKind.i64.wrap (t3+1)<(s7.n:Int))) ((0<=t1/\t1<((4:Nat):Int))/\(0<=t2/\t2<((4:Nat):Int))/\Qi w2 b1 (0+1+t1.toNat*4+t2.toNat) fun n8=>Qv' 240 #[Qz n8,Qz t3] w2 fun t11 w10=>R (Value.bool t11) w10) (R (Value.bool false) w2)) (R (Value.bool false) w2)) (R (Value.bool false) w2)) (R (Value.bool false) w2)) (R (Value.bool false) w2)) (R (Value.bool false) w2)) (R (Value.bool false) w2)) (R (Value.bool false) w2)):Cw 194 #[Value.agg { toList:=Qy t0.fst::t0.2 },Qz t1,Qz t2,Qz t3] w R:=
 ckF Tryz.func194 .nil h (by kernel_rfl) (by kernel_rfl)
def F53j2(R:RV)(b1:Nat)(y4:Nat->Int->World->Prop)(b6:Nat)(n7:Int)(y18:Nat->Int->World->Prop)(b20:Nat)(n21:Int)(w22:World):Prop:=IfB (decide (n21<n7)) (Qs w22.drew b1 (0+0) fun s25=>Qx s25.1 n21 (s25.2:Int) fun b26 b27=>∃z28:ByteArray,w22.drew.cell? ⟨b26,b27+n21.toNat*5+0,none⟩=some (Value.string z28)/\Qs w22.drew b1 (0+0) fun s29=>Qx s29.1 n7 (s29.2:Int) fun b30 b31=>∃z32:ByteArray,w22.drew.cell? ⟨b30,b31+n7.toNat*5+0,none⟩=some (Value.string z32)/\IfB (z28.toList == z32.toList) (R (Value.bool false) w22.drew) (Qn y18 b20 (IntKind.i64.wrap (n21+1)) w22.drew)) (Qn y4 b6 (IntKind.i64.wrap (n7+1)) w22)
def F53j5(R:RV)(b1:Nat)(n38:Int)(y42:Nat->Int->World->Prop)(b44:Nat)(n45:Int)(y49:Nat->Int×Int->World->Prop)(b51:Nat)(x52:Int×Int)(w53:World):Prop:=Qs w53 b1 (0+0) fun s56=>Qx s56.1 n38 (s56.2:Int) fun b57 b58=>Qs w53 b57 (b58+n38.toNat*5+2) fun s59=>IfB (decide (x52.snd<(s59.n:Int))) (Qn y49 b51 (IntKind.i64.wrap (2*x52.1),IntKind.i64.wrap (x52.2+1)) w53) ((0<=n38/\n38<((4:Nat):Int))/\(0<=n45/\n45<((4:Nat):Int))/\Qi w53 b1 (0+1+n38.toNat*4+n45.toNat) fun n61=>IfB (decide (n61<0)) (R (Value.bool false) w53) ((0<=n38/\n38<((4:Nat):Int))/\(0<=n45/\n45<((4:Nat):Int))/\Qi w53 b1 (0+1+n38.toNat*4+n45.toNat) fun n62=>IfB (decide (x52.fst<=n62)) (R (Value.bool false) w53) (Qn y42 b44 (IntKind.i64.wrap (n45+1)) w53)))
def F53k1(n38:Int)(n45:Int)(w46:World)(b1:Nat)(R:RV)(b44:Nat)(y42:Nat->Int->World->Prop):Prop:=(0<=n38/\n38<((4:Nat):Int))/\(0<=n45/\n45<((4:Nat):Int))/\Qi w46 b1 (0+1+n38.toNat*4+n45.toNat) fun n67=>IfB (decide (n67<0)) (R (Value.bool false) w46) ((0<=n38/\n38<((4:Nat):Int))/\(0<=n45/\n45<((4:Nat):Int))/\Qi w46 b1 (0+1+n38.toNat*4+n45.toNat) fun n68=>IfB (decide (1<=n68)) (R (Value.bool false) w46) (Qn y42 b44 (IntKind.i64.wrap (n45+1)) w46))
def F53j4(R:RV)(b1:Nat)(s3:Sl)(y35:Nat->Int->World->Prop)(b37:Nat)(n38:Int)(y42:Nat->Int->World->Prop)(b44:Nat)(n45:Int)(w46:World):Prop:=IfB (decide (n45<4)) (IfB (decide (n38<(s3.n:Int))) (IfB (decide (n45<(s3.n:Int))) (Ql (α:=Int×Int) (1,1) w46 fun y49 b51 x52 w53=>(F53j5 R b1 n38 y42 b44 n45 y49 b51 x52 w53)) (F53k1 n38 n45 w46 b1 R b44 y42)) (F53k1 n38 n45 w46 b1 R b44 y42)) (Qn y35 b37 (IntKind.i64.wrap (n38+1)) w46)
def F53j1(R:RV)(b1:Nat)(s3:Sl)(y4:Nat->Int->World->Prop)(b6:Nat)(n7:Int)(w8:World):Prop:=IfB (decide (n7<(s3.n:Int))) (Qs w8 b1 (0+0) fun s11=>Qx s11.1 n7 (s11.2:Int) fun b12 b13=>∃(x14:ByteArray×Int×Sl×Sl×Bool),CellsAt w8 b12 (b13+n7.toNat*5) (lC49 x14)/\Qv' 115 #[Value.agg (lC49 x14).toArray] w8 fun t17 w16=>IfB (!t17) (R (Value.bool false) w16) (Ql (α:=Int) 0 w16 fun y18 b20 n21 w22=>(F53j2 R b1 y4 b6 n7 y18 b20 n21 w22))) (Ql (α:=Int) 0 w8 fun y35 b37 n38 w39=>IfB (decide (n38<4)) (Ql (α:=Int) 0 w39 fun y42 b44 n45 w46=>(F53j4 R b1 s3 y35 b37 n38 y42 b44 n45 w46)) (R (Value.bool true) w39))
theorem F53_ok(t0:Sl×List Value)(w:World)(R:RV)(h:AllocP w (Obj.cells { toList:=Qy t0.fst::t0.2 } 26) fun b1 w2=>Qs w2 b1 (0+0) fun s3=>IfB (decide ((s3.n:Int)<1)) (R (Value.bool false) w2) (IfB (decide (4<(s3.n:Int))) (R (Value.bool false) w2) (Ql (α:=Int) 0 w2 fun y4 b6 n7 w8=>(F53j1 R b1 s3 y4 b6 n7 w8)))):Cw 53 #[Value.agg { toList:=Qy t0.fst::t0.2 }] w R:=
 ckF Tryz.func53 (nd (nd (nd (.node (nd (.loop [(4,oi)] (rg [2,2,4,5,19,48]) (nd (.node (nd (nd (.loop [(5,oi)] (rg [2,2,5,5,31,48]) (nd (.node (.node (.draw (sts [0,1,2,3,4,5,6,7,8,9,10,11,12] .fin)) .nil) .nil))))) .nil)))) (.node (nd (.loop [(6,oi)] (rg [2,2,6,9,49,94]) (nd (.node (nd (.loop [(7,oi)] (rg [2,2,7,9,53,94]) (nd (.node (nd (.node (nd (.node (nd (.loop [(8,oi),(9,oi)] (rg [8,9,65,77]) .nil)) .nil)) .nil)) .nil)))) .nil)))) .nil))))) h (by kernel_rfl) (by kernel_rfl)
set_option linter.unusedSimpArgs false
theorem eqKey(x y:KeyD):EqAt Tryz.prog 93 (.agg #[.int .i64 x.1,.int .i64 x.2]) (.agg #[.int .i64 y.1,.int .i64 y.2]) (x == y):=by
 have h:=eqAt_struct tbOk (d:=2) (by decide) (t:=93) (xs:=#[.int .i64 x.1,.int .i64 x.2]) (ys:=#[.int .i64 y.1,.int .i64 y.2]) (b:=(x.1 == y.1)&&((x.2 == y.2)&&true)) (by kernel_rfl) (by kernel_rfl)
 have e:(x == y)=((x.1 == y.1)&&((x.2 == y.2)&&true)):=by rw[Bool.and_true];rfl
 rw[e];exact h
theorem c219(k:KeyD)(n:Int)(w:World):Cw 219 #[keyV k,iv n] w fun v w'=>∃r,v=.bool r/\(r=true↔KeyOk k n)/\Ext w w':=by
 refine F219_ok k n w _ fun b1 w2 a2=>?_
 have e2:Ext w w2:=a2.ch _
 have q:=fun(o:Nat)=>boxAt (cs:=keyC k) a2.new o (Ch.refl _ _)
 refine⟨_,q 0,IfB.dec (fun h1=>⟨_,q 0,IfB.dec (fun h2=>⟨_,q 1,IfB.dec (fun h3=>⟨_,q 1,_,rfl,?_,e2⟩) fun h3=>⟨false,rfl,⟨fun h=>(by cases h),fun h=>absurd h.2.2.1 h3⟩,e2⟩⟩) fun h2=>⟨false,rfl,⟨fun h=>(by cases h),fun h=>absurd h.2.1 h2⟩,e2⟩⟩) fun h1=>⟨false,rfl,⟨fun h=>(by cases h),fun h=>absurd h.1 h1⟩,e2⟩⟩
 rw[decide_eq_true_eq]
 exact⟨fun h=>⟨h1,h2,h3,h⟩,fun h=>h.2.2.2⟩
def badI(x:InsD):Prop:=(x.1=3/\x.2.1≠0)\/(¬(x.1=5\/x.1=8)/\x.2.2.2.2.2.2≠0)\/(¬(x.1=6\/x.1=7)/\(x.2.2.1≠0\/x.2.2.2.1≠0))\/(¬x.1<=4/\x.2.2.2.2.1≠(0,0))\/(x.1≠4/\x.2.2.2.2.2.1≠(0,0))
theorem insOk_of{x:InsD}{n:Int}(h1:1<=x.1)(h2:x.1<=8)(h3:0<=x.2.1)(h4:x.2.1<=3)(h5:¬badI x)(h6:¬((x.1=6\/x.1=7)/\(x.2.2.1<0\/3<x.2.2.1\/x.2.2.2.1<0\/3<x.2.2.2.1))):
  InsOk x n↔(x.1<=4->KeyOk x.2.2.2.2.1 n)/\(x.1=4->KeyOk x.2.2.2.2.2.1 n):=by
 unfold badI at h5
 refine⟨fun h=>⟨h.ko,h.lo⟩,fun⟨k1,k2⟩=>⟨h1,h2,h3,h4,fun h=>?_,fun h h'=>?_,fun h h'=>?_,fun h=>?_,fun h=>?_,fun h=>by omega,k1,k2⟩⟩
 ·exact Classical.byContradiction fun h'=>h5 (.inl ⟨h,h'⟩)
 ·exact Classical.byContradiction fun h''=>h5 (.inr (.inl ⟨by omega,h''⟩))
 ·exact Classical.byContradiction fun h''=>h5 (.inr (.inr (.inl ⟨by omega,by omega⟩)))
 ·have:x.2.2.2.2.1=(0,0):=Classical.byContradiction fun h'=>h5 (.inr (.inr (.inr (.inl ⟨by omega,h'⟩))))
  rw[this];exact⟨rfl,rfl⟩
 ·have:x.2.2.2.2.2.1=(0,0):=Classical.byContradiction fun h'=>h5 (.inr (.inr (.inr (.inr ⟨h,h'⟩))))
  rw[this];exact⟨rfl,rfl⟩
theorem insOk_bad{x:InsD}{n:Int}(h:InsOk x n):¬badI x:=by
 rintro(⟨h1,h2⟩|⟨h1,h2⟩|⟨h1,h2⟩|⟨h1,h2⟩|⟨h1,h2⟩)
 ·exact h2 (h.da h1)
 ·exact h2 (h.xx (by omega) (by omega))
 ·have:=h.bc (by omega) (by omega);omega
 ·have:=h.kk (by omega);exact h2 (Prod.ext this.1 this.2)
 ·have:=h.ll h1;exact h2 (Prod.ext this.1 this.2)
theorem c218(x:InsD)(n:Int)(w:World):Cw 218 #[insV x,iv n] w fun v w'=>∃r,v=.bool r/\(r=true↔InsOk x n)/\Ext w w':=by
 refine F218_ok (insX x) n w _ fun b1 w2 a2=>?_
 have e2:Ext w w2:=a2.ch _
 have q:=fun{W:World} (o:Nat) (e:Ext w2 W)=>boxAt (cs:=insC x) a2.new o e
 have r2:=Ch.refl (fun _=>False) w2
 have no:∀ {V:World},¬InsOk x n->Ext w V->∃b,Value.bool false=.bool b/\(b=true↔InsOk x n)/\Ext w V:=fun h e=>⟨false,rfl,⟨fun h=>(by cases h),fun h'=>absurd h' h⟩,e⟩
 refine⟨_,q 0 r2,IfB.dec (fun h1=>no (fun k=>by have:=k.o1;omega) e2) fun h1=>⟨_,q 0 r2,IfB.dec (fun h2=>no (fun k=>by have:=k.o8;omega) e2) fun h2=>⟨_,q 1 r2,IfB.dec (fun h3=>no (fun k=>by have:=k.a0;omega) e2) fun h3=>⟨_,q 1 r2,IfB.dec (fun h4=>no (fun k=>by have:=k.a3;omega) e2) fun h4 b7 w8 a8=>?_⟩⟩⟩⟩
 have e8:Ext w2 w8:=a8.ch _
 have X8:Ext w w8:=e2.trans e8
 have K:=fun{W:World} (e:Ext w8 W)=>cellsAt_of (l:=keyC x.2.2.2.2.1) (o:=0+4) (Ext.at (e8.trans e) a2.new) fun i v hv=>by
  match i,hv with
  | 0,hv=>exact hv
  | 1,hv=>exact hv
 have L:=fun{W:World} (e:Ext w8 W)=>cellsAt_of (l:=keyC x.2.2.2.2.2.1) (o:=0+6) (Ext.at (e8.trans e) a2.new) fun i v hv=>by
  match i,hv with
  | 0,hv=>exact hv
  | 1,hv=>exact hv
 have Z:=boxAll (cs:=keyC (0,0)) a8.new (Ch.refl _ _)
 have r8:=Ch.refl (fun _=>False) w8
 refine⟨_,q 0 e8,_,q 0 e8,_,q 0 e8,fun t W=>w8=W/\(t=true↔x.1=6\/x.1=7),⟨_,q 0 e8,IfB.intro (fun h=>⟨rfl,rfl,⟨fun _=>.inl (by simpa using h),fun _=>rfl⟩⟩) fun h=>⟨_,q 0 e8,rfl,rfl,?_⟩⟩,?_⟩
 ·have h:¬x.1=6:=by simpa using h
  rw[beq_iff_eq];exact⟨.inr,fun h'=>h'.resolve_left h⟩
 rintro hbc _ g ⟨rfl,hbc'⟩
 refine⟨fun t W=>w8=W/\(t=true↔x.1=5\/x.1=8),⟨_,q 0 e8,IfB.intro (fun h=>⟨rfl,rfl,⟨fun _=>.inl (by simpa using h),fun _=>rfl⟩⟩) fun h=>⟨_,q 0 e8,rfl,rfl,?_⟩⟩,?_⟩
 ·have h:¬x.1=5:=by simpa using h
  rw[beq_iff_eq];exact⟨.inr,fun h'=>h'.resolve_left h⟩
 rintro hx _ g ⟨rfl,hx'⟩
 have yes:∀ {P:Prop},P->([]:List Nat)=[]/\w8=w8/\(true=true↔P):=fun h=>⟨rfl,rfl,fun _=>h,fun _=>rfl⟩
 refine⟨fun t W=>w8=W/\(t=true↔badI x),?_,?_⟩
 ·have k4:¬(x.1=3/\x.2.1≠0)->¬(¬(x.1=5\/x.1=8)/\x.2.2.2.2.2.2≠0)->¬(¬(x.1=6\/x.1=7)/\(x.2.2.1≠0\/x.2.2.2.1≠0))->¬(¬x.1<=4/\x.2.2.2.2.1≠(0,0))->F218k4 x.1 w8 b1 b7 (fun t W=>w8=W/\(t=true↔badI x)):=fun g1 g2 g3 g4=>by
   refine IfB.intro (fun h=>⟨_,L r8,(0,0),Z,_,eqKey _ _,rfl,rfl,?_⟩) fun h=>⟨rfl,rfl,fun h'=>(by cases h'),fun h'=>?_⟩
   ·have h:¬x.1=4:=by simpa using h
    rw[Bool.not_eq_true',beq_eq_false_iff_ne]
    exact⟨fun h'=>.inr (.inr (.inr (.inr ⟨h,h'⟩))),fun h'=>by
     rcases h' with h'|h'|h'|h'|h'
     ·exact absurd h' g1
     ·exact absurd h' g2
     ·exact absurd h' g3
     ·exact absurd h' g4
     ·exact h'.2⟩
   ·have h:x.1=4:=by simpa using h
    rcases h' with h'|h'|h'|h'|h'
    ·exact absurd h' g1
    ·exact absurd h' g2
    ·exact absurd h' g3
    ·exact absurd h' g4
    ·exact absurd h h'.1
  have k3:¬(x.1=3/\x.2.1≠0)->¬(¬(x.1=5\/x.1=8)/\x.2.2.2.2.2.2≠0)->¬(¬(x.1=6\/x.1=7)/\(x.2.2.1≠0\/x.2.2.2.1≠0))->F218k3 x.1 w8 b1 b7 (fun t W=>w8=W/\(t=true↔badI x)) x.1:=fun g1 g2 g3=>by
   refine IfB.intro (fun h=>⟨_,K r8,(0,0),Z,_,eqKey _ _,IfB.intro (fun h'=>yes ?_) fun h'=>k4 g1 g2 g3 fun h''=>?_⟩) fun h=>k4 g1 g2 g3 fun h''=>?_
   ·have h:¬x.1<=4:=by simpa using h
    exact .inr (.inr (.inr (.inl ⟨h,by simpa using h'⟩)))
   ·have h':x.2.2.2.2.1=(0,0):=by simpa using h'
    exact h''.2 h'
   ·have h:x.1<=4:=by simpa using h
    exact h''.1 h
  have k2:¬(x.1=3/\x.2.1≠0)->¬(¬(x.1=5\/x.1=8)/\x.2.2.2.2.2.2≠0)->F218k2 hbc w8 b1 (fun t W=>w8=W/\(t=true↔badI x)) x.1 b7 x.1:=fun g1 g2=>by
   refine IfB.intro (fun h=>?_) fun h=>k3 g1 g2 fun h'=>h'.1 (hbc'.1 (by simpa using h))
   have h:¬(x.1=6\/x.1=7):=fun h'=>by rw[hbc'.2 h'] at h;cases h
   refine⟨_,q 2 e8,IfB.intro (fun h1=>yes (.inr (.inr (.inl ⟨h,.inl (by simpa using h1)⟩)))) fun h1=>⟨_,q 3 e8,IfB.intro (fun h2=>yes (.inr (.inr (.inl ⟨h,.inr (by simpa using h2)⟩)))) fun h2=>k3 g1 g2 fun h'=>?_⟩⟩
   have h1:x.2.2.1=0:=by simpa using h1
   have h2:x.2.2.2.1=0:=by simpa using h2
   have:=h'.2;omega
  have k1:¬(x.1=3/\x.2.1≠0)->F218k1 hx w8 b1 (fun t W=>w8=W/\(t=true↔badI x)) hbc x.1 b7 x.1:=fun g1=>by
   refine IfB.intro (fun h=>?_) fun h=>k2 g1 fun h'=>h'.1 (hx'.1 (by simpa using h))
   have h:¬(x.1=5\/x.1=8):=fun h'=>by rw[hx'.2 h'] at h;cases h
   refine⟨_,q 8 e8,IfB.intro (fun h1=>yes (.inr (.inl ⟨h,by simpa using h1⟩))) fun h1=>k2 g1 fun h'=>?_⟩
   have h1:x.2.2.2.2.2.2=0:=by simpa using h1
   exact h'.2 h1
  refine IfB.intro (fun h=>?_) fun h=>k1 fun h'=>?_
  ·have h:x.1=3:=by simpa using h
   refine⟨_,q 1 e8,IfB.intro (fun h1=>yes (.inl ⟨h,by simpa using h1⟩)) fun h1=>k1 fun h'=>?_⟩
   have h1:x.2.1=0:=by simpa using h1
   exact h'.2 h1
  ·have h:¬x.1=3:=by simpa using h
   exact h h'.1
 rintro t1 _ g ⟨rfl,ht1⟩
 refine IfB.intro (fun h=>no (fun k=>insOk_bad k (ht1.1 h)) X8) fun h=>?_
 have hbad:¬badI x:=fun h'=>by rw[ht1.2 h'] at h;cases h
 refine⟨fun t W=>w8=W/\(t=true↔(x.1=6\/x.1=7)/\(x.2.2.1<0\/3<x.2.2.1\/x.2.2.2.1<0\/3<x.2.2.2.1)),IfB.intro (fun hb=>?_) fun hb=>⟨rfl,rfl,fun h'=>(by cases h'),fun h'=>?_⟩,?_⟩
 ·have hb:=hbc'.1 hb
  refine⟨_,q 2 e8,IfB.dec (fun g1=>yes ⟨hb,.inl g1⟩) fun g1=>⟨_,q 2 e8,IfB.dec (fun g2=>yes ⟨hb,.inr (.inl g2)⟩) fun g2=>⟨_,q 3 e8,IfB.dec (fun g3=>yes ⟨hb,.inr (.inr (.inl g3))⟩) fun g3=>⟨_,q 3 e8,rfl,rfl,?_⟩⟩⟩⟩
  rw[decide_eq_true_eq]
  exact⟨fun h=>⟨hb,.inr (.inr (.inr h))⟩,fun h=>by omega⟩
 ·have hb:hbc=false:=hb
  rw[hbc'.2 h'.1] at hb;cases hb
 rintro t2 _ g ⟨rfl,ht2⟩
 unfold F218j4
 refine IfB.intro (fun h=>no (fun k=>?_) X8) fun h=>?_
 ·obtain⟨g1,g2⟩:=ht2.1 h
  have:=k.b3 g1;omega
 have hok:=insOk_of (n:=n) (by omega) (by omega) (by omega) (by omega) hbad fun h'=>by rw[ht2.2 h'] at h;cases h
 refine IfB.intro (fun h4'=>?_) fun h4'=>⟨_,K r8,(c219 x.2.2.2.2.1 n w8).use ?_⟩
 ·have h4':¬x.1<=4:=by simpa using h4'
  refine IfB.intro (fun h5=>⟨true,rfl,⟨fun _=>hok.2 ⟨fun h=>absurd h h4',fun h=>absurd (show x.1<=4 by omega) h4'⟩,fun _=>rfl⟩,X8⟩) fun h5=>?_
  have h5:x.1=4:=by simpa using h5
  omega
 ·have h4':x.1<=4:=by simpa using h4'
  rintro _ w129 ⟨r,rfl,hr,e129⟩
  refine⟨r,rfl,IfB.intro (fun h6=>IfB.intro (fun h5=>⟨true,rfl,⟨fun _=>hok.2 ⟨fun _=>hr.1 h6,fun h=>?_⟩,fun _=>rfl⟩,X8.trans e129⟩) fun h5=>⟨_,L e129,(c219 x.2.2.2.2.2.1 n w129).use ?_⟩) fun h6=>no (fun k=>?_) (X8.trans e129)⟩
  ·have h5:¬x.1=4:=by simpa using h5
   exact absurd h h5
  ·rintro _ w133 ⟨r',rfl,hr',e133⟩
   have h5:x.1=4:=by simpa using h5
   exact⟨r',rfl,r',rfl,hr'.trans ⟨fun h=>hok.2 ⟨fun _=>hr.1 h6,fun _=>h⟩,fun h=>h.lo h5⟩,(X8.trans e129).trans e133⟩
  ·have h6:r=false:=h6
   rw[hr.2 (k.ko h4')] at h6;cases h6
theorem c172{w:World}{t:Sl}{l:List InsD}(h:Rd w t 9 (l.flatMap insC))(n:Int):Cw 172 #[slV t,iv n] w fun v w'=>∃r,v=.bool r/\(r=true↔CodeOk l n)/\Ext w w':=by
 have hn:=rdN insC_len (by omega) h
 have no:∀ {V:World},¬CodeOk l n->Ext w V->∃b,Value.bool false=.bool b/\(b=true↔CodeOk l n)/\Ext w V:=fun h e=>⟨false,rfl,⟨fun h=>(by cases h),fun h'=>absurd h' h⟩,e⟩
 have r0:=Ch.refl (fun _=>False) w
 refine F172_ok t n w _ (IfB.dec (fun h1=>no (fun k=>by have:=k.n0;omega) r0) fun h1=>IfB.dec (fun h2=>no (fun k=>by have:=k.n3;omega) r0) fun h2=>IfB.dec (fun h3=>no (fun k=>by have:=k.l1;omega) r0) fun h3=>IfB.dec (fun h4=>no (fun k=>by have:=k.l8;omega) r0) fun h4=>⟨fun m x W=>∃i:Nat,i<=l.length/\m+i=l.length/\x=(i:Int)/\(∀y∈l.take i,InsOk y n)/\Ext w W,⟨l.length,0,Nat.zero_le _,rfl,rfl,by simp,r0⟩,?_⟩)
 rintro m _ W g ⟨i,hi,hm,rfl,ha,e⟩
 unfold F172j1
 refine IfB.dec (fun hlt=>?_) fun hge=>?_
 ·have hi':i<l.length:=by omega
  have hx:l[i]? =some l[i]:=List.getElem?_eq_getElem hi'
  have hxm:l[i]∈l:=List.getElem_mem hi'
  have htk:=take_succ_get hx
  generalize l[i]=y at hx hxm htk
  obtain⟨b,o,hp,hc⟩:=(h.ext e).elem (i:=i) (by omega) (by omega) (flatGet insC_len hx)
  refine⟨b,o,hp,⟨by omega,by omega⟩,insX y,by rw[Int.toNat_natCast];exact hc,(c218 y n W).use ?_⟩
  rintro _ w12 ⟨r,rfl,hr,e12⟩
  refine⟨r,rfl,IfB.intro (fun h5=>no (fun k=>?_) (e.trans e12)) fun h5=>⟨rfl,m-1,by omega,i+1,hi',by omega,by rw[wrap_of (by omega) (by omega)];rfl,?_,e.trans e12⟩⟩
  ·have h5:r=false:=by simpa using h5
   rw[hr.2 (k.all _ hxm)] at h5;cases h5
  ·have h5:r=true:=by simpa using h5
   rw[htk];intro z hz
   rcases List.mem_append.1 hz with hz|hz
   ·exact ha z hz
   ·rw[List.mem_singleton.1 hz];exact hr.1 h5
 ·have hi':i=l.length:=by omega
  subst hi'
  rw[List.take_length] at ha
  exact⟨true,rfl,⟨fun _=>⟨by omega,by omega,by omega,by omega,ha⟩,fun _=>rfl⟩,e⟩
theorem c173{w:World}{t:Sl}{l:List SpTD}(h:Rd w t 5 (l.flatMap spTC))(n:Int):Cw 173 #[slV t,iv n] w fun v w'=>∃r,v=.bool r/\(r=true↔FootOk l n)/\Ext w w':=by
 have hn:=rdN spTC_len (by omega) h
 have no:∀ {V:World},¬FootOk l n->Ext w V->∃b,Value.bool false=.bool b/\(b=true↔FootOk l n)/\Ext w V:=fun h e=>⟨false,rfl,⟨fun h=>(by cases h),fun h'=>absurd h' h⟩,e⟩
 have r0:=Ch.refl (fun _=>False) w
 refine F173_ok t n w _ (IfB.dec (fun h1=>no (fun k=>by have:=k.n0;omega) r0) fun h1=>IfB.dec (fun h2=>no (fun k=>by have:=k.n3;omega) r0) fun h2=>IfB.dec (fun h4=>no (fun k=>by have:=k.l4;omega) r0) fun h4=>⟨fun m x W=>∃i:Nat,i<=l.length/\m+i=l.length/\x=(i:Int)/\(∀s∈l.take i,KeyOk s.1 n/\KeyOk s.2.1 n)/\Ext w W,⟨l.length,0,Nat.zero_le _,rfl,rfl,by simp,r0⟩,?_⟩)
 rintro m _ W g ⟨i,hi,hm,rfl,ha,e⟩
 unfold F173j1
 refine IfB.dec (fun hlt=>?_) fun hge=>?_
 ·have hi':i<l.length:=by omega
  have hx:l[i]? =some l[i]:=List.getElem?_eq_getElem hi'
  have hxm:l[i]∈l:=List.getElem_mem hi'
  have htk:=take_succ_get hx
  generalize l[i]=y at hx hxm htk
  obtain⟨b,o,hp,hc⟩:=(h.ext e).elem (i:=i) (by omega) (by omega) (flatGet spTC_len hx)
  have hc1:CellsAt W b (o+i*5) (keyC y.1++(keyC y.2.1++[.bool y.2.2])):=hc
  refine⟨b,o,hp,⟨by omega,by omega⟩,y.1,by rw[Int.toNat_natCast];exact hc1.left,(c219 y.1 n W).use ?_⟩
  rintro _ w12 ⟨r,rfl,hr,e12⟩
  refine⟨r,rfl,IfB.intro (fun h5=>no (fun k=>?_) (e.trans e12)) fun h5=>?_⟩
  ·have h5:r=false:=by simpa using h5
   rw[hr.2 (k.all _ hxm).1] at h5;cases h5
  have h5:r=true:=by simpa using h5
  have e':Ext w w12:=e.trans e12
  obtain⟨b2,o2,hp2,hc2⟩:=(h.ext e').elem (i:=i) (by omega) (by omega) (flatGet spTC_len hx)
  have hc2:CellsAt w12 b2 (o2+i*5) (keyC y.1++(keyC y.2.1++[.bool y.2.2])):=hc2
  refine⟨b2,o2,hp2,⟨by omega,by omega⟩,y.2.1,by rw[Int.toNat_natCast];exact hc2.right.left,(c219 y.2.1 n w12).use ?_⟩
  rintro _ w18 ⟨r2,rfl,hr2,e18⟩
  refine⟨r2,rfl,IfB.intro (fun h6=>no (fun k=>?_) (e'.trans e18)) fun h6=>⟨rfl,m-1,by omega,i+1,hi',by omega,by rw[wrap_of (by omega) (by omega)];rfl,?_,e'.trans e18⟩⟩
  ·have h6:r2=false:=by simpa using h6
   rw[hr2.2 (k.all _ hxm).2] at h6;cases h6
  ·have h6:r2=true:=by simpa using h6
   rw[htk];intro z hz
   rcases List.mem_append.1 hz with hz|hz
   ·exact ha z hz
   ·rw[List.mem_singleton.1 hz];exact⟨hr.1 h5,hr2.1 h6⟩
 ·have hi':i=l.length:=by omega
  subst hi'
  rw[List.take_length] at ha
  exact⟨true,rfl,⟨fun _=>⟨by omega,by omega,by omega,ha⟩,fun _=>rfl⟩,e⟩
theorem c115{w:World}{v:ClsV}{x:ClsD}(h:ClsM w v x):Cw 115 #[clV v] w fun v w'=>∃r,v=.bool r/\(r=true↔ClsOk x)/\Ext w w':=by
 refine F115_ok v w _ fun b1 w2 a2=>?_
 have e2:Ext w w2:=a2.ch _
 have q:=fun{W:World} (o:Nat) (e:Ext w2 W)=>boxAt (cs:=clsC v) a2.new o e
 have r2:=Ch.refl (fun _=>False) w2
 have hsn:=h.st.n
 have hcn:=h.co.n
 have hnm:=h.nm
 have har:=h.ar
 have no:∀ {V:World},¬ClsOk x->Ext w2 V->∃r,Value.bool false=.bool r/\(r=true↔ClsOk x)/\Ext w V:=fun h e=>⟨false,rfl,⟨fun h=>(by cases h),fun h'=>absurd h' h⟩,e2.trans e⟩
 refine⟨_,q 2 r2,_,q 0 r2,IfB.dec (fun c1=>no (fun k=>?_) r2) fun c1=>⟨_,q 0 r2,IfB.dec (fun c2=>no (fun k=>?_) r2) fun c2=>⟨_,q 1 r2,IfB.dec (fun c3=>no (fun k=>?_) r2) fun c3=>⟨_,q 1 r2,IfB.dec (fun c4=>no (fun k=>?_) r2) fun c4=>IfB.dec (fun c5=>no (fun k=>?_) r2) fun c5=>IfB.dec (fun c6=>no (fun k=>?_) r2) fun c6=>⟨_,q 3 r2,IfB.intro (fun c7=>no (fun k=>?_) r2) fun c7=>?_⟩⟩⟩⟩⟩
 ·have:=k.s1;rw[hnm] at c1;omega
 ·have:=k.s16;rw[hnm] at c2;omega
 ·have:=k.a0;rw[har] at c3;omega
 ·have:=k.a3;rw[har] at c4;omega
 ·have:=k.l1;have c5:(v.2.2.1.n:Int)<1:=c5;omega
 ·have:=k.l4;have c6:4<(v.2.2.1.n:Int):=c6;omega
 ·have:=k.cl
  have c7:(v.2.2.2.1.n:Int)≠(v.2.2.1.n:Int):=by simpa using c7
  omega
 have c5:¬(v.2.2.1.n:Int)<1:=c5
 have c6:¬4<(v.2.2.1.n:Int):=c6
 have c7:(v.2.2.2.1.n:Int)=(v.2.2.1.n:Int):=by simpa using c7
 have qn:∀ {V:World},Ext w2 V->V.cell? ⟨b1,0+1,none⟩=some (iv x.2.1):=fun e=>by rw[<-har];exact q 1 e
 let Ok:Nat->Prop:=fun n=>∀i,i<n->∀s c,x.2.2.1[i]? =some s->x.2.2.2.1[i]? =some c->CodeOk s.1 x.2.1/\FootOk s.2 x.2.1/\CompOk c x.2.1
 refine⟨fun m y W=>∃i:Nat,i<=x.2.2.1.length/\m+i=x.2.2.1.length/\y=(i:Int)/\Ok i/\Ext w2 W,⟨_,0,Nat.zero_le _,rfl,rfl,fun i hi=>absurd hi (Nat.not_lt_zero _),r2⟩,?_⟩
 rintro m _ W g ⟨i,hi,hm,rfl,hOk,e⟩
 unfold F115j1
 have hcl:x.2.2.2.1.length=x.2.2.1.length:=by omega
 refine IfB.dec (fun hlt=>?_) fun hge=>?_
 ·have hlt:(i:Int)<(v.2.2.1.n:Int):=hlt
  have hi1:i<x.2.2.1.length:=by omega
  have hi2:i<x.2.2.2.1.length:=by omega
  have hx1:x.2.2.1[i]? =some x.2.2.1[i]:=List.getElem?_eq_getElem hi1
  have hx2:x.2.2.2.1[i]? =some x.2.2.2.1[i]:=List.getElem?_eq_getElem hi2
  have hm1:x.2.2.1[i]∈x.2.2.1:=List.getElem_mem hi1
  have hm2:x.2.2.2.1[i]∈x.2.2.2.1:=List.getElem_mem hi2
  generalize x.2.2.1[i]=s1 at hx1 hm1
  generalize x.2.2.2.1[i]=s2 at hx2 hm2
  have ed:=extDrew W
  have eD:Ext w2 W.drew:=e.trans ed
  have G1:=fun{V:World} (e':Ext w2 V)=>StsR.at (SlR.ext h.st (e2.trans e')) hx1
  have G2:=fun{V:World} (e':Ext w2 V)=>StsR.at (SlR.ext h.co (e2.trans e')) hx2
  unfold F115k1
  obtain⟨b3,o3,t3,hp3,hc3,hS3⟩:=G1 eD
  refine⟨_,q 2 eD,b3,o3,hp3,⟨by omega,hlt⟩,t3.1,by rw[Int.toNat_natCast];exact hc3 0 _ rfl,_,qn eD,(c172 hS3.code _).use ?_⟩
  rintro _ w22 ⟨q1,rfl,hq1,e22⟩
  have E22:=eD.trans e22
  refine⟨q1,rfl,IfB.intro (fun h1=>no (fun k=>?_) E22) fun h1=>?_⟩
  ·have h1:q1=false:=by simpa using h1
   rw[hq1.2 (k.st _ hm1).1] at h1;cases h1
  have k1:=hq1.1 (by simpa using h1)
  obtain⟨b4,o4,t4,hp4,hc4,hS4⟩:=G1 E22
  refine⟨_,q 2 E22,b4,o4,hp4,⟨by omega,hlt⟩,t4.2,by rw[Int.toNat_natCast];exact hc4 1 _ rfl,_,qn E22,(c173 hS4.foot _).use ?_⟩
  rintro _ w30 ⟨q2,rfl,hq2,e30⟩
  have E30:=E22.trans e30
  refine⟨q2,rfl,IfB.intro (fun h2=>no (fun k=>?_) E30) fun h2=>?_⟩
  ·have h2:q2=false:=by simpa using h2
   rw[hq2.2 (k.st _ hm1).2] at h2;cases h2
  have k2:=hq2.1 (by simpa using h2)
  have hlt':(i:Int)<(v.2.2.2.1.n:Int):=by omega
  obtain⟨b5,o5,t5,hp5,hc5,hS5⟩:=G2 E30
  refine⟨_,q 3 E30,b5,o5,hp5,⟨by omega,hlt'⟩,t5.2,by rw[Int.toNat_natCast];exact hc5 1 _ rfl,_,qn E30,(c173 hS5.foot _).use ?_⟩
  rintro _ w38 ⟨q3,rfl,hq3,e38⟩
  have E38:=E30.trans e38
  refine⟨q3,rfl,IfB.intro (fun h3=>no (fun k=>?_) E38) fun h3=>?_⟩
  ·have h3:q3=false:=by simpa using h3
   rw[hq3.2 (k.co _ hm2).2] at h3;cases h3
  have k3:=hq3.1 (by simpa using h3)
  obtain⟨b6,o6,t6,hp6,hc6,hS6⟩:=G2 E38
  have fin:∀ {V:World},Ext w2 V->(s2.1=[]\/CodeOk s2.1 x.2.1/\∀y∈s2.1,y.1<6)->([]:List Nat)=[]/\∃b,b<m/\∃i':Nat,i'<=x.2.2.1.length/\b+i'=x.2.2.1.length/\IntKind.i64.wrap ((i:Int)+1)=(i':Int)/\Ok i'/\Ext w2 V:=fun eV hC=>⟨rfl,m-1,by omega,i+1,hi1,by omega,by rw[wrap_of (by omega) (by omega)];rfl,fun j hj s c hs hc=>by
   rcases Nat.lt_or_ge j i with h'|h'
   ·exact hOk j h' s c hs hc
   ·have:j=i:=by omega
    subst this
    rw[hx1] at hs;rw[hx2] at hc
    cases hs;cases hc
    exact⟨k1,k2,hC,k3⟩,eV⟩
  have h6n:=hS6.cn
  refine⟨_,q 3 E38,b6,o6,hp6,⟨by omega,hlt'⟩,t6.1,by rw[Int.toNat_natCast];exact hc6 0 _ rfl,IfB.dec (fun h4=>?_) fun h4=>?_⟩
  ·refine⟨_,qn E38,(c172 hS6.code _).use ?_⟩
   rintro _ w46 ⟨q4,rfl,hq4,e46⟩
   have E46:=E38.trans e46
   have hne:s2.1≠[]:=fun h=>by rw[h] at h6n;simp at h6n;omega
   refine⟨q4,rfl,IfB.intro (fun h5=>no (fun k=>?_) E46) fun h5=>?_⟩
   ·have h5:q4=false:=by simpa using h5
    rw[hq4.2 ((k.co _ hm2).1.resolve_left hne).1] at h5;cases h5
   have k4:=hq4.1 (by simpa using h5)
   refine⟨fun m' y V=>∃k:Nat,k<=s2.1.length/\m'+k=s2.1.length/\y=(k:Int)/\(∀z∈s2.1.take k,z.1<6)/\Ext w46 V,⟨_,0,Nat.zero_le _,rfl,rfl,by simp,Ch.refl _ _⟩,?_⟩
   rintro m' _ V g' ⟨k,hk,hmk,rfl,hz,eV⟩
   have EV:Ext w2 V:=E46.trans eV
   have k48:=k4.l8
   unfold F115j2
   refine IfB.dec (fun hl=>?_) fun hg=>?_
   ·have hk':k<s2.1.length:=by omega
    have hx:s2.1[k]? =some s2.1[k]:=List.getElem?_eq_getElem hk'
    have hxm:s2.1[k]∈s2.1:=List.getElem_mem hk'
    have htk:=take_succ_get hx
    generalize s2.1[k]=y at hx hxm htk
    obtain⟨b,o,hp,hc⟩:=((hS6.code.ext e46).ext eV).elem (i:=k) (by omega) (by omega) (flatGet insC_len hx)
    refine⟨b,o,hp,⟨by omega,by omega⟩,y.1,by rw[Int.toNat_natCast];exact hc 0 _ rfl,IfB.dec (fun h7=>no (fun kk=>?_) EV) fun h7=>⟨rfl,m'-1,by omega,k+1,hk',by omega,by rw[wrap_of (by omega) (by omega)];rfl,?_,eV⟩⟩
    ·have:=((kk.co _ hm2).1.resolve_left hne).2 y hxm;omega
    ·rw[htk];intro z hz'
     rcases List.mem_append.1 hz' with hz'|hz'
     ·exact hz z hz'
     ·rw[List.mem_singleton.1 hz'];omega
   ·have hk':k=s2.1.length:=by omega
    subst hk'
    rw[List.take_length] at hz
    exact fin EV (.inr ⟨k4,hz⟩)
  ·have hnil:s2.1=[]:=List.eq_nil_of_length_eq_zero (by omega)
   refine⟨fun m' y V=>y=0/\V=w38,⟨0,rfl,rfl⟩,?_⟩
   rintro m' _ _ g' ⟨rfl,rfl⟩
   unfold F115j3
   refine IfB.dec (fun hl=>by omega) fun hg=>fin E38 (.inl hnil)
 ·have hge:¬(i:Int)<(v.2.2.1.n:Int):=hge
  have hii:i=x.2.2.1.length:=by omega
  subst hii
  refine⟨true,rfl,⟨fun _=>⟨by rw[<-hnm];omega,by rw[<-hnm];omega,by rw[<-har];omega,by rw[<-har];omega,by omega,by omega,hcl,fun s hs=>?_,fun c hc=>?_⟩,fun _=>rfl⟩,e2.trans e⟩
  ·obtain⟨j,hj,rfl⟩:=List.getElem_of_mem hs
   have:=hOk j hj _ _ (List.getElem?_eq_getElem hj) (List.getElem?_eq_getElem (show j<x.2.2.2.1.length by omega))
   exact⟨this.1,this.2.1⟩
  ·obtain⟨j,hj,rfl⟩:=List.getElem_of_mem hc
   exact(hOk j (by omega) _ _ (List.getElem?_eq_getElem (by omega)) (List.getElem?_eq_getElem hj)).2.2
theorem c240(a i:Nat)(ha:a<=1000000)(hi:i<=1000000)(w:World):Cw 240 #[iv (a:Int),iv (i:Int)] w fun v w'=>v=.bool (a.testBit i)/\w=w':=by
 refine F240_ok (a:Int) (i:Int) w _ ⟨fun m x W=>∃k:Nat,k<=i/\m+k=i/\x=(((a/2^k:Nat):Int),(k:Int))/\w=W,⟨i,0,Nat.zero_le _,rfl,by simp,rfl⟩,?_⟩
 rintro m _ _ g ⟨k,hk,hm,rfl,rfl⟩
 have hd:a/2^k<=a:=Nat.div_le_self _ _
 refine IfB.dec (fun hl=>⟨by decide,rfl,m-1,by dsimp only at hl;omega,k+1,by dsimp only at hl;omega,by dsimp only at hl;omega,?_,rfl⟩) fun hg=>⟨by decide,?_,rfl⟩
 ·dsimp only
  have e:Int.tdiv ((a/2^k:Nat):Int) 2=((a/2^(k+1):Nat):Int):=by rw[Nat.pow_succ,<-Nat.div_div_eq_div_mul];rfl
  have hd':a/2^(k+1)<=a:=Nat.div_le_self _ _
  rw[e]
  generalize a/2^(k+1)=z at hd' ⊢
  rw[wrap_of (by omega) (by omega),wrap_of (by omega) (by omega)];rfl
 ·have:k=i:=by dsimp only at hg;omega
  subst this
  dsimp only
  rw[Nat.testBit_eq_decide_div_mod_eq]
  congr 1
  have e:Int.tmod ((a/2^k:Nat):Int) 2=((a/2^k%2:Nat):Int):=rfl
  rw[e,Bool.eq_iff_iff,beq_iff_eq,decide_eq_true_eq]
  omega
theorem c194{w:World}{v:CatV}{x:CatD}(h:CatM w v x)(hk:CatOk x)(c d i:Int)(hi:i<=1000000):
  Cw 194 #[cxV v,iv c,iv d,iv i] w fun r w'=>r=.bool (decide (0<=c/\0<=d/\0<=i)&&brkB x c.toNat d.toNat i.toNat)/\Ext w w':=by
 have hn:=cat_cl h
 have h4:=hk.n4
 refine F194_ok v c d i w _ fun b1 w2 a2=>?_
 have e2:Ext w w2:=a2.ch _
 have q0:=boxAt (cs:=cxC v) a2.new 0 (Ch.refl _ _)
 have no:¬((0<=c/\0<=d/\0<=i)/\c.toNat<x.1.length/\d.toNat<x.1.length)->Value.bool false=.bool (decide (0<=c/\0<=d/\0<=i)&&brkB x c.toNat d.toNat i.toNat)/\Ext w w2:=fun hh=>⟨by
  congr 1
  symm
  rw[Bool.eq_false_iff]
  intro ht
  rw[Bool.and_eq_true,decide_eq_true_eq] at ht
  unfold brkB at ht
  simp only[Bool.and_eq_true,decide_eq_true_eq] at ht
  exact hh ⟨ht.1,ht.2.1.1.1,ht.2.1.1.2⟩,e2⟩
 refine⟨v.1,q0,IfB.dec (fun h1=>IfB.dec (fun h2=>IfB.dec (fun h3=>IfB.dec (fun g1=>IfB.dec (fun g2=>IfB.dec (fun g3=>IfB.dec (fun g4=>?_) fun g4=>no fun k=>g4 k.1.2.2) fun g3=>no fun k=>by omega) fun g2=>no fun k=>by omega) fun g1=>no fun k=>g1 k.1.2.1) fun h3=>no fun k=>by omega) fun h2=>no fun k=>by omega) fun h1=>no fun k=>h1 k.1.1⟩
 obtain⟨c,rfl⟩:=Int.eq_ofNat_of_zero_le h1
 obtain⟨d,rfl⟩:=Int.eq_ofNat_of_zero_le g1
 obtain⟨i,rfl⟩:=Int.eq_ofNat_of_zero_le g4
 simp only[Int.toNat_natCast]
 have hc:c<x.1.length:=by omega
 have hd:d<x.1.length:=by omega
 have hx:x.1[c]? =some x.1[c]:=List.getElem?_eq_getElem hc
 have hxm:x.1[c]∈x.1:=List.getElem_mem hc
 generalize x.1[c]=y at hx hxm
 obtain⟨b2,o2,cv,hp,hcc,hM⟩:=ClsR.at (SlR.ext h.cl e2) hx
 have hsn:=hM.st.n
 have hns:=nSt_of hx
 have hy:=hk.cls y hxm
 have hy1:=hy.l1;have hy4:=hy.l4
 have hbr:=hk.br c d (by omega) (by omega)
 have htp:topB x c d<=8:=by
  unfold topB
  split
  ·have:=(pow_range (show nSt x c-1<=3 by omega)).2;omega
  ·omega
 refine⟨v.1,q0,b2,o2,hp,⟨by omega,by omega⟩,cv.2.2.1,hcc 2 _ rfl,IfB.dec (fun g5=>⟨⟨by omega,by omega⟩,⟨by omega,by omega⟩,brk x c d,brk_box h a2.new (Ch.refl _ _) (by omega) (by omega),?_⟩) fun g5=>⟨?_,e2⟩⟩
 ·rw[wrap_of (by omega) (by omega)] at g5
  have hb:brk x c d=(((brk x c d).toNat:Nat):Int):=(Int.toNat_of_nonneg hbr.1).symm
  rw[hb]
  refine(c240 (brk x c d).toNat i (by omega) (by omega) w2).use ?_
  rintro _ _ ⟨rfl,rfl⟩
  refine⟨_,rfl,?_,e2⟩
  unfold brkB
  rw[decide_eq_true (p:=(0:Int)<=(c:Int)/\(0:Int)<=(d:Int)/\(0:Int)<=(i:Int)) (by omega),decide_eq_true hc,decide_eq_true hd,decide_eq_true (p:=i+1<nSt x c) (by omega)];simp
 ·rw[wrap_of (by omega) (by omega)] at g5
  unfold brkB
  rw[decide_eq_false (p:=i+1<nSt x c) (by omega)];simp
theorem c53{w:World}{v:CatV}{x:CatD}(h:CatM w v x):Cw 53 #[cxV v] w fun r w'=>∃b,r=.bool b/\(b=true↔CatOk x)/\Ext w w':=by
 have hn:=cat_cl h
 refine F53_ok v w _ fun b1 w2 a2=>?_
 have e2:Ext w w2:=a2.ch _
 have r2:=Ch.refl (fun _=>False) w2
 have q:=fun{W:World} (e:Ext w2 W)=>boxAt (cs:=cxC v) a2.new 0 e
 have no:∀ {V:World},¬CatOk x->Ext w2 V->∃r,Value.bool false=.bool r/\(r=true↔CatOk x)/\Ext w V:=fun h e=>⟨false,rfl,⟨fun h=>(by cases h),fun h'=>absurd h' h⟩,e2.trans e⟩
 have G:=fun{V:World} {i:Nat} {y:ClsD} (e':Ext w2 V) (hx:x.1[i]? =some y)=>ClsR.at (SlR.ext h.cl (e2.trans e')) hx
 refine⟨_,q r2,IfB.dec (fun h1=>no (fun k=>by have:=k.n1;omega) r2) fun h1=>IfB.dec (fun h2=>no (fun k=>by have:=k.n4;omega) r2) fun h2=>⟨fun m z W=>∃i:Nat,i<=x.1.length/\m+i=x.1.length/\z=(i:Int)/\(∀y∈x.1.take i,ClsOk y)/\(∀(j k:Nat)(a b:ClsD),k<j->j<i->x.1[j]? =some a->x.1[k]? =some b->a.1.toList≠b.1.toList)/\Ext w2 W,⟨_,0,Nat.zero_le _,rfl,rfl,by simp,fun j k a b _ hj=>absurd hj (Nat.not_lt_zero _),r2⟩,?_⟩⟩
 rintro m _ W g ⟨i,hi,hm,rfl,hO,hN,e⟩
 unfold F53j1
 refine IfB.dec (fun hlt=>?_) fun hge=>?_
 ·have hi':i<x.1.length:=by omega
  have hx:x.1[i]? =some x.1[i]:=List.getElem?_eq_getElem hi'
  have hxm:x.1[i]∈x.1:=List.getElem_mem hi'
  have htk:=take_succ_get hx
  generalize x.1[i]=y at hx hxm htk
  obtain⟨b,o,cv,hp,hc,hM⟩:=G e hx
  refine⟨_,q e,b,o,hp,⟨by omega,hlt⟩,cv,by rw[Int.toNat_natCast];exact hc,(c115 hM).use ?_⟩
  rintro _ w16 ⟨r,rfl,hr,e16⟩
  have E16:=e.trans e16
  refine⟨r,rfl,IfB.intro (fun h3=>no (fun k=>?_) E16) fun h3=>?_⟩
  ·have h3:r=false:=by simpa using h3
   rw[hr.2 (k.cls _ hxm)] at h3;cases h3
  have k3:=hr.1 (by simpa using h3)
  refine⟨fun m' z V=>∃k:Nat,k<=i/\m'+k=i/\z=(k:Int)/\(∀(k':Nat) b,k'<k->x.1[k']? =some b->y.1.toList≠b.1.toList)/\Ext w2 V,⟨_,0,Nat.zero_le _,rfl,rfl,fun k' b hk=>absurd hk (Nat.not_lt_zero _),E16⟩,?_⟩
  rintro m' _ V g' ⟨k,hk,hmk,rfl,hD,eV⟩
  unfold F53j2
  refine IfB.dec (fun hl=>?_) fun hg=>?_
  ·have hk':k<x.1.length:=by omega
   have hy:x.1[k]? =some x.1[k]:=List.getElem?_eq_getElem hk'
   generalize x.1[k]=y' at hy
   have eD:Ext w2 V.drew:=eV.trans (extDrew V)
   obtain⟨b3,o3,cv3,hp3,hc3,hM3⟩:=G eD hy
   obtain⟨b4,o4,cv4,hp4,hc4,hM4⟩:=G eD hx
   have n3:=hM3.nm
   have n4:=hM4.nm
   refine⟨_,q eD,b3,o3,hp3,⟨by omega,by show (k:Int)<(v.1.n:Int);omega⟩,cv3.1,by rw[Int.toNat_natCast];exact hc3 0 _ rfl,_,q eD,b4,o4,hp4,⟨by omega,hlt⟩,cv4.1,by rw[Int.toNat_natCast];exact hc4 0 _ rfl,IfB.intro (fun h5=>no (fun kk=>?_) eD) fun h5=>⟨rfl,m'-1,by omega,k+1,by omega,by omega,by rw[wrap_of (by omega) (by omega)];rfl,fun k' b hk2 hb=>?_,eD⟩⟩
   ·rw[n3,n4,beq_iff_eq] at h5
    exact kk.names i k y y' (by omega) hx hy h5.symm
   ·rcases Nat.lt_or_ge k' k with h'|h'
    ·exact hD k' b h' hb
    ·have:k'=k:=by omega
     subst this
     rw[hy] at hb;cases hb
     rw[n3,n4,beq_eq_false_iff_ne] at h5
     exact fun h=>h5 h.symm
  ·have hk':k=i:=by omega
   subst hk'
   refine⟨rfl,m-1,by omega,k+1,hi',by omega,by rw[wrap_of (by omega) (by omega)];rfl,fun z hz=>?_,fun j k2 a b hk2 hj ha hb=>?_,eV⟩
   ·rw[htk] at hz
    rcases List.mem_append.1 hz with hz|hz
    ·exact hO z hz
    ·rw[List.mem_singleton.1 hz];exact k3
   ·rcases Nat.lt_or_ge j k with h'|h'
    ·exact hN j k2 a b hk2 h' ha hb
    ·have:j=k:=by omega
     subst this
     rw[hx] at ha;cases ha
     exact hD k2 b hk2 hb
 ·have hi':i=x.1.length:=by omega
  subst hi'
  rw[List.take_length] at hO
  have hN':∀(j k:Nat)(a b:ClsD),k<j->x.1[j]? =some a->x.1[k]? =some b->a.1.toList≠b.1.toList:=fun j k a b hkj ha hb=>hN j k a b hkj (List.getElem?_eq_some_iff.1 ha).1 ha hb
  refine⟨fun m z W=>∃i:Nat,i<=4/\m+i=4/\z=(i:Int)/\(∀c d,c<i->d<4->0<=brk x c d/\brk x c d<topB x c d)/\Ext w2 W,⟨4,0,Nat.zero_le _,rfl,rfl,fun c d hc=>absurd hc (Nat.not_lt_zero _),e⟩,?_⟩
  rintro m _ W g ⟨c,hc4,hm,rfl,hB,e⟩
  refine IfB.dec (fun hlt=>?_) fun hge=>⟨true,rfl,⟨fun _=>⟨by omega,by omega,hO,hN',fun c' d hc' hd=>hB c' d (by omega) hd⟩,fun _=>rfl⟩,e2.trans e⟩
  refine⟨fun m z W=>∃i:Nat,i<=4/\m+i=4/\z=(i:Int)/\(∀d,d<i->0<=brk x c d/\brk x c d<topB x c d)/\Ext w2 W,⟨4,0,Nat.zero_le _,rfl,rfl,fun d hd=>absurd hd (Nat.not_lt_zero _),e⟩,?_⟩
  rintro m' _ W g ⟨d,hd4,hm',rfl,hB',e⟩
  unfold F53j4
  have fin:∀ {V:World},Ext w2 V->d<4->0<=brk x c d/\brk x c d<topB x c d->([]:List Nat)=[]/\∃b,b<m'/\∃i':Nat,i'<=4/\b+i'=4/\IntKind.i64.wrap ((d:Int)+1)=(i':Int)/\(∀d,d<i'->0<=brk x c d/\brk x c d<topB x c d)/\Ext w2 V:=fun eV hd hb=>⟨rfl,m'-1,by omega,d+1,hd,by omega,by rw[wrap_of (by omega) (by omega)];rfl,fun d' hd'=>by
   rcases Nat.lt_or_ge d' d with h'|h'
   ·exact hB' d' h'
   ·have:d'=d:=by omega
    subst this;exact hb,eV⟩
  have qb:∀ {V:World},Ext w2 V->d<4->V.cell? ⟨b1,0+1+(c:Int).toNat*4+(d:Int).toNat,none⟩=some (iv (brk x c d)):=fun eV hd=>by
   rw[Int.toNat_natCast,Int.toNat_natCast];exact brk_box h a2.new eV (by omega) hd
  refine IfB.dec (fun hl=>?_) fun hg=>⟨rfl,m-1,by omega,c+1,by omega,by omega,by rw[wrap_of (by omega) (by omega)];rfl,fun c' d' hc' hd'=>?_,e⟩
  ·have hd':d<4:=by omega
   have k1:¬(c<x.1.length/\d<x.1.length)->F53k1 (c:Int) (d:Int) W b1 (fun r w'=>∃b,r=.bool b/\(b=true↔CatOk x)/\Ext w w') m' (fun m z W=>∃i:Nat,i<=4/\m+i=4/\z=(i:Int)/\(∀d,d<i->0<=brk x c d/\brk x c d<topB x c d)/\Ext w2 W):=fun hno=>by
    have ht:topB x c d=1:=by unfold topB;rw[if_neg hno]
    refine⟨⟨by omega,by omega⟩,⟨by omega,by omega⟩,_,qb e hd',IfB.dec (fun g1=>no (fun k=>?_) e) fun g1=>⟨⟨by omega,by omega⟩,⟨by omega,by omega⟩,_,qb e hd',IfB.dec (fun g2=>no (fun k=>?_) e) fun g2=>fin e hd' ⟨by omega,by omega⟩⟩⟩
    ·have:=(k.br c d (by omega) hd').1;omega
    ·have:=(k.br c d (by omega) hd').2;omega
   refine IfB.dec (fun g1=>IfB.dec (fun g2=>?_) fun g2=>k1 fun k=>by omega) fun g1=>k1 fun k=>by omega
   have hcl:c<x.1.length:=by omega
   have hdl:d<x.1.length:=by omega
   have hx:x.1[c]? =some x.1[c]:=List.getElem?_eq_getElem hcl
   have hxm:x.1[c]∈x.1:=List.getElem_mem hcl
   generalize x.1[c]=y at hx hxm
   have hns:=nSt_of hx
   have hy1:=(hO y hxm).l1
   have hy4:=(hO y hxm).l4
   have ht:topB x c d=2^(nSt x c-1):=by unfold topB;rw[if_pos ⟨hcl,hdl⟩]
   refine⟨fun m z W=>∃k:Nat,1<=k/\k<=nSt x c/\m+k=nSt x c/\z=((2:Int)^(k-1),(k:Int))/\Ext w2 W,⟨nSt x c-1,1,Nat.le_refl _,by omega,by omega,rfl,e⟩,?_⟩
   rintro m3 _ V g3 ⟨k,hk1,hkn,hm3,rfl,eV⟩
   unfold F53j5
   obtain⟨b5,o5,cv5,hp5,hc5,hM5⟩:=G eV hx
   have hsn:=hM5.st.n
   have hpw:=pow_range (show k-1<=3 by omega)
   refine⟨_,q eV,b5,o5,hp5,⟨by omega,by show (c:Int)<(v.1.n:Int);omega⟩,cv5.2.2.1,by rw[Int.toNat_natCast];exact hc5 2 _ rfl,IfB.dec (fun g5=>?_) fun g5=>?_⟩
   ·dsimp only at g5
    refine⟨rfl,m3-1,by omega,k+1,by omega,by omega,by omega,?_,eV⟩
    dsimp only
    rw[wrap_of (by omega) (by omega),wrap_of (by omega) (by omega),show k+1-1=(k-1)+1 by omega,Int.pow_succ,Int.mul_comm];rfl
   ·dsimp only at g5
    have hkk:k=nSt x c:=by omega
    rw[hkk,<-ht] at hpw
    refine⟨⟨by omega,by omega⟩,⟨by omega,by omega⟩,_,qb eV hd',IfB.dec (fun g1=>no (fun k=>?_) eV) fun g1=>⟨⟨by omega,by omega⟩,⟨by omega,by omega⟩,_,qb eV hd',IfB.dec (fun g2=>no (fun k=>?_) eV) fun g2=>fin eV hd' ⟨by omega,?_⟩⟩⟩
    ·have:=(k.br c d (by omega) hd').1;omega
    ·dsimp only at g2
     rw[hkk,<-ht] at g2
     have:=(k.br c d (by omega) hd').2;omega
    ·dsimp only at g2
     rw[hkk,<-ht] at g2
     omega
  ·have hd':d=4:=by omega
   subst hd'
   rcases Nat.lt_or_ge c' c with h'|h'
   ·exact hB c' d' h' hd'
   ·have:c'=c:=by omega
    subst this;exact hB' d' hd'
def bothS(x y:Spn):Spn:=(if x.1<y.1 then y.1 else x.1,if y.2<x.2 then y.2 else x.2)
def meetRow(x:Spn)(bs:List Spn):List Spn:=(bs.map (bothS x)).filter fun s=>decide (s.1<=s.2)
def meetL(ls bs:List Spn):List Spn:=ls.flatMap fun x=>meetRow x bs
theorem meetRow_take{x y:Spn}{bs:List Spn}{j:Nat}(h:bs[j]? =some y):meetRow x (bs.take (j+1))=meetRow x (bs.take j)++if (bothS x y).1<=(bothS x y).2 then [bothS x y] else []:=by
 unfold meetRow
 rw[take_succ_get h,List.map_append,List.filter_append]
 congr 1
 by_cases hc:(bothS x y).1<=(bothS x y).2<;>simp[hc]
theorem meetL_take{ls bs:List Spn}{i:Nat}{x:Spn}(h:ls[i]? =some x):meetL (ls.take (i+1)) bs=meetL (ls.take i) bs++meetRow x bs:=by
 unfold meetL;rw[take_succ_get h,List.flatMap_append];simp
structure InvM(b1 b3:Nat)(sa sb:Sl)(ls bs:List Spn)(W:World):Prop where
 a:∃T,W.heap[b1]? =some (.cells #[slV sa] T (0,0))
 b:∃T,W.heap[b3]? =some (.cells #[slV sb] T (0,0))
 ra:Rd W sa 2 (ls.flatMap sv)
 rb:Rd W sb 2 (bs.flatMap sv)
theorem InvM.stb{n b1 b3:Nat}{sa sb:Sl}{ls bs:List Spn}{W W':World}(h:InvM b1 b3 sa sb ls bs W)(hS:Stb n W W'):InvM b1 b3 sa sb ls bs W':=by
 obtain⟨⟨T,h1⟩,⟨T',h2⟩,h3,h4⟩:=h
 exact⟨⟨T,hS.keep _ _ h1 rfl⟩,⟨T',hS.keep _ _ h2 rfl⟩,rd_stb h3 hS,rd_stb h4 hS⟩
abbrev spA(x:Spn):Array Value:=#[spV x]
theorem itM(b1 b3:Nat)(sa sb:Sl)(ls bs:List Spn)(hla:ls.length<=1000000)(hlb:bs.length<=1000000):
  IterU Tryz.prog 229 #[.pointer (some ⟨b1,0,none⟩),.pointer (some ⟨b3,0,none⟩)] spA false (fun pre x=>∃post,pre++x::post=meetL ls bs) (fun xs=>xs=meetL ls bs) (InvM b1 b3 sa sb ls bs):=by
 refine⟨en229,fun l J Jx U W hJ hJx hInv hSz _ hU hU1 hstep h0=>?_⟩
 have hI0:=hInv _ _ h0
 have han:=rdN sv_len (by omega) hI0.ra
 have hbn:=rdN sv_len (by omega) hI0.rb
 obtain⟨T1,hT1⟩:=hI0.a
 refine F229_ok l b1 b3 W _ ⟨sa,by rw[cell_of hT1];rfl,fun n x w6=>∃i:Nat,i<=ls.length/\n+i=ls.length/\x=(i:Int)/\J (meetL (ls.take i) bs) w6,⟨ls.length,0,Nat.zero_le _,rfl,rfl,h0⟩,?_⟩
 rintro n _ w6 g ⟨i,hi,hni,rfl,hj⟩
 have hw6:=hSz _ _ hj
 unfold F229j1
 refine IfB.dec (fun hlt=>?_) fun hge=>?_
 ·have hi':i<ls.length:=by omega
  have hx:ls[i]? =some ls[i]:=List.getElem?_eq_getElem hi'
  have hmt:=meetL_take (bs:=bs) hx
  have hsplit:∀(q:List Spn),(∃r,q++r=meetRow ls[i] bs)->∃r,meetL (ls.take i) bs++q++r=meetL ls bs:=fun q ⟨r,hr⟩=>by
   refine⟨r++meetL (ls.drop (i+1)) bs,?_⟩
   have:meetL ls bs=meetL (ls.take (i+1)) bs++meetL (ls.drop (i+1)) bs:=by
    unfold meetL;rw[<-List.flatMap_append,List.take_append_drop]
   rw[this,hmt,<-hr];simp
  generalize ls[i]=x at hx hmt hsplit
  obtain⟨a,o,hp,hc⟩:=(hInv _ _ hj).ra.elem (i:=i) (by omega) (by omega) (flatGet sv_len hx)
  refine⟨a,o,hp,⟨by omega,hlt⟩,x,by rw[Int.toNat_natCast];exact hc,boxSp rfl fun b12 w14 hb12 hs14 h14 e14 hS14=>?_⟩
  have hj14:=hJ _ _ _ hj (hS14 _ hw6)
  have hI14:=hInv _ _ hj14
  obtain⟨T2,hT2⟩:=hI14.b
  have hn12:¬U w14 b12:=fun h=>by
   have:=hU1 _ _ hj _ (hU _ _ (hS14 _ hw6) _ h)
   omega
  refine⟨sb,by rw[cell_of hT2];rfl,fun m y w20=>∃j:Nat,j<=bs.length/\m+j=bs.length/\y=(j:Int)/\J (meetL (ls.take i) bs++meetRow x (bs.take j)) w20/\(∃T,w20.heap[b12]? =some (.cells #[.int .i64 x.1,.int .i64 x.2] T (0,0)))/\¬U w20 b12,
   ⟨bs.length,0,Nat.zero_le _,rfl,rfl,by simpa [meetRow] using hj14,⟨_,h14⟩,hn12⟩,?_⟩
  rintro m _ w20 g ⟨j,hj1,hmj,rfl,hJ20,⟨T3,h20⟩,hn20⟩
  have hw20:=hSz _ _ hJ20
  unfold F229j2
  refine IfB.dec (fun hlt2=>?_) fun hge2=>?_
  ·have hj':j<bs.length:=by omega
   have hy:bs[j]? =some bs[j]:=List.getElem?_eq_getElem hj'
   have hmr:=meetRow_take (x:=x) hy
   have hrest:∃r,meetRow x (bs.take (j+1))++r=meetRow x bs:=⟨meetRow x (bs.drop (j+1)),by
    unfold meetRow;rw[<-List.filter_append,<-List.map_append,List.take_append_drop]⟩
   generalize bs[j]=y at hy hmr
   obtain⟨a2,o2,hp2,hc2⟩:=(hInv _ _ hJ20).rb.elem (i:=j) (by omega) (by omega) (flatGet sv_len hy)
   have hi1:IntKind.i64.wrap ((j:Int)+1)=((j+1:Nat):Int):=by rw[wrap_of (by omega) (by omega)];rfl
   have hlt12:=heap_lt h20
   refine⟨a2,o2,hp2,⟨by omega,hlt2⟩,y,by rw[Int.toNat_natCast];exact hc2,boxSp rfl fun b26 w28 hb26 hs28 h28 e28 hS28=>?_⟩
   have k28:=e28.at h20
   refine⟨x.1,by rw[cell_of k28];rfl,y.1,by rw[cell_of h28];rfl,x.2,by rw[cell_of k28];rfl,y.2,by rw[cell_of h28];rfl,boxSp (x:=bothS x y) rfl fun b33 w35 hb33 hs35 h35 e35 hS35=>?_⟩
   have hS:∀n,n<=w20.heap.size->Stb n w20 w35:=fun n hn=>(hS28 n hn).trans (hS35 n (by omega))
   have hJ35:=hJ _ _ _ hJ20 (hS _ hw20)
   have k35:=e35.at k28
   have hn35:¬U w35 b12:=fun h=>hn20 (hU _ _ (hS _ hw20) _ h)
   refine⟨(bothS x y).1,by rw[cell_of h35];rfl,(bothS x y).2,by rw[cell_of h35];rfl,IfB.dec (fun hne=>?_) fun hne=>?_⟩
   ·rw[if_pos hne] at hmr
    refine⟨bothS x y,cellsAt_of h35 fun i v hv=>by simpa using hv,(hstep _ (bothS x y) w35 hJ35 ?_).mono fun t w40 ht=>?_⟩
    ·obtain⟨r,hr⟩:=hsplit _ hrest
     exact⟨r,by rw[<-hr,hmr];simp⟩
    ·cases t with
     | false=>exact IfB.yes rfl (.inr ⟨_,ht⟩)
     | true=>
      obtain⟨hJ40,_,hK⟩:=ht
      refine IfB.no rfl ⟨rfl,m-1,by omega,j+1,hj',by omega,hi1,?_,⟨T3,?_⟩,fun h=>?_⟩
      ·rw[hmr,<-List.append_assoc];exact hJ40
      ·rw[hK.at' b12 (by omega) (by omega) hn35];exact k35
      ·rcases hK.own _ h with h|h
       ·exact hn35 h
       ·omega
   ·rw[if_neg hne,List.append_nil] at hmr
    exact⟨rfl,m-1,by omega,j+1,hj',by omega,hi1,by rw[hmr];exact hJ35,⟨T3,k35⟩,hn35⟩
  ·have hj':j=bs.length:=by omega
   subst hj'
   rw[List.take_length] at hJ20
   exact⟨rfl,n-1,by omega,i+1,hi',by omega,by rw[wrap_of (by omega) (by omega)];rfl,by rw[hmt];exact hJ20⟩
 ·have hi':i=ls.length:=by omega
  subst hi'
  rw[List.take_length] at hj
  exact .inl ⟨_,rfl,hj⟩
theorem c188(sa sb:Sl)(w:World):Cw 188 #[slV sa,slV sb] w fun v w'=>∃b1 b3,v=.func (.func 229) #[] #[.pointer (some ⟨b1,0,none⟩),.pointer (some ⟨b3,0,none⟩)]/\
  (∃T,w'.heap[b1]? =some (.cells #[slV sa] T (0,0)))/\(∃T,w'.heap[b3]? =some (.cells #[slV sb] T (0,0)))/\w.heap.size<=b1/\w.heap.size<=b3/\Ext w w':=
 F188_ok sa sb w _ fun b1 w2 h2 b3 w4 h4=>⟨b1,b3,rfl,⟨_,h4.at h2.new⟩,⟨_,h4.new⟩,Nat.le_of_eq h2.here.symm,by rw[h4.here,h2.size];omega,(h2.ch _).trans (h4.ch _)⟩
theorem meetL_iff{ls bs:List Spn}(ha:∀x∈ls,mayS x)(hb:∀x∈bs,mayS x):meetL ls bs≠[]↔∃k,hasS ls k/\hasS bs k:=by
 constructor
 ·intro h
  obtain⟨s,hs⟩:=List.exists_mem_of_ne_nil _ h
  obtain⟨x,hx,hs⟩:=List.mem_flatMap.1 hs
  obtain⟨hs,hd⟩:=List.mem_filter.1 hs
  obtain⟨y,hy,rfl⟩:=List.mem_map.1 hs
  have hd:(bothS x y).1<=(bothS x y).2:=by simpa using hd
  refine⟨(bothS x y).1,⟨x,hx,ha x hx,?_⟩,⟨y,hy,hb y hy,?_⟩⟩
  ·unfold bothS at hd ⊢;dsimp only at hd ⊢;split<;>split at hd<;>omega
  ·unfold bothS at hd ⊢;dsimp only at hd ⊢;split<;>split at hd<;>omega
 ·rintro⟨k,⟨x,hx,_,h1,h2⟩,⟨y,hy,_,h3,h4⟩⟩ he
  have:bothS x y∈meetL ls bs:=by
   refine List.mem_flatMap.2 ⟨x,hx,List.mem_filter.2 ⟨List.mem_map.2 ⟨y,hy,rfl⟩,?_⟩⟩
   simp only[decide_eq_true_eq]
   unfold bothS;dsimp only;split<;>split<;>omega
  rw[he] at this
  cases this
theorem sumS_one(s:Sl)(l:List Spn):sumS [(s,l)]=l.length:=by simp[sumS]
theorem plain1{w:World}{s:Sl}{xs:List Spn}(h:Rd w s 2 (xs.flatMap sv))(hl:xs.length<=1000000){K:RV}
  (hK:∀t' os w',NormS os->(∀k,hasS os k↔hasS xs k)->OwS w' t' 2 (os.flatMap sv)->os.length<=xs.length->Ext w w'->(∀j∈blk t',w.heap.size<=j)->K (slV t') w'){T:TypeId}:
  AllocP w (.cells #[slV s] T) fun b w2=>Cx 189 #[.slice (some ⟨b,0,none⟩) 1 1] w2 K:=by
 intro b w2 h2
 have e2:Ext w w2:=h2.ch _
 have hR:Rd w2 ⟨some ⟨b,0,none⟩,1,1⟩ 1 ([(s,xs)].map hS):=(OwS.new (cs:=[slV s]) (n:=1) (sz:=1) h2 rfl).rd
 refine(c189 hR (fun x hx=>by rw[List.mem_singleton.1 hx];exact h.ext e2) (by rw[sumS_one];exact hl) (by simp)).use ?_
 rintro _ w' ⟨t',os,rfl,h1,h3,h4,h5,h6,h7⟩
 rw[sumS_one] at h5
 simp only[List.flatMap_cons,List.flatMap_nil,List.append_nil] at h3
 exact hK t' os w' h1 h3 h4 h5 (e2.trans h6) fun j hj=>by have:=h7 j hj;have:=e2.size;omega
theorem c138{w:World}{s t:Sl}{xs ys:List Spn}(hs:Rd w s 2 (xs.flatMap sv))(ht:Rd w t 2 (ys.flatMap sv))(hxl:xs.length<=1000000)(hyl:ys.length<=1000000):
  Cw 138 #[slV s,slV t] w fun v w'=>∃r,v=.bool r/\(r=true↔∃k,hasS xs k/\hasS ys k)/\Ext w w':=by
 refine F138_ok s t w _ fun b1 w2 h2=>⟨by decide,?_⟩
 have e2:Ext w w2:=h2.ch _
 refine plain1 (hs.ext e2) hxl fun s7 os1 w6 hN1 hk1 ho1 hl1 e6 hb7=>⟨s7,rfl,by decide,?_⟩
 refine plain1 (ht.ext (e2.trans e6)) hyl fun s12 os2 w11 hN2 hk2 ho2 hl2 e11 hb12=>⟨s12,rfl,?_⟩
 refine(c188 s7 s12 w11).use ?_
 rintro _ w14 ⟨p1,p3,rfl,hp1,hp3,hp1',hp3',e14⟩
 have hiff:=meetL_iff hN1.2 hN2.2
 have hall:meetL os1 os2≠[]↔∃k,hasS xs k/\hasS ys k:=by
  rw[hiff];exact exists_congr fun k=>and_congr (hk1 k) (hk2 k)
 refine⟨(229,#[.pointer (some ⟨p1,0,none⟩),.pointer (some ⟨p3,0,none⟩)]),rfl,fun g=>?_⟩
 have E14:Ext w w14:=((e2.trans e6).trans e11).trans e14
 have H1:w14.heap[b1]? =some (.cells #[.bool false] 4 (0,0)):=e14.at (e11.at (e6.at h2.new))
 have hI:InvM p1 p3 s7 s12 os1 os2 w14:=⟨hp1,hp3,((ho1.ext e11).ext e14).rd,(ho2.ext e14).rd⟩
 have hb1:b1<w14.heap.size:=heap_lt H1
 have hb1':w.heap.size=b1:=h2.here.symm
 refine range_noneU tbOk mixed (gf:=229) (lb:=#[.pointer (some ⟨p1,0,none⟩),.pointer (some ⟨p3,0,none⟩)]) rfl (itM p1 p3 s7 s12 os1 os2 (by omega) (by omega)) R138_0ok1 R138_0ok2 R138_0okp (fun _=>rfl)
  (fun _ _=>False) (fun _ _ _ _ h=>h)
  (fun pre W=>pre=[]/\InvM p1 p3 s7 s12 os1 os2 W/\W.heap[b1]? =some (.cells #[.bool false] 4 (0,0))/\Ch (fun i=>w.heap.size<=i) w W)
  (fun c pre W=>c=.ret/\meetL os1 os2≠[]/\W.heap[b1]? =some (.cells #[.bool true] 4 (0,0))/\Ch (fun i=>w.heap.size<=i) w W) ?_ ?_ ?_ (fun h=>by cases h) (fun _ _ _ _ h=>h.elim) ?_ ?_ ?_ ?_
 ·rintro pre A B ⟨h1,h2,h3,h4⟩ hS
  exact⟨h1,h2.stb hS,hS.keep _ _ h3 rfl,h4.then (.ofStb hS) fun i _ hi=>by omega⟩
 ·rintro c pre A B ⟨h1,h2,h3,h4⟩ hS
  exact⟨h1,h2,hS.keep _ _ h3 rfl,h4.then (.ofStb hS) fun i _ hi=>by omega⟩
 ·rintro pre W ⟨_,h,_⟩;exact h
 ·exact⟨rfl,hI,H1,E14.mono fun _ _ h=>h.elim⟩
 ·rintro pre x W ⟨rfl,hM,hB,hC⟩ hx hW
  refine F138b0_ok b1 (229,#[.pointer (some ⟨p1,0,none⟩),.pointer (some ⟨p3,0,none⟩)]) (spV x) _ _ _ _ _ W ?_
  refine⟨rfl,⟨rfl,rfl⟩,fun w9 hS _ _=>⟨rfl,store_one (hS.keep _ _ hB rfl) (by simp) rfl fun w16 h16=>?_⟩⟩
  refine⟨⟨h16.old _ (by omega),h16.old _ (by omega)⟩,rfl,?_,h16.new,(hC.then (.ofStb hS) fun i _ hi=>by omega).then h16.ch fun i _ e=>by omega⟩
  obtain⟨post,hp⟩:=hx
  rw[<-hp];simp
 ·rintro xs' W rfl ⟨hnil,_,hB,hC⟩ hD
  refine⟨rfl,store_one hB (by simp) rfl fun w19 h19=>?_⟩
  refine marks_one (h19.at hD (by omega)) fun w' hu=>⟨false,?_,false,rfl,?_,?_⟩
  ·rw[cell_of (hu.at h19.new (by omega))];rfl
  ·rw[<-hall,hnil];simp
  ·have h:=(hC.then h19.ch fun i _ e=>(by omega:w.heap.size<=i)).then hu.ch fun i _ e=>(by omega:w.heap.size<=i)
   exact h.mono fun i hi h=>by omega
 ·rintro c pre W ⟨rfl,hne,hB,hC⟩ hD
  refine marks_one hD fun w' hu=>⟨true,?_,true,rfl,?_,?_⟩
  ·rw[cell_of (hu.at hB (by omega))];rfl
  ·rw[<-hall];simp[hne]
  ·have h:=hC.then hu.ch fun i _ e=>(by omega:w.heap.size<=i)
   exact h.mono fun i hi h=>by omega
theorem F124_ok(t0:Option Nat)(w:World)(R:RV)(h:AllocP w (Obj.cells #[Value.map t0] 149) fun b1 w2=>R (Value.func (Fn.func 180) #[] #[Value.pointer (some ⟨b1,0,none⟩)]) w2):Cw 124 #[Value.map t0] w R:=
 ckF Tryz.func124 .nil h (by kernel_rfl) (by kernel_rfl)
def F180(t0:Nat)(t1:Nat)(w:World)(R:RV):Prop:=∃(p1:Option Nat),w.cell? ⟨t1,0,none⟩=some (Value.map p1)/\MapItP w (Value.map p1) fun b2 w3=>Ql (α:=Unit) PUnit.unit w3 fun y4 b6 y7 w8=>NextP w8 b2 (fun w11=>R (Value.tuple #[]) w11) fun(v12 v13:Value) (w14:World)=>EntryP w14 b2 fun(v15 v16:Value)=>YW Tryz.prog t0 #[v15] w14 fun(t17:Bool) (w18:World)=>IfB (!t17) (R (Value.tuple #[]) w18) (Qn y4 b6 PUnit.unit w18)
theorem F180_ok(t0:Nat)(t1:Nat)(w:World)(R:RV)(h:F180 t0 t1 w R):Cw 180 #[Value.func (Fn.yield t0) #[] #[],Value.pointer (some ⟨t1,0,none⟩)] w R:=
 ckF Tryz.func180 (nd (.loop [] (rg [3,3,6,13]) .nil)) h (by kernel_rfl) (by kernel_rfl)
theorem F180_eq(l b:Nat)(W:World)(R:RV):F180 l b W R=KeysF Tryz.prog l b W R:=rfl
theorem it180{w:World}{b1:Nat}{mo:MO}{ks:List Int}(hI:KeysI b1 mo w)(hks:KeysE mo ks)(hl:ks.length<=1000000):IntIt 180 #[.pointer (some ⟨b1,0,none⟩)] w fun xs=>xs.Perm ks:=
 keysIt en180 (fun l W R h=>F180_ok l b1 W R (by rw[F180_eq];exact h)) hI hks hl
def OwQ(w:World)(s:Sl)(cs:List Value):Prop:=
 (s.n=0/\s.c=0/\cs=[]/\∀a,s.p=some a->a.spot=none)\/∃b o arr T,s.p=some ⟨b,o,none⟩/\w.heap[b]? =some (.cells arr T (0,0))/\arr.size=o+s.c/\s.n<=s.c/\(arr.toList.drop o).take s.n=cs
theorem OwS.q{w:World}{s:Sl}{cs:List Value}(h:OwS w s 1 cs):OwQ w s cs:=by
 rcases h with ⟨rfl,rfl⟩|⟨b,arr,T,h1,h2,h3,h4,rfl⟩
 ·exact .inl ⟨rfl,rfl,rfl,fun a h=>by cases h⟩
 ·exact .inr ⟨b,0,arr,T,h1,h2,by omega,h4,by simp⟩
theorem OwQ.len{w:World}{s:Sl}{cs:List Value}(h:OwQ w s cs):s.n=cs.length:=by
 rcases h with ⟨h1,_,rfl,_⟩|⟨b,o,arr,T,h1,h2,h3,h4,rfl⟩
 ·exact h1
 ·rw[List.length_take,List.length_drop,Array.length_toList];omega
theorem OwQ.ch{F:Nat->Prop}{w w':World}{s:Sl}{cs:List Value}(h:OwQ w s cs)(hc:Ch F w w')(hF:∀i∈blk s,¬F i):OwQ w' s cs:=by
 rcases h with h|⟨b,o,arr,T,h1,h2,h3⟩
 ·exact .inl h
 ·exact .inr ⟨b,o,arr,T,h1,hc.at h2 (hF b (by simp[blk,h1])),h3⟩
theorem OwQ.ext{w w':World}{s:Sl}{cs:List Value}(h:OwQ w s cs)(hc:Ext w w'):OwQ w' s cs:=h.ch hc fun _ _=>id
theorem OwQ.at{w:World}{s:Sl}{cs:List Value}(h:OwQ w s cs){i:Nat}{v:Value}(hv:cs[i]? =some v):∃b o,s.p=some ⟨b,o,none⟩/\w.cell? ⟨b,o+i,none⟩=some v:=by
 rcases h with ⟨h1,_,rfl,_⟩|⟨b,o,arr,T,h1,h2,h3,h4,rfl⟩
 ·cases hv
 ·refine⟨b,o,h1,?_⟩
  rw[cell_of h2]
  rw[List.getElem?_take] at hv
  split at hv
  ·rw[List.getElem?_drop,Array.getElem?_toList] at hv;exact hv
  ·cases hv
theorem OwQ.tail{w:World}{s:Sl}{v:Value}{cs:List Value}(h:OwQ w s (v::cs)):OwQ w ⟨slAddr s.p s.c 1 1,s.n-1,s.c-1⟩ cs/\∀i∈blk ⟨slAddr s.p s.c 1 1,s.n-1,s.c-1⟩,i∈blk s:=by
 have hl:=h.len
 rw[List.length_cons] at hl
 rcases h with ⟨h1,_,h,_⟩|⟨b,o,arr,T,h1,h2,h3,h4,h5⟩
 ·cases h
 ·rw[h1,slAddr_some]
  have hblk:blk s=[b]:=by simp[blk,h1]
  refine⟨?_,fun i hi=>by rw[hblk];simpa [blk] using hi⟩
  by_cases hc:s.c=1
  ·refine .inl ⟨by dsimp only;omega,by dsimp only;omega,List.eq_nil_of_length_eq_zero (by omega),fun a h=>by cases h;rfl⟩
  ·rw[if_neg hc]
   refine .inr ⟨b,o+1*1,arr,T,rfl,h2,by dsimp only;omega,by dsimp only;omega,?_⟩
   dsimp only
   have:=congrArg List.tail h5
   rw[List.tail_cons] at this
   rw[<-this,<-List.drop_one,List.drop_take,List.drop_drop]
theorem OwQ.append{w:World}{s:Sl}{T:TypeId}{cnt:Nat}{cs new:List Value}{te:TI}{K:Sl->World->Prop}(h:OwQ w s cs)(hsz:te.size=1)(hz:te.zero.cells.size=1)
  (hn:new.length=cnt)(h1:One new)(hr:Roomy (s.n+cnt) te.bytes)
  (hK:∀s' w',OwQ w' s' (cs++new)->Ch (fun i=>i∈blk s) w w'->(∀i∈blk s',i∈blk s\/w.heap.size<=i)->K s' w'):AppendP te T w s.p s.n s.c cnt new K:=by
 have hlen:=h.len
 refine⟨fun hc=>?_,fun hc=>⟨hr,cs,?_,fun k hk b w' ha=>?_⟩⟩
 ·rcases h with ⟨g1,g2,rfl,g3⟩|⟨b,o,arr,T',hp,ho,hs,hle,rfl⟩
  ·have:cnt=0:=by omega
   subst this
   have:new=[]:=List.eq_nil_of_length_eq_zero hn
   subst this
   have hq:OwQ w ⟨s.p,s.n+0,s.c⟩ ([]++[]):=.inl ⟨g1,g2,rfl,g3⟩
   have:=hK ⟨s.p,s.n+0,s.c⟩ w hq (Ch.refl _ _) fun i hi=>.inl hi
   cases hp:s.p with
   | none=>rw[hp] at this;exact this
   | some a=>
    obtain⟨b,o,sp⟩:=a
    rw[hp] at this
    cases sp with
    | none=>exact this
    | some x=>have:=g3 _ hp;cases this
  ·rw[hp]
   dsimp only
   rw[hsz,Nat.mul_one]
   have hb:blk s=[b]:=by simp[blk,hp]
   cases new with
   | nil=>
    have:cnt=0:=by simpa using hn.symm
    subst this
    refine hK ⟨some ⟨b,o,none⟩,s.n+0,s.c⟩ w (.inr ⟨b,o,arr,T',rfl,ho,hs,hle,by simp⟩) (Ch.refl _ _) fun i hi=>.inl (by rw[hb];simpa [blk] using hi)
   | cons v vs=>
    refine⟨arr,T',ho,by simp only[List.length_cons] at hn;omega,h1,fun w' hu=>?_⟩
    have e:=setsA_list (old:=arr) (o:=o+s.n) (vs:=v::vs) (by rw[hn];omega)
    refine hK _ _ (.inr ⟨b,o,_,T',rfl,hu.new,?_,hc,?_⟩) (hu.ch.mono fun i _ hi=>by rw[hb];simpa using hi) (fun i hi=>.inl (by rw[hb];simpa [blk] using hi))
    ·rw[<-Array.length_toList,e];simp only[List.length_append,List.length_take,List.length_drop,Array.length_toList,hs,hn];omega
    ·rw[e]
     dsimp only
     have hA:arr.toList.length=o+s.c:=by rw[Array.length_toList,hs]
     apply List.ext_getElem?
     intro j
     rw[List.getElem?_take,List.getElem?_drop]
     by_cases hj:j<s.n+cnt
     ·rw[if_pos hj]
      by_cases hj2:j<s.n
      ·rw[List.append_assoc,List.getElem?_append_left (by rw[List.length_take];omega),List.getElem?_take,if_pos (by omega),List.getElem?_append_left (by rw[List.length_take,List.length_drop];omega),List.getElem?_take,if_pos hj2,List.getElem?_drop]
      ·rw[List.append_assoc,List.getElem?_append_right (by rw[List.length_take];omega),List.length_take,List.getElem?_append_left (by rw[hn];omega),List.getElem?_append_right (by rw[List.length_take,List.length_drop];omega),List.length_take,List.length_drop]
       congr 1
       omega
     ·rw[if_neg hj,List.getElem?_eq_none]
      rw[List.length_append,hn,List.length_take,List.length_drop];omega
 ·rw[hsz,Nat.mul_one]
  rcases h with ⟨g1,g2,rfl,g3⟩|⟨b,o,arr,T',hp,ho,hs,hle,rfl⟩
  ·rw[g1]
   unfold ReadC
   split
   ·exact⟨rfl,fun i v hv=>by simp at hv⟩
   ·exact⟨rfl,rfl⟩
   ·rfl
  ·rw[hp]
   refine⟨by rw[List.length_take,List.length_drop,Array.length_toList];omega,cellsAt_of ho fun i v hv=>?_⟩
   rw[List.getElem?_take] at hv
   split at hv
   ·rw[List.getElem?_drop,Array.getElem?_toList] at hv;exact hv
   ·cases hv
 ·have e:IsAlloc w (.cells (cs++new++zc te.zero.cells (k-(s.n+cnt))).toArray T (0,0)) b w':=⟨ha.here,ha.size,ha.new,ha.old,⟨ha.rest.os,ha.rest.tape,ha.rest.output⟩⟩
  refine hK _ _ (.inr ⟨b,0,_,T,rfl,e.new,?_,hk,?_⟩) (e.ch _) (fun i hi=>.inr (Nat.le_of_eq (e.here.symm.trans (by simpa [blk] using hi:i=b).symm)))
  ·simp only[List.size_toArray,List.length_append,zc_len,hn,hz]
   omega
  ·dsimp only
   rw[List.drop_zero,List.take_append_of_le_length (by rw[List.length_append];omega),List.take_of_length_le (by rw[List.length_append];omega)]
section
variable {β:Type} {enc:β->Value}
theorem Mp.del{w:World}{r:Nat}{f:List (Int×β)}(h:Mp enc w r f){k:Int}{K:World->Prop}
  (hK:∀f' w',(∀k',getM f' k'=if k=k' then none else getM f k')->(∀e∈f',e∈f)->f'.length<=f.length->Mp enc w' r f'->Ch (fun i=>i=r) w w'->K w'):
  MapDelP (.int .i64) w (some r) (.int .i64 k) K:=by
 obtain⟨es,ck,hr,h1,h2,h3,h4⟩:=h
 obtain⟨q,hq,h⟩:=find_is (k:=k) 0 h1
 refine⟨es,ck,hr,q,hq,?_⟩
 rcases h with ⟨rfl,h5⟩|⟨f1,v0,f2,rfl,rfl,h6⟩
 ·intro w' hu
  refine hK f w' (fun k'=>?_) (fun _ h=>h) (Nat.le_refl _) ⟨_,_,hu.new,h1,h2,h3,h4⟩ hu.ch
  by_cases hk:k=k'
  ·subst hk;rw[if_pos rfl,getM_none h5]
  ·rw[if_neg hk]
 ·intro w' hu
  rw[Nat.zero_add] at hu
  have hlen:=congrArg List.length h1
  simp only[List.length_map,List.length_append,List.length_cons,Array.length_toList] at hlen
  have hi:f1.length<es.size:=by omega
  have hm:(es.eraseIdxIfInBounds f1.length).toList=es.toList.eraseIdx f1.length:=by
   unfold Array.eraseIdxIfInBounds
   rw[dif_pos hi,Array.toList_eraseIdx]
  have hme:∀ {γ:Type}(F:MapEntry->γ),(es.toList.eraseIdx f1.length).map F=(es.toList.map F).eraseIdx f1.length:=fun F=>by
   rw[List.eraseIdx_eq_take_drop_succ,List.eraseIdx_eq_take_drop_succ,List.map_append,List.map_take,List.map_drop]
  have h6':∀p∈f2,p.1≠k:=fun p hp e=>by
   rw[List.map_append,List.map_cons,List.nodup_append] at h2
   have:=(List.nodup_cons.1 h2.2.1).1
   exact this (List.mem_map.2 ⟨p,hp,e⟩)
  refine hK (f1++f2) w' (fun k'=>?_) (fun e he=>?_) (by simp) ⟨_,_,hu.new,?_,?_,?_,?_⟩ hu.ch
  ·rw[getM_append,getM_append,getM_cons]
   by_cases hk:k=k'
   ·subst hk;rw[getM_none h6,if_pos rfl,getM_none h6']
   ·rw[if_neg hk,if_neg hk]
  ·rcases List.mem_append.1 he with h|h
   ·exact List.mem_append_left _ h
   ·exact List.mem_append_right _ (List.mem_cons_of_mem _ h)
  ·rw[hm,hme,h1,List.map_append,List.map_cons,List.map_append,List.eraseIdx_append_of_length_le (by simp)]
   simp
  ·rw[List.map_append]
   rw[List.map_append,List.map_cons] at h2
   exact h2.sublist (List.Sublist.append_left (List.sublist_cons_self _ _) _)
  ·intro e he
   rw[hm] at he
   exact h3 e ((List.eraseIdx_sublist _ _).mem he)
  ·rw[hm,hme]
   exact h4.sublist (List.eraseIdx_sublist _ _)
def MpO(enc:β->Value)(w:World)(p:Option Nat)(f:List (Int×β)):Prop:=match p with
 | none=>f=[]
 | some r=>Mp enc w r f
theorem MpO.ch{F:Nat->Prop}{w w':World}{p:Option Nat}{f:List (Int×β)}(h:MpO enc w p f)(hc:Ch F w w')(hF:∀r,p=some r->¬F r):MpO enc w' p f:=by
 cases p with
 | none=>exact h
 | some r=>exact Mp.ch h hc (hF r rfl)
theorem MpO.get{w:World}{p:Option Nat}{f:List (Int×β)}(h:MpO enc w p f){k:Int}{z:Value}{K:Value->Bool->Prop}(hK:match getM f k with|some v=>K (enc v) true|none=>K z false):
  MapGetP (.int .i64) w (.map p) (.int .i64 k) z K:=by
 cases p with
 | none=>
  have:f=[]:=h
  subst this
  exact⟨[],rfl,none,rfl,hK⟩
 | some r=>exact Mp.get h hK
theorem MpO.del{w:World}{p:Option Nat}{f:List (Int×β)}(h:MpO enc w p f){k:Int}{K:World->Prop}
  (hK:∀f' w',(∀k',getM f' k'=if k=k' then none else getM f k')->(∀e∈f',e∈f)->f'.length<=f.length->MpO enc w' p f'->Ch (fun i=>p=some i) w w'->K w'):
  MapDelP (.int .i64) w p (.int .i64 k) K:=by
 cases p with
 | none=>
  have:f=[]:=h
  subst this
  exact hK [] w (fun k'=>by split<;>rfl) (fun _ h=>h) (Nat.le_refl _) rfl (Ch.refl _ _)
 | some r=>exact Mp.del h fun f' w' h1 h2 h3 h4 h5=>hK f' w' h1 h2 h3 h4 (h5.mono fun i _ e=>by rw[e])
theorem MpO.keys{w:World}{p:Option Nat}{f:List (Int×β)}(h:MpO enc w p f):∃mo:MO,mo.map (·.1)=p/\KeysE mo (f.map (·.1))/\(∀r es ck,mo=some (r,es,ck)->w.heap[r]? =some (.map es ck)):=by
 cases p with
 | none=>
  have:f=[]:=h
  subst this
  exact⟨none,rfl,rfl,fun _ _ _ h=>by cases h⟩
 | some r=>
  obtain⟨es,ck,h1,h2,h3,h4,h5⟩:=h
  refine⟨some (r,es,ck),rfl,⟨?_,h3,h4,h5⟩,fun r' es' ck' e=>by cases e;exact h1⟩
  have:=congrArg (List.map Prod.fst) h2
  rw[List.map_map,List.map_map] at this
  rw[List.map_map];exact this
theorem MpO.lt{w:World}{p:Option Nat}{f:List (Int×β)}(h:MpO enc w p f):∀r,p=some r->r<w.heap.size:=fun r e=>by
 subst e;exact Mp.lt h
theorem MpO.nodup{w:World}{p:Option Nat}{f:List (Int×β)}(h:MpO enc w p f):(f.map (·.1)).Nodup:=by
 cases p with
 | none=>
  have:f=[]:=h
  subst this;exact .nil
 | some r=>
  obtain⟨es,ck,h1,h2,h3,h4⟩:=h
  exact h3
theorem getM_of{f:List (Int×β)}(hn:(f.map (·.1)).Nodup){k:Int}{v:β}(h:(k,v)∈f):getM f k=some v:=by
 induction f with
 | nil=>cases h
 | cons p f ih=>
  rw[getM_cons]
  rw[List.map_cons,List.nodup_cons] at hn
  rcases List.mem_cons.1 h with rfl|h
  ·rw[if_pos rfl]
  ·rw[if_neg,ih hn.2 h]
   intro e
   exact hn.1 (by rw[e];exact List.mem_map_of_mem h)
end
def encB(b:Bool):Value:=.bool b
def F145j1(t1:Int)(t2:Int)(t3:Int)(R:RV)(b1:Nat)(y3:Nat->Int×Int->World->Prop)(b5:Nat)(x6:Int×Int)(w7:World):Prop:=IfB (decide (x6.snd<t3)) (∃(x10:Sl×List Value),CellsN w7 b1 0 17 (Qy x10.fst::x10.2)/\Qv' 194 #[Value.agg { toList:=Qy x10.fst::x10.2 },Qz t1,Qz t2,Qz x6.2] w7 fun t15 w14=>IfB t15 (Qn y3 b5 (IntKind.i64.wrap (x6.1+1),IntKind.i64.wrap (x6.2+1)) w14) (Qn y3 b5 (x6.1,IntKind.i64.wrap (x6.2+1)) w14)) (R (Qz x6.1) w7)
theorem F145_ok(t0:Sl×List Value)(t1:Int)(t2:Int)(t3:Int)(w:World)(R:RV)(h:AllocP w (Obj.cells { toList:=Qy t0.fst::t0.2 } 26) fun b1 w2=>Ql (α:=Int×Int) (0,0) w2 fun y3 b5 x6 w7=>(F145j1 t1 t2 t3 R b1 y3 b5 x6 w7)):Cw 145 #[Value.agg { toList:=Qy t0.fst::t0.2 },Qz t1,Qz t2,Qz t3] w R:=
 ckF Tryz.func145 (nd (nd (.node (nd (.loop [(9,oi),(10,oi)] (rg [9,22]) .nil)) .nil))) h (by kernel_rfl) (by kernel_rfl)
theorem F91_ok(t0:Sl×List Value)(t1:Int)(w:World)(R:RV)(h:AllocP w (Obj.cells { toList:=Qy t0.fst::t0.2 } 26) fun b1 w2=>IfB (decide (0<=t1)) (Qs w2 b1 (0+0) fun s3=>R (Value.bool (decide (t1<(s3.n:Int)))) w2) (R (Value.bool false) w2)):Cw 91 #[Value.agg { toList:=Qy t0.fst::t0.2 },Qz t1] w R:=
 ckF Tryz.func91 .nil h (by kernel_rfl) (by kernel_rfl)
def F143j1(t1:Int)(t2:Int)(t3:Int)(R:RV)(b1:Nat)(y19:Nat->Int×Int×Int->World->Prop)(b21:Nat)(x22:Int×Int×Int)(w23:World):Prop:=Qs w23 b1 (0+0) fun s26=>Qx s26.1 t1 (s26.2:Int) fun b27 b28=>Qs w23 b27 (b28+t1.toNat*5+2) fun s29=>IfB (decide (x22.snd.snd<(s29.n:Int))) (∃(x30:Sl×List Value),CellsN w23.drew b1 0 17 (Qy x30.fst::x30.2)/\∃(x33:Sl×List Value),CellsN w23.drew b1 0 17 (Qy x33.fst::x33.2)/\Qw' 145 #[Value.agg { toList:=Qy x30.fst::x30.2 },Qz t1,Qz t2,Qz x22.snd.2] w23.drew fun n38 w37=>CellsN w37 b1 0 17 (Qy x33.fst::x33.2)/\Qw' 145 #[Value.agg { toList:=Qy x33.fst::x33.2 },Qz t1,Qz t2,Qz t3] w37 fun n43 w42=>IfB (n38 == n43) (IfB (decide (x22.fst<0)) (Qn y19 b21 (x22.snd.2,x22.snd.2,IntKind.i64.wrap (x22.snd.2+1)) w42) (Qn y19 b21 (x22.1,x22.snd.2,IntKind.i64.wrap (x22.snd.2+1)) w42)) (Qn y19 b21 (x22.1,x22.snd.1,IntKind.i64.wrap (x22.snd.2+1)) w42)) (R (Value.tuple #[Qz x22.1,Qz x22.snd.1,Value.bool true]) w23)
theorem F143_ok(t0:Sl×List Value)(t1:Int)(t2:Int)(t3:Int)(w:World)(R:RV)(h:AllocP w (Obj.cells { toList:=Qy t0.fst::t0.2 } 26) fun b1 w2=>∃(x3:Sl×List Value),CellsN w2 b1 0 17 (Qy x3.fst::x3.2)/\Qv' 91 #[Value.agg { toList:=Qy x3.fst::x3.2 },Qz t1] w2 fun t8 w7=>IfB (!t8) (R (Value.tuple #[Qz 0,Qz 0,Value.bool false]) w7) (∃(x9:Sl×List Value),CellsN w7 b1 0 17 (Qy x9.fst::x9.2)/\Qv' 91 #[Value.agg { toList:=Qy x9.fst::x9.2 },Qz t2] w7 fun t14 w13=>IfB (!t14) (R (Value.tuple #[Qz 0,Qz 0,Value.bool false]) w13) (IfB (decide (t3<0)) (R (Value.tuple #[Qz 0,Qz 0,Value.bool false]) w13) (Qs w13 b1 (0+0) fun s15=>Qx s15.1 t1 (s15.2:Int) fun b16 b17=>Qs w13 b16 (b17+t1.toNat*5+2) fun s18=>IfB (decide ((s18.n:Int)<=t3)) (R (Value.tuple #[Qz 0,Qz 0,Value.bool false]) w13) (Ql (α:=Int×Int×Int) ((-1:Int),(-1:Int),0) w13 fun y19 b21 x22 w23=>(F143j1 t1 t2 t3 R b1 y19 b21 x22 w23)))))):Cw 143 #[Value.agg { toList:=Qy t0.fst::t0.2 },Qz t1,Qz t2,Qz t3] w R:=
 ckF Tryz.func143 (nd (nd (nd (.node (nd (.loop [(11,oi),(12,oi),(13,oi)] (rg [11,13,39,64]) (nd (.node (.node (.draw (sts [0,1,2,3,5,6,7,8] (.ac 4 [8,7,6,5] (.ac 9 [] (.st 10 .fin) .non) .non))) .nil) .nil)))) .nil)))) h (by kernel_rfl) (by kernel_rfl)
def uN(x:CatD)(c d:Int)(k:Nat):Nat:=if 0<=c/\0<=d then unitN x c.toNat d.toNat k else 0
theorem uN_succ(x:CatD)(c d:Int)(k:Nat):uN x c d (k+1)=uN x c d k+if (decide (0<=c/\0<=d/\0<=(k:Int))&&brkB x c.toNat d.toNat (k:Int).toNat)=true then 1 else 0:=by
 unfold uN
 by_cases h:0<=c/\0<=d
 ·rw[if_pos h,if_pos h,unitN,decide_eq_true (show 0<=c/\0<=d/\0<=(k:Int) by omega),Bool.true_and,Int.toNat_natCast]
 ·rw[if_neg h,if_neg h,decide_eq_false (by omega)];simp
theorem uN_le(x:CatD)(c d:Int)(k:Nat):uN x c d k<=k:=by
 induction k with
 | zero=>unfold uN;split<;>simp[unitN]
 | succ k ih=>rw[uN_succ];split<;>omega
theorem c145{w:World}{v:CatV}{x:CatD}(h:CatM w v x)(hk:CatOk x)(c d i:Int)(hi:i<=1000000):
  Cw 145 #[cxV v,iv c,iv d,iv i] w fun r w'=>r=iv (uN x c d i.toNat)/\Ext w w':=by
 refine F145_ok v c d i w _ fun b1 w2 a2=>?_
 have e2:Ext w w2:=a2.ch _
 refine⟨fun m z W=>∃k:Nat,k<=i.toNat/\m+k=i.toNat/\z=((uN x c d k:Int),(k:Int))/\Ext w2 W,⟨i.toNat,0,Nat.zero_le _,rfl,by unfold uN;split<;>rfl,Ch.refl _ _⟩,?_⟩
 rintro m _ W g ⟨k,hk',hm,rfl,e⟩
 unfold F145j1
 have hu:=uN_le x c d k
 refine IfB.dec (fun hl=>?_) fun hg=>?_
 ·dsimp only at hl
  refine⟨v,cxN h a2.new e,(c194 (h.ext (e2.trans e)) hk c d (k:Int) (by omega)).use ?_⟩
  rintro _ w14 ⟨rfl,e14⟩
  have hs:=uN_succ x c d k
  refine⟨_,rfl,IfB.intro (fun h1=>⟨rfl,m-1,by omega,k+1,by omega,by omega,?_,e.trans e14⟩) fun h1=>⟨rfl,m-1,by omega,k+1,by omega,by omega,?_,e.trans e14⟩⟩
  ·rw[if_pos h1] at hs
   dsimp only
   rw[wrap_of (by omega) (by omega),wrap_of (by omega) (by omega),hs];rfl
  ·rw[if_neg (by rw[h1];decide)] at hs
   dsimp only
   rw[wrap_of (by omega) (by omega),hs];rfl
 ·dsimp only at hg
  have:k=i.toNat:=by omega
  subst this
  exact⟨rfl,e2.trans e⟩
theorem c91{w:World}{v:CatV}{x:CatD}(h:CatM w v x)(c:Int):Cw 91 #[cxV v,iv c] w fun r w'=>r=.bool (decide (0<=c/\c<(x.1.length:Int)))/\Ext w w':=by
 have hn:=cat_cl h
 refine F91_ok v c w _ fun b1 w2 a2=>?_
 have e2:Ext w w2:=a2.ch _
 refine IfB.dec (fun h1=>⟨v.1,boxAt (cs:=cxC v) a2.new 0 (Ch.refl _ _),?_,e2⟩) fun h1=>⟨by rw[decide_eq_false (by omega)],e2⟩
 congr 1;rw[Bool.eq_iff_iff,decide_eq_true_eq,decide_eq_true_eq,hn];omega
theorem c143{w:World}{v:CatV}{x:CatD}(h:CatM w v x)(hk:CatOk x)(c d i:Int):
  Cw 143 #[cxV v,iv c,iv d,iv i] w fun r w'=>∃lo hi b,r=.tuple #[iv lo,iv hi,.bool b]/\(b=true↔BndOk x c d i)/\(b=true->∃l u:Nat,lo=l/\hi=u/\BndP x c.toNat d.toNat i.toNat l u)/\(b=false->lo=0/\hi=0)/\Ext w w':=by
 have hn:=cat_cl h
 have h4:=hk.n4
 refine F143_ok v c d i w _ fun b1 w2 a2=>?_
 have e2:Ext w w2:=a2.ch _
 have no:∀ {V:World},¬BndOk x c d i->Ext w2 V->∃lo hi b,Value.tuple #[.int .i64 0,.int .i64 0,.bool false]=.tuple #[iv lo,iv hi,.bool b]/\(b=true↔BndOk x c d i)/\(b=true->∃l u:Nat,lo=l/\hi=u/\BndP x c.toNat d.toNat i.toNat l u)/\(b=false->lo=0/\hi=0)/\Ext w V:=fun h e=>⟨0,0,false,rfl,⟨fun h=>(by cases h),fun h'=>absurd h' h⟩,fun h=>(by cases h),fun _=>⟨rfl,rfl⟩,e2.trans e⟩
 refine⟨v,cxN h a2.new (Ch.refl _ _),(c91 (h.ext e2) c).use ?_⟩
 rintro _ w7 ⟨rfl,e7⟩
 refine⟨_,rfl,IfB.intro (fun h1=>no (fun k=>?_) e7) fun h1=>⟨v,cxN h a2.new e7,(c91 (h.ext (e2.trans e7)) d).use ?_⟩⟩
 ·rw[decide_eq_true k.1] at h1;cases h1
 have hc:0<=c/\c<(x.1.length:Int):=by simpa using h1
 rintro _ w13 ⟨rfl,e13⟩
 have x13:Ext w2 w13:=e7.trans e13
 refine⟨_,rfl,IfB.intro (fun h2=>no (fun k=>?_) x13) fun h2=>IfB.dec (fun h3=>no (fun k=>by have:=k.2.2;omega) x13) fun h3=>?_⟩
 ·rw[decide_eq_true k.2.1] at h2;cases h2
 have hd:0<=d/\d<(x.1.length:Int):=by simpa using h2
 obtain⟨C,rfl⟩:=Int.eq_ofNat_of_zero_le hc.1
 obtain⟨D,rfl⟩:=Int.eq_ofNat_of_zero_le hd.1
 obtain⟨I,rfl⟩:=Int.eq_ofNat_of_zero_le (show 0<=i by omega)
 have hC:C<x.1.length:=by omega
 have hx:x.1[C]? =some x.1[C]:=List.getElem?_eq_getElem hC
 have hxm:x.1[C]∈x.1:=List.getElem_mem hC
 generalize x.1[C]=y at hx hxm
 have hns:=nSt_of hx
 have hy4:=(hk.cls y hxm).l4
 have q0:∀ {W:World},Ext w2 W->W.cell? ⟨b1,0+0,none⟩=some (slV v.1):=fun e=>boxAt (cs:=cxC v) a2.new 0 e
 have st:=fun{W:World} (e:Ext w2 W)=>steps_at h hx (e2.trans e)
 have hu:∀k,uN x (C:Int) (D:Int) k=unitN x C D k:=fun k=>by unfold uN;rw[if_pos ⟨by omega,by omega⟩,Int.toNat_natCast,Int.toNat_natCast]
 obtain⟨p1,o1,s1,hp1,hc1,hs1,_⟩:=st x13
 refine⟨v.1,q0 x13,p1,o1,hp1,⟨by omega,by omega⟩,s1,by rw[Int.toNat_natCast];exact hc1,IfB.dec (fun h5=>no (fun k=>?_) x13) fun h5=>?_⟩
 ·have:=k.2.2.2;rw[Int.toNat_natCast] at this;omega
 have hI:I<nSt x C:=by omega
 have hbo:BndOk x (C:Int) (D:Int) (I:Int):=⟨hc,hd,by omega,by rw[Int.toNat_natCast];omega⟩
 let U:=unitN x C D
 let Inv:Int->Int->Nat->Prop:=fun lo hi k=>(lo= -1/\hi= -1/\∀j,j<k->U j≠U I)\/∃l u:Nat,lo=l/\hi=u/\l<=u/\u<k/\U l=U I/\U u=U I/\(∀j,j<l->U j≠U I)/\∀j,u<j->j<k->U j≠U I
 refine⟨fun m z V=>∃(k:Nat)(lo hi:Int),k<=nSt x C/\m+k=nSt x C/\z=(lo,hi,(k:Int))/\Inv lo hi k/\Ext w2 V,⟨nSt x C,0, -1, -1,Nat.zero_le _,rfl,rfl,.inl ⟨rfl,rfl,fun j hj=>absurd hj (Nat.not_lt_zero _)⟩,x13⟩,?_⟩
 rintro m _ V g ⟨k,lo,hi,hkn,hm,rfl,hInv,xV⟩
 unfold F143j1
 obtain⟨p2,o2,s2,hp2,hc2,hs2,_⟩:=st xV
 refine⟨v.1,q0 xV,p2,o2,hp2,⟨by omega,by omega⟩,s2,by rw[Int.toNat_natCast];exact hc2,IfB.dec (fun h6=>?_) fun h6=>?_⟩
 ·dsimp only at h6
  have xD:Ext w2 V.drew:=xV.trans (extDrew V)
  refine⟨v,cxN h a2.new xD,v,cxN h a2.new xD,(c145 (h.ext (e2.trans xD)) hk (C:Int) (D:Int) (k:Int) (by omega)).use ?_⟩
  rintro _ w37 ⟨rfl,e37⟩
  have x37:=xD.trans e37
  refine⟨_,rfl,cxN h a2.new x37,(c145 (h.ext (e2.trans x37)) hk (C:Int) (D:Int) (I:Int) (by omega)).use ?_⟩
  rintro _ w42 ⟨rfl,e42⟩
  have x42:=x37.trans e42
  refine⟨_,rfl,?_⟩
  rw[hu,hu,Int.toNat_natCast,Int.toNat_natCast]
  have hw:IntKind.i64.wrap ((k:Int)+1)=((k+1:Nat):Int):=by rw[wrap_of (by omega) (by omega)];rfl
  refine IfB.intro (fun h7=>?_) fun h7=>⟨rfl,m-1,by omega,k+1,lo,hi,by omega,by omega,by dsimp only;rw[hw],?_,x42⟩
  ·have h7:U k=U I:=by
    have:((unitN x C D k:Nat):Int)=((unitN x C D I:Nat):Int):=by simpa using h7
    exact Int.ofNat.inj this
   refine IfB.dec (fun h8=>⟨rfl,m-1,by omega,k+1,(k:Int),(k:Int),by omega,by omega,by dsimp only;rw[hw],?_,x42⟩) fun h8=>⟨rfl,m-1,by omega,k+1,lo,(k:Int),by omega,by omega,by dsimp only;rw[hw],?_,x42⟩
   ·dsimp only at h8
    rcases hInv with ⟨_,_,hall⟩|⟨l,u,rfl,_⟩
    ·exact .inr ⟨k,k,rfl,rfl,Nat.le_refl _,by omega,h7,h7,hall,fun j hj hj'=>by omega⟩
    ·omega
   ·dsimp only at h8
    rcases hInv with ⟨rfl,_,hall⟩|⟨l,u,rfl,rfl,hlu,huk,hl,huu,ha,hb⟩
    ·omega
    ·exact .inr ⟨l,k,rfl,rfl,by omega,by omega,hl,h7,ha,fun j hj hj'=>by omega⟩
  ·have h7:U k≠U I:=fun e=>by
    have h7:¬((unitN x C D k:Nat):Int)=((unitN x C D I:Nat):Int):=by simpa using h7
    exact h7 (congrArg Int.ofNat e)
   rcases hInv with ⟨h8,h9,hall⟩|⟨l,u,h8,h9,hlu,huk,hl,huu,ha,hb⟩
   ·refine .inl ⟨h8,h9,fun j hj=>?_⟩
    rcases Nat.lt_or_ge j k with h'|h'
    ·exact hall j h'
    ·rw[show j=k by omega];exact h7
   ·refine .inr ⟨l,u,h8,h9,hlu,by omega,hl,huu,ha,fun j hj hj'=>?_⟩
    rcases Nat.lt_or_ge j k with h'|h'
    ·exact hb j hj h'
    ·rw[show j=k by omega];exact h7
 ·dsimp only at h6
  have hkk:k=nSt x C:=by omega
  subst hkk
  refine⟨lo,hi,true,rfl,⟨fun _=>hbo,fun _=>rfl⟩,fun _=>?_,fun h=>(by cases h),e2.trans xV⟩
  rcases hInv with ⟨_,_,hall⟩|⟨l,u,h8,h9,hlu,huk,hl,huu,ha,hb⟩
  ·exact absurd rfl (hall I hI)
  ·refine⟨l,u,h8,h9,?_⟩
   simp only[Int.toNat_natCast]
   have h10:l<=I:=Nat.le_of_not_lt fun h=>ha I h rfl
   have h11:I<=u:=Nat.le_of_not_lt fun h=>hb I h hI rfl
   refine⟨h10,h11,huk,(unitN_same hlu).1 (hl.trans huu.symm),?_,?_⟩
   ·rcases Nat.eq_zero_or_pos l with h'|h'
    ·exact .inl h'
    ·have h12:=ha (l-1) (by omega)
     have h13:U l=U (l-1)+if brkB x C D (l-1) then 1 else 0:=by
      show unitN x C D l=_
      rw[show l=(l-1)+1 by omega,unitN];rfl
     cases hbk:brkB x C D (l-1)
     ·rw[hbk] at h13;exact absurd (h13.symm.trans hl) (by simpa using h12)
     ·exact .inr rfl
   ·rcases Nat.lt_or_ge (u+1) (nSt x C) with h'|h'
    ·have h12:=hb (u+1) (by omega) h'
     have h13:U (u+1)=U u+if brkB x C D u then 1 else 0:=rfl
     cases hbk:brkB x C D u
     ·rw[hbk] at h13;exact absurd (h13.trans huu) h12
     ·exact .inr rfl
    ·exact .inl (by omega)
def GxOVby0:ByteArray:=(ByteArray.mk (Array.mk ([] )))
set_option linter.unusedVariables false
set_option maxRecDepth 100000
def F22k1(w34:World)(b1:Nat)(b32:Nat)(t1:Sl)(t2:Int)(x25:Sl×Int)(b24:Nat)(y22:Nat->Sl×Int->World->Prop):Prop:=∃(x35:Sl×List Value),CellsN w34.drew b1 0 17 (Qy x35.fst::x35.2)/\∃(x38:Int×Sl×Int×Int×Int×Int×Int×Int×Int),CellsAt w34.drew b32 0 (lC37 x38)/\Qx t1.1 t2 (t1.2:Int) fun b39 b40=>∃(x41:Int×Sl×Int×Int×Int×Int×Int×Int×Int),CellsAt w34.drew b39 (b40+t2.toNat*9) (lC37 x41)/\Qv' 72 #[Value.agg { toList:=Qy x35.fst::x35.2 },Value.agg (lC37 x38).toArray,Value.agg (lC37 x41).toArray] w34.drew fun t44 w43=>IfB t44 (1*1<=16777216/\AllocP w43 (Obj.cells #[Qz x25.2] 3) fun b45 w46=>∃(l47:List Value),ReadC w46 (some ⟨b45,0,none⟩) (1*1) l47/\AppendP tt3 3 w46 x25.fst.1 x25.fst.2 x25.fst.3 1 l47 fun s48 w49=>Qn y22 b24 ({ p:=s48.1,n:=s48.2,c:=s48.3 },IntKind.i64.wrap (x25.2+1)) w49) (Qn y22 b24 ({ p:=x25.fst.1,n:=x25.fst.2,c:=x25.fst.3 },IntKind.i64.wrap (x25.2+1)) w43)
def F22j1(t1:Sl)(t2:Int)(R:RV)(b1:Nat)(y22:Nat->Sl×Int->World->Prop)(b24:Nat)(x25:Sl×Int)(w26:World):Prop:=IfB (decide (x25.snd<(t1.n:Int))) (Qx t1.1 x25.2 (t1.2:Int) fun b29 b30=>∃(x31:Int×Sl×Int×Int×Int×Int×Int×Int×Int),CellsAt w26 b29 (b30+x25.2.toNat*9) (lC37 x31)/\AllocP w26 (Obj.cells #[Qz 0,Value.slice none 0 0,Qz 0,Qz 0,Qz 0,Qz 0,Qz 0,Qz 0,Qz 0] 37) fun b32 w33=>(lC37 x31).toArray.size=9/\StoreP w33 b32 0 (lC37 x31) fun w34=>IfB (x25.2 != t2) (F22k1 w34 b1 b32 t1 t2 x25 b24 y22) (Qn y22 b24 ({ p:=x25.fst.1,n:=x25.fst.2,c:=x25.fst.3 },IntKind.i64.wrap (x25.2+1)) w34.drew)) (R (Qy x25.fst) w26)
theorem F22_ok(t0:Sl×List Value)(t1:Sl)(t2:Int)(w:World)(R:RV)(h:AllocP w (Obj.cells { toList:=Qy t0.fst::t0.2 } 26) fun b1 w2=>∃(x3:Sl×List Value),CellsN w2.drew b1 0 17 (Qy x3.fst::x3.2)/\Qv' 23 #[Value.agg { toList:=Qy x3.fst::x3.2 },Qy t1] w2.drew fun t8 w7=>IfB (!t8) (R (Value.slice none 0 0) w7) (IfB (decide (t2<0)) (R (Value.slice none 0 0) w7) (IfB (decide ((t1.n:Int)<=t2)) (R (Value.slice none 0 0) w7) (Qx t1.1 t2 (t1.2:Int) fun b9 b10=>Qi w7 b9 (b10+t2.toNat*9+3) fun n11=>IfB (n11 != 0) (R (Value.slice none 0 0) w7) (Qx t1.1 t2 (t1.2:Int) fun b12 b13=>Qi w7 b12 (b13+t2.toNat*9+2) fun n14=>Qs w7 b1 (0+0) fun s15=>Qx t1.1 t2 (t1.2:Int) fun b16 b17=>Qi w7 b16 (b17+t2.toNat*9+0) fun n18=>Qx s15.1 n18 (s15.2:Int) fun b19 b20=>Qs w7 b19 (b20+n18.toNat*5+2) fun s21=>IfB (n14 == (s21.2:Int)) (R (Value.slice none 0 0) w7) (Ql (α:=Sl×Int) ({ p:=none,n:=0,c:=0 },0) w7 fun y22 b24 x25 w26=>(F22j1 t1 t2 R b1 y22 b24 x25 w26))))))):Cw 22 #[Value.agg { toList:=Qy t0.fst::t0.2 },Qy t1,Qz t2] w R:=
 ckF Tryz.func22 (nd (.node (.node (.draw (sts [0,1] (.ac 2 [] (sts [3,4,5,6,7,8,9,10,11,12,13,14,15,16,17,18,19,20,21,22,23,24,25,26,27,28,29,30,31,32,33,34,35,36,37,38,39,40] .fin) .non))) .nil) (nd (.node (nd (.loop [(7,.one (.sl)),(53,oi)] (rg [7,9,53,74]) (nd (nd (.node (nd (.node (.draw (sts [0,1,2,3,4,5,6,7,8,9] (.ac 10 [] (.st 11 .fin) .non))) .nil)) .nil))))) .nil)))) h (by kernel_rfl) (by kernel_rfl)
theorem F23_ok(t0:Sl×List Value)(t1:Sl)(w:World)(R:RV)(h:AllocP w (Obj.cells { toList:=Qy t0.fst::t0.2 } 26) fun b1 w2=>∃(x3:Sl×List Value),CellsN w2 b1 0 17 (Qy x3.fst::x3.2)/\Qv' 75 #[Value.agg { toList:=Qy x3.fst::x3.2 }] w2 fun t8 w7=>IfB t8 (IfB (decide ((t1.n:Int)<=12)) (Qv' 76 #[Qy t1,Value.func (Fn.func 73) #[] #[Value.pointer (some ⟨b1,0,none⟩)]] w7 fun t11 w10=>R (Value.bool !t11) w10) (R (Value.bool false) w7)) (R (Value.bool false) w7)):Cw 23 #[Value.agg { toList:=Qy t0.fst::t0.2 },Qy t1] w R:=
 ckF Tryz.func23 .nil h (by kernel_rfl) (by kernel_rfl)
theorem F73_ok(t0:Int×Sl×Int×Int×Int×Int×Int×Int×Int)(t1:Nat)(w:World)(R:RV)(h:AllocP w (Obj.cells (lC37 t0).toArray 37) fun b1 w2=>∃(x3:Sl×List Value),CellsN w2 t1 0 17 (Qy x3.fst::x3.2)/\∃(x6:Int×Sl×Int×Int×Int×Int×Int×Int×Int),CellsAt w2 b1 0 (lC37 x6)/\Qv' 74 #[Value.agg { toList:=Qy x3.fst::x3.2 },Value.agg (lC37 x6).toArray] w2 fun t9 w8=>R (Value.bool !t9) w8):Cw 73 #[(.agg (lC37 t0).toArray),Value.pointer (some ⟨t1,0,none⟩)] w R:=
 ckF Tryz.func73 .nil h (by kernel_rfl) (by kernel_rfl)
def F74k1(w4:World)(b3:Nat)(b1:Nat)(R:RV):Prop:=Qi w4 b3 (0+0) fun n6=>Qs w4 b1 (0+0) fun s7=>IfB (decide ((s7.n:Int)<=n6)) (R (Value.bool false) w4) (Qs w4 b1 (0+0) fun s8=>Qi w4 b3 (0+0) fun n9=>Qx s8.1 n9 (s8.2:Int) fun b10 b11=>∃(x12:ByteArray×Int×Sl×Sl×Bool),CellsAt w4 b10 (b11+n9.toNat*5) (lC49 x12)/\AllocP w4 (Obj.cells #[Value.string GxOVby0,Qz 0,Value.slice none 0 0,Value.slice none 0 0,Value.bool false] 49) fun b13 w14=>(lC49 x12).toArray.size=5/\StoreP w14 b13 0 (lC49 x12) fun w15=>Qs w15 b3 (0+1) fun s16=>Qi w15 b13 (0+1) fun n17=>IfB ((s16.2:Int) == n17) (Qs w15 b3 (0+1) fun s18=>Qv' 109 #[Qy s18,Value.func (Fn.func 139) #[] #[]] w15 fun t21 w20=>IfB (!t21) (Qi w20 b3 (0+2) fun n22=>IfB (decide (0<=n22)) (Qi w20 b3 (0+2) fun n23=>Qs w20 b13 (0+2) fun s24=>IfB (decide (n23<=(s24.n:Int))) (Qi w20 b3 (0+3) fun n25=>IfB (decide (0<=n25)) (Qi w20 b3 (0+3) fun n26=>R (Value.bool (decide (n26<=3))) w20) (R (Value.bool false) w20)) (R (Value.bool false) w20)) (R (Value.bool false) w20)) (R (Value.bool false) w20)) (R (Value.bool false) w15))
theorem F74_ok(t0:Sl×List Value)(t1:Int×Sl×Int×Int×Int×Int×Int×Int×Int)(w:World)(R:RV)(h:AllocP w (Obj.cells { toList:=Qy t0.fst::t0.2 } 26) fun b1 w2=>AllocP w2 (Obj.cells (lC37 t1).toArray 37) fun b3 w4=>Qi w4 b3 (0+0) fun n5=>IfB (decide (n5<0)) (R (Value.bool false) w4) (F74k1 w4 b3 b1 R)):Cw 74 #[Value.agg { toList:=Qy t0.fst::t0.2 },(.agg (lC37 t1).toArray)] w R:=
 ckF Tryz.func74 .nil h (by kernel_rfl) (by kernel_rfl)
theorem F139_ok(t0:Int)(w:World)(R:RV)(h:IfB (decide (t0<0)) (R (Value.bool true) w) (R (Value.bool (decide (99<t0))) w)):Cw 139 #[Qz t0] w R:=
 ckF Tryz.func139 .nil h (by kernel_rfl) (by kernel_rfl)
def F72k1(w15:World)(b1:Nat)(b3:Nat)(b5:Nat)(R:RV):Prop:=∃(x17:Sl×List Value),CellsN w15 b1 0 17 (Qy x17.fst::x17.2)/\Qi w15 b3 (0+0) fun n20=>Qi w15 b5 (0+0) fun n21=>Qi w15 b3 (0+2) fun n22=>Cx 136 #[Value.agg { toList:=Qy x17.fst::x17.2 },Qz n20,Qz n21,Qz (IntKind.i64.wrap (n22-1))] w15 fun v23 w24=>∃(x25:Int×Int×Bool),v23=Value.tuple #[Qz x25.1,Qz x25.snd.1,Value.bool x25.snd.2]/\∃(x26:Sl×List Value),CellsN w24 b1 0 17 (Qy x26.fst::x26.2)/\∃(x29:Int×Sl×Int×Int×Int×Int×Int×Int×Int),CellsAt w24 b3 0 (lC37 x29)/\Cx 137 #[Value.agg { toList:=Qy x26.fst::x26.2 },Value.agg (lC37 x29).toArray,Qz x25.1,Qz x25.snd.1] w24 fun v30 w31=>∃(x32:Sl×Sl),v30=Value.tuple #[Qy x32.fst,Qy x32.snd]/\∃(x33:Sl×List Value),CellsN w31 b1 0 17 (Qy x33.fst::x33.2)/\∃(x36:Int×Sl×Int×Int×Int×Int×Int×Int×Int),CellsAt w31 b5 0 (lC37 x36)/\Qi w31 b5 (0+2) fun n37=>Qi w31 b5 (0+2) fun n38=>Cx 137 #[Value.agg { toList:=Qy x33.fst::x33.2 },Value.agg (lC37 x36).toArray,Qz n37,Qz n38] w31 fun v39 w40=>∃(x41:Sl×Sl),v39=Value.tuple #[Qy x41.fst,Qy x41.snd]/\Qv' 138 #[Qy x32.snd,Qy x41.fst] w40 fun t44 w43=>IfB t44 (R (Value.bool true) w43) (Qv' 138 #[Qy x32.snd,Qy x41.snd] w43 fun t47 w46=>IfB t47 (R (Value.bool true) w46) (Qv' 138 #[Qy x32.fst,Qy x41.snd] w46 fun t50 w49=>R (Value.bool t50) w49))
theorem F72_ok(t0:Sl×List Value)(t1:Int×Sl×Int×Int×Int×Int×Int×Int×Int)(t2:Int×Sl×Int×Int×Int×Int×Int×Int×Int)(w:World)(R:RV)(h:AllocP w (Obj.cells { toList:=Qy t0.fst::t0.2 } 26) fun b1 w2=>AllocP w2 (Obj.cells (lC37 t1).toArray 37) fun b3 w4=>AllocP w4 (Obj.cells (lC37 t2).toArray 37) fun b5 w6=>Qi w6 b3 (0+3) fun n7=>IfB (n7 != 0) (R (Value.bool false) w6) (∃(x8:Sl×List Value),CellsN w6 b1 0 17 (Qy x8.fst::x8.2)/\Qi w6 b3 (0+0) fun n11=>Qi w6 b5 (0+0) fun n12=>Qi w6 b3 (0+2) fun n13=>Qv' 135 #[Value.agg { toList:=Qy x8.fst::x8.2 },Qz n11,Qz n12,Qz n13] w6 fun t16 w15=>IfB (!t16) (R (Value.bool false) w15) (F72k1 w15 b1 b3 b5 R))):Cw 72 #[Value.agg { toList:=Qy t0.fst::t0.2 },(.agg (lC37 t1).toArray),(.agg (lC37 t2).toArray)] w R:=
 ckF Tryz.func72 .nil h (by kernel_rfl) (by kernel_rfl)
def F137j1(t2:Int)(t3:Int)(R:RV)(b3:Nat)(s9:Sl)(y10:Nat->Sl×Sl×Int->World->Prop)(b12:Nat)(x13:Sl×Sl×Int)(w14:World):Prop:=IfB (decide (x13.snd.snd<((((IntKind.i64.wrap (t3+1)).toNat-t2.toNat:Nat):Int):Int))) (Qx (slAddr s9.1 s9.3 t2.toNat 2) x13.snd.2 (((IntKind.i64.wrap (t3+1)).toNat-t2.toNat:Nat):Int) fun b17 b18=>∃(x19:Sl×Sl),CellsAt w14 b17 (b18+Int.toNat x13.snd.2*2) [Qy x19.fst,Qy x19.snd]/\AllocP w14 (Obj.cells #[Value.slice none 0 0,Value.slice none 0 0] 99) fun b20 w21=>#[Qy x19.fst,Qy x19.snd].size=2/\StoreP w21 b20 0 [Qy x19.fst,Qy x19.snd] fun w22=>Qs w22 b20 (0+1) fun s23=>Qs w22 b3 (0+1) fun s24=>Cx 186 #[Qy s23,Qy s24] w22 fun v25 w26=>∃(x27:Sl×Sl×Bool),v25=Value.tuple #[Qy x27.fst,Qy x27.snd.fst,Value.bool x27.snd.2]/\Qu' 187 #[Qy x13.fst,Qy x27.fst] w26 fun s30 w29=>Qu' 187 #[Qy x13.snd.fst,Qy x27.snd.fst] w29 fun s33 w32=>Qn y10 b12 ({ p:=s30.1,n:=s30.2,c:=s30.3 },{ p:=s33.1,n:=s33.2,c:=s33.3 },IntKind.i64.wrap (x13.snd.2+1)) w32) (R (Value.tuple #[Qy x13.fst,Qy x13.snd.fst]) w14)
theorem F137_ok(t0:Sl×List Value)(t1:Int×Sl×Int×Int×Int×Int×Int×Int×Int)(t2:Int)(t3:Int)(w:World)(R:RV)(h:AllocP w (Obj.cells { toList:=Qy t0.fst::t0.2 } 26) fun b1 w2=>AllocP w2 (Obj.cells (lC37 t1).toArray 37) fun b3 w4=>Qs w4 b1 (0+0) fun s5=>Qi w4 b3 (0+0) fun n6=>Qx s5.1 n6 (s5.2:Int) fun b7 b8=>Qs w4 b7 (b8+n6.toNat*5+2) fun s9=>(0<=t2/\t2<=IntKind.i64.wrap (t3+1)/\IntKind.i64.wrap (t3+1)<=(s9.3:Int))/\Ql (α:=Sl×Sl×Int) ({ p:=none,n:=0,c:=0 },{ p:=none,n:=0,c:=0 },0) w4 fun y10 b12 x13 w14=>(F137j1 t2 t3 R b3 s9 y10 b12 x13 w14)):Cw 137 #[Value.agg { toList:=Qy t0.fst::t0.2 },(.agg (lC37 t1).toArray),Qz t2,Qz t3] w R:=
 ckF Tryz.func137 (nd (nd (.node (nd (.loop [(10,.one (.sl)),(11,.one (.sl)),(29,oi)] (rg [10,11,13,16,29,48]) .nil)) .nil))) h (by kernel_rfl) (by kernel_rfl)
theorem F76_ok(t0:Sl)(t1:Nat×Array Value)(w:World)(R:RV)(h:Cx 142 #[Qy t0,Value.func (Fn.func t1.1) #[] t1.2] w fun v1 w2=>∃n3:Int,v1=Qz n3/\R (Value.bool (decide (0<=n3))) w2):Cw 76 #[Qy t0,Value.func (Fn.func t1.1) #[] t1.2] w R:=
 ckF Tryz.func76 .nil h (by kernel_rfl) (by kernel_rfl)
def F142j1(t0:Sl)(t1:Nat×Array Value)(R:RV)(y1:Nat->Int->World->Prop)(b3:Nat)(n4:Int)(w5:World):Prop:=IfB (decide (n4<(t0.n:Int))) (Qx t0.1 n4 (t0.2:Int) fun b8 b9=>∃(x10:Int×Sl×Int×Int×Int×Int×Int×Int×Int),CellsAt w5 b8 (b9+n4.toNat*9) (lC37 x10)/\Cx t1.1 { toList:=(.agg (lC37 x10).toArray)::t1.snd.1 } w5 fun v11 w12=>∃t13:Bool,v11=Value.bool t13/\IfB t13 (R (Qz n4) w12) (Qn y1 b3 (IntKind.i64.wrap (n4+1)) w12)) (R (Qz (-1:Int)) w5)
def F142(t0:Sl)(t1:Nat×Array Value)(w:World)(R:RV):Prop:=Ql (α:=Int) 0 w fun y1 b3 n4 w5=>(F142j1 t0 t1 R y1 b3 n4 w5)
theorem F142_ok(t0:Sl)(t1:Nat×Array Value)(w:World)(R:RV)(h:F142 t0 t1 w R):Cw 142 #[Qy t0,Value.func (Fn.func t1.1) #[] t1.2] w R:=
 ckF Tryz.func142 (nd (.node (nd (.loop [(8,oi)] (rg [4,5,8,18]) .nil)) .nil)) h (by kernel_rfl) (by kernel_rfl)
def F24j2(R:RV)(y9:Nat->Int->World->Prop)(b11:Nat)(n12:Int)(b19:Nat)(y40:Nat->Int->World->Prop)(b42:Nat)(n43:Int)(w44:World):Prop:=Qs w44 b19 (0+1) fun s47=>IfB (decide (n43<(s47.n:Int))) (Qs w44 b19 (0+1) fun s48=>Qx s48.1 n43 (s48.2:Int) fun b49 b50=>Qi w44 b49 (b50+n43.toNat) fun n51=>IfB (decide (n51<0)) (R (Value.bool false) w44) (Qs w44 b19 (0+1) fun s52=>Qx s52.1 n43 (s52.2:Int) fun b53 b54=>Qi w44 b53 (b54+n43.toNat) fun n55=>IfB (decide (99<n55)) (R (Value.bool false) w44) (Qn y40 b42 (IntKind.i64.wrap (n43+1)) w44))) (Qn y9 b11 (IntKind.i64.wrap (n12+1)) w44)
def F24k1(t1:Sl)(n12:Int)(w13:World)(R:RV)(b1:Nat)(y9:Nat->Int->World->Prop)(b11:Nat):Prop:=Qx t1.1 n12 (t1.2:Int) fun b16 b17=>∃(x18:Int×Sl×Int×Int×Int×Int×Int×Int×Int),CellsAt w13 b16 (b17+n12.toNat*9) (lC37 x18)/\AllocP w13 (Obj.cells #[Qz 0,Value.slice none 0 0,Qz 0,Qz 0,Qz 0,Qz 0,Qz 0,Qz 0,Qz 0] 37) fun b19 w20=>(lC37 x18).toArray.size=9/\StoreP w20 b19 0 (lC37 x18) fun w21=>Qi w21.drew b19 (0+0) fun n22=>IfB (decide (n22<0)) (R (Value.bool false) w21.drew) (Qi w21.drew b19 (0+0) fun n23=>Qs w21.drew b1 (0+0) fun s24=>IfB (decide ((s24.n:Int)<=n23)) (R (Value.bool false) w21.drew) (Qs w21.drew b19 (0+1) fun s25=>Qs w21.drew b1 (0+0) fun s26=>Qi w21.drew b19 (0+0) fun n27=>Qx s26.1 n27 (s26.2:Int) fun b28 b29=>Qi w21.drew b28 (b29+n27.toNat*5+1) fun n30=>IfB ((s25.2:Int) != n30) (R (Value.bool false) w21.drew) (Qi w21.drew b19 (0+2) fun n31=>IfB (decide (n31<0)) (R (Value.bool false) w21.drew) (Qi w21.drew b19 (0+2) fun n32=>Qs w21.drew b1 (0+0) fun s33=>Qi w21.drew b19 (0+0) fun n34=>Qx s33.1 n34 (s33.2:Int) fun b35 b36=>Qs w21.drew b35 (b36+n34.toNat*5+2) fun s37=>IfB (decide ((s37.n:Int)<n32)) (R (Value.bool false) w21.drew) (Qi w21.drew b19 (0+3) fun n38=>IfB (decide (n38<0)) (R (Value.bool false) w21.drew) (Qi w21.drew b19 (0+3) fun n39=>IfB (decide (3<n39)) (R (Value.bool false) w21.drew) (Ql (α:=Int) 0 w21.drew fun y40 b42 n43 w44=>(F24j2 R y9 b11 n12 b19 y40 b42 n43 w44))))))))
def F24j1(t1:Sl)(R:RV)(b1:Nat)(y9:Nat->Int->World->Prop)(b11:Nat)(n12:Int)(w13:World):Prop:=IfB (decide (n12<(t1.n:Int))) (F24k1 t1 n12 w13 R b1 y9 b11) (R (Value.bool true) w13)
theorem F24_ok(t0:Sl×List Value)(t1:Sl)(w:World)(R:RV)(h:AllocP w (Obj.cells { toList:=Qy t0.fst::t0.2 } 26) fun b1 w2=>∃(x3:Sl×List Value),CellsN w2 b1 0 17 (Qy x3.fst::x3.2)/\Qv' 53 #[Value.agg { toList:=Qy x3.fst::x3.2 }] w2 fun t8 w7=>IfB (!t8) (R (Value.bool false) w7) (IfB (decide (12<(t1.n:Int))) (R (Value.bool false) w7) (Ql (α:=Int) 0 w7 fun y9 b11 n12 w13=>(F24j1 t1 R b1 y9 b11 n12 w13)))):Cw 24 #[Value.agg { toList:=Qy t0.fst::t0.2 },Qy t1] w R:=
 ckF Tryz.func24 (nd (nd (.node (nd (.loop [(5,oi)] (rg [4,7,16,98]) (nd (.node (nd (.node (.node (.draw (sts [0,1,2,3,4,5,6,7,8,9,10,11,12,13,14,15,16,17,18,19,20,21,22,23,24,25,26,27,28,29,30,31,32,33,34,35,36,37,38,39,40,41,42,43,44,45,46,47,48,49,50,51] .fin)) .nil) (nd (.loop [(7,oi)] (rg [4,4,7,7,78,98]) .nil)))) .nil)))) .nil))) h (by kernel_rfl) (by kernel_rfl)
def F77k2(w40:World)(b1:Nat)(b3:Nat)(b5:Nat)(n39:Int)(b38:Nat)(y36:Nat->Int->World->Prop)(p32:Option Addr)(R:RV)(p35:Option Addr):Prop:=∃(x48:Sl×List Value),CellsN w40.drew b1 0 17 (Qy x48.fst::x48.2)/\Qi w40.drew b3 (0+0) fun n51=>Qi w40.drew b5 (0+0) fun n52=>∃(x53:Sl×List Value),CellsN w40.drew b1 0 17 (Qy x53.fst::x53.2)/\Qi w40.drew b3 (0+0) fun n56=>Qi w40.drew b5 (0+0) fun n57=>Qi w40.drew b3 (0+2) fun n58=>Qw' 145 #[Value.agg { toList:=Qy x48.fst::x48.2 },Qz n51,Qz n52,Qz n39] w40.drew fun n61 w60=>w60.cell? ⟨b3,0+2,none⟩=some (Qz n58)/\w60.cell? ⟨b5,0+0,none⟩=some (Qz n57)/\w60.cell? ⟨b3,0+0,none⟩=some (Qz n56)/\CellsN w60 b1 0 17 (Qy x53.fst::x53.2)/\Qw' 145 #[Value.agg { toList:=Qy x53.fst::x53.2 },Qz n56,Qz n57,Qz (IntKind.i64.wrap (n58-1))] w60 fun n66 w65=>IfB (n61 != n66) (Qn y36 b38 (IntKind.i64.wrap (n39+1)) w65) (Qs w65 b1 (0+0) fun s68=>Qi w65 b3 (0+0) fun n69=>Qx s68.1 n69 (s68.2:Int) fun b70 b71=>Qs w65 b70 (b71+n69.toNat*5+2) fun s72=>Qx s72.1 n39 (s72.2:Int) fun b73 b74=>Qs w65 b73 (b74+n39.toNat*2+1) fun s75=>Qs w65.drew b3 (0+1) fun s76=>Qs w65.drew b3 (0+1) fun s77=>Cx 144 #[Qy s75,Qy s76,Value.bool false] w65.drew fun v78 w79=>∃(p80:Option Addr),v78=Value.pointer p80/\w79.cell? ⟨b3,0+1,none⟩=some (Qy s77)/\Cx 144 #[Qy s75,Qy s77,Value.bool true] w79 fun v81 w82=>∃(p83:Option Addr),v81=Value.pointer p83/\Qv' 98 #[Value.pointer p83,Value.pointer p32] w82 fun t86 w85=>IfB t86 (R (Value.bool true) w85) (Qv' 98 #[Value.pointer p83,Value.pointer p35] w85 fun t89 w88=>IfB t89 (R (Value.bool true) w88) (Qv' 98 #[Value.pointer p80,Value.pointer p35] w88 fun t92 w91=>IfB t92 (R (Value.bool true) w91) (Qn y36 b38 (IntKind.i64.wrap (n39+1)) w91))))
def F77j1(R:RV)(b1:Nat)(b3:Nat)(b5:Nat)(p32:Option Addr)(p35:Option Addr)(y36:Nat->Int->World->Prop)(b38:Nat)(n39:Int)(w40:World):Prop:=Qs w40 b1 (0+0) fun s43=>Qi w40 b3 (0+0) fun n44=>Qx s43.1 n44 (s43.2:Int) fun b45 b46=>Qs w40 b45 (b46+n44.toNat*5+2) fun s47=>IfB (decide (n39<(s47.n:Int))) (F77k2 w40 b1 b3 b5 n39 b38 y36 p32 R p35) (R (Value.bool false) w40)
def F77k1(w6:World)(b1:Nat)(b3:Nat)(b5:Nat)(R:RV):Prop:=∃(x9:Sl×List Value),CellsN w6 b1 0 17 (Qy x9.fst::x9.2)/\Qi w6 b3 (0+0) fun n12=>Qi w6 b5 (0+0) fun n13=>Qi w6 b3 (0+2) fun n14=>Cx 143 #[Value.agg { toList:=Qy x9.fst::x9.2 },Qz n12,Qz n13,Qz (IntKind.i64.wrap (n14-1))] w6 fun v15 w16=>∃(x17:Int×Int×Bool),v15=Value.tuple #[Qz x17.1,Qz x17.snd.1,Value.bool x17.snd.2]/\Qi w16 b3 (0+2) fun n18=>IfB (decide (x17.snd.fst<n18)) (R (Value.bool false) w16) (Qs w16.drew b1 (0+0) fun s19=>Qi w16.drew b5 (0+0) fun n20=>Qx s19.1 n20 (s19.2:Int) fun b21 b22=>Qs w16.drew b21 (b22+n20.toNat*5+2) fun s23=>Qi w16.drew b5 (0+2) fun n24=>Qx s23.1 n24 (s23.2:Int) fun b25 b26=>Qs w16.drew b25 (b26+n24.toNat*2+1) fun s27=>∃s28:Sl,w16.drew.drew.cell? ⟨b5,0+1,none⟩=some (Qy s28)/\∃s29:Sl,w16.drew.drew.cell? ⟨b5,0+1,none⟩=some (Qy s29)/\Cx 144 #[Qy s27,Qy s28,Value.bool false] w16.drew.drew fun v30 w31=>∃(p32:Option Addr),v30=Value.pointer p32/\w31.cell? ⟨b5,0+1,none⟩=some (Qy s29)/\Cx 144 #[Qy s27,Qy s29,Value.bool true] w31 fun v33 w34=>∃(p35:Option Addr),v33=Value.pointer p35/\Ql (α:=Int) 0 w34 fun y36 b38 n39 w40=>(F77j1 R b1 b3 b5 p32 p35 y36 b38 n39 w40))
theorem F77_ok(t0:Sl×List Value)(t1:Int×Sl×Int×Int×Int×Int×Int×Int×Int)(t2:Int×Sl×Int×Int×Int×Int×Int×Int×Int)(w:World)(R:RV)(h:AllocP w (Obj.cells { toList:=Qy t0.fst::t0.2 } 26) fun b1 w2=>AllocP w2 (Obj.cells (lC37 t1).toArray 37) fun b3 w4=>AllocP w4 (Obj.cells (lC37 t2).toArray 37) fun b5 w6=>Qi w6 b3 (0+3) fun n7=>IfB (n7 != 0) (R (Value.bool false) w6) (Qi w6 b3 (0+2) fun n8=>IfB (n8 == 0) (R (Value.bool false) w6) (F77k1 w6 b1 b3 b5 R))):Cw 77 #[Value.agg { toList:=Qy t0.fst::t0.2 },(.agg (lC37 t1).toArray),(.agg (lC37 t2).toArray)] w R:=
 ckF Tryz.func77 (nd (nd (nd (nd (.node (.draw (sts [0,1,2,3,4,5,6,7,8,9,10,11,12] .fin)) (.node (.draw (sts [0,1,2,4,5,6] (.ac 3 [6,5,4] (.ac 7 [] (sts [8,9] .fin) .non) .non))) (.node (nd (.loop [(13,oi)] (rg [6,6,13,16,62,122]) (nd (.node (.node (.node (.draw (sts [0,1,2,3,4,5,7,8,9,10,11,12,13,14] (.ac 6 (rg [7,14]) (.ac 15 [] (.st 16 .fin) .non) .non))) .nil) (nd (.node (.draw (sts [0,1,2,4,5,6] (.ac 3 [6,5,4] (.ac 7 [] (sts [8,9] .fin) .non) .non))) .nil))) .nil)))) .nil))))))) h (by kernel_rfl) (by kernel_rfl)
def F26k1(w20:World)(b1:Nat)(t1:Sl)(x19:Sl×Int)(t2:Int)(b18:Nat)(y16:Nat->Sl×Int->World->Prop):Prop:=∃(x23:Sl×List Value),CellsN w20.drew b1 0 17 (Qy x23.fst::x23.2)/\Qx t1.1 x19.2 (t1.2:Int) fun b26 b27=>∃(x28:Int×Sl×Int×Int×Int×Int×Int×Int×Int),CellsAt w20.drew b26 (b27+x19.2.toNat*9) (lC37 x28)/\Qx t1.1 t2 (t1.2:Int) fun b29 b30=>∃(x31:Int×Sl×Int×Int×Int×Int×Int×Int×Int),CellsAt w20.drew b29 (b30+t2.toNat*9) (lC37 x31)/\Qv' 77 #[Value.agg { toList:=Qy x23.fst::x23.2 },Value.agg (lC37 x28).toArray,Value.agg (lC37 x31).toArray] w20.drew fun t34 w33=>IfB t34 (1*1<=16777216/\AllocP w33 (Obj.cells #[Qz x19.2] 3) fun b35 w36=>∃(l37:List Value),ReadC w36 (some ⟨b35,0,none⟩) (1*1) l37/\AppendP tt3 3 w36 x19.fst.1 x19.fst.2 x19.fst.3 1 l37 fun s38 w39=>Qn y16 b18 ({ p:=s38.1,n:=s38.2,c:=s38.3 },IntKind.i64.wrap (x19.2+1)) w39) (Qn y16 b18 ({ p:=x19.fst.1,n:=x19.fst.2,c:=x19.fst.3 },IntKind.i64.wrap (x19.2+1)) w33)
def F26j1(t1:Sl)(t2:Int)(R:RV)(b1:Nat)(y16:Nat->Sl×Int->World->Prop)(b18:Nat)(x19:Sl×Int)(w20:World):Prop:=IfB (decide (x19.snd<(t1.n:Int))) (IfB (x19.2 != t2) (F26k1 w20 b1 t1 x19 t2 b18 y16) (Qn y16 b18 ({ p:=x19.fst.1,n:=x19.fst.2,c:=x19.fst.3 },IntKind.i64.wrap (x19.2+1)) w20.drew)) (R (Qy x19.fst) w20)
theorem F26_ok(t0:Sl×List Value)(t1:Sl)(t2:Int)(w:World)(R:RV)(h:AllocP w (Obj.cells { toList:=Qy t0.fst::t0.2 } 26) fun b1 w2=>IfB (decide (t2<0)) (R (Value.slice none 0 0) w2.drew) (IfB (decide ((t1.n:Int)<=t2)) (R (Value.slice none 0 0) w2.drew) (Qx t1.1 t2 (t1.2:Int) fun b3 b4=>Qi w2.drew b3 (b4+t2.toNat*9+3) fun n5=>IfB (n5 != 0) (R (Value.slice none 0 0) w2.drew) (Qx t1.1 t2 (t1.2:Int) fun b6 b7=>Qi w2.drew b6 (b7+t2.toNat*9+2) fun n8=>Qs w2.drew b1 (0+0) fun s9=>Qx t1.1 t2 (t1.2:Int) fun b10 b11=>Qi w2.drew b10 (b11+t2.toNat*9+0) fun n12=>Qx s9.1 n12 (s9.2:Int) fun b13 b14=>Qs w2.drew b13 (b14+n12.toNat*5+2) fun s15=>IfB (n8 == (s15.2:Int)) (R (Value.slice none 0 0) w2.drew) (Ql (α:=Sl×Int) ({ p:=none,n:=0,c:=0 },0) w2.drew fun y16 b18 x19 w20=>(F26j1 t1 t2 R b1 y16 b18 x19 w20)))))):Cw 26 #[Value.agg { toList:=Qy t0.fst::t0.2 },Qy t1,Qz t2] w R:=
 ckF Tryz.func26 (nd (nd (.node (.node (.draw (sts [0,1,2,3,4,5,6,7,8,9,10,11,12,13,14,15,16,17,18,19,20,21,22,23,24,25,26,27,28,29,30,31,32,33,34] .fin)) .nil) (.node (nd (.loop [(7,.one (.sl)),(8,oi)] (rg [7,8,45,69]) (nd (.node (.node (.draw (sts [0,1,2,3,4,5,6,7,8,9,10,11,12] (.ac 13 [] (.st 14 .fin) .non))) .nil) .nil)))) .nil)))) h (by kernel_rfl) (by kernel_rfl)
def F144k1(t0:Sl)(x4:Sl×Int)(w5:World)(t1:Sl)(b3:Nat)(y1:Nat->Sl×Int->World->Prop):Prop:=Qx t0.1 x4.2 (t0.2:Int) fun b11 b12=>∃(x13:Int×Int),CellsAt w5.drew b11 (b12+x4.2.toNat*5+0) [Qz x13.1,Qz x13.2]/\Qx t0.1 x4.2 (t0.2:Int) fun b14 b15=>∃(x16:Int×Int),CellsAt w5.drew b14 (b15+x4.2.toNat*5+2) [Qz x16.1,Qz x16.2]/\Qw' 193 #[Value.agg #[Qz x13.1,Qz x13.2],Qy t1] w5.drew fun n19 w18=>CellsAt w18 b14 (b15+x4.2.toNat*5+2) [Qz x16.1,Qz x16.2]/\Qw' 193 #[Value.agg #[Qz x16.1,Qz x16.2],Qy t1] w18 fun n22 w21=>1*2<=16777216/\AllocP w21 (Obj.cells #[Qz n19,Qz n22] 101) fun b23 w24=>∃(l25:List Value),ReadC w24 (some ⟨b23,0,none⟩) (1*2) l25/\AppendP tt101 101 w24 x4.fst.1 x4.fst.2 x4.fst.3 1 l25 fun s26 w27=>Qn y1 b3 ({ p:=s26.1,n:=s26.2,c:=s26.3 },IntKind.i64.wrap (x4.2+1)) w27
def F144j1(t0:Sl)(t1:Sl)(t2:Bool)(R:RV)(y1:Nat->Sl×Int->World->Prop)(b3:Nat)(x4:Sl×Int)(w5:World):Prop:=IfB (decide (x4.snd<(t0.n:Int))) (Qx t0.1 x4.2 (t0.2:Int) fun b8 b9=>Qb w5 b8 (b9+x4.2.toNat*5+4) fun t10=>IfB t10 (F144k1 t0 x4 w5 t1 b3 y1) (IfB (!t2) (F144k1 t0 x4 w5 t1 b3 y1) (Qn y1 b3 ({ p:=x4.fst.1,n:=x4.fst.2,c:=x4.fst.3 },IntKind.i64.wrap (x4.2+1)) w5))) (Cx 97 #[Qy x4.fst] w5 fun v48 w49=>∃(p50:Option Addr),v48=Value.pointer p50/\R (Value.pointer p50) w49)
theorem F144_ok(t0:Sl)(t1:Sl)(t2:Bool)(w:World)(R:RV)(h:Ql (α:=Sl×Int) ({ p:=none,n:=0,c:=0 },0) w fun y1 b3 x4 w5=>(F144j1 t0 t1 t2 R y1 b3 x4 w5)):Cw 144 #[Qy t0,Qy t1,Value.bool t2] w R:=
 ckF Tryz.func144 (nd (nd (.node (nd (.loop [(7,.one (.sl)),(8,oi)] (rg [7,41]) (nd (.node (nd (.node (.draw (sts [0,1,2,3,4,5,6,8,9,10,11,12,13] (.ac 7 (rg [0,0,8,13]) (.ac 14 [0] (.st 15 (.ac 16 [0] (.ac 17 [] (.st 18 .fin) .non) .non)) .non) .non))) .nil)) .nil)))) .nil))) h (by kernel_rfl) (by kernel_rfl)
theorem F193_ok(t0:Int×Int)(t1:Sl)(w:World)(R:RV)(h:AllocP w (Obj.cells #[Qz t0.1,Qz t0.2] 93) fun b1 w2=>Qi w2 b1 (0+0) fun n3=>IfB (decide (n3<0)) (Qi w2 b1 (0+1) fun n4=>R (Qz n4) w2) (Qi w2.drew b1 (0+1) fun n5=>Qi w2.drew b1 (0+0) fun n6=>Qx t1.1 n6 (t1.2:Int) fun b7 b8=>Qi w2.drew b7 (b8+n6.toNat) fun n9=>R (Qz (IntKind.i64.wrap (n5+n9))) w2.drew)):Cw 193 #[Value.agg #[Qz t0.1,Qz t0.2],Qy t1] w R:=
 ckF Tryz.func193 (nd (nd (.node (.draw (sts [0,1,2,3,4,5,6,7,8] .fin)) .nil))) h (by kernel_rfl) (by kernel_rfl)
def F21j1(t1:Sl)(R:RV)(b1:Nat)(y3:Nat->Int->World->Prop)(b5:Nat)(n6:Int)(w7:World):Prop:=IfB (decide (n6<(t1.n:Int))) (Qx t1.1 n6 (t1.2:Int) fun b10 b11=>Qs w7 b10 (b11+n6.toNat*9+1) fun s12=>IfB (decide (10<(s12.n:Int))) (R (Value.bool true) w7) (Qn y3 b5 (IntKind.i64.wrap (n6+1)) w7)) (∃(x14:Sl×List Value),CellsN w7 b1 0 17 (Qy x14.fst::x14.2)/\Qv' 71 #[Value.agg { toList:=Qy x14.fst::x14.2 }] w7 fun t19 w18=>IfB t19 (R (Value.bool true) w18) (R (Value.bool (decide (20<(t1.n:Int)))) w18))
theorem F21_ok(t0:Sl×List Value)(t1:Sl)(w:World)(R:RV)(h:AllocP w (Obj.cells { toList:=Qy t0.fst::t0.2 } 26) fun b1 w2=>Ql (α:=Int) 0 w2 fun y3 b5 n6 w7=>(F21j1 t1 R b1 y3 b5 n6 w7)):Cw 21 #[Value.agg { toList:=Qy t0.fst::t0.2 },Qy t1] w R:=
 ckF Tryz.func21 (nd (.node (nd (.loop [(5,oi)] (rg [4,18]) .nil)) .nil)) h (by kernel_rfl) (by kernel_rfl)
def F3k1(w4:World)(b1:Nat)(t1:Sl)(R:RV)(t2:Int):Prop:=∃(x6:Sl×List Value),CellsN w4 b1 0 17 (Qy x6.fst::x6.2)/\Qv' 21 #[Value.agg { toList:=Qy x6.fst::x6.2 },Qy t1] w4 fun t11 w10=>IfB t11 (R (Value.bool true) w10) (∃(x12:Sl×List Value),CellsN w10 b1 0 17 (Qy x12.fst::x12.2)/\Qu' 22 #[Value.agg { toList:=Qy x12.fst::x12.2 },Qy t1,Qz t2] w10 fun s17 w16=>∃(x18:Sl×List Value),CellsN w16.drew b1 0 17 (Qy x18.fst::x18.2)/\∃(x21:Sl×List Value),CellsN w16.drew b1 0 17 (Qy x21.fst::x21.2)/\Qv' 23 #[Value.agg { toList:=Qy x18.fst::x18.2 },Qy t1] w16.drew fun t26 w25=>CellsN w25 b1 0 17 (Qy x21.fst::x21.2)/\Qv' 24 #[Value.agg { toList:=Qy x21.fst::x21.2 },Qy t1] w25 fun t31 w30=>IfB (!t26 == t31) (R (Value.bool false) w30) (∃(x32:Sl×List Value),CellsN w30 b1 0 17 (Qy x32.fst::x32.2)/\Qv' 24 #[Value.agg { toList:=Qy x32.fst::x32.2 },Qy t1] w30 fun t37 w36=>IfB (!t37) (R (Value.bool ((s17.2:Int) == 0)) w36) (∃(x38:Sl×List Value),CellsN w36 b1 0 17 (Qy x38.fst::x38.2)/\Qu' 26 #[Value.agg { toList:=Qy x38.fst::x38.2 },Qy t1,Qz t2] w36 fun s43 w42=>Qv' 25 #[Qy s17,Qy s43] w42 fun t46 w45=>R (Value.bool t46) w45)))
theorem F3_ok(t0:Sl×List Value)(t1:Sl)(t2:Int)(w:World)(R:RV)(h:AllocP w (Obj.cells { toList:=Qy t0.fst::t0.2 } 26) fun b1 w2=>Qv' 20 #[] w2 fun t5 w4=>IfB (!t5) (R (Value.bool false) w4) (F3k1 w4 b1 t1 R t2)):Cw 3 #[Value.agg { toList:=Qy t0.fst::t0.2 },Qy t1,Qz t2] w R:=
 ckF Tryz.func3 (nd (nd (nd (nd (.node (.node (.draw (sts [0,1,3,4] (.ac 2 [4,3] (.ac 5 [] (.st 6 .fin) .non) .non))) .nil) .nil))))) h (by kernel_rfl) (by kernel_rfl)
abbrev AcV:=Int×Sl×Int×Int×Int×Int×Int×Int×Int
abbrev acC(x:AcV):List Value:=[.int .i64 x.1,slV x.2.1,.int .i64 x.2.2.1,.int .i64 x.2.2.2.1,.int .i64 x.2.2.2.2.1,.int .i64 x.2.2.2.2.2.1,.int .i64 x.2.2.2.2.2.2.1,.int .i64 x.2.2.2.2.2.2.2.1,.int .i64 x.2.2.2.2.2.2.2.2]
abbrev acV(x:AcV):Value:=.agg (acC x).toArray
theorem acC_one(x:AcV):One (acC x):=by intro v hv;simp at hv;rcases hv with rfl|rfl|rfl|rfl|rfl|rfl|rfl|rfl|rfl<;>rfl
structure Acv where
 v:AcV
 ar:List Int
abbrev aL(a:Acv):List Value:=acC a.v
theorem aL_len(a:Acv):(aL a).length=9:=rfl
abbrev AcM(w:World)(a:Acv):Prop:=Rd w a.v.2.1 1 (a.ar.map iv)
theorem AcM.n{w:World}{a:Acv}(h:AcM w a):a.v.2.1.n=a.ar.length:=rdI h
structure AcL(w:World)(t:Sl)(l:List Acv):Prop where
 rd:Rd w t 9 (l.flatMap aL)
 ok:∀a∈l,AcM w a
theorem AcL.ext{w w':World}{t:Sl}{l:List Acv}(h:AcL w t l)(e:Ext w w'):AcL w' t l:=⟨h.rd.ext e,fun a ha=>(h.ok a ha).ext e⟩
theorem AcL.n{w:World}{t:Sl}{l:List Acv}(h:AcL w t l):t.n=l.length:=rdN aL_len (by omega) h.rd
theorem AcL.at{w:World}{t:Sl}{l:List Acv}(h:AcL w t l){i:Nat}{a:Acv}(hx:l[i]? =some a):∃b o,t.p=some ⟨b,o,none⟩/\CellsAt w b (o+i*9) (acC a.v):=by
 have:=(List.getElem?_eq_some_iff.1 hx).1
 exact h.rd.elem (i:=i) (by rw[h.n];exact this) (by omega) (flatGet aL_len hx)
structure AcOk(x:CatD)(a:Acv):Prop where
 c0:0<=a.v.1
 cn:a.v.1<(x.1.length:Int)
 na:∀y,x.1[a.v.1.toNat]? =some y->(a.ar.length:Int)=y.2.1
 ao:∀k∈a.ar,0<=k/\k<=99
 d0:0<=a.v.2.2.1
 dl:a.v.2.2.1<=(nSt x a.v.1.toNat:Int)
 p0:0<=a.v.2.2.2.1
 p3:a.v.2.2.2.1<=3
structure AMay(x:CatD)(l:List Acv):Prop where
 cat:CatOk x
 l12:l.length<=12
 all:∀a∈l,AcOk x a
theorem c139(k:Int)(w:World):Cw 139 #[iv k] w fun v w'=>v=.bool (bq (¬(0<=k/\k<=99)))/\Ext w w':=by
 refine F139_ok k w _ (IfB.dec (fun h=>⟨?_,Ch.refl _ _⟩) fun h=>⟨?_,Ch.refl _ _⟩)
 ·congr 1;exact(bq_iff.2 (by omega)).symm
 ·congr 1
  rw[Bool.eq_iff_iff,bq_iff,decide_eq_true_eq];omega
theorem c74{w:World}{v:CatV}{x:CatD}{a:Acv}(h:CatM w v x)(hk:CatOk x)(ha:AcM w a):
  Cw 74 #[cxV v,acV a.v] w fun r w'=>∃b,r=.bool b/\(b=true↔AcOk x a)/\Ext w w':=by
 have hn:=cat_cl h
 have han:=ha.n
 refine F74_ok v a.v w _ fun b1 w2 a2 b3 w4 a4=>?_
 have e2:Ext w w2:=a2.ch _
 have e4:Ext w2 w4:=a4.ch _
 have E4:=e2.trans e4
 have qa:=fun{W:World} (k:Nat) (e:Ext w4 W)=>boxAt (cs:=acC a.v) a4.new k e
 have qc:=fun{W:World} (e:Ext w4 W)=>boxAt (cs:=cxC v) a2.new 0 (e4.trans e)
 have no:∀ {W:World},Ext w W->¬AcOk x a->∃b,Value.bool false=.bool b/\(b=true↔AcOk x a)/\Ext w W:=fun e h=>⟨false,rfl,⟨fun h=>(by cases h),fun h'=>absurd h' h⟩,e⟩
 refine⟨a.v.1,qa 0 (Ch.refl _ _),IfB.dec (fun h1=>no E4 fun h=>by have:=h.c0;omega) fun h1=>?_⟩
 unfold F74k1
 refine⟨a.v.1,qa 0 (Ch.refl _ _),v.1,qc (Ch.refl _ _),IfB.dec (fun h2=>no E4 fun h=>by have:=h.cn;omega) fun h2=>?_⟩
 have hc:a.v.1.toNat<x.1.length:=by omega
 have hx:x.1[a.v.1.toNat]? =some x.1[a.v.1.toNat]:=List.getElem?_eq_getElem hc
 have hxm:x.1[a.v.1.toNat]∈x.1:=List.getElem_mem hc
 generalize x.1[a.v.1.toNat]=y at hx hxm
 have hy:=hk.cls y hxm
 obtain⟨pb,o,u,hp,hcell,hM⟩:=ClsR.at (SlR.ext h.cl E4) hx
 have hun:u.2.2.1.n=y.2.2.1.length:=hM.st.n
 have hns:=nSt_of hx
 refine⟨v.1,qc (Ch.refl _ _),a.v.1,qa 0 (Ch.refl _ _),pb,o,hp,⟨by omega,by omega⟩,u,hcell,fun b13 w14 a14=>⟨rfl,store_all (vs:=clsC u) a14.new rfl (clsC_one u) fun w15 u15=>?_⟩⟩
 have e15:Ext w4 w15:=Ext.fresh a14 u15
 have E15:=E4.trans e15
 have qu:=fun{W:World} (k:Nat) (e:Ext w15 W)=>boxAt (cs:=clsC u) u15.new k e
 refine⟨a.v.2.1,qa 1 e15,u.2.1,qu 1 (Ch.refl _ _),IfB.intro (fun h3=>?_) fun h3=>no E15 fun h=>?_⟩
 ·have h3:(a.ar.length:Int)=y.2.1:=by
   rw[<-hM.ar,<-han];simpa using h3
  have ha3:=hy.a3
  refine⟨a.v.2.1,qa 1 e15,(c109 (t1:=(139,#[])) (q:=fun k=>bq (¬(0<=k/\k<=99))) (ha.ext E15) (by omega) fun k W _ e R' hR=>(c139 k W).use fun v w' ⟨hv,e'⟩=>hv ▸ hR w' e').use ?_⟩
  rintro _ w20 ⟨rfl,e20⟩
  have E20:=E15.trans e20
  have x20:=e15.trans e20
  refine⟨_,rfl,IfB.intro (fun h4=>?_) fun h4=>no E20 fun h=>?_⟩
  ·have h4:=any_bq.1 (Bool.not_eq_true' _ ▸ h4)
   refine⟨_,qa 2 x20,IfB.dec (fun h5=>⟨_,qa 2 x20,_,qu 2 e20,IfB.dec (fun h6=>⟨_,qa 3 x20,IfB.dec (fun h7=>⟨_,qa 3 x20,_,rfl,?_,E20⟩) fun h7=>no E20 fun h=>h7 h.p0⟩) fun h6=>no E20 fun h=>?_⟩) fun h5=>no E20 fun h=>h5 h.d0⟩
   ·rw[decide_eq_true_eq]
    exact⟨fun h8=>⟨by omega,by omega,fun y' hy'=>(by rw[hx] at hy';cases hy';exact h3),h4,h5,(by rw[hns];omega),h7,h8⟩,fun h=>h.p3⟩
   ·have:=h.dl
    rw[hns] at this;omega
  ·have h4:(a.ar.any fun k=>bq (¬(0<=k/\k<=99)))=true:=by simpa using h4
   rw[any_bq.2 h.ao] at h4;cases h4
 ·have:=h.na y hx
  have:(a.v.2.1.n:Int)=u.2.1:=by rw[hM.ar,<-this,han]
  rw[Bool.eq_false_iff] at h3
  exact h3 (by simpa using this)
theorem c76{w:World}{t:Sl}{xs:List Acv}{t1:Nat×Array Value}{q:Acv->Bool}(h:AcL w t xs)(hl:xs.length<=1000000)
  (hq:∀(x:Acv)(W:World),x∈xs->Ext w W->∀R':RV,(∀w',Ext W w'->R' (.bool (q x)) w')->Cx t1.1 { toList:=acV x.v::t1.2.toList } W R'):
  Cw 76 #[slV t,.func (.func t1.1) #[] t1.2] w fun v w'=>v=.bool (xs.any q)/\Ext w w':=by
 have hn:=h.n
 refine F76_ok t t1 w _ (CW.use (F142_ok t t1 w (fun v w'=>v=iv (idxV (xs.findIdx? q))/\Ext w w') ?_) fun v w' ⟨hv,e⟩=>⟨_,hv,by rw[any_idx],e⟩)
 have e:∀R,F142 t t1 w R=IndexF Tryz.prog (fun W b o i (x:AcV)=>CellsAt W b (o+i*9) (acC x)) acV t t1 w R:=fun _=>rfl
 rw[e]
 refine IndexF_of xs (fun a=>a.v) q hn (by omega) (fun i x W hx e=>(h.ext e).at hx) (fun i x W hx e R' hR=>hq x W (List.mem_of_getElem? hx) e R' hR) fun w' e=>⟨rfl,e⟩
theorem c73{w:World}{v:CatV}{x:CatD}{a:Acv}{b:Nat}(h:CatM w v x)(hk:CatOk x)(ha:AcM w a)(hb:∃T,w.heap[b]? =some (.cells (cxC v).toArray T (0,0))):
  Cw 73 #[acV a.v,.pointer (some ⟨b,0,none⟩)] w fun r w'=>r=.bool (bq (¬AcOk x a))/\Ext w w':=by
 obtain⟨T,hb⟩:=hb
 refine F73_ok a.v b w _ fun b1 w2 a2=>?_
 have e2:Ext w w2:=a2.ch _
 refine⟨v,cxN h hb e2,a.v,boxAll (cs:=acC a.v) a2.new (Ch.refl _ _),(c74 (h.ext e2) hk (ha.ext e2)).use ?_⟩
 rintro _ w8 ⟨r,rfl,hr,e8⟩
 exact⟨r,rfl,by rw[bq_neg hr],e2.trans e8⟩
theorem c23{w:World}{v:CatV}{x:CatD}{t:Sl}{l:List Acv}(h:CatM w v x)(hL:AcL w t l):
  Cw 23 #[cxV v,slV t] w fun r w'=>∃b,r=.bool b/\(b=true↔AMay x l)/\Ext w w':=by
 have hn:=hL.n
 refine F23_ok v t w _ fun b1 w2 a2=>?_
 have e2:Ext w w2:=a2.ch _
 refine⟨v,cxN h a2.new (Ch.refl _ _),(c75 (h.ext e2)).use ?_⟩
 rintro _ w7 ⟨r,rfl,hr,e7⟩
 have E7:=e2.trans e7
 have no:¬AMay x l->∃b,Value.bool false=.bool b/\(b=true↔AMay x l)/\Ext w w7:=fun h=>⟨false,rfl,⟨fun h=>(by cases h),fun h'=>absurd h' h⟩,E7⟩
 refine⟨r,rfl,IfB.intro (fun h1=>IfB.dec (fun h2=>?_) fun h2=>no fun h=>h2 (by have:=h.l12;omega)) fun h1=>no fun h=>?_⟩
 ·have hk:=hr.1 h1
  refine(c76 (t1:=(73,#[.pointer (some ⟨b1,0,none⟩)])) (q:=fun a=>bq (¬AcOk x a)) (hL.ext E7) (by omega) fun a W ha e R' hR=>(c73 ((h.ext E7).ext e) hk ((hL.ok a ha).ext (E7.trans e)) ⟨_,Ext.at (e7.trans e) a2.new⟩).use fun v w' ⟨hv,e'⟩=>hv ▸ hR w' e').use ?_
  rintro _ w10 ⟨rfl,e10⟩
  refine⟨_,rfl,_,rfl,?_,E7.trans e10⟩
  rw[Bool.not_eq_true',any_bq]
  exact⟨fun h=>⟨hk,by omega,h⟩,fun h=>h.all⟩
 ·have h1:r=false:=h1
  rw[hr.2 h.cat] at h1;cases h1
def stepAt(x:CatD)(c i:Nat):Option StpD:=(x.1[c]?).bind fun y=>y.2.2.1[i]?
def FtP(q:SpTD->Bool)(x:CatD)(a:Acv)(i:Nat)(k:Int):Prop:=∃s,stepAt x a.v.1.toNat i=some s/\hasS (footS q s.2 a.ar) k
abbrev RdP:=FtP fun _=>true
abbrev WrP:=FtP fun s=>s.2.2
theorem AcOk.args{x:CatD}{a:Acv}(hk:CatOk x)(h:AcOk x a):ArgsOk a.ar:=by
 have hc:a.v.1.toNat<x.1.length:=by have:=h.c0;have:=h.cn;omega
 have hx:x.1[a.v.1.toNat]? =some x.1[a.v.1.toNat]:=List.getElem?_eq_getElem hc
 have:=h.na _ hx
 have:=(hk.cls _ (List.getElem_mem hc)).a3
 exact⟨by omega,h.ao⟩
theorem c137{w:World}{v:CatV}{x:CatD}{a:Acv}(h:CatM w v x)(hk:CatOk x)(ha:AcM w a)(ho:AcOk x a){lo hi:Nat}(hlh:lo<=hi)(hh:hi<nSt x a.v.1.toNat):
  Cw 137 #[cxV v,acV a.v,iv (lo:Int),iv (hi:Int)] w fun r w'=>∃t1 t2 os1 os2,r=.tuple #[slV t1,slV t2]/\(∀k,hasS os1 k↔∃i,(lo<=i/\i<=hi)/\RdP x a i k)/\(∀k,hasS os2 k↔∃i,(lo<=i/\i<=hi)/\WrP x a i k)/\OwS w' t1 2 (os1.flatMap sv)/\OwS w' t2 2 (os2.flatMap sv)/\os1.length<=100/\os2.length<=100/\Ext w w':=by
 have hn:=cat_cl h
 have hargs:=ho.args hk
 have hc0:=ho.c0;have hcn:=ho.cn
 have hc:a.v.1.toNat<x.1.length:=by omega
 have hx:x.1[a.v.1.toNat]? =some x.1[a.v.1.toNat]:=List.getElem?_eq_getElem hc
 have hxm:x.1[a.v.1.toNat]∈x.1:=List.getElem_mem hc
 generalize x.1[a.v.1.toNat]=y at hx hxm
 have hy:=hk.cls y hxm
 have hna:=ho.na y hx
 have hns:=nSt_of hx
 have hl4:=hy.l4
 refine F137_ok v a.v (lo:Int) (hi:Int) w _ fun b1 w2 a2 b3 w4 a4=>?_
 have e2:Ext w w2:=a2.ch _
 have e4:Ext w2 w4:=a4.ch _
 have E4:=e2.trans e4
 have qa:=fun{W:World} (k:Nat) (e:Ext w4 W)=>boxAt (cs:=acC a.v) a4.new k e
 obtain⟨pb,o,u,hp,hcell,hM⟩:=ClsR.at (SlR.ext h.cl E4) hx
 have hun:u.2.2.1.n=y.2.2.1.length:=hM.st.n
 have hcap:=hM.st.cap
 have hw:IntKind.i64.wrap ((hi:Int)+1)=((hi+1:Nat):Int):=by rw[wrap_of (by omega) (by omega)];rfl
 refine⟨v.1,boxAt (cs:=cxC v) a2.new 0 e4,a.v.1,qa 0 (Ch.refl _ _),pb,o,hp,⟨by omega,by omega⟩,u.2.2.1,hcell 2 _ rfl,⟨by omega,by rw[hw];omega,by rw[hw];omega⟩,
  fun m z W=>∃(j:Nat)(so to:Sl)(os1 os2:List Spn),j<=hi+1-lo/\m+j=hi+1-lo/\z=(so,to,(j:Int))/\OwS W so 2 (os1.flatMap sv)/\OwS W to 2 (os2.flatMap sv)/\(∀k,hasS os1 k↔∃i,(lo<=i/\i<lo+j)/\RdP x a i k)/\(∀k,hasS os2 k↔∃i,(lo<=i/\i<lo+j)/\WrP x a i k)/\os1.length<=4*j/\os2.length<=4*j/\Ext w4 W,
  ⟨hi+1-lo,0,⟨none,0,0⟩,⟨none,0,0⟩,[],[],Nat.zero_le _,rfl,rfl,.nil _ _,.nil _ _,fun k=>?_,fun k=>?_,Nat.zero_le _,Nat.zero_le _,Ch.refl _ _⟩,?_⟩
 ·exact⟨fun⟨s,hs,_⟩=>(by cases hs),fun⟨i,hi,_⟩=>by omega⟩
 ·exact⟨fun⟨s,hs,_⟩=>(by cases hs),fun⟨i,hi,_⟩=>by omega⟩
 rintro m _ W g ⟨j,so,to,os1,os2,hj,hm,rfl,hO1,hO2,hk1,hk2,hl1,hl2,eW⟩
 unfold F137j1
 rw[hw]
 refine IfB.dec (fun hlt=>?_) fun hge=>?_
 ·have hj':j<hi+1-lo:=by dsimp only at hlt;omega
  have hi':lo+j<y.2.2.1.length:=by omega
  have hsx:y.2.2.1[lo+j]? =some y.2.2.1[lo+j]:=List.getElem?_eq_getElem hi'
  have hsm:y.2.2.1[lo+j]∈y.2.2.1:=List.getElem_mem hi'
  generalize y.2.2.1[lo+j]=s at hsx hsm
  obtain⟨sb,sx,tt,hps,hcs,hS⟩:=StsR.at (SlR.ext hM.st eW) hsx
  have hat:stepAt x a.v.1.toNat (lo+j)=some s:=by unfold stepAt;rw[hx];exact hsx
  have hfo:FootOk s.2 (a.ar.length:Int):=by rw[hna];exact(hy.st s hsm).2
  refine⟨sb,sx+lo*2,by rw[hps,Int.toNat_natCast,slAddr_some,if_neg (by omega)],⟨by dsimp only;omega,hlt⟩,tt,by dsimp only;rw[Int.toNat_natCast,show sx+lo*2+j*2=sx+(lo+j)*2 by omega];exact hcs,fun b20 w21 a21=>⟨rfl,store_all (vs:=stC tt) a21.new rfl (stC_one tt) fun w22 u22=>?_⟩⟩
  have e22:Ext W w22:=Ext.fresh a21 u22
  have x22:=eW.trans e22
  refine⟨tt.2,boxAt (cs:=stC tt) u22.new 1 (Ch.refl _ _),a.v.2.1,qa 1 x22,(c186 (hS.foot.ext e22) (ha.ext (E4.trans x22))).use ?_⟩
  rintro _ w26 ⟨t1,t2,r,q1,q2,rfl,hr,_,⟨_,hq1,ho1,hql1⟩,⟨_,hq2,ho2,hql2⟩,e26,_,_⟩
  have hr1:=hr.2 ⟨hargs,hfo⟩
  have hq1:=hq1 hr1
  have hq2:=hq2 hr1
  refine⟨(t1,t2,r),rfl,(c187 ((hO1.ext e22).ext e26).rd ho1.rd (by omega)).use ?_⟩
  rintro _ w29 ⟨s30,p1,rfl,_,hp1,hs30,hpl1,e29,_⟩
  refine⟨s30,rfl,(c187 (((hO2.ext e22).ext e26).ext e29).rd (ho2.ext e29).rd (by omega)).use ?_⟩
  rintro _ w32 ⟨s33,p2,rfl,_,hp2,hs33,hpl2,e32,_⟩
  have step:∀ {q:SpTD->Bool}{os ps qs:List Spn},(∀k,hasS os k↔∃i,(lo<=i/\i<lo+j)/\FtP q x a i k)->(∀k,hasS qs k↔hasS (footS q s.2 a.ar) k)->(∀k,hasS ps k↔hasS os k\/hasS qs k)->∀k,hasS ps k↔∃i,(lo<=i/\i<lo+(j+1))/\FtP q x a i k:=fun{q os ps qs} h1 h2 h3 k=>by
   rw[h3,h1,h2]
   constructor
   ·rintro(⟨i,hi,hf⟩|hf)
    ·exact⟨i,⟨hi.1,by omega⟩,hf⟩
    ·exact⟨lo+j,⟨by omega,by omega⟩,s,hat,hf⟩
   ·rintro⟨i,hi,hf⟩
    by_cases he:i=lo+j
    ·subst he
     obtain⟨s',hs',hf⟩:=hf
     rw[hat] at hs';cases hs'
     exact .inr hf
    ·exact .inl ⟨i,⟨hi.1,by omega⟩,hf⟩
  exact⟨s33,rfl,(by trivial),m-1,by omega,j+1,s30,s33,p1,p2,by omega,by omega,by dsimp only;rw[wrap_of (by omega) (by omega)];rfl,hs30.ext e32,hs33,step hk1 hq1 hp1,step hk2 hq2 hp2,by omega,by omega,(((eW.trans e22).trans e26).trans e29).trans e32⟩
 ·have hj':j=hi+1-lo:=by dsimp only at hge;omega
  subst hj'
  have fin:∀i,(lo<=i/\i<lo+(hi+1-lo))↔(lo<=i/\i<=hi):=fun i=>by omega
  refine⟨so,to,os1,os2,rfl,fun k=>?_,fun k=>?_,hO1,hO2,by omega,by omega,E4.trans eW⟩
  ·rw[hk1];exact exists_congr fun i=>by rw[fin]
  ·rw[hk2];exact exists_congr fun i=>by rw[fin]
def CrP(x:CatD)(s o:Acv)(i:Nat):Prop:=∃k,(WrP x s i k/\RdP x o o.v.2.2.1.toNat k)\/(WrP x s i k/\WrP x o o.v.2.2.1.toNat k)\/(RdP x s i k/\WrP x o o.v.2.2.1.toNat k)
def BlkP(x:CatD)(s o:Acv):Prop:=s.v.2.2.2.1=0/\0<s.v.2.2.1/\∃l u:Nat,BndP x s.v.1.toNat o.v.1.toNat (s.v.2.2.1-1).toNat l u/\s.v.2.2.1-1<(u:Int)/\∃i,(l<=i/\i<=u)/\CrP x s o i
theorem cx_args{P:Program}{f:FuncId}{a a':Array Value}{w:World}{R:RV}(h:CX P f a' w R)(e:a=a'):CX P f a w R:=e ▸ h
theorem c72{w:World}{v:CatV}{x:CatD}{s o:Acv}(h:CatM w v x)(hk:CatOk x)(hs:AcM w s)(hso:AcOk x s)(ho:AcM w o)(hoo:AcOk x o)(hod:o.v.2.2.1<(nSt x o.v.1.toNat:Int)):
  Cw 72 #[cxV v,acV s.v,acV o.v] w fun r w'=>∃b,r=.bool b/\(b=true↔BlkP x s o)/\Ext w w':=by
 have hd0:=hso.d0;have hdl:=hso.dl;have hc0:=hso.c0;have hcn:=hso.cn;have ho0:=hoo.c0;have hon:=hoo.cn;have hod0:=hoo.d0
 have hn4:∀c,nSt x c<=4:=fun c=>by
  unfold nSt
  split
  ·rename_i y hy
   exact(hk.cls y (List.mem_of_getElem? hy)).l4
  ·omega
 have hsn:=hn4 s.v.1.toNat
 refine F72_ok v s.v o.v w _ fun b1 w2 a2 b3 w4 a4 b5 w6 a6=>?_
 have e2:Ext w w2:=a2.ch _
 have e4:Ext w2 w4:=a4.ch _
 have e6:Ext w4 w6:=a6.ch _
 have E6:=(e2.trans e4).trans e6
 have qs:=fun{W:World} (k:Nat) (e:Ext w6 W)=>boxAt (cs:=acC s.v) a4.new k (e6.trans e)
 have qo:=fun{W:World} (k:Nat) (e:Ext w6 W)=>boxAt (cs:=acC o.v) a6.new k e
 have qc:=fun{W:World} (e:Ext w6 W)=>cxN h a2.new ((e4.trans e6).trans e)
 have no:∀ {W:World},Ext w W->¬BlkP x s o->∃b,Value.bool false=.bool b/\(b=true↔BlkP x s o)/\Ext w W:=fun e h=>⟨false,rfl,⟨fun h=>(by cases h),fun h'=>absurd h' h⟩,e⟩
 refine⟨s.v.2.2.2.1,qs 3 (Ch.refl _ _),IfB.intro (fun h1=>no E6 fun h=>?_) fun h1=>?_⟩
 ·rw[h.1] at h1;cases h1
 have h1:s.v.2.2.2.1=0:=by simpa using h1
 refine⟨v,qc (Ch.refl _ _),s.v.1,qs 0 (Ch.refl _ _),o.v.1,qo 0 (Ch.refl _ _),s.v.2.2.1,qs 2 (Ch.refl _ _),(c135 (h.ext E6) hk s.v.1 o.v.1 s.v.2.2.1 ⟨by omega,by omega⟩).use ?_⟩
 rintro _ w15 ⟨r,rfl,hr,e15⟩
 have E15:=E6.trans e15
 refine⟨r,rfl,IfB.intro (fun h2=>no E15 fun h=>?_) fun h2=>?_⟩
 ·obtain⟨_,h3,l,u,h4,h5,_⟩:=h
  have h2:r=false:=by simpa using h2
  rw[hr.2 ⟨⟨⟨hc0,hcn⟩,⟨ho0,hon⟩,by omega,by omega⟩,l,u,h4,h5⟩] at h2;cases h2
 obtain⟨hbo,l0,u0,hb0,hu0⟩:=hr.1 (by simpa using h2)
 unfold F72k1
 have hw:IntKind.i64.wrap (s.v.2.2.1-1)=s.v.2.2.1-1:=wrap_of (by omega) (by omega)
 refine⟨v,qc e15,s.v.1,qs 0 e15,o.v.1,qo 0 e15,s.v.2.2.1,qs 2 e15,?_⟩
 (try dsimp only);rw[hw]
 refine((c136 (h.ext E15) hk s.v.1 o.v.1 (s.v.2.2.1-1)).use ?_)
 rintro _ w24 ⟨lo,hi,b,rfl,hb,hlu,e24⟩
 obtain⟨l,u,rfl,rfl,hB⟩:=hlu (hb.2 hbo)
 have x24:=e15.trans e24
 have E24:=E15.trans e24
 obtain⟨rfl,rfl⟩:=hb0.uniq hB
 refine⟨((l0:Int),(u0:Int),b),rfl,v,qc x24,s.v,boxAll (cs:=acC s.v) a4.new (e6.trans x24),(c137 (h.ext E24) hk (hs.ext E24) hso (Nat.le_trans hB.l hB.h) hB.n).use ?_⟩
 rintro _ w31 ⟨r1,r2,q1,q2,rfl,hq1,hq2,ho1,ho2,hl1,hl2,e31⟩
 have x31:=x24.trans e31
 have E31:=E24.trans e31
 have hcast:o.v.2.2.1=((o.v.2.2.1.toNat:Nat):Int):=by omega
 refine⟨(r1,r2),rfl,v,qc x31,o.v,boxAll (cs:=acC o.v) a6.new x31,o.v.2.2.1,qo 2 x31,o.v.2.2.1,qo 2 x31,?_⟩
 refine cx_args ((c137 (h.ext E31) hk (ho.ext E31) hoo (Nat.le_refl _) (by omega)).use ?_) (congrArg (fun z=>#[_,_,iv z,iv z]) hcast)
 rintro _ w40 ⟨d1,d2,p1,p2,rfl,hp1,hp2,hd1,hd2,hm1,hm2,e40⟩
 have one:∀ {q:SpTD->Bool}{ps:List Spn},(∀k,hasS ps k↔∃i,(o.v.2.2.1.toNat<=i/\i<=o.v.2.2.1.toNat)/\FtP q x o i k)->∀k,hasS ps k↔FtP q x o o.v.2.2.1.toNat k:=fun h k=>by
  rw[h]
  exact⟨fun⟨i,hi,hf⟩=>by rw[show i=o.v.2.2.1.toNat by omega] at hf;exact hf,fun hf=>⟨_,⟨Nat.le_refl _,Nat.le_refl _⟩,hf⟩⟩
 have hp1:=one hp1
 have hp2:=one hp2
 have E40:=E31.trans e40
 refine⟨(d1,d2),rfl,(c138 (ho2.ext e40).rd hd1.rd (by omega) (by omega)).use ?_⟩
 rintro _ w43 ⟨t44,rfl,h44,e43⟩
 have key:BlkP x s o↔(∃k,hasS q2 k/\hasS p1 k)\/(∃k,hasS q2 k/\hasS p2 k)\/∃k,hasS q1 k/\hasS p2 k:=by
  constructor
  ·rintro⟨_,h3,l',u',h4,h5,i,hi,k,hc⟩
   obtain⟨rfl,rfl⟩:=h4.uniq hB
   rcases hc with ⟨c1,c2⟩|⟨c1,c2⟩|⟨c1,c2⟩
   ·exact .inl ⟨k,(hq2 k).2 ⟨i,hi,c1⟩,(hp1 k).2 c2⟩
   ·exact .inr (.inl ⟨k,(hq2 k).2 ⟨i,hi,c1⟩,(hp2 k).2 c2⟩)
   ·exact .inr (.inr ⟨k,(hq1 k).2 ⟨i,hi,c1⟩,(hp2 k).2 c2⟩)
  ·have h3:=hbo.2.2.1
   rintro(⟨k,c1,c2⟩|⟨k,c1,c2⟩|⟨k,c1,c2⟩)
   ·obtain⟨i,hi,c1⟩:=(hq2 k).1 c1
    exact⟨h1,by omega,l0,u0,hB,hu0,i,hi,k,.inl ⟨c1,(hp1 k).1 c2⟩⟩
   ·obtain⟨i,hi,c1⟩:=(hq2 k).1 c1
    exact⟨h1,by omega,l0,u0,hB,hu0,i,hi,k,.inr (.inl ⟨c1,(hp2 k).1 c2⟩)⟩
   ·obtain⟨i,hi,c1⟩:=(hq1 k).1 c1
    exact⟨h1,by omega,l0,u0,hB,hu0,i,hi,k,.inr (.inr ⟨c1,(hp2 k).1 c2⟩)⟩
 refine⟨t44,rfl,IfB.intro (fun h5=>⟨true,rfl,⟨fun _=>key.2 (.inl (h44.1 h5)),fun _=>rfl⟩,E40.trans e43⟩) fun h5=>(c138 ((ho2.ext e40).ext e43).rd (hd2.ext e43).rd (by omega) (by omega)).use ?_⟩
 have n44:¬ ∃k,hasS q2 k/\hasS p1 k:=fun h=>by rw[h44.2 h] at h5;cases h5
 rintro _ w46 ⟨t47,rfl,h47,e46⟩
 refine⟨t47,rfl,IfB.intro (fun h6=>⟨true,rfl,⟨fun _=>key.2 (.inr (.inl (h47.1 h6))),fun _=>rfl⟩,(E40.trans e43).trans e46⟩) fun h6=>(c138 (((ho1.ext e40).ext e43).ext e46).rd ((hd2.ext e43).ext e46).rd (by omega) (by omega)).use ?_⟩
 have n47:¬ ∃k,hasS q2 k/\hasS p2 k:=fun h=>by rw[h47.2 h] at h6;cases h6
 rintro _ w49 ⟨t50,rfl,h50,e49⟩
 refine⟨t50,rfl,t50,rfl,?_,((E40.trans e43).trans e46).trans e49⟩
 rw[key,h50]
 exact⟨fun h=>.inr (.inr h),fun h=>h.elim (fun h=>absurd h n44) fun h=>h.elim (fun h=>absurd h n47) id⟩
def F97j3(t0:Sl)(b1:Nat)(y3:Nat->Int->World->Prop)(b5:Nat)(n6:Int)(y26:Nat->Int->World->Prop)(b28:Nat)(n29:Int)(w30:World):Prop:=Qx t0.1 n6 (t0.2:Int) fun b33 b34=>Qi w30 b33 (b34+n6.toNat*2+1) fun n35=>IfB (decide (n29<=n35)) ((0<=n29/\n29<((1000:Nat):Int))/\#[Value.bool true].size=1/\StoreP w30 b1 (0+n29.toNat) [Value.bool true] fun w36=>Qn y26 b28 (IntKind.i64.wrap (n29+1)) w36) (Qn y3 b5 (IntKind.i64.wrap (n6+1)) w30)
def F97j2(t0:Sl)(b1:Nat)(y3:Nat->Int->World->Prop)(b5:Nat)(n6:Int)(w12:World):Prop:=Qx t0.1 n6 (t0.2:Int) fun b15 b16=>Qi w12 b15 (b16+n6.toNat*2+0) fun n17=>IfB (decide (n17<0)) (Qn y3 b5 (IntKind.i64.wrap (n6+1)) w12) (Qx t0.1 n6 (t0.2:Int) fun b19 b20=>Qi w12 b19 (b20+n6.toNat*2+1) fun n21=>IfB (decide (999<n21)) (Qn y3 b5 (IntKind.i64.wrap (n6+1)) w12) (Qx t0.1 n6 (t0.2:Int) fun b23 b24=>Qi w12 b23 (b24+n6.toNat*2+0) fun n25=>Ql (α:=Int) n25 w12 fun y26 b28 n29 w30=>(F97j3 t0 b1 y3 b5 n6 y26 b28 n29 w30)))
theorem F97_ok(t0:Sl)(w:World)(R:RV)(h:AllocP w (Obj.cells (Array.replicate 1000 (Value.bool false)) 188) fun b1 w2=>Ql (α:=Int) 0 w2 fun y3 b5 n6 w7=>∃(y10:Unit->World->Prop),IfB (decide (n6<(t0.n:Int))) (([]:List Nat)=[]/\y10 PUnit.unit w7) (R (Value.pointer (some ⟨b1,0,none⟩)) w7)/\∀(y11:Unit)(w12:World)(y13:Nat->Value),y10 y11 w12->(F97j2 t0 b1 y3 b5 n6 w12)):Cw 97 #[Qy t0] w R:=
 ckF Tryz.func97 (nd (nd (.node (nd (.loop [(4,oi)] (rg [4,41]) (.join [] [6,7,8,9] .nil (.node (nd (nd (.loop [(5,oi)] (rg [5,5,31,41]) .nil))) .nil)))) .nil))) h (by kernel_rfl) (by kernel_rfl)
def F98j1(t0:Option Addr)(t1:Option Addr)(R:RV)(y1:Nat->Int->World->Prop)(b3:Nat)(n4:Int)(w5:World):Prop:=IfB (decide (n4<1000)) (∃(y8:Bool->World->Prop),(Qx t0 n4 ((1000:Nat):Int) fun b9 b10=>Qb w5 b9 (b10+n4.toNat) fun t11=>IfB t11 (Qx t1 n4 ((1000:Nat):Int) fun b12 b13=>Qb w5 b12 (b13+n4.toNat) fun t14=>([]:List Nat)=[]/\y8 t14 w5) (([]:List Nat)=[]/\y8 false w5))/\∀(t15:Bool)(w16:World)(y17:Nat->Value),y8 t15 w16->IfB t15 (R (Value.bool true) w16) (Qn y1 b3 (IntKind.i64.wrap (n4+1)) w16)) (R (Value.bool false) w5)
def F98(t0:Option Addr)(t1:Option Addr)(w:World)(R:RV):Prop:=Ql (α:=Int) 0 w fun y1 b3 n4 w5=>(F98j1 t0 t1 R y1 b3 n4 w5)
theorem F98_ok(t0:Option Addr)(t1:Option Addr)(w:World)(R:RV)(h:F98 t0 t1 w R):Cw 98 #[Value.pointer t0,Value.pointer t1] w R:=
 ckF Tryz.func98 (nd (.node (nd (.loop [(5,oi)] (rg [4,21]) (nd (.node (.join [(21,ob)] (rg [10,21]) .nil .nil) .nil)))) .nil)) h (by kernel_rfl) (by kernel_rfl)
abbrev st1000(b:Nat):Sl:=⟨some ⟨b,0,none⟩,1000,1000⟩
def SetP(w:World)(b:Nat)(Q:Nat->Prop):Prop:=∃bs:List Bool,OwS w (st1000 b) 1 (bs.map encB)/\bs.length=1000/\∀k,k<1000->(bs[k]? =some true↔Q k)
theorem SetP.ext{w w':World}{b:Nat}{Q:Nat->Prop}(h:SetP w b Q)(e:Ext w w'):SetP w' b Q:=by
 obtain⟨bs,h1,h2⟩:=h
 exact⟨bs,h1.ext e,h2⟩
theorem SetP.iff{w:World}{b:Nat}{Q Q':Nat->Prop}(h:SetP w b Q)(hq:∀k,k<1000->(Q' k↔Q k)):SetP w b Q':=by
 obtain⟨bs,h1,h2,h3⟩:=h
 exact⟨bs,h1,h2,fun k hk=>(h3 k hk).trans (hq k hk).symm⟩
theorem SetP.get{w:World}{b:Nat}{Q:Nat->Prop}(h:SetP w b Q){k:Nat}(hk:k<1000):∃r,w.cell? ⟨b,0+k,none⟩=some (.bool r)/\(r=true↔Q k):=by
 obtain⟨bs,h1,h2,h3⟩:=h
 have hx:bs[k]? =some (bs[k]'(by omega)):=List.getElem?_eq_getElem (by omega)
 obtain⟨b',hp,hc⟩:=h1.elem1 (i:=k) (v:=encB (bs[k]'(by omega))) (by rw[List.getElem?_map,hx];rfl)
 cases hp
 refine⟨bs[k]'(by omega),by rw[Nat.zero_add];exact hc,?_⟩
 rw[<-h3 k hk,hx];simp
theorem SetP.put{w:World}{b:Nat}{Q:Nat->Prop}(h:SetP w b Q){k:Nat}(hk:k<1000){K:World->Prop}(hK:∀w',SetP w' b (fun k'=>Q k'\/k'=k)->Ch (fun i=>i=b) w w'->K w'):StoreP w b (0+k) [.bool true] K:=by
 obtain⟨bs,h1,h2,h3⟩:=h
 rw[Nat.zero_add]
 refine h1.store (vs:=[.bool true]) rfl (by simp;omega) (by intro v hv;rw[List.mem_singleton.1 hv];rfl) fun w' ho hC=>hK w' ⟨bs.set k true,?_,by rw[List.length_set];exact h2,fun k' hk'=>?_⟩ hC
 ·have e:(bs.map encB).take k++[.bool true]++(bs.map encB).drop (k+1)=(bs.set k true).map encB:=by
   rw[List.set_eq_take_append_cons_drop,if_pos (by omega),List.map_append,List.map_cons,List.map_take,List.map_drop]
   simp[encB]
  rw[<-e];exact ho
 ·rw[List.getElem?_set]
  by_cases e:k=k'
  ·subst e;simp[h2,hk]
  ·rw[if_neg e,h3 k' hk'];simp[Ne.symm e]
theorem c97{w:World}{t:Sl}{xs:List Spn}(h:Rd w t 2 (xs.flatMap sv))(hl:xs.length<=1000000):
  Cw 97 #[slV t] w fun v w'=>∃b,v=.pointer (some ⟨b,0,none⟩)/\SetP w' b (fun k=>hasS xs k)/\w.heap.size<=b/\Ext w w':=by
 have hn:=rdN sv_len (by omega) h
 refine F97_ok t w _ fun b1 w2 a2=>?_
 have e2:Ext w w2:=a2.ch _
 have p2:=a2.here
 have hS0:SetP w2 b1 (fun k=>hasS (xs.take 0) k):=by
  refine⟨List.replicate 1000 false,OwS.new (w:=w) (T:=188) ?_ (by rw[List.length_map,List.length_replicate]),by rw[List.length_replicate],fun k hk=>?_⟩
  ·have:((List.replicate 1000 false).map encB).toArray=Array.replicate 1000 (Value.bool false):=by rw[List.map_replicate,List.toArray_replicate];rfl
   rw[this];exact a2
  ·rw[List.getElem?_replicate,if_pos hk];simp[hasS]
 refine⟨fun m x W=>∃i:Nat,i<=xs.length/\m+i=xs.length/\x=(i:Int)/\SetP W b1 (fun k=>hasS (xs.take i) k)/\Ch (fun j=>j=b1) w2 W,⟨xs.length,0,Nat.zero_le _,rfl,rfl,hS0,Ch.refl _ _⟩,?_⟩
 rintro m _ W g ⟨i,hi,hmi,rfl,hS,hC⟩
 have E:Ext w W:=e2.chN hC fun j e=>by omega
 refine⟨fun _ w12=>w12=W/\i<xs.length,IfB.dec (fun hlt=>⟨rfl,rfl,by omega⟩) fun hge=>?_,?_⟩
 ·have hi':i=xs.length:=by omega
  subst hi'
  rw[List.take_length] at hS
  exact⟨b1,rfl,hS,by omega,E⟩
 rintro _ _ g ⟨rfl,hi'⟩
 have hx:xs[i]? =some xs[i]:=List.getElem?_eq_getElem hi'
 have htk:=take_succ_get hx
 generalize xs[i]=s at hx htk
 obtain⟨a,o,hp,hc⟩:=(h.ext E).elem (i:=i) (by omega) (by omega) (flatGet sv_len hx)
 have hb:(0:Int)<=(i:Int)/\(i:Int)<(t.n:Int):=⟨by omega,by omega⟩
 have hi1:IntKind.i64.wrap ((i:Int)+1)=((i+1:Nat):Int):=by rw[wrap_of (by omega) (by omega)];rfl
 have skip:(s.1<0\/999<s.2)->SetP _ b1 (fun k=>hasS (xs.take (i+1)) k):=fun hs=>hS.iff fun k hk=>by
  rw[htk,hasS_append,hasS_one]
  unfold mayS
  constructor
  ·rintro(h|h)
   ·exact h
   ·omega
  ·exact .inl
 unfold F97j2
 refine⟨a,o,hp,hb,s.1,by rw[Int.toNat_natCast];exact hc.fst,IfB.dec (fun h1=>⟨rfl,m-1,by omega,i+1,hi',by omega,hi1,skip (.inl h1),hC⟩) fun h1=>⟨a,o,hp,hb,s.2,by rw[Int.toNat_natCast];exact hc.snd,IfB.dec (fun h2=>⟨rfl,m-1,by omega,i+1,hi',by omega,hi1,skip (.inr h2),hC⟩) fun h2=>?_⟩⟩
 refine⟨a,o,hp,hb,s.1,by rw[Int.toNat_natCast];exact hc.fst,fun n x W'=>(s.1<=x/\(x<=s.2+1\/x=s.1))/\n=(s.2+1-x).toNat/\SetP W' b1 (fun k=>hasS (xs.take i) k\/(s.1<=(k:Int)/\(k:Int)<x))/\Ch (fun j=>j=b1) w2 W',
  ⟨_,⟨by omega,.inr rfl⟩,rfl,hS.iff fun k hk=>⟨fun h=>h.elim id fun h=>by omega,.inl⟩,hC⟩,?_⟩
 rintro n x W' g ⟨⟨hx1,hx2⟩,rfl,hS',hC'⟩
 have E':Ext w W':=e2.chN hC' fun j e=>by omega
 obtain⟨a',o',hp',hc'⟩:=(h.ext E').elem (i:=i) (by omega) (by omega) (flatGet sv_len hx)
 unfold F97j3
 refine⟨a',o',hp',hb,s.2,by rw[Int.toNat_natCast];exact hc'.snd,IfB.dec (fun h3=>⟨⟨by omega,by omega⟩,rfl,hS'.put (k:=x.toNat) (by omega) fun w3 hS3 hC3=>⟨rfl,(s.2+1-(x+1)).toNat,by omega,?_,?_,?_,hC'.trans hC3⟩⟩) fun h3=>⟨rfl,m-1,by omega,i+1,hi',by omega,hi1,?_,hC'⟩⟩
 ·rw[wrap_of (by omega) (by omega)];omega
 ·rw[wrap_of (by omega) (by omega)]
 ·rw[wrap_of (by omega) (by omega)]
  exact hS3.iff fun k hk=>by
   rw[or_assoc]
   exact or_congr Iff.rfl (by omega)
 ·refine hS'.iff fun k hk=>?_
  rw[htk,hasS_append,hasS_one]
  refine or_congr Iff.rfl ?_
  unfold mayS;omega
set_option maxRecDepth 20000 in
theorem c98{w:World}{b1 b2:Nat}{Q1 Q2:Nat->Prop}(h1:SetP w b1 Q1)(h2:SetP w b2 Q2):
  Cw 98 #[.pointer (some ⟨b1,0,none⟩),.pointer (some ⟨b2,0,none⟩)] w fun v w'=>∃r,v=.bool r/\(r=true↔∃k,k<1000/\Q1 k/\Q2 k)/\w=w':=by
 refine F98_ok _ _ w _ ?_
 unfold F98
 refine⟨fun m x W=>∃i:Nat,i<=1000/\m+i=1000/\x=(i:Int)/\w=W/\∀k,k<i->¬(Q1 k/\Q2 k),?_,?_⟩
 ·exact⟨1000,0,by omega,by omega,by omega,Eq.refl w,fun k hk=>by omega⟩
 rintro m _ _ g ⟨i,hi,hmi,rfl,rfl,hno⟩
 unfold F98j1
 refine IfB.dec (fun hlt=>?_) fun hge=>⟨false,rfl,⟨fun h=>(by cases h),fun⟨k,hk,hq⟩=>absurd hq (hno k (by omega))⟩,rfl⟩
 have hi':i<1000:=by omega
 obtain⟨r1,c1,hr1⟩:=h1.get hi'
 obtain⟨r2,c2,hr2⟩:=h2.get hi'
 have hb:(0:Int)<=(i:Int)/\(i:Int)<((1000:Nat):Int):=⟨by omega,by omega⟩
 refine⟨fun r W=>w=W/\(r=true↔Q1 i/\Q2 i),⟨b1,0,rfl,hb,r1,by rw[Int.toNat_natCast];exact c1,IfB.intro (fun h=>⟨b2,0,rfl,hb,r2,by rw[Int.toNat_natCast];exact c2,rfl,rfl,by rw[hr2];exact⟨fun h'=>⟨hr1.1 h,h'⟩,fun h'=>h'.2⟩⟩) fun h=>⟨rfl,rfl,⟨fun h'=>(by cases h'),fun h'=>by rw[hr1.2 h'.1] at h;cases h⟩⟩⟩,?_⟩
 rintro r _ g ⟨rfl,hr⟩
 refine IfB.intro (fun h=>⟨true,rfl,⟨fun _=>⟨i,hi',hr.1 h⟩,fun _=>rfl⟩,rfl⟩) fun h=>⟨rfl,m-1,by omega,i+1,hi',by omega,by rw[wrap_of (by omega) (by omega)];rfl,rfl,fun k hk hq=>?_⟩
 by_cases e:k=i
 ·subst e;rw[hr.2 hq] at h;cases h
 ·exact hno k (by omega) hq
def AsksP(x:CatD)(l:List Acv)(i:Int):Prop:=0<=i/\i<(l.length:Int)/\∃o,l[i.toNat]? =some o/\o.v.2.2.2.1=0/\o.v.2.2.1≠(nSt x o.v.1.toNat:Int)
def InWay(x:CatD)(l:List Acv)(i k:Nat):Prop:=k≠i/\∃a o,l[k]? =some a/\l[i]? =some o/\BlkP x a o
noncomputable def BlL(x:CatD)(l:List Acv)(i m:Nat):List Nat:=(List.range m).filter fun k=>bq (InWay x l i k)
theorem BlL_succ(x:CatD)(l:List Acv)(i m:Nat):BlL x l i (m+1)=BlL x l i m++if bq (InWay x l i m)=true then [m] else []:=by
 unfold BlL
 rw[List.range_succ,List.filter_append]
 cases h:bq (InWay x l i m)<;>simp[h]
theorem BlL_len(x:CatD)(l:List Acv)(i m:Nat):(BlL x l i m).length<=m:=Nat.le_trans (List.length_filter_le _ _) (by simp)
abbrev natV(k:Nat):Value:=iv (k:Int)
theorem CatM.steps{w:World}{v:CatV}{x:CatD}(h:CatM w v x)(hk:CatOk x){a:Acv}(h0:0<=a.v.1)(h1:a.v.1<(x.1.length:Int)):∃pb o u,∃y:ClsD,x.1[a.v.1.toNat]? =some y/\ClsOk y/\v.1.p=some ⟨pb,o,none⟩/\(0<=a.v.1/\a.v.1<(v.1.n:Int))/\CellsAt w pb (o+a.v.1.toNat*5) (clsC u)/\ClsM w u y/\u.2.2.1.n=nSt x a.v.1.toNat:=by
 have hn:=cat_cl h
 have hc:a.v.1.toNat<x.1.length:=by omega
 have hx:x.1[a.v.1.toNat]? =some x.1[a.v.1.toNat]:=List.getElem?_eq_getElem hc
 have hxm:x.1[a.v.1.toNat]∈x.1:=List.getElem_mem hc
 generalize x.1[a.v.1.toNat]=y at hx hxm
 obtain⟨pb,o,u,hp,hcell,hM⟩:=ClsR.at h.cl hx
 exact⟨pb,o,u,y,hx,hk.cls y hxm,hp,⟨h0,by omega⟩,hcell,hM,by rw[nSt_of hx];exact hM.st.n⟩
theorem c22{w:World}{v:CatV}{x:CatD}{t:Sl}{l:List Acv}(h:CatM w v x)(hL:AcL w t l)(i:Int):
  Cw 22 #[cxV v,slV t,iv i] w fun r w'=>∃(t':Sl)(os:List Nat),r=slV t'/\OwS w' t' 1 (os.map natV)/\(AMay x l/\AsksP x l i->os=BlL x l i.toNat l.length)/\(¬(AMay x l/\AsksP x l i)->os=[])/\Ext w w':=by
 have hn:=hL.n
 refine F22_ok v t i w _ fun b1 w2 a2=>?_
 have e2:Ext w w2.drew:=(a2.ch _).trans (extDrew _)
 refine⟨v,cxN h a2.new (extDrew _),(c23 (h.ext e2) (hL.ext e2)).use ?_⟩
 rintro _ w7 ⟨r,rfl,hr,e7⟩
 have x7:Ext w2 w7:=(extDrew _).trans e7
 have E7:=e2.trans e7
 have no:¬(AMay x l/\AsksP x l i)->∃(t':Sl)(os:List Nat),Value.slice none 0 0=slV t'/\OwS w7 t' 1 (os.map natV)/\(AMay x l/\AsksP x l i->os=BlL x l i.toNat l.length)/\(¬(AMay x l/\AsksP x l i)->os=[])/\Ext w w7:=fun h=>⟨⟨none,0,0⟩,[],rfl,.nil _ _,fun h'=>absurd h' h,fun _=>rfl,E7⟩
 refine⟨r,rfl,IfB.intro (fun h1=>no fun h=>?_) fun h1=>?_⟩
 ·have h1:r=false:=by simpa using h1
  rw[hr.2 h.1] at h1;cases h1
 have hM:=hr.1 (by simpa using h1)
 have hl12:=hM.l12
 refine IfB.dec (fun h2=>no fun h=>by have:=h.2.1;omega) fun h2=>IfB.dec (fun h3=>no fun h=>by have:=h.2.2.1;omega) fun h3=>?_
 have hi:i.toNat<l.length:=by omega
 have hx:l[i.toNat]? =some l[i.toNat]:=List.getElem?_eq_getElem hi
 have hxm:l[i.toNat]∈l:=List.getElem_mem hi
 generalize l[i.toNat]=o at hx hxm
 have hoo:=hM.all o hxm
 have hod:=hoo.dl
 obtain⟨ob,oo,hop,hoc⟩:=(hL.ext E7).at hx
 have hbn:(0:Int)<=i/\i<(t.n:Int):=⟨by omega,by omega⟩
 refine⟨ob,oo,hop,hbn,_,hoc 3 _ rfl,IfB.intro (fun h4=>no fun h=>?_) fun h4=>?_⟩
 ·obtain⟨_,_,o',ho',h5,_⟩:=h.2
  rw[hx] at ho';cases ho'
  rw[h5] at h4;cases h4
 have h4:o.v.2.2.2.1=0:=by simpa using h4
 obtain⟨pb,po,u,y,hy,hyk,hp,hpn,hpc,hu,hun⟩:=(h.ext E7).steps hM.cat hoo.c0 hoo.cn
 refine⟨ob,oo,hop,hbn,_,hoc 2 _ rfl,v.1,boxAt (cs:=cxC v) a2.new 0 x7,ob,oo,hop,hbn,_,hoc 0 _ rfl,pb,po,hp,hpn,u.2.2.1,hpc 2 _ rfl,IfB.intro (fun h5=>no fun h=>?_) fun h5=>?_⟩
 ·obtain⟨_,_,o',ho',_,h6⟩:=h.2
  rw[hx] at ho';cases ho'
  apply h6
  have h5:o.v.2.2.1=(u.2.2.1.n:Int):=by simpa using h5
  rw[h5,hun]
 have h5:o.v.2.2.1≠(nSt x o.v.1.toNat:Int):=by
  rw[<-hun];simpa using h5
 have hA:AsksP x l i:=⟨by omega,by omega,o,hx,h4,h5⟩
 refine⟨fun m z W=>∃(k:Nat)(so:Sl),k<=l.length/\m+k=l.length/\z=(so,(k:Int))/\OwS W so 1 ((BlL x l i.toNat k).map natV)/\Ext w7 W/\∀j∈blk so,w7.heap.size<=j,⟨l.length,0,⟨none,0,0⟩,Nat.zero_le _,rfl,rfl,.nil _ _,Ch.refl _ _,by simp[blk]⟩,?_⟩
 rintro m _ W g ⟨k,so,hk,hmk,rfl,hO,eW,hb⟩
 unfold F22j1
 refine IfB.dec (fun hlt=>?_) fun hge=>?_
 ·have hk':k<l.length:=by dsimp only at hlt;omega
  have hx2:l[k]? =some l[k]:=List.getElem?_eq_getElem hk'
  have hxm2:l[k]∈l:=List.getElem_mem hk'
  generalize l[k]=a at hx2 hxm2
  obtain⟨sb,so',hsp,hsc⟩:=(hL.ext (E7.trans eW)).at hx2
  refine⟨sb,so',hsp,(⟨by omega,hlt⟩:(0:Int)<=(k:Int)/\(k:Int)<(t.n:Int)),a.v,by dsimp only;rw[Int.toNat_natCast];exact hsc,fun b32 w33 a33=>⟨rfl,store_all (vs:=acC a.v) a33.new rfl (acC_one a.v) fun w34 u34=>?_⟩⟩
  have e34:Ext W w34:=Ext.fresh a33 u34
  have ed:=extDrew w34
  have e34d:=e34.trans ed
  have hw1:IntKind.i64.wrap ((k:Int)+1)=((k+1:Nat):Int):=by rw[wrap_of (by omega) (by omega)];rfl
  refine IfB.intro (fun h6=>?_) fun h6=>⟨(by trivial),m-1,by omega,k+1,so,hk',by omega,by dsimp only;rw[hw1],?_,eW.trans e34d,hb⟩
  ·have h6:k≠i.toNat:=by
    have h6:(k:Int)≠i:=by simpa using h6
    omega
   unfold F22k1
   have ED:=(E7.trans eW).trans e34d
   obtain⟨ob2,oo2,hop2,hoc2⟩:=(hL.ext ED).at hx
   refine⟨v,cxN h a2.new ((x7.trans eW).trans e34d),a.v,boxAll (cs:=acC a.v) u34.new ed,ob2,oo2,hop2,hbn,o.v,hoc2,(c72 (h.ext ED) hM.cat ((hL.ext ED).ok a hxm2) (hM.all a hxm2) ((hL.ext ED).ok o hxm) hoo (by omega)).use ?_⟩
   rintro _ w43 ⟨t44,rfl,h44,e43⟩
   have eq:InWay x l i.toNat k↔t44=true:=by
    rw[h44]
    exact⟨fun⟨_,a',o',ha',ho',hB⟩=>by rw[hx2] at ha';rw[hx] at ho';cases ha';cases ho';exact hB,fun hB=>⟨h6,a,o,hx2,hx,hB⟩⟩
   have e43':=e34d.trans e43
   refine⟨t44,rfl,IfB.intro (fun h7=>⟨by decide,fun b45 w46 a46=>?_⟩) fun h7=>⟨(by trivial),m-1,by omega,k+1,so,hk',by omega,by dsimp only;rw[hw1],?_,eW.trans e43',hb⟩⟩
   ·have e46:Ext W w46:=e43'.trans (a46.ch _)
    have hon:=hO.len
    rw[List.length_map,Nat.mul_one] at hon
    have hbl:=BlL_len x l i.toNat k
    refine(hO.ext e46).lit (new:=[natV k]) (T':=3) a46.new rfl (by intro v hv;rw[List.mem_singleton.1 hv];rfl) rfl rfl (by omega) (by decide) fun s' w' ho' hn' hC' hbk=>⟨(by trivial),m-1,by omega,k+1,s',hk',by omega,by dsimp only;rw[hw1],?_,(eW.trans e46).chN hC' hb,fun j hj=>?_⟩
    ·rw[BlL_succ,if_pos (bq_iff.2 (eq.2 h7)),List.map_append]
     exact ho'
    ·rcases hbk j hj with h'|h'
     ·exact hb j h'
     ·have:=eW.size;have:=e46.size;omega
   ·rw[BlL_succ,if_neg (by rw[bq_iff,eq];intro h;rw[h] at h7;cases h7),List.append_nil]
    exact hO.ext e43'
  ·have h6:k=i.toNat:=by
    have h6:(k:Int)=i:=by simpa using h6
    omega
   rw[BlL_succ,if_neg (by rw[bq_iff];exact fun h=>h.1 h6),List.append_nil]
   exact hO.ext e34d
 ·have hk':k=l.length:=by dsimp only at hge;omega
  subst hk'
  exact⟨so,_,rfl,hO,fun _=>rfl,fun h=>absurd ⟨hM,hA⟩ h,E7.trans eW⟩
theorem c193{w:World}{u:Sl}{args:List Int}{k:KeyD}(ha:Rd w u 1 (args.map iv))(hk:KeyOk k args.length)(hargs:ArgsOk args):
  Cw 193 #[keyV k,slV u] w fun v w'=>v=iv (keyAt k args)/\Ext w w':=by
 have hn:=rdI ha
 have h2:=hk.2
 refine F193_ok k u w _ fun b1 w2 a2=>?_
 have e2:Ext w w2:=a2.ch _
 have ed:=extDrew w2
 have q:=fun{W:World} (j:Nat) (e:Ext w2 W)=>boxAt (cs:=keyC k) a2.new j e
 refine⟨k.1,q 0 (Ch.refl _ _),IfB.dec (fun h1=>⟨k.2,q 1 (Ch.refl _ _),by unfold keyAt;rw[if_pos h1],e2⟩) fun h1=>?_⟩
 have hi:k.1.toNat<args.length:=by omega
 have hx:args[k.1.toNat]? =some args[k.1.toNat]:=List.getElem?_eq_getElem hi
 have hr:=hargs.2 _ (List.getElem_mem hi)
 obtain⟨pb,po,hp,hc⟩:=rdI_get (ha.ext (e2.trans ed)) hx
 refine⟨k.2,q 1 ed,k.1,q 0 ed,pb,po,hp,⟨by omega,by omega⟩,_,hc,?_,e2.trans ed⟩
 unfold keyAt
 rw[if_neg h1,List.getD_eq_getElem?_getD,hx,Option.getD_some,wrap_of (by omega) (by omega)]
theorem c144{w:World}{t u:Sl}{l:List SpTD}{args:List Int}(h:Rd w t 5 (l.flatMap spTC))(ha:Rd w u 1 (args.map iv))(hf:FootOk l args.length)(hargs:ArgsOk args)(wr:Bool):
  Cw 144 #[slV t,slV u,.bool wr] w fun v w'=>∃b,v=.pointer (some ⟨b,0,none⟩)/\SetP w' b (fun k=>hasS (footS (fun s=>s.2.2 || !wr) l args) k)/\w.heap.size<=b/\Ext w w':=by
 have hn:=rdN spTC_len (by omega) h
 have hl4:=hf.l4
 obtain⟨q,hq⟩:∃q:SpTD->Bool,q=fun s=>s.2.2 || !wr:=⟨_,rfl⟩
 rw[<-hq]
 refine F144_ok t u wr w _ ⟨fun m x W=>∃(i:Nat)(so:Sl),i<=l.length/\m+i=l.length/\x=(so,(i:Int))/\OwS W so 2 ((footS q (l.take i) args).flatMap sv)/\Ext w W/\∀j∈blk so,w.heap.size<=j,⟨l.length,0,⟨none,0,0⟩,Nat.zero_le _,rfl,rfl,.nil _ _,Ch.refl _ _,by simp[blk]⟩,?_⟩
 rintro m _ W g ⟨i,so,hi,hmi,rfl,hO,hE,hb⟩
 have hfl:(footS q (l.take i) args).length<=i:=by
  unfold footS
  rw[List.length_map]
  exact Nat.le_trans (List.length_filter_le _ _) (by rw[List.length_take];omega)
 have hon:=owsN sv_len (by omega) hO
 unfold F144j1
 refine IfB.dec (fun hlt=>?_) fun hge=>?_
 ·have hi':i<l.length:=by dsimp only at hlt;omega
  have hx:l[i]? =some l[i]:=List.getElem?_eq_getElem hi'
  have hxm:l[i]∈l:=List.getElem_mem hi'
  have htk:=take_succ_get hx
  generalize l[i]=s at hx hxm htk
  obtain⟨b,o,hp,hc⟩:=(h.ext hE).elem (i:=i) (by omega) (by omega) (flatGet spTC_len hx)
  have hbn:(0:Int)<=(i:Int)/\(i:Int)<(t.n:Int):=⟨by omega,hlt⟩
  have hw1:IntKind.i64.wrap ((i:Int)+1)=((i+1:Nat):Int):=by rw[wrap_of (by omega) (by omega)];rfl
  have take1:q s=true->F144k1 t (so,(i:Int)) W u m (fun m x W=>∃(i:Nat)(so:Sl),i<=l.length/\m+i=l.length/\x=(so,(i:Int))/\OwS W so 2 ((footS q (l.take i) args).flatMap sv)/\Ext w W/\∀j∈blk so,w.heap.size<=j):=fun hqs=>by
   unfold F144k1
   have ed:=extDrew W
   obtain⟨b,o,hp,hc⟩:=(h.ext (hE.trans ed)).elem (i:=i) (by omega) (by omega) (flatGet spTC_len hx)
   have hlo:∀ {V:World},CellsAt V b (o+i*5) (spTC s)->CellsAt V b (o+i*5+0) (keyC s.1)/\CellsAt V b (o+i*5+2) (keyC s.2.1):=fun hc=>⟨fun j v hv=>by
    match j,hv with
    | 0,hv=>exact hc 0 v hv
    | 1,hv=>exact hc 1 v hv,fun j v hv=>by
    match j,hv with
    | 0,hv=>exact hc 2 v hv
    | 1,hv=>exact hc 3 v hv⟩
   refine⟨b,o,hp,hbn,s.1,by dsimp only;rw[Int.toNat_natCast];exact(hlo hc).1,b,o,hp,hbn,s.2.1,by dsimp only;rw[Int.toNat_natCast];exact(hlo hc).2,(c193 (ha.ext (hE.trans ed)) (hf.all s hxm).1 hargs).use ?_⟩
   rintro _ w18 ⟨rfl,e18⟩
   obtain⟨b',o',hp',hc'⟩:=(h.ext ((hE.trans ed).trans e18)).elem (i:=i) (by omega) (by omega) (flatGet spTC_len hx)
   rw[hp] at hp';cases hp'
   refine⟨_,rfl,by dsimp only;rw[Int.toNat_natCast];exact(hlo hc').2,(c193 (ha.ext ((hE.trans ed).trans e18)) (hf.all s hxm).2 hargs).use ?_⟩
   rintro _ w21 ⟨rfl,e21⟩
   refine⟨_,rfl,by decide,fun b23 w24 a24=>?_⟩
   have e24:Ext W w24:=((ed.trans e18).trans e21).trans (a24.ch _)
   refine(hO.ext e24).lit (new:=[iv (keyAt s.1 args),iv (keyAt s.2.1 args)]) (T':=101) a24.new rfl (by intro v hv;simp at hv;rcases hv with rfl|rfl<;>rfl) rfl rfl (by omega) (by decide) fun s' w' ho' hn' hC' hbk=>⟨(by trivial),m-1,by omega,i+1,s',hi',by omega,by dsimp only;rw[hw1],?_,(hE.trans e24).chN hC' hb,fun j hj=>?_⟩
   ·unfold footS at ho' ⊢
    rw[htk,List.filter_append,List.map_append,List.flatMap_append]
    have:[s].filter q=[s]:=by simp[hqs]
    rw[this]
    simp only[List.map_cons,List.map_nil,List.flatMap_cons,List.flatMap_nil,List.append_nil]
    exact ho'
   ·rcases hbk j hj with h|h
    ·exact hb j h
    ·have:=hE.size;have:=e24.size;omega
  refine⟨b,o,hp,hbn,s.2.2,by dsimp only;rw[Int.toNat_natCast];exact hc 4 _ rfl,IfB.intro (fun h1=>take1 (by rw[hq];simp[h1])) fun h1=>IfB.intro (fun h2=>take1 (by rw[hq];simp[h2])) fun h2=>⟨(by trivial),m-1,by omega,i+1,so,hi',by omega,by dsimp only;rw[hw1],?_,hE,hb⟩⟩
  unfold footS at hO ⊢
  have hqs:q s=false:=by rw[hq];dsimp only;rw[show s.2.2=false from h1,h2];rfl
  rw[htk,List.filter_append]
  have:[s].filter q=[]:=by simp[hqs]
  rw[this,List.append_nil]
  exact hO
 ·have hi':i=l.length:=by dsimp only at hge;omega
  subst hi'
  rw[List.take_length] at hO hfl
  refine(c97 hO.rd (by omega)).use ?_
  rintro _ w49 ⟨b,rfl,hS,hb',e49⟩
  exact⟨_,rfl,b,rfl,hS,by have:=hE.size;omega,hE.trans e49⟩
theorem F131_ok(t0:Sl)(w:World)(R:RV)(h:AllocP w (Obj.cells #[Qy t0] 30) fun b1 w2=>R (Value.func (Fn.func 184) #[] #[Value.pointer (some ⟨b1,0,none⟩)]) w2):Cw 131 #[Qy t0] w R:=
 ckF Tryz.func131 .nil h (by kernel_rfl) (by kernel_rfl)
def F184j1(t0:Nat)(R:RV)(s1:Sl)(y2:Nat->Int->World->Prop)(b4:Nat)(n5:Int)(w6:World):Prop:=IfB (decide (n5<(s1.n:Int))) (Qx s1.1 n5 (s1.2:Int) fun b9 b10=>Qi w6 b9 (b10+n5.toNat) fun n11=>YW Tryz.prog t0 #[Qz n11] w6 fun(t12:Bool) (w13:World)=>IfB (!t12) (R (Value.tuple #[]) w13) (Qn y2 b4 (IntKind.i64.wrap (n5+1)) w13)) (R (Value.tuple #[]) w6)
theorem F184_ok(t0:Nat)(t1:Nat)(w:World)(R:RV)(h:∃s1:Sl,w.cell? ⟨t1,0,none⟩=some (Qy s1)/\Ql (α:=Int) 0 w fun y2 b4 n5 w6=>(F184j1 t0 R s1 y2 b4 n5 w6)):Cw 184 #[Value.func (Fn.yield t0) #[] #[],Value.pointer (some ⟨t1,0,none⟩)] w R:=
 ckF Tryz.func184 (nd (.loop [(7,oi)] (rg [4,4,7,15]) .nil)) h (by kernel_rfl) (by kernel_rfl)
theorem valuesIt{w:World}{b1:Nat}{s:Sl}{xs:List Int}{T:TypeId}(hb:w.heap[b1]? =some (.cells #[slV s] T (0,0)))(hr:Rd w s 1 (xs.map iv))(hlt:0<s.n->∀i∈blk s,i<w.heap.size)(hl:xs.length<=1000000):
  IntIt 184 #[.pointer (some ⟨b1,0,none⟩)] w fun ys=>ys=xs:=by
 have hb1:=heap_lt hb
 have hn:s.n=xs.length:=by have:=hr.len1;rw[List.length_map] at this;exact this
 refine⟨fun pre x=>pre++[x]<+:xs,fun W=>W.heap[b1]? =some (.cells #[slV s] T (0,0))/\Rd W s 1 (xs.map iv),fun pre=>pre<+:xs,⟨en184,?_⟩,⟨hb,hr⟩,?_,?_,List.nil_prefix,fun _ _ _ h=>h,fun l h=>Nat.le_trans h.length_le hl⟩
 ·intro l J Jx W hJ hJx hInv hsz hB hstep hJ0
  obtain⟨k1,k2⟩:=hInv _ _ hJ0
  refine F184_ok l b1 W _ ⟨s,by rw[cell_of k1];rfl,fun k n W'=>∃i:Nat,n=(i:Int)/\k+i=xs.length/\J (xs.take i) W',⟨xs.length,0,rfl,rfl,by rw[List.take_zero];exact hJ0⟩,?_⟩
  rintro k _ W' g ⟨i,rfl,hk,hj⟩
  unfold F184j1
  refine IfB.dec (fun hlt=>?_) fun hge=>?_
  ·have hi:i<xs.length:=by omega
   obtain⟨_,hr'⟩:=hInv _ _ hj
   have hx:xs[i]? =some xs[i]:=List.getElem?_eq_getElem hi
   generalize xs[i]=x at hx
   obtain⟨a,o,ha,hc⟩:=hr'.elem1 (v:=iv x) (i:=i) (by rw[List.getElem?_map,hx];rfl)
   have hpre:xs.take i++[x]<+:xs:=by rw[<-take_succ_get hx];exact List.take_prefix _ _
   refine⟨a,o,ha,⟨by omega,hlt⟩,x,by rw[Int.toNat_natCast];exact hc,(hstep (xs.take i) x W' hj hpre).mono fun t w18 ht=>?_⟩
   cases t with
   | false=>exact IfB.yes rfl (.inr ⟨_,ht⟩)
   | true=>exact IfB.no rfl ⟨rfl,k-1,by omega,i+1,wp1 (by omega),by omega,by rw[take_succ_get hx];exact ht.1⟩
  ·have:i=xs.length:=by omega
   subst this
   rw[List.take_length] at hj
   exact .inl ⟨xs,rfl,hj⟩
 ·rintro n W W' ⟨h1,h2⟩ hS
  exact⟨hS.keep _ _ h1 rfl,rd_stb h2 hS⟩
 ·rintro F W W' ⟨h1,h2⟩ hc hF
  exact⟨hc.at h1 fun h=>by have:=hF _ h;omega,h2.ch0 hc fun h0 b hb h=>by have:=hlt h0 b hb;have:=hF _ h;omega⟩
def F111(t0:Sl)(w:World)(R:RV):Prop:=IfB t0.1.isNone (R (Value.slice none 0 0) w) (0*1<=16777216/\AllocP w (Obj.cells #[] 3) fun b1 w2=>∃(l3:List Value),ReadC w2 t0.1 (t0.2*1) l3/\AppendP tt3 3 w2 (some ⟨b1,0,none⟩) 0 0 t0.2 l3 fun s4 w5=>R (Qy s4) w5)
theorem F111_ok(t0:Sl)(w:World)(R:RV)(h:F111 t0 w R):Cw 111 #[Qy t0] w R:=
 ckF Tryz.func111 .nil h (by kernel_rfl) (by kernel_rfl)
theorem c111{w:World}{t:Sl}{xs:List Int}(h:Rd w t 1 (xs.map iv))(hl:xs.length<=1000000):Cw 111 #[slV t] w fun v w'=>∃t',v=slV t'/\OwS w' t' 1 (xs.map iv)/\Ext w w'/\∀i∈blk t',w.heap.size<=i:=by
 have hn:=rdI h
 refine F111_ok t w _ ?_
 have e:∀R,F111 t w R=CloneF tt3 3 1 t w R:=fun _=>rfl
 rw[e]
 refine CloneF_of h rfl rfl (fun v hv=>by obtain⟨x,_,rfl⟩:=List.mem_map.1 hv;rfl) ⟨by omega,?_⟩ (fun s' w' h1 h2 h3 h4=>⟨s',rfl,h1,h3,h4⟩) fun hp=>?_
 ·show 2*t.n*8<=_
  omega
 ·have h2:=h.2
  rw[hp] at h2
  have:xs.map iv=[]:=h2
  rw[hn,List.map_eq_nil_iff.1 this];rfl
def F161j1(t0:Sl)(t1:Int)(R:RV)(y1:Nat->Int->World->Prop)(b3:Nat)(n4:Int)(w5:World):Prop:=IfB (decide (n4<(t0.n:Int))) (Qx t0.1 n4 (t0.2:Int) fun b8 b9=>Qi w5 b8 (b9+n4.toNat) fun n10=>IfB (t1 == n10) (R (Qz n4) w5) (Qn y1 b3 (IntKind.i64.wrap (n4+1)) w5)) (R (Qz (-1:Int)) w5)
theorem F161_ok(t0:Sl)(t1:Int)(w:World)(R:RV)(h:Ql (α:=Int) 0 w fun y1 b3 n4 w5=>(F161j1 t0 t1 R y1 b3 n4 w5)):Cw 161 #[Qy t0,Qz t1] w R:=
 ckF Tryz.func161 (nd (.node (nd (.loop [(8,oi)] (rg [4,5,8,18]) .nil)) .nil)) h (by kernel_rfl) (by kernel_rfl)
theorem F107_ok(t0:Sl)(t1:Int)(w:World)(R:RV)(h:Cx 161 #[Qy t0,Qz t1] w fun v1 w2=>∃n3:Int,v1=Qz n3/\R (Value.bool (decide (0<=n3))) w2):Cw 107 #[Qy t0,Qz t1] w R:=
 ckF Tryz.func107 .nil h (by kernel_rfl) (by kernel_rfl)
theorem c161{w:World}{t:Sl}{xs:List Int}(h:Rd w t 1 (xs.map iv))(hl:xs.length<=1000000)(x:Int):Cw 161 #[slV t,iv x] w fun v w'=>v=iv (idxV (xs.findIdx? fun y=>x == y))/\w=w':=by
 have hn:=rdI h
 refine F161_ok t x w _ ⟨fun k n W=>∃i:Nat,n=(i:Int)/\k+i=xs.length/\W=w/\∀j<i,∀y,xs[j]? =some y->(x == y)=false,⟨xs.length,0,rfl,rfl,rfl,fun j hj=>absurd hj (Nat.not_lt_zero _)⟩,?_⟩
 rintro k _ W g ⟨i,rfl,hk,rfl,hlow⟩
 unfold F161j1
 refine IfB.dec (fun hlt=>?_) fun hge=>?_
 ·have hi:i<xs.length:=by omega
  have hx:xs[i]? =some xs[i]:=List.getElem?_eq_getElem hi
  obtain⟨a,o,ha,hc⟩:=rdI_get h hx
  refine⟨a,o,ha,⟨by omega,hlt⟩,xs[i],by rw[Int.toNat_natCast];exact hc,IfB.intro (fun he=>⟨?_,rfl⟩) fun he=>⟨rfl,k-1,by omega,i+1,wp1 (by omega),by omega,rfl,fun j hj y hy=>?_⟩⟩
  ·have:xs.findIdx? (fun y=>x == y)=some i:=by
    rw[List.findIdx?_eq_some_iff_getElem]
    exact⟨hi,he,fun j hj=>by have:=hlow j hj _ (List.getElem?_eq_getElem (by omega));rw[this];simp⟩
   rw[this];rfl
  ·by_cases hji:j<i
   ·exact hlow j hji y hy
   ·have:j=i:=by omega
    subst this;rw[hx] at hy;cases hy;exact he
 ·have:xs.findIdx? (fun y=>x == y)=none:=by
   rw[List.findIdx?_eq_none_iff]
   intro y hy
   obtain⟨j,hj,rfl⟩:=List.getElem_of_mem hy
   exact hlow j (by omega) _ (List.getElem?_eq_getElem hj)
  rw[this];exact⟨rfl,rfl⟩
theorem idx_contains(xs:List Int)(x:Int):decide ((0:Int)<=idxV (xs.findIdx? fun y=>x == y))=decide (x∈xs):=by
 refine decide_eq_decide.2 ?_
 cases h:xs.findIdx? (fun y=>x == y) with
 | none=>
  rw[List.findIdx?_eq_none_iff] at h
  refine⟨fun h0=>absurd h0 (by simp[idxV]),fun hm=>?_⟩
  have:=h x hm
  simp at this
 | some i=>
  obtain⟨hi,he,_⟩:=List.findIdx?_eq_some_iff_getElem.1 h
  refine⟨fun _=>?_,fun _=>by simp[idxV]⟩
  have:x=xs[i]:=by simpa using he
  rw[this];exact List.getElem_mem hi
theorem c107{w:World}{t:Sl}{xs:List Int}(h:Rd w t 1 (xs.map iv))(hl:xs.length<=1000000)(x:Int):Cw 107 #[slV t,iv x] w fun v w'=>v=.bool (decide (x∈xs))/\w=w':=by
 refine F107_ok t x w _ ((c161 h hl x).use ?_)
 rintro _ _ ⟨rfl,rfl⟩
 exact⟨_,rfl,by rw[idx_contains],rfl⟩
def F132j2(t0:Sl)(R:RV)(n4:Int)(y14:Nat->Int×Int->World->Prop)(b16:Nat)(x17:Int×Int)(w18:World):Prop:=IfB (decide (x17.snd<(((t0.n-n4.toNat:Nat):Int):Int))) (Qx (slAddr t0.1 t0.3 n4.toNat 1) x17.2 ((t0.2-n4.toNat:Nat):Int) fun b21 b22=>Qi w18.drew b21 (b22+x17.2.toNat) fun n23=>Qx (slAddr t0.1 t0.3 n4.toNat 1) (IntKind.i64.wrap (x17.2-1)) ((t0.2-n4.toNat:Nat):Int) fun b24 b25=>Qi w18.drew b24 (b25+(IntKind.i64.wrap (x17.2-1)).toNat) fun n26=>IfB (n23 != n26) (Qx (slAddr t0.1 t0.3 n4.toNat 1) x17.2 ((t0.2-n4.toNat:Nat):Int) fun b27 b28=>Qi w18.drew b27 (b28+x17.2.toNat) fun n29=>Qx t0.1 x17.1 (t0.2:Int) fun b30 b31=>#[Qz n29].size=1/\StoreP w18.drew b30 (b31+x17.1.toNat) [Qz n29] fun w32=>Qn y14 b16 (IntKind.i64.wrap (x17.1+1),IntKind.i64.wrap (x17.2+1)) w32) (Qn y14 b16 (x17.1,IntKind.i64.wrap (x17.2+1)) w18.drew)) ((0<=x17.1/\x17.1<=(t0.2:Int))/\match slAddr t0.1 t0.3 x17.1.toNat 1 with|none=>(0<=x17.1/\x17.1<=(t0.3:Int))/\R (Value.slice (slAddr t0.1 t0.3 0 1) x17.1.toNat t0.3) w18|some ({ block:=b36,off:=b37,spot:=none }:Addr)=>StoreP w18 b36 b37 (zc #[Qz 0] (t0.2-x17.1.toNat)) fun w38=>(0<=x17.1/\x17.1<=(t0.3:Int))/\R (Value.slice (slAddr t0.1 t0.3 0 1) x17.1.toNat t0.3) w38|some y39=>False)
def F132j1(t0:Sl)(R:RV)(y1:Nat->Int->World->Prop)(b3:Nat)(n4:Int)(w5:World):Prop:=IfB (decide (n4<(t0.n:Int))) (Qx t0.1 n4 (t0.2:Int) fun b8 b9=>Qi w5.drew b8 (b9+n4.toNat) fun n10=>Qx t0.1 (IntKind.i64.wrap (n4-1)) (t0.2:Int) fun b11 b12=>Qi w5.drew b11 (b12+(IntKind.i64.wrap (n4-1)).toNat) fun n13=>IfB (n10 == n13) ((0<=n4/\n4<=(t0.2:Int))/\Ql (α:=Int×Int) (n4,1) w5.drew fun y14 b16 x17 w18=>(F132j2 t0 R n4 y14 b16 x17 w18)) (Qn y1 b3 (IntKind.i64.wrap (n4+1)) w5.drew)) (R (Qy t0) w5)
theorem F132_ok(t0:Sl)(w:World)(R:RV)(h:IfB (decide ((t0.n:Int)<2)) (R (Qy t0) w) (Ql (α:=Int) 1 w fun y1 b3 n4 w5=>(F132j1 t0 R y1 b3 n4 w5))):Cw 132 #[Qy t0] w R:=
 ckF Tryz.func132 (nd (nd (.node (nd (.loop [(3,oi)] (rg [2,5,10,59]) (nd (.node (.node (.draw (sts [0,1,2,3,4,5,6,7,8,9] .fin)) (.node (nd (.node (nd (.loop [(3,oi),(5,oi)] (rg [3,3,5,5,29,53]) (nd (.node (.node (.draw (sts [0,1,2,3,4,5,6,7,8,9] .fin)) .nil) .nil)))) .nil)) .nil)) .nil)))) .nil))) h (by kernel_rfl) (by kernel_rfl)
theorem c132{w:World}{t:Sl}{xs:List Int}(ho:OwS w t 1 (xs.map iv))(hl:xs.length<=1000000):Cw 132 #[slV t] w fun v w'=>∃t',v=slV t'/\OwS w' t' 1 ((compactL xs).map iv)/\t'.p=t.p/\Ch (fun i=>i∈blk t) w w':=by
 have hn:=owsI ho
 have hcap:=ho.cap
 refine F132_ok t w _ (IfB.dec (fun h2=>?_) fun h2=>?_)
 ·have:compactL xs=xs:=by
   match xs,hn with
   | [],_=>rfl
   | [x],_=>rfl
   | x::y::l,hn=>simp at hn;omega
  exact⟨t,rfl,by rw[this];exact ho,rfl,Ch.refl _ _⟩
 ·have hx2:2<=xs.length:=by omega
  obtain⟨b,hp⟩:=ho.ptr (by omega)
  have hbk:blk t=[b]:=by simp[blk,hp]
  have last_take:∀ {m:Nat}{x:Int},xs[m]? =some x->(xs.take (m+1)).getLast?=some x:=fun h=>by rw[take_succ_get h,List.getLast?_append];rfl
  have step:∀ {m:Nat}{x y:Int},xs[m]? =some x->xs[m+1]? =some y->compactL (xs.take (m+2))=compactL (xs.take (m+1))++if x=y then [] else [y]:=fun hx hy=>by
   rw[take_succ_get hy,compactL_append,last_take hx]
   simp
  refine⟨fun n x W=>∃k:Nat,x=(k:Int)/\1<=k/\n+k=xs.length/\compactL (xs.take k)=xs.take k/\Ext w W,⟨xs.length-1,1,rfl,by omega,by omega,?_,Ch.refl _ _⟩,?_⟩
  ·match xs,hx2 with
   | x::y::l,_=>rfl
  ·rintro n _ W g ⟨k,rfl,hk1,hnk,hcp,eW⟩
   unfold F132j1
   refine IfB.dec (fun hlt=>?_) fun hge=>?_
   ·have hk:k<xs.length:=by omega
    obtain⟨m,rfl⟩:∃m,k=m+1:=⟨k-1,by omega⟩
    have hy:xs[m+1]? =some xs[m+1]:=List.getElem?_eq_getElem hk
    have hx:xs[m]? =some (xs[m]'(by omega)):=List.getElem?_eq_getElem _
    generalize xs[m+1]=y at hy
    generalize xs[m]'(by omega)=x at hx
    have hst:=step hx hy
    have ed:=extDrew W
    have eW':=eW.trans ed
    obtain⟨a,ha,hcy⟩:=owsI_get (ho.ext eW') hy
    obtain⟨a',ha',hcx⟩:=owsI_get (ho.ext eW') hx
    rw[hp] at ha ha';cases ha;cases ha'
    have hm1:IntKind.i64.wrap (((m+1:Nat):Int)-(1:Int))=(m:Int):=by rw[wrap_of (by omega) (by omega)];omega
    rw[hm1]
    refine⟨b,0,hp,⟨by omega,hlt⟩,y,by rw[Int.toNat_natCast];exact hcy,b,0,hp,⟨by omega,by omega⟩,x,by rw[Int.toNat_natCast];exact hcx,IfB.intro (fun he=>?_) fun he=>?_⟩
    ·have he:y=x:=by simpa using he
     subst he
     rw[if_pos rfl,List.append_nil,hcp] at hst
     refine⟨⟨by omega,by omega⟩,?_⟩
     refine⟨fun n' x' W'=>∃(j:Nat)(gs:List Int),1<=j/\n'+(m+1+j)=xs.length/\(compactL (xs.take (m+1+j))).length+gs.length=m+j/\x'=(((compactL (xs.take (m+1+j))).length:Int),(j:Int))/\OwS W' t 1 ((compactL (xs.take (m+1+j))++gs++xs.drop (m+j)).map iv)/\Ch (fun i=>i∈blk t) w W',
      ⟨xs.length-(m+2),1,[],by omega,by omega,?_,?_,?_,eW'.mono fun _ _ h=>h.elim⟩,?_⟩
     ·rw[hst,List.length_take];simp;omega
     ·rw[hst,List.length_take,Nat.min_eq_left (by omega)];rfl
     ·rw[hst,List.append_nil,List.take_append_drop];exact ho.ext eW'
     ·rintro n' _ W' g' ⟨j,gs,hj1,hnj,hlen,rfl,hO,hC⟩
      generalize hkd:compactL (xs.take (m+1+j))=kd at hlen hO
      have hsa:slAddr t.p t.c (((m+1:Nat):Int)).toNat 1=some ⟨b,m+1,none⟩:=by
       rw[Int.toNat_natCast,hp,slAddr_some,if_neg (by omega)];simp
      unfold F132j2
      refine IfB.dec (fun hlt'=>?_) fun hge'=>?_
      ·rw[Int.toNat_natCast] at hlt'
       have hlt'':m+1+j<xs.length:=by dsimp only at hlt';omega
       have hz:xs[m+1+j]? =some xs[m+1+j]:=List.getElem?_eq_getElem hlt''
       have hv:xs[m+j]? =some (xs[m+j]'(by omega)):=List.getElem?_eq_getElem _
       have hd1:xs.drop (m+j)=xs[m+j]'(by omega)::xs.drop (m+1+j):=by rw[show m+1+j=m+j+1 by omega];exact List.drop_eq_getElem_cons _
       have hd2:xs.drop (m+1+j)=xs[m+1+j]::xs.drop (m+1+(j+1)):=by rw[show m+1+(j+1)=m+1+j+1 by omega];exact List.drop_eq_getElem_cons _
       generalize xs[m+1+j]=z at hz hd2
       generalize xs[m+j]'(by omega)=v at hv hd1
       have hst2:compactL (xs.take (m+1+(j+1)))=kd++if v=z then [] else [z]:=by
        have:=step (m:=m+j) hv (by rw[show m+j+1=m+1+j by omega];exact hz)
        rw[show m+j+2=m+1+(j+1) by omega,show m+j+1=m+1+j by omega,hkd] at this
        exact this
       have hLz:(kd++gs++xs.drop (m+j))[m+1+j]? =some z:=by
        rw[List.getElem?_append_right (by rw[List.length_append];omega),List.length_append,show m+1+j-(kd.length+gs.length)=1 by omega,hd1,hd2];rfl
       have hLv:(kd++gs++xs.drop (m+j))[m+j]? =some v:=by
        rw[List.getElem?_append_right (by rw[List.length_append];omega),List.length_append,show m+j-(kd.length+gs.length)=0 by omega,hd1];rfl
       have ed':=extDrew W'
       have hOd:=hO.ext ed'
       obtain⟨a,ha,hcz⟩:=owsI_get hOd hLz
       obtain⟨a',ha',hcv⟩:=owsI_get hOd hLv
       rw[hp] at ha ha';cases ha;cases ha'
       have hj1':IntKind.i64.wrap ((j:Int)-(1:Int))=((j-1:Nat):Int):=wm1 (by omega) (by omega)
       have hL:(kd++gs++xs.drop (m+j)).length=xs.length:=by rw[List.length_append,List.length_append,List.length_drop];omega
       dsimp only
       rw[hj1',hsa]
       simp only[Int.toNat_natCast]
       have hzc:W'.drew.cell? ⟨b,m+1+j,none⟩=some (iv z):=by rw[Nat.zero_add] at hcz;exact hcz
       have hvc:W'.drew.cell? ⟨b,m+1+(j-1),none⟩=some (iv v):=by rw[Nat.zero_add] at hcv;rw[show m+1+(j-1)=m+j by omega];exact hcv
       refine⟨b,m+1,rfl,⟨by omega,by omega⟩,z,hzc,b,m+1,rfl,⟨by omega,by omega⟩,v,hvc,IfB.intro (fun hne=>?_) fun heq=>?_⟩
       ·have hne:z≠v:=by simpa using hne
        rw[if_neg (fun h=>hne h.symm)] at hst2
        refine⟨b,m+1,rfl,⟨by omega,by omega⟩,z,hzc,b,0,hp,⟨by omega,by show (kd.length:Int)<(t.n:Int);omega⟩,rfl,?_⟩
        rw[Nat.zero_add]
        refine hOd.store hp (by show _+1<=_;omega) (oneIv z) fun w32 hO32 hC32=>⟨(by trivial),n'-1,by omega,j+1,(gs++[v]).tail,by omega,by omega,?_,?_,?_,(hC.then ed' fun _ _ h=>h.elim).then hC32 fun i _ e=>by rw[hbk,e];simp⟩
        ·rw[hst2];simp;omega
        ·rw[hst2,wp1 (by omega),wp1 (by omega)];simp
        ·rw[show ([iv z]).length=1 from rfl,setI (by omega)] at hO32
         rw[hst2]
         have:(kd++gs++xs.drop (m+j)).set kd.length z=kd++[z]++(gs++[v]).tail++xs.drop (m+(j+1)):=by
          rw[hd1,show m+(j+1)=m+1+j by omega]
          cases gs with
          | nil=>simp
          | cons g0 gs=>simp
         rw[<-this];exact hO32
       ·have heq:z=v:=by simpa using heq
        subst heq
        rw[if_pos rfl,List.append_nil] at hst2
        refine⟨(by trivial),n'-1,by omega,j+1,gs++[z],by omega,by omega,by rw[hst2];simp;omega,?_,?_,hC.then ed' fun _ _ h=>h.elim⟩
        ·rw[hst2,wp1 (by omega)]
        ·rw[hst2]
         rw[hd1] at hOd
         rw[show m+(j+1)=m+1+j by omega]
         simpa using hOd
      ·rw[Int.toNat_natCast] at hge'
       dsimp only at hge'
       have hjn:m+1+j=xs.length:=by omega
       rw[hjn,List.take_length] at hkd
       have hkl:kd.length<t.n:=by omega
       refine⟨⟨by dsimp only;omega,by show (kd.length:Int)<=(t.n:Int);omega⟩,?_⟩
       dsimp only
       rw[Int.toNat_natCast,hp,slAddr_some]
       have hcut:=hO.cut (k:=kd.length) (by omega)
       rw[Nat.mul_one,<-List.map_take,List.append_assoc,List.take_append_of_le_length (Nat.le_refl _),List.take_length] at hcut
       dsimp only
       rw[if_neg (by omega),Nat.zero_add,Nat.mul_one]
       refine hcut.storeTail hp (by dsimp only;omega) (by rw[zc_len];show kd.length+(t.n-kd.length)*1<=t.c*1;omega) (zc_one (by intro x hx;simp at hx;subst hx;rfl) _) fun w25 hO25 hC25=>⟨⟨by omega,by omega⟩,?_⟩
       rw[<-hp,slAddr_zero]
       exact⟨⟨t.p,kd.length,t.c⟩,rfl,by rw[hkd];exact hO25,rfl,hC.then hC25 fun i _ e=>by rw[hbk,e];simp⟩
    ·have hne:x≠y:=by intro h;subst h;simp at he
     rw[if_neg hne] at hst
     refine⟨rfl,n-1,by omega,m+2,wp1 (by omega),by omega,by omega,?_,eW'⟩
     rw[hst,hcp,take_succ_get hy]
   ·have:k=xs.length:=by omega
    subst this
    rw[List.take_length] at hcp
    exact⟨t,rfl,by rw[hcp];exact ho.ext eW,rfl,eW.mono fun _ _ h=>h.elim⟩
theorem F70_ok(t0:Option Addr)(t1:Int)(w:World)(R:RV)(h:IfB t0.isNone (R (Value.slice none 0 0) w) (∃b1:Nat,∃b2:Nat,t0=some ⟨b1,b2,none⟩/\∃(p3:Option Nat),w.cell? ⟨b1,b2+0,none⟩=some (Value.map p3)/\MapGetP (TypeDesc.int IntKind.i64) w (Value.map p3) (Qz t1) (Value.slice none 0 0) fun(v4:Value) (t5:Bool)=>∃s6:Sl,v4=Qy s6/\Cx 111 #[Qy s6] w fun v7 w8=>∃s9:Sl,v7=Qy s9/\R (Qy s9) w8)):Cw 70 #[Value.pointer t0,Qz t1] w R:=
 ckF Tryz.func70 .nil h (by kernel_rfl) (by kernel_rfl)
def F133j1(t0:Option Addr)(R:RV)(b1:Nat)(y6:Nat->Sl->World->Prop)(b8:Nat)(s9:Sl)(w10:World):Prop:=IfB (decide (0<(s9.n:Int))) (∃b13:Nat,∃b14:Nat,s9.1=some ⟨b13,b14,none⟩/\((0:Int)<=0/\0<(s9.2:Int))/\Qi w10 b13 (b14+Int.toNat 0) fun n15=>((0:Int)<=1/\1<=(s9.2:Int))/\MapGetP (TypeDesc.int IntKind.i64) w10 (Value.map (some b1)) (Qz n15) (Value.bool false) fun(v16:Value) (t17:Bool)=>∃t18:Bool,v16=Value.bool t18/\IfB (!t18) (MapSetP (TypeDesc.int IntKind.i64) w10 (Value.map (some b1)) (Qz n15) (Value.bool true) fun w19=>Qu' 70 #[Value.pointer t0,Qz n15] w19 fun s22 w21=>∃(l23:List Value),ReadC w21 s22.1 (s22.2*1) l23/\AppendP tt3 3 w21 (slAddr s9.1 s9.3 (Int.toNat 1) 1) (s9.2-Int.toNat 1) (s9.3-Int.toNat 1) s22.2 l23 fun s24 w25=>Qn y6 b8 { p:=s24.1,n:=s24.2,c:=s24.3 } w25) (Qn y6 b8 { p:=slAddr s9.1 s9.3 (Int.toNat 1) 1,n:=s9.2-Int.toNat 1,c:=s9.3-Int.toNat 1 } w10)) (Cx 124 #[Value.map (some b1)] w10 fun v28 w29=>∃(x30:Nat×Array Value),v28=Value.func (Fn.func x30.1) #[] x30.2/\Qu' 123 #[Value.func (Fn.func x30.1) #[] x30.2] w29 fun s33 w32=>R (Qy s33) w32)
theorem F133_ok(t0:Option Addr)(t1:Int)(w:World)(R:RV)(h:AllocP w (Obj.map #[] 0) fun b1 w2=>Qu' 70 #[Value.pointer t0,Qz t1] w2 fun s5 w4=>Ql (α:=Sl) ({ p:=s5.1,n:=s5.2,c:=s5.3 }) w4 fun y6 b8 s9 w10=>(F133j1 t0 R b1 y6 b8 s9 w10)):Cw 133 #[Value.pointer t0,Qz t1] w R:=
 ckF Tryz.func133 (nd (nd (.node (nd (.loop [(6,.one (.sl))] (rg [6,7,12,30]) .nil)) .nil))) h (by kernel_rfl) (by kernel_rfl)
theorem F69_ok(t0:Option Addr)(t1:Int)(t2:Sl)(w:World)(R:RV)(h:AllocP w (Obj.cells #[Value.pointer t0] 157) fun b1 w2=>AllocP w2 (Obj.cells #[Qz t1] 3) fun b3 w4=>∃(p5:Option Addr),w4.cell? ⟨b1,0,none⟩=some (Value.pointer p5)/\IfB p5.isNone (R (Value.bool false) w4) (∃(p6:Option Addr),w4.drew.cell? ⟨b1,0,none⟩=some (Value.pointer p6)/\∃b7:Nat,∃b8:Nat,p6=some ⟨b7,b8,none⟩/\∃(p9:Option Nat),w4.drew.cell? ⟨b7,b8+0,none⟩=some (Value.map p9)/\Qi w4.drew b3 0 fun n10=>MapGetP (TypeDesc.int IntKind.i64) w4.drew (Value.map p9) (Qz n10) (Value.slice none 0 0) fun(v11:Value) (t12:Bool)=>∃s13:Sl,v11=Qy s13/\Cx 131 #[Qy t2] w4.drew fun v14 w15=>∃(x16:Nat×Array Value),v14=Value.func (Fn.func x16.1) #[] x16.2/\Qu' 123 #[Value.func (Fn.func x16.1) #[] x16.2] w15 fun s19 w18=>Qu' 132 #[Qy s19] w18 fun s22 w21=>Cx 130 #[Qy s22,Value.bool (decide (0<(s22.n:Int))),Value.pointer (some ⟨b1,0,none⟩),Value.pointer (some ⟨b3,0,none⟩)] w21 fun v23 w24=>∃y25:Unit,v23=Value.tuple #[]/\∃(p26:Option Addr),w24.drew.cell? ⟨b1,0,none⟩=some (Value.pointer p26)/\Qi w24.drew b3 0 fun n27=>Qi w24.drew b3 0 fun n28=>Qu' 133 #[Value.pointer p26,Qz n27] w24.drew fun s31 w30=>w30.cell? ⟨b3,0,none⟩=some (Qz n28)/\Qv' 107 #[Qy s31,Qz n28] w30 fun t34 w33=>IfB t34 (Cx 130 #[Qy s13,Value.bool t12,Value.pointer (some ⟨b1,0,none⟩),Value.pointer (some ⟨b3,0,none⟩)] w33 fun v35 w36=>∃y37:Unit,v35=Value.tuple #[]/\R (Value.bool false) w36) (R (Value.bool true) w33))):Cw 69 #[Value.pointer t0,Qz t1,Qy t2] w R:=
 ckF Tryz.func69 (nd (nd (.node (.draw (sts [0,1,2,3,4] (.ac 5 [] (sts [6,7,8,9,10] .fin) .non))) (nd (nd (nd (nd (.node (.node (.draw (sts [0,1,3] (.ac 2 [3] (.ac 4 [] .fin .non) .non))) .nil) .nil)))))))) h (by kernel_rfl) (by kernel_rfl)
theorem F130_ok(t0:Sl)(t1:Bool)(t2:Nat)(t3:Nat)(w:World)(R:RV)(h:∃(p1:Option Addr),w.drew.cell? ⟨t2,0,none⟩=some (Value.pointer p1)/\∃b2:Nat,∃b3:Nat,p1=some ⟨b2,b3,none⟩/\∃(p4:Option Nat),w.drew.cell? ⟨b2,b3+0,none⟩=some (Value.map p4)/\∃n5:Int,w.drew.cell? ⟨t3,0,none⟩=some (Qz n5)/\MapDelP (TypeDesc.int IntKind.i64) w.drew p4 (Qz n5) fun w6=>IfB t1 (∃(p7:Option Addr),w6.cell? ⟨t2,0,none⟩=some (Value.pointer p7)/\∃b8:Nat,∃b9:Nat,p7=some ⟨b8,b9,none⟩/\∃(p10:Option Nat),w6.cell? ⟨b8,b9+0,none⟩=some (Value.map p10)/\IfB p10.isNone (∃(p11:Option Addr),w6.cell? ⟨t2,0,none⟩=some (Value.pointer p11)/\AllocP w6 (Obj.map #[] 0) fun b12 w13=>∃b14:Nat,∃b15:Nat,p11=some ⟨b14,b15,none⟩/\#[Value.map (some b12)].size=1/\StoreP w13 b14 (b15+0) [Value.map (some b12)] fun w16=>∃(p17:Option Addr),w16.drew.cell? ⟨t2,0,none⟩=some (Value.pointer p17)/\∃b18:Nat,∃b19:Nat,p17=some ⟨b18,b19,none⟩/\∃(p20:Option Nat),w16.drew.cell? ⟨b18,b19+0,none⟩=some (Value.map p20)/\∃n21:Int,w16.drew.cell? ⟨t3,0,none⟩=some (Qz n21)/\MapSetP (TypeDesc.int IntKind.i64) w16.drew (Value.map p20) (Qz n21) (Qy t0) fun w22=>R (Value.tuple #[]) w22) (∃(p23:Option Addr),w6.drew.cell? ⟨t2,0,none⟩=some (Value.pointer p23)/\∃b24:Nat,∃b25:Nat,p23=some ⟨b24,b25,none⟩/\∃(p26:Option Nat),w6.drew.cell? ⟨b24,b25+0,none⟩=some (Value.map p26)/\∃n27:Int,w6.drew.cell? ⟨t3,0,none⟩=some (Qz n27)/\MapSetP (TypeDesc.int IntKind.i64) w6.drew (Value.map p26) (Qz n27) (Qy t0) fun w28=>R (Value.tuple #[]) w28)) (R (Value.tuple #[]) w6)):Cw 130 #[Qy t0,Value.bool t1,Value.pointer (some ⟨t2,0,none⟩),Value.pointer (some ⟨t3,0,none⟩)] w R:=
 ckF Tryz.func130 (.node (.draw (sts [0,1,2,3,4] (.ac 5 [] .fin .non))) (nd (.node (nd (.draw (sts [0,1,2,3,4,5] (.ac 6 [] .fin .non)))) .nil))) h (by kernel_rfl) (by kernel_rfl)
def F20(w:World)(R:RV):Prop:=AllocP w (Obj.cells #[Value.map none] 83) fun b1 w2=>1*1<=16777216/\AllocP w2 (Obj.cells #[Qz 2] 3) fun b3 w4=>Qv' 69 #[Value.pointer (some ⟨b1,0,none⟩),Qz 1,Value.slice (some ⟨b3,0,none⟩) 1 1] w4 fun t7 w6=>IfB t7 (1*1<=16777216/\AllocP w6 (Obj.cells #[Qz 1] 3) fun b8 w9=>Qv' 69 #[Value.pointer (some ⟨b1,0,none⟩),Qz 2,Value.slice (some ⟨b8,0,none⟩) 1 1] w9 fun t12 w11=>IfB (!t12) (Qu' 70 #[Value.pointer (some ⟨b1,0,none⟩),Qz 1] w11 fun s15 w14=>R (Value.bool ((s15.2:Int) == 1)) w14) (R (Value.bool false) w11)) (R (Value.bool false) w6)
theorem F20_ok(w:World)(R:RV)(h:F20 w R):Cw 20 #[] w R:=
 call_of tbOk mixed en20 Tryz.func20 rfl .nil (by kernel_rfl) (Nat.le_of_ble_eq_true (by kernel_rfl)) (Eq.mp (α:=F20 w R) (by kernel_rfl) h)
abbrev WE:=Sl×List Int
def encW(x:WE):Value:=slV x.1
structure Wt(w:World)(b:Nat)(p:Option Nat)(f:List (Int×WE)):Prop where
 box:∃T,w.heap[b]? =some (.cells #[.map p] T (0,0))
 map:MpO encW w p f
 rd:∀e∈f,Rd w e.2.1 1 (e.2.2.map iv)/\e.2.2≠[]/\e.2.2.length<=1000/\∀i∈blk e.2.1,i<w.heap.size/\i≠b/\p≠some i
 few:f.length<=1000
def inWt(b:Nat)(p:Option Nat)(f:List (Int×WE))(i:Nat):Prop:=i=b\/p=some i\/∃e∈f,i∈blk e.2.1
def wl(f:List (Int×WE))(k:Int):List Int:=match getM f k with
 | some x=>x.2
 | none=>[]
def En(f:List (Int×WE))(a c:Int):Prop:=c∈wl f a
section
variable {w:World} {b:Nat} {p:Option Nat} {f:List (Int×WE)}
theorem Wt.ch{F:Nat->Prop}{w':World}(h:Wt w b p f)(hc:Ch F w w')(hF:∀i,inWt b p f i->¬F i):Wt w' b p f:=by
 obtain⟨T,hT⟩:=h.box
 refine⟨⟨T,hc.at hT (hF _ (.inl rfl))⟩,h.map.ch hc fun r e=>hF r (.inr (.inl e)),fun e he=>?_,h.few⟩
 obtain⟨h1,h2,h3,h4⟩:=h.rd e he
 exact⟨h1.ch hc fun i hi=>hF i (.inr (.inr ⟨e,he,hi⟩)),h2,h3,fun i hi=>⟨Nat.lt_of_lt_of_le (h4 i hi).1 hc.size,(h4 i hi).2⟩⟩
theorem Wt.ext{w':World}(h:Wt w b p f)(hc:Ext w w'):Wt w' b p f:=h.ch hc fun _ _=>id
theorem Wt.cell(h:Wt w b p f):w.cell? ⟨b,0+0,none⟩=some (.map p):=by obtain⟨T,hT⟩:=h.box;rw[cell_of hT];rfl
theorem wl_few(h:Wt w b p f)(k:Int):(wl f k).length<=1000:=by
 unfold wl
 cases hg:getM f k with
 | none=>simp
 | some x=>exact(h.rd _ (getM_mem hg)).2.2.1
theorem c70(h:Wt w b p f)(i:Int):Cw 70 #[.pointer (some ⟨b,0,none⟩),iv i] w fun v w'=>∃t,v=slV t/\OwS w' t 1 ((wl f i).map iv)/\Ext w w'/\∀j∈blk t,w.heap.size<=j:=by
 refine F70_ok _ i w _ (IfB.no rfl ⟨b,0,rfl,p,h.cell,h.map.get ?_⟩)
 have hw:=wl_few h i
 unfold wl at hw ⊢
 cases hg:getM f i with
 | none=>
  refine⟨⟨none,0,0⟩,rfl,(c111 (xs:=[]) (t:=⟨none,0,0⟩) ⟨rfl,rfl⟩ (by simp)).use ?_⟩
  rintro _ w' ⟨t,rfl,h1,h2,h3⟩
  exact⟨t,rfl,t,rfl,h1,h2,h3⟩
 | some x=>
  rw[hg] at hw
  refine⟨x.1,rfl,(c111 (h.rd _ (getM_mem hg)).1 (by dsimp only at hw ⊢;omega)).use ?_⟩
  rintro _ w' ⟨t,rfl,h1,h2,h3⟩
  exact⟨t,rfl,t,rfl,h1,h2,h3⟩
def allW(f:List (Int×WE)):List Int:=f.flatMap fun e=>e.2.2
theorem allW_mem{a c:Int}(h:En f a c):c∈allW f:=by
 unfold En wl at h
 cases hg:getM f a with
 | none=>rw[hg] at h;cases h
 | some x=>rw[hg] at h;exact List.mem_flatMap.2 ⟨_,getM_mem hg,h⟩
theorem allW_len:∀ {f:List (Int×WE)},(∀e∈f,e.2.2.length<=1000)->(allW f).length<=f.length*1000
 | [],_=>by simp[allW]
 | e::f,h=>by
  have ih:=allW_len (f:=f) fun e he=>h e (by simp[he])
  have:=h e (by simp)
  unfold allW at ih ⊢
  rw[List.flatMap_cons,List.length_append,List.length_cons,Nat.add_mul]
  omega
end
theorem c133{w:World}{b:Nat}{p:Option Nat}{f:List (Int×WE)}(h:Wt w b p f)(i:Int):Cw 133 #[.pointer (some ⟨b,0,none⟩),iv i] w fun v w'=>∃t,∃xs:List Int,v=slV t/\xs.Pairwise (· < ·)/\(∀k,k∈xs↔TC (En f) i k)/\xs.length<=1000000/\OwS w' t 1 (xs.map iv)/\Ext w w'/\∀j∈blk t,w.heap.size<=j:=by
 refine F133_ok _ i w _ ?_
 intro b1 w2 a2
 have e2:Ext w w2:=a2.ch _
 have p2:=a2.here
 have z2:=a2.size
 refine(c70 (h.ext e2) i).use ?_
 rintro _ w4 ⟨s5,rfl,ho5,e4,hb5⟩
 have hU:=allW_len (f:=f) fun e he=>(h.rd e he).2.2.1
 have hUf:=h.few
 have z4:=e4.size
 have hw0:=wl_few h i
 refine⟨s5,rfl,fun n s W=>∃(F:List (Int×Bool))(T:List Int),Mp Value.bool W b1 F/\(∀e∈F,e.2=true)/\OwQ W s (T.map iv)/\(∀j∈blk s,w2.heap.size<=j)/\Ch (fun j=>w.heap.size<=j) w W/\w2.heap.size<=W.heap.size/\
   (∀k,(getM F k≠none\/k∈T)->TC (En f) i k)/\(∀k,En f i k->getM F k≠none\/k∈T)/\(∀k c,getM F k≠none->En f k c->getM F c≠none\/c∈T)/\n=((allW f).length-F.length)*1001+T.length/\T.length<=1000*(F.length+1),?_,?_⟩
 ·refine⟨_,[],wl f i,(Mp.new a2).ext e4,by simp,ho5.q,hb5,(e2.trans e4).mono fun _ _ h=>h.elim,z4,?_,fun k hk=>.inr hk,fun k c hk=>absurd rfl hk,rfl,by simp;omega⟩
  rintro k (hk|hk)
  ·exact absurd rfl hk
  ·exact .one hk
 ·rintro n s W g ⟨F,T,hM,hT,hQ,hbs,hC,hsz,k1,k2,k3,hn,hTl⟩
  have x0:Ext w W:=hC.mono fun j hj h=>by omega
  have hW:=h.ext x0
  have hnod:(F.map (·.1)).Nodup:=MpO.nodup (p:=some b1) hM
  have hFU:∀k∈F.map (·.1),k∈allW f:=fun k hk=>by
   have:=k1 k (.inl (getM_key.1 hk))
   obtain⟨c,hc,_⟩:=this.last
   exact allW_mem hc
  have hFl:F.length<=(allW f).length:=by have:=nodup_le hnod hFU;rwa [List.length_map] at this
  have hsn:s.n=T.length:=by have:=hQ.len;rwa [List.length_map] at this
  have hb1W:=hM.lt
  unfold F133j1
  refine IfB.dec (fun hlt=>?_) fun hge=>?_
  ·cases T with
   | nil=>simp at hsn;omega
   | cons k T=>
    obtain⟨a,o,ha,hc⟩:=hQ.at (i:=0) (v:=iv k) rfl
    obtain⟨hQt,hbt⟩:=OwQ.tail hQ
    rw[List.length_cons] at hsn hn hTl
    refine⟨a,o,ha,⟨by omega,by omega⟩,k,hc,⟨by omega,by omega⟩,hM.get ?_⟩
    cases hg:getM F k with
    | some t=>
     have ht:=hT _ (getM_mem hg)
     have ht:t=true:=ht
     subst ht
     refine⟨true,rfl,IfB.no rfl ⟨rfl,n-1,by omega,F,T,hM,hT,hQt,fun j hj=>hbs j (hbt j hj),hC,hsz,fun k' hk'=>k1 k' (hk'.imp id fun h=>List.mem_cons_of_mem _ h),fun k' hk'=>?_,fun k' c hk' hc'=>?_,by omega,by omega⟩⟩
     ·rcases k2 k' hk' with h|h
      ·exact .inl h
      ·rcases List.mem_cons.1 h with rfl|h
       ·exact .inl (by rw[hg];simp)
       ·exact .inr h
     ·rcases k3 k' c hk' hc' with h|h
      ·exact .inl h
      ·rcases List.mem_cons.1 h with rfl|h
       ·exact .inl (by rw[hg];simp)
       ·exact .inr h
    | none=>
     have hTC:TC (En f) i k:=k1 k (.inr (by simp))
     have hkU:k∈allW f:=by
      obtain⟨c,hc,_⟩:=hTC.last
      exact allW_mem hc
     refine⟨false,rfl,IfB.yes rfl (Mp.set (enc:=Value.bool) (v:=true) hM fun F' w19 hF' hM' hc19=>?_)⟩
     have hC19:=hC.then hc19 fun j _ e=>(by omega:w.heap.size<=j)
     have x19:Ext w w19:=hC19.mono fun j hj h=>by omega
     refine(c70 (h.ext x19) k).use ?_
     rintro _ w21 ⟨s22,rfl,ho22,e21,hb22⟩
     have hn22:=owsI ho22
     have hwk:=wl_few h k
     have z19:=hc19.size
     have hnod':(F'.map (·.1)).Nodup:=MpO.nodup (p:=some b1) hM'
     have hF'mem:∀e∈F',e=(k,true)\/e∈F:=fun e he=>by
      have h1:=getM_of hnod' (k:=e.1) (v:=e.2) he
      rw[hF'] at h1
      by_cases hk:k=e.1
      ·rw[if_pos hk] at h1
       left
       have:=Option.some.inj h1
       rw[Prod.ext_iff];exact⟨hk.symm,this.symm⟩
      ·rw[if_neg hk] at h1
       exact .inr (getM_mem h1)
     have hkF:k∉F.map (·.1):=fun hk=>(getM_key.1 hk) hg
     have hF'len:F'.length=F.length+1:=by
      have h1:F'.length<=((k::F.map (·.1))).length:=by
       have:=nodup_le (b:=k::F.map (·.1)) hnod' fun x hx=>by
        obtain⟨e,he,rfl⟩:=List.mem_map.1 hx
        rcases hF'mem e he with rfl|he
        ·simp
        ·exact List.mem_cons_of_mem _ (List.mem_map_of_mem he)
       rwa [List.length_map] at this
      have h2:((k::F.map (·.1))).length<=F'.length:=by
       have:=nodup_le (a:=k::F.map (·.1)) (b:=F'.map (·.1)) (List.nodup_cons.2 ⟨hkF,hnod⟩) fun x hx=>by
        rw[getM_key,hF']
        rcases List.mem_cons.1 hx with rfl|hx
        ·rw[if_pos rfl];simp
        ·by_cases hk:k=x
         ·rw[if_pos hk];simp
         ·rw[if_neg hk];exact getM_key.1 hx
       rwa [List.length_map] at this
      simp only[List.length_cons,List.length_map] at h1 h2
      omega
     have hF'U:F'.length<=(allW f).length:=by
      rw[hF'len]
      have:=nodup_le (a:=k::F.map (·.1)) (b:=allW f) (List.nodup_cons.2 ⟨hkF,hnod⟩) fun x hx=>by
       rcases List.mem_cons.1 hx with rfl|hx
       ·exact hkU
       ·exact hFU x hx
      simpa using this
     have hQ21:OwQ w21 ⟨slAddr s.p s.c 1 1,s.n-1,s.c-1⟩ (T.map iv):=by
      refine(hQt.ch hc19 fun j hj e=>?_).ext e21
      have:=hbs j (hbt j hj);omega
     refine⟨s22,rfl,(wl f k).map iv,ho22.readAll,?_⟩
     refine hQ21.append (cnt:=s22.n) rfl rfl (by rw[List.length_map];exact hn22.symm) (fun v hv=>by obtain⟨x,_,rfl⟩:=List.mem_map.1 hv;rfl) ⟨by dsimp only;omega,?_⟩ fun s' w25 hQ' hc25 hb25=>?_
     ·show 2*(s.n-1+s22.n)*8<=_
      omega
     ·have z21:=e21.size
      have hC25:Ch (fun j=>w.heap.size<=j) w w25:=(hC19.then e21 fun _ _ h=>h.elim).then hc25 fun j _ hj=>by have:=hbs j (hbt j hj);omega
      have z25:=hc25.size
      refine⟨rfl,((allW f).length-F'.length)*1001+(T.length+(wl f k).length),?_,F',T++wl f k,(hM'.ext e21).ch hc25 (fun hj=>by have:=hbs _ (hbt _ hj);omega),fun e he=>?_,by rw[List.map_append];exact hQ',fun j hj=>?_,hC25,by omega,?_,?_,?_,by rw[List.length_append],by rw[List.length_append,hF'len];omega⟩
      ·rw[hn,hF'len]
       have:(allW f).length-F.length=((allW f).length-(F.length+1))+1:=by omega
       rw[this,Nat.add_mul]
       omega
      ·rcases hF'mem e he with rfl|he
       ·rfl
       ·exact hT e he
      ·rcases hb25 j hj with hj|hj
       ·exact hbs j (hbt j hj)
       ·omega
      ·rintro k' (hk'|hk')
       ·rw[hF'] at hk'
        by_cases hkk:k=k'
        ·subst hkk;exact hTC
        ·rw[if_neg hkk] at hk';exact k1 k' (.inl hk')
       ·rcases List.mem_append.1 hk' with hk'|hk'
        ·exact k1 k' (.inr (List.mem_cons_of_mem _ hk'))
        ·exact .more hTC hk'
      ·have up:∀ {k'},(getM F k'≠none\/k'∈k::T)->getM F' k'≠none\/k'∈T++wl f k:=fun{k'} h=>by
        rw[hF']
        by_cases hkk:k=k'
        ·rw[if_pos hkk];exact .inl (by simp)
        ·rw[if_neg hkk]
         rcases h with h|h
         ·exact .inl h
         ·rcases List.mem_cons.1 h with rfl|h
          ·exact absurd rfl hkk
          ·exact .inr (List.mem_append_left _ h)
       exact fun k' hk'=>up (k2 k' hk')
      ·intro k' c hk' hc'
       by_cases hkk:k=k'
       ·subst hkk;exact .inr (List.mem_append_right _ hc')
       ·rw[hF',if_neg hkk] at hk'
        rw[hF']
        by_cases hkc:k=c
        ·rw[if_pos hkc];exact .inl (by simp)
        ·rw[if_neg hkc]
         rcases k3 k' c hk' hc' with h|h
         ·exact .inl h
         ·rcases List.mem_cons.1 h with rfl|h
          ·exact absurd rfl hkc
          ·exact .inr (List.mem_append_left _ h)
  ·have hT0:T=[]:=List.eq_nil_of_length_eq_zero (by omega)
   subst hT0
   obtain⟨mo,hm,hks,hmo⟩:=MpO.keys (p:=some b1) hM
   refine CW.use (F124_ok (some b1) W (fun v w'=>∃b2 T,v=.func (.func 180) #[] #[.pointer (some ⟨b2,0,none⟩)]/\IsAlloc W (.cells #[.map (some b1)] T (0,0)) b2 w') fun b2 w' a=>⟨b2,_,rfl,a⟩) ?_
   rintro _ w29 ⟨b2,T,rfl,a29⟩
   have e29:Ext W w29:=a29.ch _
   have z29:=a29.size
   have hKI:KeysI b2 mo w29:=⟨⟨T,by rw[hm];exact a29.new⟩,by
    match mo,hmo with
    | none,_=>trivial
    | some (r,es,ck),hmo=>exact e29.at (hmo r es ck rfl)⟩
   refine⟨(180,_),rfl,(sorted_of (it180 hKI hks (by rw[List.length_map];omega))).use ?_⟩
   rintro _ w32 ⟨t,xs,ys,rfl,hp,hp2,hyl,hs,ho,e32,hb⟩
   have hpp:=hp2.trans hp
   have hxn:xs.Nodup:=hpp.nodup_iff.2 hnod
   have zW:=hC.size
   refine⟨t,rfl,t,xs,rfl,?_,fun k=>?_,by rw[hp2.length_eq];exact hyl,ho,?_,fun j hj=>by have:=hb j hj;omega⟩
   ·exact hs.imp₂ (fun a b h1 h2=>by omega) hxn
   ·rw[hpp.mem_iff,getM_key]
    constructor
    ·exact fun hk=>k1 k (.inl hk)
    ·intro hk
     have clos:∀k,TC (En f) i k->getM F k≠none:=fun k hk=>by
      induction hk with
      | one e=>exact(k2 _ e).resolve_right (by simp)
      | more _ e ih=>exact(k3 _ _ ih e).resolve_right (by simp)
     exact clos k hk
   ·exact(x0.trans e29).trans e32
end Go.Proofs.YtlpgdngcgbeegaaGreat.Gx
