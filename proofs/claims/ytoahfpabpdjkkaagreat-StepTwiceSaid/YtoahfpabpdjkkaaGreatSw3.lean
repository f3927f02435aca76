/- Merged by pack.py: GxLS, Srt, WaitA, GxH, SrS, SrSJ, GxU, KeyA, KeyB. -/
import Derived.Test.YtoahfpabpdjkkaaGreatSw1
import Derived.Test.YtoahfpabpdjkkaaGreatSw2
namespace Go.Proofs.YtoahfpabpdjkkaaGreat.Gx
open Go
def GxLSby0:ByteArray:=(ByteArray.mk (Array.mk (([(0:UInt8),(1:UInt8),(2:UInt8),(2:UInt8),(3:UInt8),(3:UInt8),(3:UInt8),(3:UInt8),(4:UInt8),(4:UInt8),(4:UInt8),(4:UInt8),(4:UInt8),(4:UInt8),(4:UInt8),(4:UInt8),(5:UInt8),(5:UInt8),(5:UInt8),(5:UInt8),(5:UInt8),(5:UInt8),(5:UInt8),(5:UInt8),(5:UInt8),(5:UInt8),(5:UInt8),(5:UInt8),(5:UInt8),(5:UInt8),(5:UInt8),(5:UInt8),(6:UInt8),(6:UInt8),(6:UInt8),(6:UInt8),(6:UInt8),(6:UInt8),(6:UInt8),(6:UInt8),(6:UInt8),(6:UInt8),(6:UInt8),(6:UInt8),(6:UInt8),(6:UInt8),(6:UInt8),(6:UInt8),(6:UInt8),(6:UInt8),(6:UInt8),(6:UInt8),(6:UInt8),(6:UInt8),(6:UInt8),(6:UInt8),(6:UInt8),(6:UInt8),(6:UInt8),(6:UInt8),(6:UInt8),(6:UInt8),(6:UInt8),(6:UInt8)].append [(7:UInt8),(7:UInt8),(7:UInt8),(7:UInt8),(7:UInt8),(7:UInt8),(7:UInt8),(7:UInt8),(7:UInt8),(7:UInt8),(7:UInt8),(7:UInt8),(7:UInt8),(7:UInt8),(7:UInt8),(7:UInt8),(7:UInt8),(7:UInt8),(7:UInt8),(7:UInt8),(7:UInt8),(7:UInt8),(7:UInt8),(7:UInt8),(7:UInt8),(7:UInt8),(7:UInt8),(7:UInt8),(7:UInt8),(7:UInt8),(7:UInt8),(7:UInt8),(7:UInt8),(7:UInt8),(7:UInt8),(7:UInt8),(7:UInt8),(7:UInt8),(7:UInt8),(7:UInt8),(7:UInt8),(7:UInt8),(7:UInt8),(7:UInt8),(7:UInt8),(7:UInt8),(7:UInt8),(7:UInt8),(7:UInt8),(7:UInt8),(7:UInt8),(7:UInt8),(7:UInt8),(7:UInt8),(7:UInt8),(7:UInt8),(7:UInt8),(7:UInt8),(7:UInt8),(7:UInt8),(7:UInt8),(7:UInt8),(7:UInt8),(7:UInt8)]).append ([(8:UInt8),(8:UInt8),(8:UInt8),(8:UInt8),(8:UInt8),(8:UInt8),(8:UInt8),(8:UInt8),(8:UInt8),(8:UInt8),(8:UInt8),(8:UInt8),(8:UInt8),(8:UInt8),(8:UInt8),(8:UInt8),(8:UInt8),(8:UInt8),(8:UInt8),(8:UInt8),(8:UInt8),(8:UInt8),(8:UInt8),(8:UInt8),(8:UInt8),(8:UInt8),(8:UInt8),(8:UInt8),(8:UInt8),(8:UInt8),(8:UInt8),(8:UInt8),(8:UInt8),(8:UInt8),(8:UInt8),(8:UInt8),(8:UInt8),(8:UInt8),(8:UInt8),(8:UInt8),(8:UInt8),(8:UInt8),(8:UInt8),(8:UInt8),(8:UInt8),(8:UInt8),(8:UInt8),(8:UInt8),(8:UInt8),(8:UInt8),(8:UInt8),(8:UInt8),(8:UInt8),(8:UInt8),(8:UInt8),(8:UInt8),(8:UInt8),(8:UInt8),(8:UInt8),(8:UInt8),(8:UInt8),(8:UInt8),(8:UInt8),(8:UInt8)].append [(8:UInt8),(8:UInt8),(8:UInt8),(8:UInt8),(8:UInt8),(8:UInt8),(8:UInt8),(8:UInt8),(8:UInt8),(8:UInt8),(8:UInt8),(8:UInt8),(8:UInt8),(8:UInt8),(8:UInt8),(8:UInt8),(8:UInt8),(8:UInt8),(8:UInt8),(8:UInt8),(8:UInt8),(8:UInt8),(8:UInt8),(8:UInt8),(8:UInt8),(8:UInt8),(8:UInt8),(8:UInt8),(8:UInt8),(8:UInt8),(8:UInt8),(8:UInt8),(8:UInt8),(8:UInt8),(8:UInt8),(8:UInt8),(8:UInt8),(8:UInt8),(8:UInt8),(8:UInt8),(8:UInt8),(8:UInt8),(8:UInt8),(8:UInt8),(8:UInt8),(8:UInt8),(8:UInt8),(8:UInt8),(8:UInt8),(8:UInt8),(8:UInt8),(8:UInt8),(8:UInt8),(8:UInt8),(8:UInt8),(8:UInt8),(8:UInt8),(8:UInt8),(8:UInt8),(8:UInt8),(8:UInt8),(8:UInt8),(8:UInt8),(8:UInt8)]) )))
set_option linter.unusedVariables false
set_option maxRecDepth 100000
def F112(t0:Sl)(w:World)(R:RV):Prop:=Cx 122 #[Value.int IntKind.u64 (IntKind.u64.wrap (t0.2:Int))] w fun v1 w2=>∃n3:Int,v1=Qz n3/\Cx 136 #[Qy t0,Qz 0,Qz (t0.2:Int),Qz n3] w2 fun v4 w5=>∃y6:Unit,v4=Value.tuple #[]/\R (Value.tuple #[]) w5
theorem F112_ok(t0:Sl)(w:World)(R:RV)(h:F112 t0 w R):Cw 112 #[Qy t0] w R:=
 ckF Tryz.func112 .nil h (by kernel_rfl) (by kernel_rfl)
def F136k2(t0:Sl)(x4:Int×Int×Int×Bool×Bool)(x56:Int×Bool)(n18:Int)(w55:World)(b3:Nat)(y1:Nat->Int×Int×Int×Bool×Bool->World->Prop):Prop:=Cx 136 #[Qy t0,Qz x4.1,Qz x56.1,Qz n18] w55 fun v57 w58=>∃y59:Unit,v57=Value.tuple #[]/\([]:List Df)=[]/\∃b60:Nat,b60<b3/\y1 b60 (IntKind.i64.wrap (x56.1+1),x4.snd.1,n18,decide (IntKind.i64.wrap ((IntKind.i64.wrap (x4.snd.fst-x4.fst)).tdiv 8)<=IntKind.i64.wrap (x56.fst-x4.fst)),x56.2) w58
def F136k1(t0:Sl)(x56:Int×Bool)(x4:Int×Int×Int×Bool×Bool)(n18:Int)(w55:World)(b3:Nat)(y1:Nat->Int×Int×Int×Bool×Bool->World->Prop):Prop:=Cx 136 #[Qy t0,Qz (IntKind.i64.wrap (x56.1+1)),Qz x4.snd.1,Qz n18] w55 fun v61 w62=>∃y63:Unit,v61=Value.tuple #[]/\([]:List Df)=[]/\∃b64:Nat,b64<b3/\y1 b64 (x4.1,x56.1,n18,decide (IntKind.i64.wrap ((IntKind.i64.wrap (x4.snd.fst-x4.fst)).tdiv 8)<=IntKind.i64.wrap (x4.snd.fst-x56.fst)),x56.2) w62
def F136j4(t0:Sl)(y1:Nat->Int×Int×Int×Bool×Bool->World->Prop)(b3:Nat)(x4:Int×Int×Int×Bool×Bool)(n18:Int)(x29:Int×Int)(w38:World):Prop:=IfB (decide (0<x4.fst)) (Qx t0.1 (IntKind.i64.wrap (x4.1-1)) (t0.2:Int) fun b41 b42=>Qi w38.drew b41 (b42+(IntKind.i64.wrap (x4.1-1)).toNat) fun n43=>Qx t0.1 x29.1 (t0.2:Int) fun b44 b45=>Qi w38.drew b44 (b45+x29.1.toNat) fun n46=>Qv' 158 #[Qz n43,Qz n46] w38.drew fun t49 w48=>IfB (!t49) (Qw' 159 #[Qy t0,Qz x4.1,Qz x4.snd.1,Qz x29.1] w48 fun n52 w51=>([]:List Df)=[]/\∃b53:Nat,b53<b3/\y1 b53 (n52,x4.snd.1,n18,x4.snd.snd.snd.1,x4.snd.snd.snd.2) w51) (Cx 160 #[Qy t0,Qz x4.1,Qz x4.snd.1,Qz x29.1] w48 fun v54 w55=>∃(x56:Int×Bool),v54=Value.tuple #[Qz x56.1,Value.bool x56.2]/\¬(8:Int)=0/\IfB (decide (IntKind.i64.wrap (x56.fst-x4.fst)<IntKind.i64.wrap (x4.snd.fst-x56.fst))) (F136k2 t0 x4 x56 n18 w55 b3 y1) (F136k1 t0 x56 x4 n18 w55 b3 y1))) (Cx 160 #[Qy t0,Qz x4.1,Qz x4.snd.1,Qz x29.1] w38.drew fun v65 w66=>∃(x67:Int×Bool),v65=Value.tuple #[Qz x67.1,Value.bool x67.2]/\¬(8:Int)=0/\IfB (decide (IntKind.i64.wrap (x67.fst-x4.fst)<IntKind.i64.wrap (x4.snd.fst-x67.fst))) (F136k2 t0 x4 x67 n18 w66 b3 y1) (F136k1 t0 x67 x4 n18 w66 b3 y1))
def F136j3(t0:Sl)(R:RV)(y1:Nat->Int×Int×Int×Bool×Bool->World->Prop)(b3:Nat)(x4:Int×Int×Int×Bool×Bool)(n18:Int)(x29:Int×Int)(w30:World):Prop:=∃(y33:Unit->World->Prop),IfB x4.snd.snd.snd.1 (IfB x4.snd.snd.snd.2 (IfB (x29.2 == 1) (Qv' 157 #[Qy t0,Qz x4.1,Qz x4.snd.1] w30 fun t36 w35=>IfB t36 (R (Value.tuple #[]) w35) (([]:List Df)=[]/\y33 PUnit.unit w35)) (([]:List Df)=[]/\y33 PUnit.unit w30)) (([]:List Df)=[]/\y33 PUnit.unit w30)) (([]:List Df)=[]/\y33 PUnit.unit w30)/\∀(y37:Unit)(w38:World)(y39:Nat->Value),y33 y37 w38->(F136j4 t0 y1 b3 x4 n18 x29 w38)
def F136j2(t0:Sl)(R:RV)(y1:Nat->Int×Int×Int×Bool×Bool->World->Prop)(b3:Nat)(x4:Int×Int×Int×Bool×Bool)(n18:Int)(w19:World):Prop:=Cx 155 #[Qy t0,Qz x4.1,Qz x4.snd.1] w19 fun v22 w23=>∃(x24:Int×Int),v22=Value.tuple #[Qz x24.1,Qz x24.2]/\∃(y25:Int×Int->World->Prop),IfB (x24.2 == 2) (Cx 156 #[Qy t0,Qz x4.1,Qz x4.snd.1] w23 fun v26 w27=>∃y28:Unit,v26=Value.tuple #[]/\([]:List Df)=[]/\y25 (IntKind.i64.wrap (IntKind.i64.wrap (x4.snd.1-1)-IntKind.i64.wrap (x24.1-x4.1)),1) w27) (([]:List Df)=[]/\y25 (x24.1,x24.2) w23)/\∀(x29:Int×Int)(w30:World)(y31:Nat->Value),y25 x29 w30->(F136j3 t0 R y1 b3 x4 n18 x29 w30)
def F136j1(t0:Sl)(R:RV)(y1:Nat->Int×Int×Int×Bool×Bool->World->Prop)(b3:Nat)(x4:Int×Int×Int×Bool×Bool)(w5:World):Prop:=IfB (decide (IntKind.i64.wrap (x4.snd.fst-x4.fst)<=12)) (Cx 152 #[Qy t0,Qz x4.1,Qz x4.snd.1] w5 fun v8 w9=>∃y10:Unit,v8=Value.tuple #[]/\R (Value.tuple #[]) w9) (IfB (x4.snd.snd.1 == 0) (Cx 153 #[Qy t0,Qz x4.1,Qz x4.snd.1] w5 fun v11 w12=>∃y13:Unit,v11=Value.tuple #[]/\R (Value.tuple #[]) w12) (∃(y14:Int->World->Prop),IfB (!x4.snd.snd.snd.1) (Cx 154 #[Qy t0,Qz x4.1,Qz x4.snd.1] w5 fun v15 w16=>∃y17:Unit,v15=Value.tuple #[]/\([]:List Df)=[]/\y14 (IntKind.i64.wrap (x4.snd.snd.1-1)) w16) (([]:List Df)=[]/\y14 x4.snd.snd.1 w5)/\∀(n18:Int)(w19:World)(y20:Nat->Value),y14 n18 w19->(F136j2 t0 R y1 b3 x4 n18 w19)))
theorem F136_ok(t0:Sl)(t1:Int)(t2:Int)(t3:Int)(w:World)(R:RV)(h:Ql (α:=Int×Int×Int×Bool×Bool) (t1,t2,t3,true,true) w fun y1 b3 x4 w5=>(F136j1 t0 R y1 b3 x4 w5)):Cw 136 #[Qy t0,Qz t1,Qz t2,Qz t3] w R:=
 ckF Tryz.func136 (nd (nd (.loop [(1,oi),(2,oi),(3,oi),(8,ob),(9,ob)] (rg [1,3,8,133]) (nd (nd (nd (.join [(3,oi)] (rg [3,3,34,41]) .nil (nd (.join [(11,oi),(12,oi)] (rg [11,12,49,60]) .nil (.join [] (rg [61,72]) .nil (.node (.node (.draw (sts [0,1,2,3,4,5,6,7,8,9,10,11] (.ac 12 [] (sts [13,14] .fin) .non))) .nil) .nil))))))))))) h (by kernel_rfl) (by kernel_rfl)
theorem F122_ok(t0:Int)(w:World)(R:RV)(h:Cx 149 #[Value.int IntKind.u64 t0] w fun v1 w2=>∃n3:Int,v1=Qz n3/\R (Qz n3) w2):Cw 122 #[Value.int IntKind.u64 t0] w R:=
 ckF Tryz.func122 .nil h (by kernel_rfl) (by kernel_rfl)
def F152j2(t0:Sl)(t1:Int)(y1:Nat->Int->World->Prop)(b3:Nat)(n4:Int)(y8:Nat->Int->World->Prop)(b10:Nat)(n11:Int)(w12:World):Prop:=IfB (decide (t1<n11)) (Qx t0.1 n11 (t0.2:Int) fun b15 b16=>Qi w12.drew b15 (b16+n11.toNat) fun n17=>Qx t0.1 (IntKind.i64.wrap (n11-1)) (t0.2:Int) fun b18 b19=>Qi w12.drew b18 (b19+(IntKind.i64.wrap (n11-1)).toNat) fun n20=>Qv' 158 #[Qz n17,Qz n20] w12.drew fun t23 w22=>IfB t23 (Qx t0.1 (IntKind.i64.wrap (n11-1)) (t0.2:Int) fun b24 b25=>Qi w22.drew b24 (b25+(IntKind.i64.wrap (n11-1)).toNat) fun n26=>Qx t0.1 n11 (t0.2:Int) fun b27 b28=>Qi w22.drew b27 (b28+n11.toNat) fun n29=>Qx t0.1 n11 (t0.2:Int) fun b30 b31=>#[Qz n26].size=1/\StoreP w22.drew b30 (b31+n11.toNat) [Qz n26] fun w32=>Qx t0.1 (IntKind.i64.wrap (n11-1)) (t0.2:Int) fun b33 b34=>#[Qz n29].size=1/\StoreP w32 b33 (b34+(IntKind.i64.wrap (n11-1)).toNat) [Qz n29] fun w35=>([]:List Df)=[]/\∃b36:Nat,b36<b10/\y8 b36 (IntKind.i64.wrap (n11-1)) w35) (([]:List Df)=[]/\∃b37:Nat,b37<b3/\y1 b37 (IntKind.i64.wrap (n4+1)) w22)) (([]:List Df)=[]/\∃b38:Nat,b38<b3/\y1 b38 (IntKind.i64.wrap (n4+1)) w12.drew)
theorem F152_ok(t0:Sl)(t1:Int)(t2:Int)(w:World)(R:RV)(h:Ql (α:=Int) (IntKind.i64.wrap (t1+1)) w fun y1 b3 n4 w5=>IfB (decide (n4<t2)) (Ql (α:=Int) n4 w5 fun y8 b10 n11 w12=>(F152j2 t0 t1 y1 b3 n4 y8 b10 n11 w12)) (R (Value.tuple #[]) w5)):Cw 152 #[Qy t0,Qz t1,Qz t2] w R:=
 ckF Tryz.func152 (nd (.loop [(6,oi)] (rg [6,7,10,48]) (nd (.node (nd (.loop [(7,oi)] (rg [7,7,16,48]) (.node (.node (.draw (sts [0,1,2,3,4,5,6,7,8,9,10,11,12] (.ac 13 [] (.st 14 .fin) .non))) .nil) (.node (.draw (sts [0,1,2,3,4,5,6,7,8,9,10,11,12,13,14] (.ac 15 [4,3,2] (.st 16 (.ac 17 [] .fin .non)) .non))) .nil)))) .nil)))) h (by kernel_rfl) (by kernel_rfl)
def F153j2(t0:Sl)(t1:Int)(R:RV)(y12:Nat->Int->World->Prop)(b14:Nat)(n15:Int)(w16:World):Prop:=IfB (decide (0<=n15)) (Qx t0.1 (IntKind.i64.wrap (t1+n15)) (t0.2:Int) fun b19 b20=>Qi w16.drew b19 (b20+(IntKind.i64.wrap (t1+n15)).toNat) fun n21=>Qx t0.1 t1 (t0.2:Int) fun b22 b23=>Qi w16.drew b22 (b23+t1.toNat) fun n24=>Qx t0.1 t1 (t0.2:Int) fun b25 b26=>#[Qz n21].size=1/\StoreP w16.drew b25 (b26+t1.toNat) [Qz n21] fun w27=>Qx t0.1 (IntKind.i64.wrap (t1+n15)) (t0.2:Int) fun b28 b29=>#[Qz n24].size=1/\StoreP w27 b28 (b29+(IntKind.i64.wrap (t1+n15)).toNat) [Qz n24] fun w30=>Cx 167 #[Qy t0,Qz 0,Qz n15,Qz t1] w30 fun v31 w32=>∃y33:Unit,v31=Value.tuple #[]/\([]:List Df)=[]/\∃b34:Nat,b34<b14/\y12 b34 (IntKind.i64.wrap (n15-1)) w32) (R (Value.tuple #[]) w16)
def F153j1(t0:Sl)(t1:Int)(t2:Int)(R:RV)(y1:Nat->Int->World->Prop)(b3:Nat)(n4:Int)(w5:World):Prop:=IfB (decide (0<=n4)) (Cx 167 #[Qy t0,Qz n4,Qz (IntKind.i64.wrap (t2-t1)),Qz t1] w5 fun v8 w9=>∃y10:Unit,v8=Value.tuple #[]/\([]:List Df)=[]/\∃b11:Nat,b11<b3/\y1 b11 (IntKind.i64.wrap (n4-1)) w9) (Ql (α:=Int) (IntKind.i64.wrap (IntKind.i64.wrap (t2-t1)-1)) w5 fun y12 b14 n15 w16=>(F153j2 t0 t1 R y12 b14 n15 w16))
theorem F153_ok(t0:Sl)(t1:Int)(t2:Int)(w:World)(R:RV)(h:¬(2:Int)=0/\Ql (α:=Int) (IntKind.i64.wrap ((IntKind.i64.wrap (IntKind.i64.wrap (t2-t1)-1)).tdiv 2)) w fun y1 b3 n4 w5=>(F153j1 t0 t1 t2 R y1 b3 n4 w5)):Cw 153 #[Qy t0,Qz t1,Qz t2] w R:=
 ckF Tryz.func153 (nd (nd (nd (.node (nd (.loop [(9,oi)] (rg [9,9,18,26]) .nil)) (nd (.loop [(10,oi)] (rg [10,10,29,55]) (nd (.node (.node (.draw (sts [0,1,2,3,4,5,6,7,8,9,10,11,12,13,14,15,16] (.ac 17 [5,4,3,2] (.st 18 (.ac 19 [] .fin .non)) .non))) .nil) .nil)))))))) h (by kernel_rfl) (by kernel_rfl)
def F154j2(t0:Sl)(t1:Int)(y7:Nat->Int->World->Prop)(b9:Nat)(n10:Int)(n18:Int)(w19:World):Prop:=Qx t0.1 (IntKind.i64.wrap (t1+n18)) (t0.2:Int) fun b22 b23=>Qi w19.drew b22 (b23+(IntKind.i64.wrap (t1+n18)).toNat) fun n24=>Qx t0.1 n10 (t0.2:Int) fun b25 b26=>Qi w19.drew b25 (b26+n10.toNat) fun n27=>Qx t0.1 n10 (t0.2:Int) fun b28 b29=>#[Qz n24].size=1/\StoreP w19.drew b28 (b29+n10.toNat) [Qz n24] fun w30=>Qx t0.1 (IntKind.i64.wrap (t1+n18)) (t0.2:Int) fun b31 b32=>#[Qz n27].size=1/\StoreP w30 b31 (b32+(IntKind.i64.wrap (t1+n18)).toNat) [Qz n27] fun w33=>([]:List Df)=[]/\∃b34:Nat,b34<b9/\y7 b34 (IntKind.i64.wrap (n10+1)) w33
def F154j1(t0:Sl)(t1:Int)(t2:Int)(R:RV)(b1:Nat)(n6:Int)(y7:Nat->Int->World->Prop)(b9:Nat)(n10:Int)(w11:World):Prop:=¬(4:Int)=0/\IfB (decide (n10<=IntKind.i64.wrap (IntKind.i64.wrap (t1+IntKind.i64.wrap (IntKind.i64.wrap ((IntKind.i64.wrap (t2-t1)).tdiv 4)*2))+1))) (Cx 163 #[Value.pointer (some ⟨b1,0,none⟩)] w11 fun v14 w15=>∃n16:Int,v14=Value.int IntKind.u64 n16/\∃(y17:Int->World->Prop),IfB (decide (IntKind.i64.wrap (t2-t1)<=IntKind.i64.wrap (bitsI BinOp.and IntKind.u64 n16 (IntKind.u64.wrap (n6-1))))) (([]:List Df)=[]/\y17 (IntKind.i64.wrap (IntKind.i64.wrap (bitsI BinOp.and IntKind.u64 n16 (IntKind.u64.wrap (n6-1)))-IntKind.i64.wrap (t2-t1))) w15) (([]:List Df)=[]/\y17 (IntKind.i64.wrap (bitsI BinOp.and IntKind.u64 n16 (IntKind.u64.wrap (n6-1)))) w15)/\∀(n18:Int)(w19:World)(y20:Nat->Value),y17 n18 w19->(F154j2 t0 t1 y7 b9 n10 n18 w19)) (R (Value.tuple #[]) w11)
def F154(t0:Sl)(t1:Int)(t2:Int)(w:World)(R:RV):Prop:=IfB (decide (8<=IntKind.i64.wrap (t2-t1))) (AllocP w (Obj.cells #[Value.int IntKind.u64 0] 202) fun b1 w2=>#[Value.int IntKind.u64 (IntKind.u64.wrap (IntKind.i64.wrap (t2-t1)))].size=1/\StoreP w2 b1 0 [Value.int IntKind.u64 (IntKind.u64.wrap (IntKind.i64.wrap (t2-t1)))] fun w3=>Cx 162 #[Qz (IntKind.i64.wrap (t2-t1))] w3 fun v4 w5=>∃n6:Int,v4=Value.int IntKind.u64 n6/\¬(4:Int)=0/\Ql (α:=Int) (IntKind.i64.wrap (IntKind.i64.wrap (t1+IntKind.i64.wrap (IntKind.i64.wrap ((IntKind.i64.wrap (t2-t1)).tdiv 4)*2))-1)) w5 fun y7 b9 n10 w11=>(F154j1 t0 t1 t2 R b1 n6 y7 b9 n10 w11)) (R (Value.tuple #[]) w)
theorem F154_ok(t0:Sl)(t1:Int)(t2:Int)(w:World)(R:RV)(h:F154 t0 t1 t2 w R):Cw 154 #[Qy t0,Qz t1,Qz t2] w R:=
 ckF Tryz.func154 (nd (nd (.node (nd (nd (nd (.loop [(9,oi)] (rg [9,10,26,64]) (nd (.node (nd (.join [(10,oi)] (rg [10,10,41,46]) .nil (.draw (sts [0,1,2,3,4,5,6,7,8,9,10,11,12,13,14,15,16] (.ac 17 [5,4,3,2] (.st 18 (.ac 19 [] .fin .non)) .non))))) .nil)))))) .nil))) h (by kernel_rfl) (by kernel_rfl)
def F155j2(R:RV)(b1:Nat)(n21:Int)(w22:World):Prop:=Qi w22 b1 0 fun n25=>IfB (n25 == 0) (R (Value.tuple #[Qz n21,Qz 1]) w22) (IfB (n25 == 12) (R (Value.tuple #[Qz n21,Qz 2]) w22) (R (Value.tuple #[Qz n21,Qz 0]) w22))
theorem F155_ok(t0:Sl)(t1:Int)(t2:Int)(w:World)(R:RV)(h:AllocP w (Obj.cells #[Qz 0] 3) fun b1 w2=>¬(4:Int)=0/\¬(4:Int)=0/\¬(4:Int)=0/\∃(y3:Int->World->Prop),IfB (decide (8<=IntKind.i64.wrap (t2-t1))) (∃(y4:Int×Int×Int->World->Prop),IfB (decide (50<=IntKind.i64.wrap (t2-t1))) (Qw' 168 #[Qy t0,Qz (IntKind.i64.wrap (t1+IntKind.i64.wrap (IntKind.i64.wrap ((IntKind.i64.wrap (t2-t1)).tdiv 4)*1))),Value.pointer (some ⟨b1,0,none⟩)] w2 fun n7 w6=>Qw' 168 #[Qy t0,Qz (IntKind.i64.wrap (t1+IntKind.i64.wrap (IntKind.i64.wrap ((IntKind.i64.wrap (t2-t1)).tdiv 4)*2))),Value.pointer (some ⟨b1,0,none⟩)] w6 fun n10 w9=>Qw' 168 #[Qy t0,Qz (IntKind.i64.wrap (t1+IntKind.i64.wrap (IntKind.i64.wrap ((IntKind.i64.wrap (t2-t1)).tdiv 4)*3))),Value.pointer (some ⟨b1,0,none⟩)] w9 fun n13 w12=>([]:List Df)=[]/\y4 (n7,n10,n13) w12) (([]:List Df)=[]/\y4 (IntKind.i64.wrap (t1+IntKind.i64.wrap (IntKind.i64.wrap ((IntKind.i64.wrap (t2-t1)).tdiv 4)*1)),IntKind.i64.wrap (t1+IntKind.i64.wrap (IntKind.i64.wrap ((IntKind.i64.wrap (t2-t1)).tdiv 4)*2)),IntKind.i64.wrap (t1+IntKind.i64.wrap (IntKind.i64.wrap ((IntKind.i64.wrap (t2-t1)).tdiv 4)*3))) w2)/\∀(x14:Int×Int×Int)(w15:World)(y16:Nat->Value),y4 x14 w15->Qw' 169 #[Qy t0,Qz x14.1,Qz x14.snd.1,Qz x14.snd.2,Value.pointer (some ⟨b1,0,none⟩)] w15 fun n20 w19=>([]:List Df)=[]/\y3 n20 w19) (([]:List Df)=[]/\y3 (IntKind.i64.wrap (t1+IntKind.i64.wrap (IntKind.i64.wrap ((IntKind.i64.wrap (t2-t1)).tdiv 4)*2))) w2)/\∀(n21:Int)(w22:World)(y23:Nat->Value),y3 n21 w22->(F155j2 R b1 n21 w22)):Cw 155 #[Qy t0,Qz t1,Qz t2] w R:=
 ckF Tryz.func155 (nd (nd (nd (nd (nd (nd (.join [(11,oi)] (rg [10,12,31,48]) (nd (.node (.join [(10,oi),(11,oi),(12,oi)] (rg [10,12,33,43]) .nil .nil) .nil)) .nil))))))) h (by kernel_rfl) (by kernel_rfl)
def F156j1(t0:Sl)(R:RV)(y1:Nat->Int×Int->World->Prop)(b3:Nat)(x4:Int×Int)(w5:World):Prop:=IfB (decide (x4.fst<x4.snd)) (Qx t0.1 x4.2 (t0.2:Int) fun b8 b9=>Qi w5.drew b8 (b9+x4.2.toNat) fun n10=>Qx t0.1 x4.1 (t0.2:Int) fun b11 b12=>Qi w5.drew b11 (b12+x4.1.toNat) fun n13=>Qx t0.1 x4.1 (t0.2:Int) fun b14 b15=>#[Qz n10].size=1/\StoreP w5.drew b14 (b15+x4.1.toNat) [Qz n10] fun w16=>Qx t0.1 x4.2 (t0.2:Int) fun b17 b18=>#[Qz n13].size=1/\StoreP w16 b17 (b18+x4.2.toNat) [Qz n13] fun w19=>([]:List Df)=[]/\∃b20:Nat,b20<b3/\y1 b20 (IntKind.i64.wrap (x4.1+1),IntKind.i64.wrap (x4.2-1)) w19) (R (Value.tuple #[]) w5)
theorem F156_ok(t0:Sl)(t1:Int)(t2:Int)(w:World)(R:RV)(h:Ql (α:=Int×Int) (t1,IntKind.i64.wrap (t2-1)) w fun y1 b3 x4 w5=>(F156j1 t0 R y1 b3 x4 w5)):Cw 156 #[Qy t0,Qz t1,Qz t2] w R:=
 ckF Tryz.func156 (nd (nd (.loop [(6,oi),(7,oi)] (rg [6,7,11,31]) (nd (.node (.draw (sts [0,1,2,3,4,5,6,7,8,9,10,11,12] (.ac 13 [3,2] (.st 14 (.ac 15 [] .fin .non)) .non))) .nil))))) h (by kernel_rfl) (by kernel_rfl)
def F157j2(t0:Sl)(t2:Int)(y8:Int->World->Prop)(y9:Nat->Int->World->Prop)(b11:Nat)(n12:Int)(w13:World):Prop:=IfB (decide (n12<t2)) (Qx t0.1 n12 (t0.2:Int) fun b16 b17=>Qi w13.drew b16 (b17+n12.toNat) fun n18=>Qx t0.1 (IntKind.i64.wrap (n12-1)) (t0.2:Int) fun b19 b20=>Qi w13.drew b19 (b20+(IntKind.i64.wrap (n12-1)).toNat) fun n21=>Qv' 158 #[Qz n18,Qz n21] w13.drew fun t24 w23=>IfB (!t24) (([]:List Df)=[]/\∃b25:Nat,b25<b11/\y9 b25 (IntKind.i64.wrap (n12+1)) w23) (([]:List Df)=[]/\y8 n12 w23)) (([]:List Df)=[]/\y8 n12 w13.drew)
def F157j4(t0:Sl)(y42:Unit->World->Prop)(y43:Nat->Int->World->Prop)(b45:Nat)(n46:Int)(w47:World):Prop:=IfB (decide (1<=n46)) (Qx t0.1 n46 (t0.2:Int) fun b50 b51=>Qi w47.drew b50 (b51+n46.toNat) fun n52=>Qx t0.1 (IntKind.i64.wrap (n46-1)) (t0.2:Int) fun b53 b54=>Qi w47.drew b53 (b54+(IntKind.i64.wrap (n46-1)).toNat) fun n55=>Qv' 158 #[Qz n52,Qz n55] w47.drew fun t58 w57=>IfB (!t58) (([]:List Df)=[]/\y42 PUnit.unit w57) (Qx t0.1 (IntKind.i64.wrap (n46-1)) (t0.2:Int) fun b59 b60=>Qi w57.drew b59 (b60+(IntKind.i64.wrap (n46-1)).toNat) fun n61=>Qx t0.1 n46 (t0.2:Int) fun b62 b63=>Qi w57.drew b62 (b63+n46.toNat) fun n64=>Qx t0.1 n46 (t0.2:Int) fun b65 b66=>#[Qz n61].size=1/\StoreP w57.drew b65 (b66+n46.toNat) [Qz n61] fun w67=>Qx t0.1 (IntKind.i64.wrap (n46-1)) (t0.2:Int) fun b68 b69=>#[Qz n64].size=1/\StoreP w67 b68 (b69+(IntKind.i64.wrap (n46-1)).toNat) [Qz n64] fun w70=>([]:List Df)=[]/\∃b71:Nat,b71<b45/\y43 b71 (IntKind.i64.wrap (n46-1)) w70)) (([]:List Df)=[]/\y42 PUnit.unit w47)
def F157j7(t0:Sl)(t2:Int)(y1:Nat->Int×Int->World->Prop)(b3:Nat)(x4:Int×Int)(n26:Int)(y81:Nat->Int->World->Prop)(b83:Nat)(n84:Int)(w85:World):Prop:=IfB (decide (n84<t2)) (Qx t0.1 n84 (t0.2:Int) fun b88 b89=>Qi w85.drew b88 (b89+n84.toNat) fun n90=>Qx t0.1 (IntKind.i64.wrap (n84-1)) (t0.2:Int) fun b91 b92=>Qi w85.drew b91 (b92+(IntKind.i64.wrap (n84-1)).toNat) fun n93=>Qv' 158 #[Qz n90,Qz n93] w85.drew fun t96 w95=>IfB (!t96) (([]:List Df)=[]/\∃b97:Nat,b97<b3/\y1 b97 (n26,IntKind.i64.wrap (x4.2+1)) w95) (Qx t0.1 (IntKind.i64.wrap (n84-1)) (t0.2:Int) fun b98 b99=>Qi w95.drew b98 (b99+(IntKind.i64.wrap (n84-1)).toNat) fun n100=>Qx t0.1 n84 (t0.2:Int) fun b101 b102=>Qi w95.drew b101 (b102+n84.toNat) fun n103=>Qx t0.1 n84 (t0.2:Int) fun b104 b105=>#[Qz n100].size=1/\StoreP w95.drew b104 (b105+n84.toNat) [Qz n100] fun w106=>Qx t0.1 (IntKind.i64.wrap (n84-1)) (t0.2:Int) fun b107 b108=>#[Qz n103].size=1/\StoreP w106 b107 (b108+(IntKind.i64.wrap (n84-1)).toNat) [Qz n103] fun w109=>([]:List Df)=[]/\∃b110:Nat,b110<b83/\y81 b110 (IntKind.i64.wrap (n84+1)) w109)) (([]:List Df)=[]/\∃b111:Nat,b111<b3/\y1 b111 (n26,IntKind.i64.wrap (x4.2+1)) w85)
def F157j5(t0:Sl)(t2:Int)(y1:Nat->Int×Int->World->Prop)(b3:Nat)(x4:Int×Int)(n26:Int)(w73:World):Prop:=∃(y76:Bool->World->Prop),(([]:List Df)=[]/\y76 (decide (2<=IntKind.i64.wrap (t2-n26))) w73)/\∀(t77:Bool)(w78:World)(y79:Nat->Value),y76 t77 w78->IfB t77 (Ql (α:=Int) (IntKind.i64.wrap (n26+1)) w78 fun y81 b83 n84 w85=>(F157j7 t0 t2 y1 b3 x4 n26 y81 b83 n84 w85)) (([]:List Df)=[]/\∃b112:Nat,b112<b3/\y1 b112 (n26,IntKind.i64.wrap (x4.2+1)) w78)
def F157j3(t0:Sl)(t1:Int)(t2:Int)(R:RV)(y1:Nat->Int×Int->World->Prop)(b3:Nat)(x4:Int×Int)(n26:Int)(w27:World):Prop:=IfB (n26 == t2) (R (Value.bool true) w27) (IfB (decide (IntKind.i64.wrap (t2-t1)<50)) (R (Value.bool false) w27) (Qx t0.1 (IntKind.i64.wrap (n26-1)) (t0.2:Int) fun b30 b31=>Qi w27.drew b30 (b31+(IntKind.i64.wrap (n26-1)).toNat) fun n32=>Qx t0.1 n26 (t0.2:Int) fun b33 b34=>Qi w27.drew b33 (b34+n26.toNat) fun n35=>Qx t0.1 n26 (t0.2:Int) fun b36 b37=>#[Qz n32].size=1/\StoreP w27.drew b36 (b37+n26.toNat) [Qz n32] fun w38=>Qx t0.1 (IntKind.i64.wrap (n26-1)) (t0.2:Int) fun b39 b40=>#[Qz n35].size=1/\StoreP w38 b39 (b40+(IntKind.i64.wrap (n26-1)).toNat) [Qz n35] fun w41=>∃(y42:Unit->World->Prop),IfB (decide (2<=IntKind.i64.wrap (n26-t1))) (Ql (α:=Int) (IntKind.i64.wrap (n26-1)) w41 fun y43 b45 n46 w47=>(F157j4 t0 y42 y43 b45 n46 w47)) (([]:List Df)=[]/\y42 PUnit.unit w41)/\∀(y72:Unit)(w73:World)(y74:Nat->Value),y42 y72 w73->(F157j5 t0 t2 y1 b3 x4 n26 w73)))
theorem F157_ok(t0:Sl)(t1:Int)(t2:Int)(w:World)(R:RV)(h:Ql (α:=Int×Int) (IntKind.i64.wrap (t1+1),0) w fun y1 b3 x4 w5=>IfB (decide (x4.snd<5)) (∃(y8:Int->World->Prop),(Ql (α:=Int) x4.1 w5 fun y9 b11 n12 w13=>(F157j2 t0 t2 y8 y9 b11 n12 w13))/\∀(n26:Int)(w27:World)(y28:Nat->Value),y8 n26 w27->(F157j3 t0 t1 t2 R y1 b3 x4 n26 w27)) (R (Value.bool false) w5)):Cw 157 #[Qy t0,Qz t1,Qz t2] w R:=
 ckF Tryz.func157 (nd (nd (.node (nd (.loop [(7,oi),(8,oi)] (rg [6,10,13,132]) (nd (.node (.join [(7,oi)] (rg [7,7,17,34]) (.loop [(7,oi)] (rg [7,7,17,34]) (.node (.node (.draw (sts [0,1,2,3,4,5,6,7,8,9,10,11,12] (.ac 13 [] (sts [14,15] .fin) .non))) .nil) .nil)) (nd (nd (.node (.draw (sts [0,1,2,3,4,5,6,7,8,9,10,11,12,13,14] (.ac 15 [4,3,2] (.st 16 (.ac 17 [] .fin .non)) .non))) (.join [] (rg [9,9,58,94]) (nd (.node (nd (.loop [(9,oi)] (rg [9,9,64,94]) (nd (.node (.node (.node (.draw (sts [0,1,2,3,4,5,6,7,8] (.ac 9 [] (.st 10 .fin) .non))) .nil) (.draw (sts [0,1,2,3,4,5,6,7,8,9,10,11,12,13,14] (.ac 15 [4,3,2] (.st 16 (.ac 17 [] .fin .non)) .non)))) .nil)))) .nil)) (.join [(98,ob)] [95,96,97,98] .nil (.node (nd (.loop [(10,oi)] (rg [10,10,101,132]) (nd (.node (.node (.node (.draw (sts [0,1,2,3,4,5,6,7,8] (.ac 9 [] (.st 10 .fin) .non))) .nil) (.draw (sts [0,1,2,3,4,5,6,7,8,9,10,11,12,13,14] (.ac 15 [4,3,2] (.st 16 (.ac 17 [] .fin .non)) .non)))) .nil)))) .nil))))))) .nil)))) .nil))) h (by kernel_rfl) (by kernel_rfl)
theorem F158_ok(t0:Int)(t1:Int)(w:World)(R:RV)(h:Cx 123 #[Qz t0] w fun v1 w2=>∃t3:Bool,v1=Value.bool t3/\IfB t3 (Qv' 123 #[Qz t1] w2 fun t6 w5=>IfB (!t6) (R (Value.bool true) w5) (R (Value.bool (decide (t0<t1))) w5)) (R (Value.bool (decide (t0<t1))) w2)):Cw 158 #[Qz t0,Qz t1] w R:=
 ckF Tryz.func158 .nil h (by kernel_rfl) (by kernel_rfl)
def F159j2(t0:Sl)(t1:Int)(x16:Int×Int)(y20:Int->World->Prop)(y21:Nat->Int->World->Prop)(b23:Nat)(n24:Int)(w25:World):Prop:=IfB (decide (n24<=x16.snd)) (Qx t0.1 t1 (t0.2:Int) fun b28 b29=>Qi w25.drew b28 (b29+t1.toNat) fun n30=>Qx t0.1 n24 (t0.2:Int) fun b31 b32=>Qi w25.drew b31 (b32+n24.toNat) fun n33=>Qv' 158 #[Qz n30,Qz n33] w25.drew fun t36 w35=>IfB (!t36) (([]:List Df)=[]/\∃b37:Nat,b37<b23/\y21 b37 (IntKind.i64.wrap (n24+1)) w35) (([]:List Df)=[]/\y20 n24 w35)) (([]:List Df)=[]/\y20 n24 w25.drew)
def F159j4(t0:Sl)(t1:Int)(n38:Int)(y42:Int->World->Prop)(y43:Nat->Int->World->Prop)(b45:Nat)(n46:Int)(w47:World):Prop:=IfB (decide (n38<=n46)) (Qx t0.1 t1 (t0.2:Int) fun b50 b51=>Qi w47.drew b50 (b51+t1.toNat) fun n52=>Qx t0.1 n46 (t0.2:Int) fun b53 b54=>Qi w47.drew b53 (b54+n46.toNat) fun n55=>Qv' 158 #[Qz n52,Qz n55] w47.drew fun t58 w57=>IfB t58 (([]:List Df)=[]/\∃b59:Nat,b59<b45/\y43 b59 (IntKind.i64.wrap (n46-1)) w57) (([]:List Df)=[]/\y42 n46 w57)) (([]:List Df)=[]/\y42 n46 w47.drew)
def F159j5(t0:Sl)(R:RV)(y13:Nat->Int×Int->World->Prop)(b15:Nat)(n38:Int)(n60:Int)(w61:World):Prop:=IfB (decide (n60<n38)) (R (Qz n38) w61) (Qx t0.1 n60 (t0.2:Int) fun b64 b65=>Qi w61.drew b64 (b65+n60.toNat) fun n66=>Qx t0.1 n38 (t0.2:Int) fun b67 b68=>Qi w61.drew b67 (b68+n38.toNat) fun n69=>Qx t0.1 n38 (t0.2:Int) fun b70 b71=>#[Qz n66].size=1/\StoreP w61.drew b70 (b71+n38.toNat) [Qz n66] fun w72=>Qx t0.1 n60 (t0.2:Int) fun b73 b74=>#[Qz n69].size=1/\StoreP w72 b73 (b74+n60.toNat) [Qz n69] fun w75=>([]:List Df)=[]/\∃b76:Nat,b76<b15/\y13 b76 (IntKind.i64.wrap (n38+1),IntKind.i64.wrap (n60-1)) w75)
def F159j1(t0:Sl)(t1:Int)(R:RV)(y13:Nat->Int×Int->World->Prop)(b15:Nat)(x16:Int×Int)(w17:World):Prop:=∃(y20:Int->World->Prop),(Ql (α:=Int) x16.1 w17 fun y21 b23 n24 w25=>(F159j2 t0 t1 x16 y20 y21 b23 n24 w25))/\∀(n38:Int)(w39:World)(y40:Nat->Value),y20 n38 w39->∃(y42:Int->World->Prop),(Ql (α:=Int) x16.2 w39 fun y43 b45 n46 w47=>(F159j4 t0 t1 n38 y42 y43 b45 n46 w47))/\∀(n60:Int)(w61:World)(y62:Nat->Value),y42 n60 w61->(F159j5 t0 R y13 b15 n38 n60 w61)
theorem F159_ok(t0:Sl)(t1:Int)(t2:Int)(t3:Int)(w:World)(R:RV)(h:Qx t0.1 t3 (t0.2:Int) fun b1 b2=>∃n3:Int,w.drew.cell? ⟨b1,b2+t3.toNat,none⟩=some (Qz n3)/\Qx t0.1 t1 (t0.2:Int) fun b4 b5=>∃n6:Int,w.drew.cell? ⟨b4,b5+t1.toNat,none⟩=some (Qz n6)/\Qx t0.1 t1 (t0.2:Int) fun b7 b8=>#[Qz n3].size=1/\StoreP w.drew b7 (b8+t1.toNat) [Qz n3] fun w9=>Qx t0.1 t3 (t0.2:Int) fun b10 b11=>#[Qz n6].size=1/\StoreP w9 b10 (b11+t3.toNat) [Qz n6] fun w12=>Ql (α:=Int×Int) (IntKind.i64.wrap (t1+1),IntKind.i64.wrap (t2-1)) w12 fun y13 b15 x16 w17=>(F159j1 t0 t1 R y13 b15 x16 w17)):Cw 159 #[Qy t0,Qz t1,Qz t2,Qz t3] w R:=
 ckF Tryz.func159 (nd (.node (.draw (sts [0,1,2,3,4,5,6,7,8,9,10,11,12] (.ac 13 [3,2] (.st 14 (.ac 15 [] .fin .non)) .non))) (nd (.node (.loop [(9,oi),(10,oi)] (rg [9,10,29,82]) (.join [(9,oi)] (rg [9,9,29,45]) (.loop [(9,oi)] (rg [9,9,29,45]) (.node (.node (.draw (sts [0,1,2,3,4,5,6,7,8,9,10,11] (.ac 12 [] (sts [13,14] .fin) .non))) .nil) .nil)) (.join [(10,oi)] (rg [10,10,46,61]) (.loop [(10,oi)] (rg [10,10,46,61]) (.node (.node (.draw (sts [0,1,2,3,4,5,6,7,8,9,10,11] (.ac 12 [] (.st 13 .fin) .non))) .nil) .nil)) (nd (.node (.draw (sts [0,1,2,3,4,5,6,7,8,9,10,11,12] (.ac 13 [3,2] (.st 14 (.ac 15 [] .fin .non)) .non))) .nil))))) .nil)))) h (by kernel_rfl) (by kernel_rfl)
def F160k2(t0:Sl)(n92:Int)(w93:World)(t1:Int)(b91:Nat)(y89:Nat->Int->World->Prop)(y88:Int->World->Prop):Prop:=Qx t0.1 n92 (t0.2:Int) fun b96 b97=>Qi w93.drew b96 (b97+n92.toNat) fun n98=>Qx t0.1 t1 (t0.2:Int) fun b99 b100=>Qi w93.drew b99 (b100+t1.toNat) fun n101=>Qv' 158 #[Qz n98,Qz n101] w93.drew fun t104 w103=>IfB t104 (([]:List Df)=[]/\∃b105:Nat,b105<b91/\y89 b105 (IntKind.i64.wrap (n92+1)) w103) (([]:List Df)=[]/\y88 n92 w103)
def F160j1(t0:Sl)(t1:Int)(t2:Int)(y13:Int->World->Prop)(y14:Nat->Int->World->Prop)(b16:Nat)(n17:Int)(w18:World):Prop:=IfB (decide (n17<=IntKind.i64.wrap (t2-1))) (F160k2 t0 n17 w18 t1 b16 y14 y13) (([]:List Df)=[]/\y13 n17 w18.drew)
def F160k1(t0:Sl)(n114:Int)(w115:World)(t1:Int)(b113:Nat)(y111:Nat->Int->World->Prop)(y110:Int->World->Prop):Prop:=Qx t0.1 n114 (t0.2:Int) fun b118 b119=>Qi w115.drew b118 (b119+n114.toNat) fun n120=>Qx t0.1 t1 (t0.2:Int) fun b121 b122=>Qi w115.drew b121 (b122+t1.toNat) fun n123=>Qv' 158 #[Qz n120,Qz n123] w115.drew fun t126 w125=>IfB (!t126) (([]:List Df)=[]/\∃b127:Nat,b127<b113/\y111 b127 (IntKind.i64.wrap (n114-1)) w125) (([]:List Df)=[]/\y110 n114 w125)
def F160j3(t0:Sl)(t1:Int)(n31:Int)(y35:Int->World->Prop)(y36:Nat->Int->World->Prop)(b38:Nat)(n39:Int)(w40:World):Prop:=IfB (decide (n31<=n39)) (F160k1 t0 n39 w40 t1 b38 y36 y35) (([]:List Df)=[]/\y35 n39 w40.drew)
def F160j6(t0:Sl)(t1:Int)(x84:Int×Int)(y88:Int->World->Prop)(y89:Nat->Int->World->Prop)(b91:Nat)(n92:Int)(w93:World):Prop:=IfB (decide (n92<=x84.snd)) (F160k2 t0 n92 w93 t1 b91 y89 y88) (([]:List Df)=[]/\y88 n92 w93.drew)
def F160j8(t0:Sl)(t1:Int)(n106:Int)(y110:Int->World->Prop)(y111:Nat->Int->World->Prop)(b113:Nat)(n114:Int)(w115:World):Prop:=IfB (decide (n106<=n114)) (F160k1 t0 n114 w115 t1 b113 y111 y110) (([]:List Df)=[]/\y110 n114 w115.drew)
def F160j9(t0:Sl)(t1:Int)(R:RV)(y81:Nat->Int×Int->World->Prop)(b83:Nat)(n106:Int)(n128:Int)(w129:World):Prop:=IfB (decide (n128<n106)) (Qx t0.1 t1 (t0.2:Int) fun b132 b133=>Qi w129.drew b132 (b133+t1.toNat) fun n134=>Qx t0.1 n128 (t0.2:Int) fun b135 b136=>Qi w129.drew b135 (b136+n128.toNat) fun n137=>Qx t0.1 n128 (t0.2:Int) fun b138 b139=>#[Qz n134].size=1/\StoreP w129.drew b138 (b139+n128.toNat) [Qz n134] fun w140=>Qx t0.1 t1 (t0.2:Int) fun b141 b142=>#[Qz n137].size=1/\StoreP w140 b141 (b142+t1.toNat) [Qz n137] fun w143=>R (Value.tuple #[Qz n128,Value.bool false]) w143) (Qx t0.1 n128 (t0.2:Int) fun b144 b145=>Qi w129.drew b144 (b145+n128.toNat) fun n146=>Qx t0.1 n106 (t0.2:Int) fun b147 b148=>Qi w129.drew b147 (b148+n106.toNat) fun n149=>Qx t0.1 n106 (t0.2:Int) fun b150 b151=>#[Qz n146].size=1/\StoreP w129.drew b150 (b151+n106.toNat) [Qz n146] fun w152=>Qx t0.1 n128 (t0.2:Int) fun b153 b154=>#[Qz n149].size=1/\StoreP w152 b153 (b154+n128.toNat) [Qz n149] fun w155=>([]:List Df)=[]/\∃b156:Nat,b156<b83/\y81 b156 (IntKind.i64.wrap (n106+1),IntKind.i64.wrap (n128-1)) w155)
def F160j5(t0:Sl)(t1:Int)(R:RV)(y81:Nat->Int×Int->World->Prop)(b83:Nat)(x84:Int×Int)(w85:World):Prop:=∃(y88:Int->World->Prop),(Ql (α:=Int) x84.1 w85 fun y89 b91 n92 w93=>(F160j6 t0 t1 x84 y88 y89 b91 n92 w93))/\∀(n106:Int)(w107:World)(y108:Nat->Value),y88 n106 w107->∃(y110:Int->World->Prop),(Ql (α:=Int) x84.2 w107 fun y111 b113 n114 w115=>(F160j8 t0 t1 n106 y110 y111 b113 n114 w115))/\∀(n128:Int)(w129:World)(y130:Nat->Value),y110 n128 w129->(F160j9 t0 t1 R y81 b83 n106 n128 w129)
def F160j4(t0:Sl)(t1:Int)(R:RV)(n31:Int)(n53:Int)(w54:World):Prop:=IfB (decide (n53<n31)) (Qx t0.1 t1 (t0.2:Int) fun b57 b58=>Qi w54.drew b57 (b58+t1.toNat) fun n59=>Qx t0.1 n53 (t0.2:Int) fun b60 b61=>Qi w54.drew b60 (b61+n53.toNat) fun n62=>Qx t0.1 n53 (t0.2:Int) fun b63 b64=>#[Qz n59].size=1/\StoreP w54.drew b63 (b64+n53.toNat) [Qz n59] fun w65=>Qx t0.1 t1 (t0.2:Int) fun b66 b67=>#[Qz n62].size=1/\StoreP w65 b66 (b67+t1.toNat) [Qz n62] fun w68=>R (Value.tuple #[Qz n53,Value.bool true]) w68) (Qx t0.1 n53 (t0.2:Int) fun b69 b70=>Qi w54.drew b69 (b70+n53.toNat) fun n71=>Qx t0.1 n31 (t0.2:Int) fun b72 b73=>Qi w54.drew b72 (b73+n31.toNat) fun n74=>Qx t0.1 n31 (t0.2:Int) fun b75 b76=>#[Qz n71].size=1/\StoreP w54.drew b75 (b76+n31.toNat) [Qz n71] fun w77=>Qx t0.1 n53 (t0.2:Int) fun b78 b79=>#[Qz n74].size=1/\StoreP w77 b78 (b79+n53.toNat) [Qz n74] fun w80=>Ql (α:=Int×Int) (IntKind.i64.wrap (n31+1),IntKind.i64.wrap (n53-1)) w80 fun y81 b83 x84 w85=>(F160j5 t0 t1 R y81 b83 x84 w85))
theorem F160_ok(t0:Sl)(t1:Int)(t2:Int)(t3:Int)(w:World)(R:RV)(h:Qx t0.1 t3 (t0.2:Int) fun b1 b2=>∃n3:Int,w.drew.cell? ⟨b1,b2+t3.toNat,none⟩=some (Qz n3)/\Qx t0.1 t1 (t0.2:Int) fun b4 b5=>∃n6:Int,w.drew.cell? ⟨b4,b5+t1.toNat,none⟩=some (Qz n6)/\Qx t0.1 t1 (t0.2:Int) fun b7 b8=>#[Qz n3].size=1/\StoreP w.drew b7 (b8+t1.toNat) [Qz n3] fun w9=>Qx t0.1 t3 (t0.2:Int) fun b10 b11=>#[Qz n6].size=1/\StoreP w9 b10 (b11+t3.toNat) [Qz n6] fun w12=>∃(y13:Int->World->Prop),(Ql (α:=Int) (IntKind.i64.wrap (t1+1)) w12 fun y14 b16 n17 w18=>(F160j1 t0 t1 t2 y13 y14 b16 n17 w18))/\∀(n31:Int)(w32:World)(y33:Nat->Value),y13 n31 w32->∃(y35:Int->World->Prop),(Ql (α:=Int) (IntKind.i64.wrap (t2-1)) w32 fun y36 b38 n39 w40=>(F160j3 t0 t1 n31 y35 y36 b38 n39 w40))/\∀(n53:Int)(w54:World)(y55:Nat->Value),y35 n53 w54->(F160j4 t0 t1 R n31 n53 w54)):Cw 160 #[Qy t0,Qz t1,Qz t2,Qz t3] w R:=
 ckF Tryz.func160 (nd (.node (.draw (sts [0,1,2,3,4,5,6,7,8,9,10,11,12] (.ac 13 [3,2] (.st 14 (.ac 15 [] .fin .non)) .non))) (nd (.join [(10,oi)] (rg [10,10,30,45]) (.loop [(10,oi)] (rg [10,10,30,45]) (.node (.node (.draw (sts [0,1,2,3,4,5,6,7,8,9,10,11] (.ac 12 [] (.st 13 .fin) .non))) .nil) .nil)) (.join [(11,oi)] (rg [11,11,46,62]) (.loop [(11,oi)] (rg [11,11,46,62]) (.node (.node (.draw (sts [0,1,2,3,4,5,6,7,8,9,10,11] (.ac 12 [] (sts [13,14] .fin) .non))) .nil) .nil)) (.node (nd (.node (.node (.draw (sts [0,1,2,3,4,5,6,7,8,9,10,11,12] (.ac 13 [3,2] (.st 14 (.ac 15 [] .fin .non)) .non))) .nil) .nil)) (.node (.draw (sts [0,1,2,3,4,5,6,7,8,9,10,11,12] (.ac 13 [3,2] (.st 14 (.ac 15 [] .fin .non)) .non))) (nd (nd (.node (.loop [(10,oi),(11,oi)] (rg [10,11,99,152]) (.join [(10,oi)] (rg [10,10,99,114]) (.loop [(10,oi)] (rg [10,10,99,114]) (.node (.node (.draw (sts [0,1,2,3,4,5,6,7,8,9,10,11] (.ac 12 [] (.st 13 .fin) .non))) .nil) .nil)) (.join [(11,oi)] (rg [11,11,115,131]) (.loop [(11,oi)] (rg [11,11,115,131]) (.node (.node (.draw (sts [0,1,2,3,4,5,6,7,8,9,10,11] (.ac 12 [] (sts [13,14] .fin) .non))) .nil) .nil)) (nd (.node (.draw (sts [0,1,2,3,4,5,6,7,8,9,10,11,12] (.ac 13 [3,2] (.st 14 (.ac 15 [] .fin .non)) .non))) .nil))))) (.node (.draw (sts [0,1,2,3,4,5,6,7,8,9,10,11,12] (.ac 13 [3,2] (.st 14 (.ac 15 [] .fin .non)) .non))) .nil))))))))))) h (by kernel_rfl) (by kernel_rfl)
def F149k8(t0:Int)(R:RV)(w:World):Prop:=(0:Int)<=8/\∃y1:UInt8,0<=IntKind.u8.wrap (((t0.fdiv (2^min (Int.toNat 32) IntKind.u64.bits)).fdiv (2^min (Int.toNat 16) IntKind.u64.bits)).fdiv (2^min (Int.toNat 8) IntKind.u64.bits))/\GxLSby0[(IntKind.u8.wrap (((t0.fdiv (2^min (Int.toNat 32) IntKind.u64.bits)).fdiv (2^min (Int.toNat 16) IntKind.u64.bits)).fdiv (2^min (Int.toNat 8) IntKind.u64.bits))).toNat]? =some y1/\R (Qz (IntKind.i64.wrap (IntKind.i64.wrap (IntKind.i64.wrap (32+16)+8)+IntKind.i64.wrap (y1.toNat:Int)))) w
def F149k5(t0:Int)(R:RV)(w:World):Prop:=∃y4:UInt8,0<=IntKind.u8.wrap ((t0.fdiv (2^min (Int.toNat 32) IntKind.u64.bits)).fdiv (2^min (Int.toNat 16) IntKind.u64.bits))/\GxLSby0[(IntKind.u8.wrap ((t0.fdiv (2^min (Int.toNat 32) IntKind.u64.bits)).fdiv (2^min (Int.toNat 16) IntKind.u64.bits))).toNat]? =some y4/\R (Qz (IntKind.i64.wrap (IntKind.i64.wrap (32+16)+IntKind.i64.wrap (y4.toNat:Int)))) w
def F149k6(t0:Int)(R:RV)(w:World):Prop:=(0:Int)<=8/\∃y7:UInt8,0<=IntKind.u8.wrap ((t0.fdiv (2^min (Int.toNat 32) IntKind.u64.bits)).fdiv (2^min (Int.toNat 8) IntKind.u64.bits))/\GxLSby0[(IntKind.u8.wrap ((t0.fdiv (2^min (Int.toNat 32) IntKind.u64.bits)).fdiv (2^min (Int.toNat 8) IntKind.u64.bits))).toNat]? =some y7/\R (Qz (IntKind.i64.wrap (IntKind.i64.wrap (32+8)+IntKind.i64.wrap (y7.toNat:Int)))) w
def F149k2(t0:Int)(R:RV)(w:World):Prop:=∃y10:UInt8,0<=IntKind.u8.wrap (t0.fdiv (2^min (Int.toNat 32) IntKind.u64.bits))/\GxLSby0[(IntKind.u8.wrap (t0.fdiv (2^min (Int.toNat 32) IntKind.u64.bits))).toNat]? =some y10/\R (Qz (IntKind.i64.wrap (32+IntKind.i64.wrap (y10.toNat:Int)))) w
def F149k7(t0:Int)(R:RV)(w:World):Prop:=(0:Int)<=8/\∃y13:UInt8,0<=IntKind.u8.wrap ((t0.fdiv (2^min (Int.toNat 16) IntKind.u64.bits)).fdiv (2^min (Int.toNat 8) IntKind.u64.bits))/\GxLSby0[(IntKind.u8.wrap ((t0.fdiv (2^min (Int.toNat 16) IntKind.u64.bits)).fdiv (2^min (Int.toNat 8) IntKind.u64.bits))).toNat]? =some y13/\R (Qz (IntKind.i64.wrap (IntKind.i64.wrap (IntKind.i64.wrap (0+16)+8)+IntKind.i64.wrap (y13.toNat:Int)))) w
def F149k3(t0:Int)(R:RV)(w:World):Prop:=∃y16:UInt8,0<=IntKind.u8.wrap (t0.fdiv (2^min (Int.toNat 16) IntKind.u64.bits))/\GxLSby0[(IntKind.u8.wrap (t0.fdiv (2^min (Int.toNat 16) IntKind.u64.bits))).toNat]? =some y16/\R (Qz (IntKind.i64.wrap (IntKind.i64.wrap (0+16)+IntKind.i64.wrap (y16.toNat:Int)))) w
def F149k4(t0:Int)(R:RV)(w:World):Prop:=(0:Int)<=8/\∃y19:UInt8,0<=IntKind.u8.wrap (t0.fdiv (2^min (Int.toNat 8) IntKind.u64.bits))/\GxLSby0[(IntKind.u8.wrap (t0.fdiv (2^min (Int.toNat 8) IntKind.u64.bits))).toNat]? =some y19/\R (Qz (IntKind.i64.wrap (IntKind.i64.wrap (0+8)+IntKind.i64.wrap (y19.toNat:Int)))) w
def F149k1(t0:Int)(R:RV)(w:World):Prop:=∃y22:UInt8,0<=IntKind.u8.wrap t0/\GxLSby0[(IntKind.u8.wrap t0).toNat]? =some y22/\R (Qz (IntKind.i64.wrap (0+IntKind.i64.wrap (y22.toNat:Int)))) w
theorem F149_ok(t0:Int)(w:World)(R:RV)(h:IfB (decide (4294967296<=t0)) ((0:Int)<=32/\IfB (decide (65536<=t0.fdiv (2^min (Int.toNat 32) IntKind.u64.bits))) ((0:Int)<=16/\IfB (decide (256<=(t0.fdiv (2^min (Int.toNat 32) IntKind.u64.bits)).fdiv (2^min (Int.toNat 16) IntKind.u64.bits))) (F149k8 t0 R w) (F149k5 t0 R w)) (IfB (decide (256<=t0.fdiv (2^min (Int.toNat 32) IntKind.u64.bits))) (F149k6 t0 R w) (F149k2 t0 R w))) (IfB (decide (65536<=t0)) ((0:Int)<=16/\IfB (decide (256<=t0.fdiv (2^min (Int.toNat 16) IntKind.u64.bits))) (F149k7 t0 R w) (F149k3 t0 R w)) (IfB (decide (256<=t0)) (F149k4 t0 R w) (F149k1 t0 R w)))):Cw 149 #[Value.int IntKind.u64 t0] w R:=
 ckF Tryz.func149 .nil h (by kernel_rfl) (by kernel_rfl)
def F167j2(t0:Sl)(t3:Int)(R:RV)(y1:Nat->Int->World->Prop)(b3:Nat)(n4:Int)(n18:Int)(w19:World):Prop:=Qx t0.1 (IntKind.i64.wrap (t3+n4)) (t0.2:Int) fun b22 b23=>Qi w19.drew b22 (b23+(IntKind.i64.wrap (t3+n4)).toNat) fun n24=>Qx t0.1 (IntKind.i64.wrap (t3+n18)) (t0.2:Int) fun b25 b26=>Qi w19.drew b25 (b26+(IntKind.i64.wrap (t3+n18)).toNat) fun n27=>Qv' 158 #[Qz n24,Qz n27] w19.drew fun t30 w29=>IfB (!t30) (R (Value.tuple #[]) w29) (Qx t0.1 (IntKind.i64.wrap (t3+n18)) (t0.2:Int) fun b31 b32=>Qi w29.drew b31 (b32+(IntKind.i64.wrap (t3+n18)).toNat) fun n33=>Qx t0.1 (IntKind.i64.wrap (t3+n4)) (t0.2:Int) fun b34 b35=>Qi w29.drew b34 (b35+(IntKind.i64.wrap (t3+n4)).toNat) fun n36=>Qx t0.1 (IntKind.i64.wrap (t3+n4)) (t0.2:Int) fun b37 b38=>#[Qz n33].size=1/\StoreP w29.drew b37 (b38+(IntKind.i64.wrap (t3+n4)).toNat) [Qz n33] fun w39=>Qx t0.1 (IntKind.i64.wrap (t3+n18)) (t0.2:Int) fun b40 b41=>#[Qz n36].size=1/\StoreP w39 b40 (b41+(IntKind.i64.wrap (t3+n18)).toNat) [Qz n36] fun w42=>([]:List Df)=[]/\∃b43:Nat,b43<b3/\y1 b43 n18 w42)
def F167j1(t0:Sl)(t2:Int)(t3:Int)(R:RV)(y1:Nat->Int->World->Prop)(b3:Nat)(n4:Int)(w5:World):Prop:=IfB (decide (t2<=IntKind.i64.wrap (IntKind.i64.wrap (2*n4)+1))) (R (Value.tuple #[]) w5) (∃(y8:Int->World->Prop),IfB (decide (IntKind.i64.wrap (IntKind.i64.wrap (IntKind.i64.wrap (2*n4)+1)+1)<t2)) (Qx t0.1 (IntKind.i64.wrap (t3+IntKind.i64.wrap (IntKind.i64.wrap (2*n4)+1))) (t0.2:Int) fun b9 b10=>Qi w5.drew b9 (b10+(IntKind.i64.wrap (t3+IntKind.i64.wrap (IntKind.i64.wrap (2*n4)+1))).toNat) fun n11=>Qx t0.1 (IntKind.i64.wrap (IntKind.i64.wrap (t3+IntKind.i64.wrap (IntKind.i64.wrap (2*n4)+1))+1)) (t0.2:Int) fun b12 b13=>Qi w5.drew b12 (b13+(IntKind.i64.wrap (IntKind.i64.wrap (t3+IntKind.i64.wrap (IntKind.i64.wrap (2*n4)+1))+1)).toNat) fun n14=>Qv' 158 #[Qz n11,Qz n14] w5.drew fun t17 w16=>IfB t17 (([]:List Df)=[]/\y8 (IntKind.i64.wrap (IntKind.i64.wrap (IntKind.i64.wrap (2*n4)+1)+1)) w16) (([]:List Df)=[]/\y8 (IntKind.i64.wrap (IntKind.i64.wrap (2*n4)+1)) w16)) (([]:List Df)=[]/\y8 (IntKind.i64.wrap (IntKind.i64.wrap (2*n4)+1)) w5.drew)/\∀(n18:Int)(w19:World)(y20:Nat->Value),y8 n18 w19->(F167j2 t0 t3 R y1 b3 n4 n18 w19))
theorem F167_ok(t0:Sl)(t1:Int)(t2:Int)(t3:Int)(w:World)(R:RV)(h:Ql (α:=Int) t1 w fun y1 b3 n4 w5=>(F167j1 t0 t2 t3 R y1 b3 n4 w5)):Cw 167 #[Qy t0,Qz t1,Qz t2,Qz t3] w R:=
 ckF Tryz.func167 (nd (.loop [(8,oi)] (rg [8,9,11,75]) (nd (nd (.join [(9,oi)] (rg [9,9,17,38]) (.node (.draw (sts [0,1,2,3,4,5,6,7,8,9,10,11,12,13,14,15,16,17] (.ac 18 [] (.st 19 .fin) .non))) .nil) (.node (.node (.draw (sts [0,1,2,3,4,5,6,7,8,9,10,11] (.ac 12 [] (.st 13 .fin) .non))) .nil) (.node (.draw (sts [0,1,2,3,4,5,6,7,8,9,10,11,12,13,14,15,16,17,18,19,20] (.ac 21 [7,6,5,4] (.st 22 (.ac 23 [] .fin .non)) .non))) .nil))))))) h (by kernel_rfl) (by kernel_rfl)
def F162(t0:Int)(w:World)(R:RV):Prop:=Cx 122 #[Value.int IntKind.u64 (IntKind.u64.wrap t0)] w fun v1 w2=>∃n3:Int,v1=Qz n3/\0<=n3/\R (Value.int IntKind.u64 (IntKind.u64.wrap (1*2^min n3.toNat IntKind.u64.bits))) w2
theorem F162_ok(t0:Int)(w:World)(R:RV)(h:F162 t0 w R):Cw 162 #[Qz t0] w R:=
 ckF Tryz.func162 .nil h (by kernel_rfl) (by kernel_rfl)
theorem F163_ok(t0:Option Addr)(w:World)(R:RV)(h:∃b1:Nat,∃b2:Nat,t0=some ⟨b1,b2,none⟩/\∃n3:Int,w.drew.cell? ⟨b1,b2,none⟩=some (Value.int IntKind.u64 n3)/\∃b4:Nat,∃b5:Nat,t0=some ⟨b4,b5,none⟩/\∃n6:Int,w.drew.cell? ⟨b4,b5,none⟩=some (Value.int IntKind.u64 n6)/\(0:Int)<=13/\∃b7:Nat,∃b8:Nat,t0=some ⟨b7,b8,none⟩/\#[Value.int IntKind.u64 (bitsI BinOp.xor IntKind.u64 n3 (IntKind.u64.wrap (n6*2^min (Int.toNat 13) IntKind.u64.bits)))].size=1/\StoreP w.drew b7 b8 [Value.int IntKind.u64 (bitsI BinOp.xor IntKind.u64 n3 (IntKind.u64.wrap (n6*2^min (Int.toNat 13) IntKind.u64.bits)))] fun w9=>∃b10:Nat,∃b11:Nat,t0=some ⟨b10,b11,none⟩/\∃n12:Int,w9.drew.cell? ⟨b10,b11,none⟩=some (Value.int IntKind.u64 n12)/\∃b13:Nat,∃b14:Nat,t0=some ⟨b13,b14,none⟩/\∃n15:Int,w9.drew.cell? ⟨b13,b14,none⟩=some (Value.int IntKind.u64 n15)/\(0:Int)<=7/\∃b16:Nat,∃b17:Nat,t0=some ⟨b16,b17,none⟩/\#[Value.int IntKind.u64 (bitsI BinOp.xor IntKind.u64 n12 (n15.fdiv (2^min (Int.toNat 7) IntKind.u64.bits)))].size=1/\StoreP w9.drew b16 b17 [Value.int IntKind.u64 (bitsI BinOp.xor IntKind.u64 n12 (n15.fdiv (2^min (Int.toNat 7) IntKind.u64.bits)))] fun w18=>∃b19:Nat,∃b20:Nat,t0=some ⟨b19,b20,none⟩/\∃n21:Int,w18.drew.cell? ⟨b19,b20,none⟩=some (Value.int IntKind.u64 n21)/\∃b22:Nat,∃b23:Nat,t0=some ⟨b22,b23,none⟩/\∃n24:Int,w18.drew.cell? ⟨b22,b23,none⟩=some (Value.int IntKind.u64 n24)/\(0:Int)<=17/\∃b25:Nat,∃b26:Nat,t0=some ⟨b25,b26,none⟩/\#[Value.int IntKind.u64 (bitsI BinOp.xor IntKind.u64 n21 (IntKind.u64.wrap (n24*2^min (Int.toNat 17) IntKind.u64.bits)))].size=1/\StoreP w18.drew b25 b26 [Value.int IntKind.u64 (bitsI BinOp.xor IntKind.u64 n21 (IntKind.u64.wrap (n24*2^min (Int.toNat 17) IntKind.u64.bits)))] fun w27=>∃b28:Nat,∃b29:Nat,t0=some ⟨b28,b29,none⟩/\∃n30:Int,w27.cell? ⟨b28,b29,none⟩=some (Value.int IntKind.u64 n30)/\R (Value.int IntKind.u64 n30) w27):Cw 163 #[Value.pointer t0] w R:=
 ckF Tryz.func163 (nd (.node (.draw (sts [0,1,2,3,4,5,6,7,8] (.ac 9 [] .fin .non))) (.node (.draw (sts [0,1,2,3,4,5,6,7,8] (.ac 9 [] .fin .non))) (.node (.draw (sts [0,1,2,3,4,5,6,7,8] (.ac 9 [] .fin .non))) .nil)))) h (by kernel_rfl) (by kernel_rfl)
def F168(t0:Sl)(t1:Int)(t2:Option Addr)(w:World)(R:RV):Prop:=Cx 169 #[Qy t0,Qz (IntKind.i64.wrap (t1-1)),Qz t1,Qz (IntKind.i64.wrap (t1+1)),Value.pointer t2] w fun v1 w2=>∃n3:Int,v1=Qz n3/\R (Qz n3) w2
theorem F168_ok(t0:Sl)(t1:Int)(t2:Option Addr)(w:World)(R:RV)(h:F168 t0 t1 t2 w R):Cw 168 #[Qy t0,Qz t1,Value.pointer t2] w R:=
 ckF Tryz.func168 .nil h (by kernel_rfl) (by kernel_rfl)
theorem F169_ok(t0:Sl)(t1:Int)(t2:Int)(t3:Int)(t4:Option Addr)(w:World)(R:RV)(h:Cx 171 #[Qy t0,Qz t1,Qz t2,Value.pointer t4] w fun v1 w2=>∃(x3:Int×Int),v1=Value.tuple #[Qz x3.1,Qz x3.2]/\Cx 171 #[Qy t0,Qz x3.2,Qz t3,Value.pointer t4] w2 fun v4 w5=>∃(x6:Int×Int),v4=Value.tuple #[Qz x6.1,Qz x6.2]/\Cx 171 #[Qy t0,Qz x3.1,Qz x6.1,Value.pointer t4] w5 fun v7 w8=>∃(x9:Int×Int),v7=Value.tuple #[Qz x9.1,Qz x9.2]/\R (Qz x9.2) w8):Cw 169 #[Qy t0,Qz t1,Qz t2,Qz t3,Value.pointer t4] w R:=
 ckF Tryz.func169 .nil h (by kernel_rfl) (by kernel_rfl)
theorem F123_ok(t0:Int)(w:World)(R:RV)(h:R (Value.bool (t0 != t0)) w):Cw 123 #[Qz t0] w R:=
 ckF Tryz.func123 .nil h (by kernel_rfl) (by kernel_rfl)
theorem F171_ok(t0:Sl)(t1:Int)(t2:Int)(t3:Option Addr)(w:World)(R:RV)(h:Qx t0.1 t2 (t0.2:Int) fun b1 b2=>∃n3:Int,w.drew.cell? ⟨b1,b2+t2.toNat,none⟩=some (Qz n3)/\Qx t0.1 t1 (t0.2:Int) fun b4 b5=>∃n6:Int,w.drew.cell? ⟨b4,b5+t1.toNat,none⟩=some (Qz n6)/\Cx 158 #[Qz n3,Qz n6] w.drew fun v7 w8=>∃t9:Bool,v7=Value.bool t9/\IfB t9 (∃b10:Nat,∃b11:Nat,t3=some ⟨b10,b11,none⟩/\Qi w8 b10 b11 fun n12=>∃b13:Nat,∃b14:Nat,t3=some ⟨b13,b14,none⟩/\#[Qz (IntKind.i64.wrap (n12+1))].size=1/\StoreP w8 b13 b14 [Qz (IntKind.i64.wrap (n12+1))] fun w15=>R (Value.tuple #[Qz t2,Qz t1]) w15) (R (Value.tuple #[Qz t1,Qz t2]) w8)):Cw 171 #[Qy t0,Qz t1,Qz t2,Value.pointer t3] w R:=
 ckF Tryz.func171 (nd (.node (.node (.draw (sts [0,1,2,3,4,5,6,7] (.ac 8 [] .fin .non))) .nil) .nil)) h (by kernel_rfl) (by kernel_rfl)
set_option linter.unusedSimpArgs false
set_option linter.unusedVariables false
abbrev iv(n:Int):Value:=.int .i64 n
def g(xs:List Int)(i:Nat):Int:=xs.getD i 0
def swp(xs:List Int)(p q:Nat):List Int:=(xs.set p (g xs q)).set q (g xs p)
theorem swp_len(xs:List Int)(p q:Nat):(swp xs p q).length=xs.length:=by simp[swp]
theorem g_eq{xs:List Int}{i:Nat}(h:i<xs.length):xs[i]? =some (g xs i):=by
 unfold g;rw[List.getElem?_eq_getElem h,List.getElem_eq_getD (fallback:=0)]
theorem g_swp{xs:List Int}{p q:Nat}(hp:p<xs.length)(hq:q<xs.length)(i:Nat):g (swp xs p q) i=if i=q then g xs p else if i=p then g xs q else g xs i:=by
 show ((xs.set p (g xs q)).set q (g xs p)).getD i 0=_
 rw[List.getD_eq_getElem?_getD,List.getElem?_set,List.getElem?_set]
 by_cases h1:q=i
 ·subst h1;simp[hq]
 ·by_cases h2:p=i
  ·subst h2;simp[h1,hp,Ne.symm h1]
  ·simp only[if_neg h1,if_neg h2,if_neg (Ne.symm h1),if_neg (Ne.symm h2)]
   unfold g;rw[List.getD_eq_getElem?_getD]
theorem g_swq{xs:List Int}{p q:Nat}(hp:p<xs.length)(hq:q<xs.length):g (swp xs p q) q=g xs p:=by rw[g_swp hp hq,if_pos rfl]
theorem g_swl{xs:List Int}{p q:Nat}(hp:p<xs.length)(hq:q<xs.length):g (swp xs p q) p=g xs q:=by
 rw[g_swp hp hq]
 split
 ·rename_i h;rw[h]
 ·rw[if_pos rfl]
theorem g_swo{xs:List Int}{p q i:Nat}(hp:p<xs.length)(hq:q<xs.length)(h1:i≠p)(h2:i≠q):g (swp xs p q) i=g xs i:=by rw[g_swp hp hq,if_neg h2,if_neg h1]
theorem swp_perm{xs:List Int}{p q:Nat}(hp:p<xs.length)(hq:q<xs.length):(swp xs p q).Perm xs:=by
 have h:=(Array.swap_perm (xs:=xs.toArray) (i:=p) (j:=q) (by simpa using hp) (by simpa using hq)).toList
 have e:(xs.toArray.swap p q (by simpa using hp) (by simpa using hq)).toList=swp xs p q:=by
  apply List.ext_getElem?
  intro i
  simp only[Array.swap,swp,Array.toList_set,List.getElem_toArray,g,List.getD_eq_getElem?_getD,List.getElem?_eq_getElem hp,List.getElem?_eq_getElem hq,Option.getD_some]
 rw[e] at h
 exact h
inductive PI(a b:Nat)(xs:List Int):List Int->Prop
 | refl:PI a b xs xs
 | step {ys:List Int} {p q:Nat}:PI a b xs ys->a<=p->p<b->a<=q->q<b->b<=ys.length->PI a b xs (swp ys p q)
theorem PI.len{a b:Nat}{xs ys:List Int}(h:PI a b xs ys):ys.length=xs.length:=by
 induction h with
 | refl=>rfl
 | step _ _ _ _ _ _ ih=>rw[swp_len,ih]
theorem PI.perm{a b:Nat}{xs ys:List Int}(h:PI a b xs ys):ys.Perm xs:=by
 induction h with
 | refl=>exact .refl _
 | step _ _ h2 _ h4 h5 ih=>exact(swp_perm (by omega) (by omega)).trans ih
theorem PI.out{a b:Nat}{xs ys:List Int}(h:PI a b xs ys){i:Nat}(hi:i<a\/b<=i):g ys i=g xs i:=by
 induction h with
 | refl=>rfl
 | step _ h1 h2 h3 h4 h5 ih=>rw[g_swp (by omega) (by omega),if_neg (by omega),if_neg (by omega),ih]
theorem PI.all{a b:Nat}{xs ys:List Int}(h:PI a b xs ys){Q:Int->Prop}(hq:∀i,a<=i->i<b->Q (g xs i)):∀i,a<=i->i<b->Q (g ys i):=by
 induction h with
 | refl=>exact hq
 | step _ h1 h2 h3 h4 h5 ih=>
  intro i hi hi2
  rw[g_swp (by omega) (by omega)]
  split
  ·exact ih _ h1 h2
  ·split
   ·exact ih _ h3 h4
   ·exact ih _ hi hi2
theorem PI.mono{a b a' b':Nat}{xs ys:List Int}(h:PI a b xs ys)(ha:a'<=a)(hb:b<=b')(hl:b'<=xs.length):PI a' b' xs ys:=by
 induction h with
 | refl=>exact .refl
 | step h h1 h2 h3 h4 h5 ih=>exact .step ih (by omega) (by omega) (by omega) (by omega) (by rw[h.len];exact hl)
theorem PI.trans{a b:Nat}{xs ys zs:List Int}(h:PI a b xs ys)(k:PI a b ys zs):PI a b xs zs:=by
 induction k with
 | refl=>exact h
 | step _ h1 h2 h3 h4 h5 ih=>exact .step ih h1 h2 h3 h4 h5
def SO(xs:List Int)(a b:Nat):Prop:=∀i j,a<=i->i<j->j<b->g xs i<=g xs j
def Ar(s:Sl)(b:Nat)(H:Array Obj)(xs:List Int):Prop:=
 s.p=some ⟨b,0,none⟩/\s.n=xs.length/\xs.length<=1000000/\∃arr T,H[b]? =some (.cells arr T (0,0))/\arr.size=s.c/\s.n<=s.c/\arr.toList.take s.n=xs.map iv
abbrev CB(b:Nat)(w w':World):Prop:=Ch (fun i=>i=b) w w'
theorem Ar.own{s:Sl}{b:Nat}{w:World}{xs:List Int}(h:Ar s b w.heap xs):OwS w s 1 (xs.map iv):=by
 obtain⟨h1,h2,_,arr,T,h3,h4,h5,h6⟩:=h
 exact .inr ⟨b,arr,T,h1,h3,by omega,h5,by rw[Nat.mul_one];exact h6⟩
theorem Ar.of{s:Sl}{w:World}{xs:List Int}(h:OwS w s 1 (xs.map iv))(h0:0<xs.length)(hl:xs.length<=1000000):∃b,Ar s b w.heap xs/\blk s=[b]:=by
 have hn:=h.len1
 rw[List.length_map] at hn
 rcases h with ⟨rfl,h⟩|⟨b,arr,T,h1,h3,h4,h5,h6⟩
 ·rw[List.map_eq_nil_iff] at h;subst h;cases h0
 ·exact⟨b,⟨h1,hn,hl,arr,T,h3,by omega,h5,by rw[Nat.mul_one] at h6;exact h6⟩,by simp[blk,h1]⟩
theorem Ar.lt{s:Sl}{b:Nat}{w:World}{xs:List Int}(h:Ar s b w.heap xs):b<w.heap.size:=by
 obtain⟨_,_,_,_,_,h3,_⟩:=h
 exact heap_lt h3
theorem rd{s:Sl}{b:Nat}{w:World}{xs:List Int}(h:Ar s b w.heap xs){i:Int}(h0:0<=i)(h1:i<xs.length){K:Int->Prop}(k:K (g xs i.toNat)):
  ∃b1 b2:Nat,s.1=some ⟨b1,b2,none⟩/\((0:Int)<=i/\i<(s.2:Int))/\∃n,w.cell? ⟨b1,b2+i.toNat,none⟩=some (.int .i64 n)/\K n:=by
 obtain⟨e1,e2,_,arr,T,e3,e4,e5,e6⟩:=h
 refine⟨b,0,e1,⟨h0,by show i<(s.n:Int);omega⟩,_,?_,k⟩
 rw[cell_of e3,Nat.zero_add,<-Array.getElem?_toList]
 have:(arr.toList.take s.n)[i.toNat]? =some (iv (g xs i.toNat)):=by rw[e6,List.getElem?_map,g_eq (by omega)];rfl
 rw[List.getElem?_take,if_pos (by omega)] at this
 exact this
theorem wr{s:Sl}{b:Nat}{w:World}{xs:List Int}(h:Ar s b w.heap xs){i x:Int}(h0:0<=i)(h1:i<xs.length){K:World->Prop}(k:∀w',Ar s b w'.heap (xs.set i.toNat x)->CB b w w'->K w'):
  ∃b1 b2:Nat,s.1=some ⟨b1,b2,none⟩/\((0:Int)<=i/\i<(s.2:Int))/\#[Value.int .i64 x].size=1/\StoreP w b1 (b2+i.toNat) [.int .i64 x] K:=by
 obtain⟨e1,e2,el,arr,T,e3,e4,e5,e6⟩:=h
 refine⟨b,0,e1,⟨h0,by show i<(s.n:Int);omega⟩,rfl,store_one e3 (by omega) rfl fun w' hw=>k w' ⟨e1,by rw[List.length_set];exact e2,by rw[List.length_set];exact el,_,T,hw.new,by rw[Array.size_setIfInBounds];exact e4,e5,?_⟩ hw.ch⟩
 rw[Nat.zero_add,Array.toList_setIfInBounds,List.take_set,e6,List.map_set]
theorem sw{s:Sl}{b:Nat}{w:World}{xs:List Int}(h:Ar s b w.heap xs){p q:Int}(hp0:0<=p)(hp1:p<xs.length)(hq0:0<=q)(hq1:q<xs.length){K:World->Prop}(k:∀w',Ar s b w'.heap (swp xs p.toNat q.toNat)->CB b w w'->K w'):
  ∃b1 b2:Nat,s.1=some ⟨b1,b2,none⟩/\((0:Int)<=q/\q<(s.2:Int))/\∃n,w.cell? ⟨b1,b2+q.toNat,none⟩=some (.int .i64 n)/\
  ∃b3 b4:Nat,s.1=some ⟨b3,b4,none⟩/\((0:Int)<=p/\p<(s.2:Int))/\∃m,w.cell? ⟨b3,b4+p.toNat,none⟩=some (.int .i64 m)/\
  ∃b5 b6:Nat,s.1=some ⟨b5,b6,none⟩/\((0:Int)<=p/\p<(s.2:Int))/\#[Value.int .i64 n].size=1/\StoreP w b5 (b6+p.toNat) [.int .i64 n] fun w1=>
  ∃b7 b8:Nat,s.1=some ⟨b7,b8,none⟩/\((0:Int)<=q/\q<(s.2:Int))/\#[Value.int .i64 m].size=1/\StoreP w1 b7 (b8+q.toNat) [.int .i64 m] K:=by
 refine rd h hq0 hq1 (rd h hp0 hp1 (wr h hp0 hp1 fun w1 h1 c1=>wr h1 hq0 (by rw[List.length_set];exact hq1) fun w2 h2 c2=>k w2 h2 (c1.trans c2)))
theorem c123(x:Int)(w:World):Cw 123 #[.int .i64 x] w fun v w'=>v=.bool false/\w=w':=
 F123_ok _ _ _ ⟨by simp,rfl⟩
theorem c158(x y:Int)(w:World):Cw 158 #[.int .i64 x,.int .i64 y] w fun v w'=>v=.bool (decide (x<y))/\w=w':=by
 refine F158_ok _ _ _ _ ((c123 x w).use ?_)
 rintro _ _ ⟨rfl,rfl⟩
 exact⟨false,rfl,IfB.no rfl ⟨rfl,rfl⟩⟩
theorem ls{s:Sl}{b:Nat}{w:World}{xs:List Int}(h:Ar s b w.heap xs){i j:Int}(hi0:0<=i)(hi1:i<xs.length)(hj0:0<=j)(hj1:j<xs.length){K:Bool->World->Prop}(k:K (decide (g xs i.toNat<g xs j.toNat)) w):
  ∃b1 b2:Nat,s.1=some ⟨b1,b2,none⟩/\((0:Int)<=i/\i<(s.2:Int))/\∃n,w.cell? ⟨b1,b2+i.toNat,none⟩=some (.int .i64 n)/\
  ∃b3 b4:Nat,s.1=some ⟨b3,b4,none⟩/\((0:Int)<=j/\j<(s.2:Int))/\∃m,w.cell? ⟨b3,b4+j.toNat,none⟩=some (.int .i64 m)/\
  Cx 158 #[.int .i64 n,.int .i64 m] w fun v w'=>∃t,v=.bool t/\K t w':=by
 refine rd h hi0 hi1 (rd h hj0 hj1 ((c158 _ _ w).use ?_))
 rintro _ _ ⟨rfl,rfl⟩
 exact⟨_,rfl,k⟩
theorem wp1{i:Nat}(h:i<=1000000000000):IntKind.i64.wrap ((i:Int)+(1:Int))=((i+1:Nat):Int):=by rw[wrap_of (by omega) (by omega)];rfl
theorem wm1{i:Nat}(h0:1<=i)(h:i<=1000000000000):IntKind.i64.wrap ((i:Int)-(1:Int))=((i-1:Nat):Int):=by rw[wrap_of (by omega) (by omega)];omega
theorem wad{i j:Nat}(h:i+j<=1000000000000):IntKind.i64.wrap ((i:Int)+(j:Int))=((i+j:Nat):Int):=by rw[wrap_of (by omega) (by omega)];rfl
theorem wsb{i j:Nat}(h0:j<=i)(h:i<=1000000000000):IntKind.i64.wrap ((i:Int)-(j:Int))=((i-j:Nat):Int):=by rw[wrap_of (by omega) (by omega)];omega
theorem wdb{i:Nat}(h:i<=100000000000):IntKind.i64.wrap ((2:Int)*(i:Int))=((2*i:Nat):Int):=by rw[wrap_of (by omega) (by omega)];omega
theorem c152{s:Sl}{b:Nat}{w:World}{xs:List Int}{a e:Nat}(h:Ar s b w.heap xs)(he:e<=xs.length)(ha:a<=xs.length):
  Cw 152 #[slV s,iv a,iv e] w fun v w'=>v=.tuple #[]/\∃ys,PI a e xs ys/\SO ys a e/\Ar s b w'.heap ys/\CB b w w':=by
 have hl:xs.length<=1000000:=h.2.2.1
 refine F152_ok s a e w _ ⟨fun n x W=>∃(i:Nat)(ys:List Int),n=e+1-i/\x=(i:Int)/\a+1<=i/\(i=a+1\/i<=e)/\PI a e xs ys/\SO ys a i/\Ar s b W.heap ys/\CB b w W,⟨_,a+1,xs,rfl,wp1 (by omega),Nat.le_refl _,.inl rfl,.refl,fun i j _ _ _=>by omega,h,Ch.refl _ _⟩,?_⟩
 rintro n _ W _ ⟨i,ys,rfl,rfl,hai,hi,hP,hS,hA,hC⟩
 have hyl:=hP.len
 refine IfB.dec (fun hlt=>?_) (fun hge=>⟨rfl,ys,hP,fun p q h1 h2 h3=>hS p q h1 h2 (by omega),hA,hC⟩)
 have hie:i<e:=by omega
 refine⟨fun m x W'=>∃(j:Nat)(zs:List Int),j=m/\x=(j:Int)/\a<=j/\j<=i/\PI a e xs zs/\(∀p q,a<=p->p<q->q<=i->q≠j->g zs p<=g zs q)/\Ar s b W'.heap zs/\CB b w W',⟨_,i,ys,rfl,rfl,by omega,Nat.le_refl _,hP,fun p q h1 h2 h3 h4=>hS p q h1 h2 (by omega),hA,hC⟩,?_⟩
 rintro m _ W1 _ ⟨j,zs,rfl,rfl,haj,hji,hP1,hS1,hA1,hC1⟩
 have hzl:=hP1.len
 have hCd:CB b w W1.drew:=hC1.then (extDrew W1) fun _ _ h=>h.elim
 have done:(∀p,a<=p->p<j->g zs p<=g zs j)->∀W2:World,W2=W1.drew->([]:List Df)=[]/\∃b38,b38<e+1-i/\∃(i':Nat)(ys:List Int),b38=e+1-i'/\IntKind.i64.wrap ((i:Int)+(1:Int))=(i':Int)/\a+1<=i'/\(i'=a+1\/i'<=e)/\PI a e xs ys/\SO ys a i'/\Ar s b W2.heap ys/\CB b w W2:=by
  rintro hj W2 rfl
  refine⟨rfl,e+1-(i+1),by omega,i+1,zs,rfl,wp1 (by omega),by omega,.inr (by omega),hP1,fun p q h1 h2 h3=>?_,hA1,hCd⟩
  by_cases hq:q=j
  ·subst hq;exact hj p h1 h2
  ·exact hS1 p q h1 h2 (by omega) hq
 unfold F152j2
 refine IfB.dec (fun hlt2=>?_) (fun hge2=>done (fun p h1 h2=>by omega) _ rfl)
 have hj:a<j:=by omega
 have hw:=wm1 (i:=j) (by omega) (by omega)
 rw[hw]
 refine ls (w:=W1.drew) hA1 (by omega) (by omega) (by omega) (by omega) (IfB.dec (fun hl1=>?_) (fun hl1=>done (fun p h1 h2=>?_) _ rfl))
 ·rw[Int.toNat_natCast,Int.toNat_natCast] at hl1
  refine sw (w:=W1.drew.drew) hA1 (by omega) (by omega) (by omega) (by omega) fun W3 hA3 hC3=>⟨rfl,j-1,by omega,j-1,_,rfl,rfl,by omega,by omega,.step hP1 (p:=j) (q:=j-1) (by omega) (by omega) (by omega) (by omega) (by omega),?_,hA3,(hCd.then (extDrew _) fun _ _ h=>h.elim).trans hC3⟩
  intro p q h1 h2 h3 h4
  rw[g_swp (by omega) (by omega),g_swp (by omega) (by omega)]
  have A1:=hS1 p (j-1) h1
  have A2:=hS1 p q h1 h2 h3
  have A3:=hS1 j q (by omega)
  have A4:=hS1 (j-1) q (by omega)
  split<;>split<;>(try split)<;>(try split)<;>first|omega|skip
 ·rw[Int.toNat_natCast,Int.toNat_natCast] at hl1
  have:=hS1 p (j-1) h1
  by_cases hp:p=j-1
  ·subst hp;omega
  ·have:=this (by omega) (by omega) (by omega)
   omega
def HpAt(xs:List Int)(f hi k:Nat):Prop:=∀c,c=2*k+1\/c=2*k+2->c<hi->g xs (f+c)<=g xs (f+k)
theorem c167{s:Sl}{b:Nat}{w:World}{xs:List Int}{lo hi f:Nat}(h:Ar s b w.heap xs)(hl:f+hi<=xs.length)(hlo:lo<=1000000)(hh:∀k,lo<k->HpAt xs f hi k):
  Cw 167 #[slV s,iv lo,iv hi,iv f] w fun v w'=>v=.tuple #[]/\∃ys,PI f (f+hi) xs ys/\(∀k,lo<=k->HpAt ys f hi k)/\Ar s b w'.heap ys/\CB b w w':=by
 have hll:xs.length<=1000000:=h.2.2.1
 refine F167_ok s lo hi f w _ ⟨fun n x W=>∃(r:Nat)(ys:List Int),n=hi-r/\x=(r:Int)/\lo<=r/\(r=lo\/r<hi)/\PI f (f+hi) xs ys/\(∀k,lo<=k->k≠r->HpAt ys f hi k)/\
  (∀k,lo<=k->r=2*k+1\/r=2*k+2->∀c,c=2*r+1\/c=2*r+2->c<hi->g ys (f+c)<=g ys (f+k))/\Ar s b W.heap ys/\CB b w W,⟨_,lo,xs,rfl,rfl,Nat.le_refl _,.inl rfl,.refl,fun k h1 h2=>hh k (by omega),fun k h1 h2=>by omega,h,Ch.refl _ _⟩,?_⟩
 rintro n _ W _ ⟨r,ys,rfl,rfl,hlr,hr,hP,hH,hG,hA,hC⟩
 have hyl:=hP.len
 unfold F167j1
 rw[wdb (by omega),wp1 (by omega)]
 refine IfB.dec (fun hge=>⟨rfl,ys,hP,fun k hk=>?_,hA,hC⟩) (fun hlt=>?_)
 ·by_cases hkr:k=r
  ·subst hkr;intro c hc1 hc2;omega
  ·exact hH k hk hkr
 have hc1:2*r+1<hi:=by omega
 rw[wp1 (by omega),wad (by omega),wp1 (by omega)]
 have hCd:CB b w W.drew:=hC.then (extDrew W) fun _ _ h=>h.elim
 refine⟨fun x W'=>∃c:Nat,x=(c:Int)/\(c=2*r+1\/c=2*r+2)/\c<hi/\(∀d,d=2*r+1\/d=2*r+2->d<hi->g ys (f+d)<=g ys (f+c))/\W'=W.drew,?_,?_⟩
 ·refine IfB.dec (fun h2=>?_) (fun h2=>⟨rfl,2*r+1,rfl,.inl rfl,hc1,fun d hd1 hd2=>?_,rfl⟩)
  ·refine ls (w:=W.drew) hA (by omega) (by omega) (by omega) (by omega) (IfB.dec (fun hl1=>⟨rfl,2*r+1+1,rfl,.inr rfl,by omega,fun d hd1 hd2=>?_,rfl⟩) (fun hl1=>⟨rfl,2*r+1,rfl,.inl rfl,hc1,fun d hd1 hd2=>?_,rfl⟩))
   ·rw[Int.toNat_natCast,Int.toNat_natCast] at hl1
    rcases hd1 with rfl|rfl
    ·rw[show f+(2*r+1+1)=f+(2*r+1)+1 by omega];omega
    ·exact Int.le_refl _
   ·rw[Int.toNat_natCast,Int.toNat_natCast] at hl1
    rcases hd1 with rfl|rfl
    ·exact Int.le_refl _
    ·rw[show f+(2*r+2)=f+(2*r+1)+1 by omega];omega
  ·have:d=2*r+1:=by omega
   subst this;exact Int.le_refl _
 rintro _ _ _ ⟨c,rfl,hc2,hc3,hc4,rfl⟩
 unfold F167j2
 rw[wad (by omega),wad (by omega)]
 have hCd2:CB b w W.drew.drew:=hCd.then (extDrew _) fun _ _ h=>h.elim
 have hCd3:CB b w W.drew.drew.drew:=hCd2.then (extDrew _) fun _ _ h=>h.elim
 refine ls (w:=W.drew.drew) hA (by omega) (by omega) (by omega) (by omega) (IfB.intro (fun hl1=>⟨rfl,ys,hP,fun k hk=>?_,hA,hCd2⟩) fun hl1=>?_)
 ·simp only[Int.toNat_natCast,Bool.not_eq_true',decide_eq_false_iff_not] at hl1
  by_cases hkr:k=r
  ·subst hkr
   intro d hd1 hd2
   have:=hc4 d hd1 hd2
   omega
  ·exact hH k hk hkr
 ·simp only[Int.toNat_natCast,Bool.not_eq_false',decide_eq_true_eq] at hl1
  refine sw (w:=W.drew.drew.drew) hA (by omega) (by omega) (by omega) (by omega) fun W3 hA3 hC3=>⟨rfl,hi-c,by omega,c,_,rfl,rfl,by omega,.inr hc3,.step hP (p:=f+r) (q:=f+c) (by omega) (by omega) (by omega) (by omega) (by omega),?_,?_,hA3,hCd3.trans hC3⟩
  ·intro k hk hkc d hd1 hd2
   by_cases hkr:k=r
   ·subst hkr
    rw[g_swl (by omega) (by omega)]
    by_cases hdc:d=c
    ·subst hdc;rw[g_swq (by omega) (by omega)];omega
    ·rw[g_swo (by omega) (by omega) (by omega) (by omega)];exact hc4 d hd1 hd2
   ·rw[g_swo (i:=f+k) (by omega) (by omega) (by omega) (by omega)]
    by_cases hdr:d=r
    ·subst hdr
     rw[g_swl (by omega) (by omega)]
     exact hG k hk hd1 c hc2 hc3
    ·rw[g_swo (by omega) (by omega) (by omega) (by omega)]
     exact hH k hk hkr d hd1 hd2
  ·intro k hk hck d hd1 hd2
   have hkr:k=r:=by omega
   subst hkr
   rw[g_swl (by omega) (by omega),g_swo (by omega) (by omega) (by omega) (by omega)]
   exact hH c (by omega) (by omega) d hd1 hd2
theorem heap_max{xs:List Int}{f hi:Nat}(h:∀k,HpAt xs f hi k)(p:Nat)(hp:p<hi):g xs (f+p)<=g xs f:=by
 induction p using Nat.strongRecOn with
 | _ p ih=>
  by_cases h0:p=0
  ·subst h0;exact Int.le_refl _
  ·have h1:=h ((p-1)/2) p (by omega) hp
   have h2:=ih ((p-1)/2) (by omega) (by omega)
   omega
theorem c153{s:Sl}{b:Nat}{w:World}{xs:List Int}{a e:Nat}(h:Ar s b w.heap xs)(he:e<=xs.length)(ha:a<=e):
  Cw 153 #[slV s,iv a,iv e] w fun v w'=>v=.tuple #[]/\∃ys,PI a e xs ys/\SO ys a e/\Ar s b w'.heap ys/\CB b w w':=by
 have hl:xs.length<=1000000:=h.2.2.1
 refine F153_ok s a e w _ ⟨by decide,?_⟩
 have hea:a+(e-a)=e:=by omega
 rw[wsb ha (by omega)]
 generalize hhi:e-a=hi at hea
 refine⟨fun n x W=>∃(i:Nat)(ys:List Int),i=n/\x=(i:Int)-1/\i<=hi+1/\PI a e xs ys/\(∀k,i<=k->HpAt ys a hi k)/\Ar s b W.heap ys/\CB b w W,⟨_,(if hi=0 then 1 else (hi-1)/2+1),xs,rfl,?_,?_,.refl,?_,h,Ch.refl _ _⟩,?_⟩
 ·rw[wrap_of (n:=(hi:Int)-1) (by omega) (by omega)]
  split
  ·rename_i h0;subst h0;decide
  ·rename_i h0
   rw[Int.tdiv_eq_ediv_of_nonneg (by omega),wrap_of (by omega) (by omega)]
   omega
 ·split<;>omega
 ·intro k hk c hc1 hc2
  split at hk<;>omega
 rintro n _ W _ ⟨i,ys,rfl,rfl,hi1,hP,hH,hA,hC⟩
 have hyl:=hP.len
 unfold F153j1
 refine IfB.dec (fun hge=>?_) (fun hlt=>?_)
 ·rw[show ((i:Int)-1)=((i-1:Nat):Int) by omega,wsb ha (by omega),hhi]
  refine(c167 hA (by omega) (by omega) fun k hk=>hH k (by omega)).use ?_
  rintro _ W2 ⟨rfl,zs,hP2,hH2,hA2,hC2⟩
  rw[hea] at hP2
  exact⟨(),rfl,rfl,i-1,by omega,i-1,zs,rfl,by rw[wrap_of (by omega) (by omega)],by omega,hP.trans hP2,hH2,hA2,hC.trans hC2⟩
 ·have hi0:i=0:=by omega
  subst hi0
  refine⟨fun n x W'=>∃(i:Nat)(zs:List Int),i=n/\x=(i:Int)-1/\i<=hi/\PI a e xs zs/\(∀k,HpAt zs a i k)/\(∀p q,i<=p->p<q->q<hi->g zs (a+p)<=g zs (a+q))/\(∀p q,p<i->i<=q->q<hi->g zs (a+p)<=g zs (a+q))/\Ar s b W'.heap zs/\CB b w W',⟨_,hi,ys,rfl,?_,Nat.le_refl _,hP,fun k=>hH k (Nat.zero_le _),fun p q _ _ _=>by omega,fun p q _ _ _=>by omega,hA,hC⟩,?_⟩
  ·rw[wsb ha (by omega),hhi,wrap_of (by omega) (by omega)]
  rintro n _ W1 _ ⟨i,zs,rfl,rfl,hi2,hP1,hH1,hS1,hX1,hA1,hC1⟩
  have hzl:=hP1.len
  unfold F153j2
  refine IfB.dec (fun hge=>?_) (fun hlt=>⟨rfl,zs,hP1,fun p q h1 h2 h3=>?_,hA1,hC1⟩)
  ·obtain⟨m,rfl⟩:∃m,i=m+1:=⟨i-1,by omega⟩
   rw[show (((m+1:Nat):Int)-1)=(m:Int) by omega,wad (by omega)]
   have hCd:CB b w W1.drew:=hC1.then (extDrew W1) fun _ _ h=>h.elim
   refine sw (w:=W1.drew) hA1 (by omega) (by omega) (by omega) (by omega) fun W2 hA2 hC2=>?_
   rw[Int.toNat_natCast,Int.toNat_natCast] at hA2
   have hP2:PI a e xs (swp zs a (a+m)):=.step hP1 (by omega) (by omega) (by omega) (by omega) (by omega)
   have g0:∀p,0<p->p<m->g (swp zs a (a+m)) (a+p)=g zs (a+p):=fun p h1 h2=>g_swo (by omega) (by omega) (by omega) (by omega)
   have gm:g (swp zs a (a+m)) (a+m)=g zs a:=g_swq (by omega) (by omega)
   have gz:g (swp zs a (a+m)) a=g zs (a+m):=g_swl (by omega) (by omega)
   have gb:∀q,m<q->g (swp zs a (a+m)) (a+q)=g zs (a+q):=fun q h1=>g_swo (by omega) (by omega) (by omega) (by omega)
   refine(c167 (lo:=0) hA2 (by rw[swp_len];omega) (by omega) fun k hk c hc1 hc2=>?_).use ?_
   ·rw[g0 k hk (by omega),g0 c (by omega) hc2]
    exact hH1 k c hc1 (by omega)
   rintro _ W3 ⟨rfl,us,hP3,hH3,hA3,hC3⟩
   have hmax:=heap_max hH1
   have hP3':PI a e (swp zs a (a+m)) us:=hP3.mono (Nat.le_refl _) (by omega) (by rw[swp_len];omega)
   have ub:∀q,m<=q->g us (a+q)=g (swp zs a (a+m)) (a+q):=fun q hq=>hP3.out (.inr (by omega))
   refine⟨(),rfl,rfl,m,by omega,m,us,rfl,by rw[wrap_of (by omega) (by omega)],by omega,hP2.trans hP3',fun k=>hH3 k (Nat.zero_le _),?_,?_,hA3,(hCd.trans hC2).trans hC3⟩
   ·intro p q h1 h2 h3
    rw[ub p h1,ub q (by omega),gb q (by omega)]
    by_cases hp:p=m
    ·subst hp;rw[gm]
     have:=hX1 0 q (by omega) (by omega) h3
     exact this
    ·rw[gb p (by omega)];exact hS1 p q (by omega) h2 h3
   ·intro p q h1 h2 h3
    have hQ:∀i,a<=i->i<a+m->(fun v=>v<=g us (a+q)) (g us i):=by
     refine hP3.all (Q:=fun v=>v<=g us (a+q)) fun i h4 h5=>?_
     show _<=g us (a+q)
     rw[ub q h2]
     obtain⟨t,rfl⟩:∃t,i=a+t:=⟨i-a,by omega⟩
     have h6:g (swp zs a (a+m)) (a+t)=g zs (a+t)\/g (swp zs a (a+m)) (a+t)=g zs (a+m):=by
      by_cases ht:t=0
      ·subst ht;exact .inr gz
      ·exact .inl (g0 t (by omega) (by omega))
     by_cases hq:q=m
     ·subst hq
      rw[gm]
      have h7:=hmax t (by omega)
      have h8:=hmax q (by omega)
      rcases h6 with h6|h6<;>omega
     ·rw[gb q (by omega)]
      have h7:=hX1 t q (by omega) (by omega) h3
      have h8:=hX1 m q (by omega) (by omega) h3
      rcases h6 with h6|h6<;>omega
    exact hQ _ (by omega) (by omega)
  ·obtain⟨p',rfl⟩:∃t,p=a+t:=⟨p-a,by omega⟩
   obtain⟨q',rfl⟩:∃t,q=a+t:=⟨q-a,by omega⟩
   exact hS1 p' q' (by omega) (by omega) (by omega)
theorem c156{s:Sl}{b:Nat}{w:World}{xs:List Int}{a e:Nat}(h:Ar s b w.heap xs)(he:e<=xs.length)(ha:a<e):
  Cw 156 #[slV s,iv a,iv e] w fun v w'=>v=.tuple #[]/\∃ys,PI a e xs ys/\Ar s b w'.heap ys/\CB b w w':=by
 have hl:xs.length<=1000000:=h.2.2.1
 refine F156_ok s a e w _ ⟨fun n x W=>∃(i j:Nat)(ys:List Int),n=j/\x=((i:Int),(j:Int))/\a<=i/\j<e/\i<=j+1/\PI a e xs ys/\Ar s b W.heap ys/\CB b w W,⟨_,a,e-1,xs,rfl,by rw[wm1 (by omega) (by omega)],Nat.le_refl _,by omega,by omega,.refl,h,Ch.refl _ _⟩,?_⟩
 rintro n _ W _ ⟨i,j,ys,rfl,rfl,hai,hje,hij,hP,hA,hC⟩
 have hyl:=hP.len
 unfold F156j1
 refine IfB.dec (fun hlt=>?_) (fun hge=>⟨rfl,ys,hP,hA,hC⟩)
 have hlt:i<n:=by
  have:(i:Int)<(n:Int):=hlt
  omega
 have hCd:CB b w W.drew:=hC.then (extDrew W) fun _ _ h=>h.elim
 refine sw (w:=W.drew) hA (p:=(i:Int)) (q:=(n:Int)) (by omega) (by omega) (by omega) (by omega) fun W2 hA2 hC2=>?_
 rw[Int.toNat_natCast,Int.toNat_natCast] at hA2
 exact⟨rfl,n-1,by omega,i+1,n-1,_,rfl,by rw[<-wp1 (by omega),<-wm1 (by omega) (by omega)],by omega,by omega,by omega,.step hP (by omega) (by omega) (by omega) (by omega) (by omega),hA2,hCd.trans hC2⟩
theorem Ar.ch{F:Nat->Prop}{s:Sl}{b:Nat}{w w':World}{xs:List Int}(h:Ar s b w.heap xs)(hc:Ch F w w')(hF:¬F b):Ar s b w'.heap xs:=by
 obtain⟨e1,e2,e3,arr,T,e4,e5⟩:=h
 exact⟨e1,e2,e3,arr,T,hc.at e4 hF,e5⟩
def Ct(k:IntKind)(b1:Nat)(w:World):Prop:=∃T n,w.heap[b1]? =some (.cells #[.int k n] T (0,0))
theorem c171{s:Sl}{b b1:Nat}{w:World}{xs:List Int}{i j:Nat}(h:Ar s b w.heap xs)(hc:Ct .i64 b1 w)(hne:b1≠b)(hi:i<xs.length)(hj:j<xs.length):
  Cw 171 #[slV s,iv i,iv j,.pointer (some ⟨b1,0,none⟩)] w fun v w'=>∃x y:Nat,v=.tuple #[iv x,iv y]/\(x=i/\y=j\/x=j/\y=i)/\Ar s b w'.heap xs/\Ct .i64 b1 w'/\Ch (fun q=>q=b1) w w':=by
 have hd:Ch (fun q=>q=b1) w w.drew:=(extDrew w).mono fun _ _ h=>h.elim
 refine F171_ok s i j _ w _ (ls (w:=w.drew) h (by omega) (by omega) (by omega) (by omega) (IfB.intro (fun _=>?_) (fun _=>⟨i,j,rfl,.inl ⟨rfl,rfl⟩,h,hc,hd⟩)))
 obtain⟨T,n,hn⟩:=hc
 refine⟨b1,0,rfl,n,by rw[cell_of (w:=w.drew) hn];rfl,b1,0,rfl,rfl,store_one (w:=w.drew) hn (by simp) rfl fun w2 h2=>⟨j,i,rfl,.inr ⟨rfl,rfl⟩,?_,⟨T,_,h2.new⟩,hd.trans h2.ch⟩⟩
 exact Ar.ch (w:=w.drew) h h2.ch (Ne.symm hne)
theorem c169{s:Sl}{b b1:Nat}{w:World}{xs:List Int}{i j k:Nat}(h:Ar s b w.heap xs)(hc:Ct .i64 b1 w)(hne:b1≠b)(hi:i<xs.length)(hj:j<xs.length)(hk:k<xs.length):
  Cw 169 #[slV s,iv i,iv j,iv k,.pointer (some ⟨b1,0,none⟩)] w fun v w'=>∃x:Nat,v=iv x/\(x=i\/x=j\/x=k)/\Ar s b w'.heap xs/\Ct .i64 b1 w'/\Ch (fun q=>q=b1) w w':=by
 refine F169_ok s i j k _ w _ ((c171 h hc hne hi hj).use ?_)
 rintro _ w2 ⟨x1,y1,rfl,e1,h2,k2,l2⟩
 refine⟨((x1:Int),(y1:Int)),rfl,(c171 h2 k2 hne (by omega) hk).use ?_⟩
 rintro _ w3 ⟨x2,y2,rfl,e2,h3,k3,l3⟩
 refine⟨((x2:Int),(y2:Int)),rfl,(c171 h3 k3 hne (by omega) (by omega)).use ?_⟩
 rintro _ w4 ⟨x3,y3,rfl,e3,h4,k4,l4⟩
 exact⟨((x3:Int),(y3:Int)),rfl,y3,rfl,by omega,h4,k4,(l2.trans l3).trans l4⟩
theorem c168{s:Sl}{b b1:Nat}{w:World}{xs:List Int}{i:Nat}(h:Ar s b w.heap xs)(hc:Ct .i64 b1 w)(hne:b1≠b)(h0:0<i)(hi:i+1<xs.length):
  Cw 168 #[slV s,iv i,.pointer (some ⟨b1,0,none⟩)] w fun v w'=>∃x:Nat,v=iv x/\(i<=x+1/\x<=i+1)/\Ar s b w'.heap xs/\Ct .i64 b1 w'/\Ch (fun q=>q=b1) w w':=by
 have hl:=h.2.2.1
 refine F168_ok s i _ w _ ?_
 unfold F168
 rw[wm1 (by omega) (by omega),wp1 (by omega)]
 refine(c169 h hc hne (by omega) (by omega) hi).use ?_
 rintro _ w2 ⟨x,rfl,e,h2,k2,l2⟩
 exact⟨_,rfl,x,rfl,by omega,h2,k2,l2⟩
theorem wmul{i:Nat}{k:Int}{m:Nat}(hk:k=(m:Int))(hm:m<=4)(hi:i<=1000000):IntKind.i64.wrap ((i:Int)*k)=((i*m:Nat):Int):=by
 subst hk
 have:i*m<=4000000:=Nat.le_trans (Nat.mul_le_mul hi hm) (by decide)
 rw[<-Int.natCast_mul,wrap_of (by omega) (by omega)]
theorem c155{s:Sl}{b:Nat}{w:World}{xs:List Int}{a e:Nat}(h:Ar s b w.heap xs)(he:e<=xs.length)(ha:a+12<e):
  Cw 155 #[slV s,iv a,iv e] w fun v w'=>∃(p:Nat)(t:Int),v=.tuple #[iv p,iv t]/\(a<=p/\p<e)/\Ar s b w'.heap xs/\Ext w w':=by
 have hl:=h.2.2.1
 have hlt:=h.lt
 refine F155_ok s a e w _ ?_
 intro b1 w2 h2
 have e2:Ext w w2:=h2.ch _
 have p2:=h2.here
 have hA2:=h.ch e2 id
 have hc2:Ct .i64 b1 w2:=⟨_,_,h2.new⟩
 have hne:b1≠b:=by omega
 have hq:IntKind.i64.wrap ((IntKind.i64.wrap ((e:Int)-(a:Int))).tdiv (4:Int))=(((e-a)/4:Nat):Int):=by
  rw[wsb (by omega) (by omega),Int.tdiv_eq_ediv_of_nonneg (by omega),wrap_of (by omega) (by omega)];omega
 rw[hq,wmul (k:=(1:Int)) (m:=1) rfl (by omega) (by omega),wmul (k:=(2:Int)) (m:=2) rfl (by omega) (by omega),wmul (k:=(3:Int)) (m:=3) rfl (by omega) (by omega),wad (by omega),wad (by omega),wad (by omega),wsb (by omega) (by omega)]
 generalize hqq:(e-a)/4=q
 have hx:∀ {w':World},Ch (fun i=>i=b1) w2 w'->Ext w w':=fun hc=>e2.then hc fun i hi h=>by omega
 refine⟨by decide,by decide,by decide,fun x W=>∃p:Nat,x=(p:Int)/\(a<=p/\p<e)/\Ar s b W.heap xs/\Ct .i64 b1 W/\Ch (fun i=>i=b1) w2 W,?_,?_⟩
 ·refine IfB.yes (decide_eq_true (by omega)) ⟨fun x W=>∃i j k:Nat,x=((i:Int),(j:Int),(k:Int))/\(a<=i/\i<e)/\(a<=j/\j<e)/\(a<=k/\k<e)/\Ar s b W.heap xs/\Ct .i64 b1 W/\Ch (fun i=>i=b1) w2 W,?_,?_⟩
  ·refine IfB.dec (fun h50=>?_) (fun _=>⟨rfl,_,_,_,rfl,by omega,by omega,by omega,hA2,hc2,Ch.refl _ _⟩)
   have h50:50<=e-a:=by omega
   refine(c168 hA2 hc2 hne (by omega) (by omega)).use ?_
   rintro _ w6 ⟨i,rfl,hi,h6,k6,l6⟩
   refine⟨_,rfl,(c168 h6 k6 hne (by omega) (by omega)).use ?_⟩
   rintro _ w9 ⟨j,rfl,hj,h9,k9,l9⟩
   refine⟨_,rfl,(c168 h9 k9 hne (by omega) (by omega)).use ?_⟩
   rintro _ w12 ⟨k,rfl,hk,h12,k12,l12⟩
   exact⟨_,rfl,rfl,i,j,k,rfl,by omega,by omega,by omega,h12,k12,(l6.trans l9).trans l12⟩
  ·rintro _ w15 _ ⟨i,j,k,rfl,hi,hj,hk,h15,k15,l15⟩
   refine(c169 h15 k15 hne (by omega) (by omega) (by omega)).use ?_
   rintro _ w19 ⟨x,rfl,hx,h19,k19,l19⟩
   exact⟨_,rfl,rfl,x,rfl,by omega,h19,k19,l15.trans l19⟩
 ·rintro _ w22 _ ⟨p,rfl,hp,h22,⟨T,n,hn⟩,l22⟩
  refine⟨n,by rw[cell_of hn];rfl,IfB.intro (fun _=>⟨p,1,rfl,hp,h22,hx l22⟩) fun _=>IfB.intro (fun _=>⟨p,2,rfl,hp,h22,hx l22⟩) fun _=>⟨p,0,rfl,hp,h22,hx l22⟩⟩
structure Pt(a e:Nat)(xs ys:List Int)(v:Int)(Lo:Int->Prop)(i j:Nat):Prop where
 pi:PI a e xs ys
 len:e<=xs.length
 v:g ys a=v
 ai:a+1<=i
 ij:i<=j+1
 je:j+1<=e
 lo:∀k,a<k->k<i->Lo (g ys k)
 hi:∀k,j<k->k<e->¬Lo (g ys k)
theorem Pt.up{a e i j:Nat}{xs ys:List Int}{v:Int}{Lo:Int->Prop}(h:Pt a e xs ys v Lo i j)(hij:i<=j)(hl:Lo (g ys i)):Pt a e xs ys v Lo (i+1) j:=by
 have h1:=h.ai
 refine⟨h.pi,h.len,h.v,by omega,by omega,h.je,fun k h1 h2=>?_,h.hi⟩
 by_cases hk:k=i
 ·subst hk;exact hl
 ·exact h.lo k h1 (by omega)
theorem Pt.dn{a e i j:Nat}{xs ys:List Int}{v:Int}{Lo:Int->Prop}(h:Pt a e xs ys v Lo i j)(hij:i<=j)(hl:¬Lo (g ys j)):Pt a e xs ys v Lo i (j-1):=by
 have h1:=h.ai;have h2:=h.je
 refine⟨h.pi,h.len,h.v,h1,by omega,by omega,h.lo,fun k h1 h2=>?_⟩
 by_cases hk:k=j
 ·subst hk;exact hl
 ·exact h.hi k (by omega) h2
theorem Pt.sw{a e i j:Nat}{xs ys:List Int}{v:Int}{Lo:Int->Prop}(h:Pt a e xs ys v Lo i j)(hij:i<=j)(h1:¬Lo (g ys i))(h2:Lo (g ys j)):Pt a e xs (swp ys i j) v Lo (i+1) (j-1):=by
 have hne:i≠j:=fun e=>h1 (e ▸ h2)
 have hl:=h.pi.len;have h3:=h.len;have h4:=h.ai;have h5:=h.je
 refine⟨.step h.pi (by omega) (by omega) (by omega) (by omega) (by omega),h3,?_,by omega,by omega,by omega,fun k h6 h7=>?_,fun k h6 h7=>?_⟩
 ·rw[g_swo (by omega) (by omega) (by omega) (by omega)];exact h.v
 ·by_cases hk:k=i
  ·subst hk;rw[g_swl (by omega) (by omega)];exact h2
  ·rw[g_swo (by omega) (by omega) (by omega) (by omega)];exact h.lo k h6 (by omega)
 ·by_cases hk:k=j
  ·subst hk;rw[g_swq (by omega) (by omega)];exact h1
  ·rw[g_swo (by omega) (by omega) (by omega) (by omega)];exact h.hi k (by omega) h7
theorem upPart{s:Sl}{b a e i j:Nat}{w:World}{xs ys:List Int}{v:Int}{y:Int->World->Prop}(hP:Pt a e xs ys v (fun x=>x<v) i j)(hA:Ar s b w.heap ys)
  (hy:∀(i':Nat)(w':World),Pt a e xs ys v (fun x=>x<v) i' j->(j<i'\/¬g ys i'<v)->i<=i'->Ext w w'->y (i':Int) w'):
  ∃y14:Nat->Int->World->Prop,(∃b15,y14 b15 (i:Int) w)/\∀(b16:Nat)(n17:Int)(w18:World)(_:Nat->Value),y14 b16 n17 w18->IfB (decide (n17<=(j:Int))) (F160k2 s n17 w18 a b16 y14 y) (([]:List Df)=[]/\y n17 w18.drew):=by
 refine⟨fun n x W=>∃i':Nat,n=j+1-i'/\x=(i':Int)/\i<=i'/\Pt a e xs ys v (fun x=>x<v) i' j/\Ext w W,⟨_,i,rfl,rfl,Nat.le_refl _,hP,Ch.refl _ _⟩,?_⟩
 rintro _ _ W _ ⟨i',rfl,rfl,hii,hP',hW⟩
 have hl:=hP'.pi.len;have h3:=hP'.len;have h4:=hP'.ai;have h5:=hP'.je;have h6:=hA.2.2.1
 have hd:=hW.trans (extDrew W)
 refine IfB.dec (fun hle=>?_) (fun hgt=>⟨rfl,hy i' _ hP' (.inl (by omega)) hii hd⟩)
 have hle:i'<=j:=by omega
 refine ls (w:=W.drew) (hA.ch hd id) (by omega) (by omega) (by omega) (by omega) (IfB.dec (fun hl1=>?_) (fun hl1=>⟨rfl,hy i' _ hP' (.inr ?_) hii hd⟩))
 ·rw[Int.toNat_natCast,Int.toNat_natCast,hP'.v] at hl1
  exact⟨rfl,_,by omega,i'+1,rfl,wp1 (by omega),by omega,hP'.up hle hl1,hd⟩
 ·rw[Int.toNat_natCast,Int.toNat_natCast,hP'.v] at hl1;exact hl1
theorem dnPart{s:Sl}{b a e i j:Nat}{w:World}{xs ys:List Int}{v:Int}{y:Int->World->Prop}(hP:Pt a e xs ys v (fun x=>x<v) i j)(hA:Ar s b w.heap ys)
  (hy:∀(j':Nat)(w':World),Pt a e xs ys v (fun x=>x<v) i j'->(j'<i\/g ys j'<v)->j'<=j->Ext w w'->y (j':Int) w'):
  ∃y14:Nat->Int->World->Prop,(∃b15,y14 b15 (j:Int) w)/\∀(b16:Nat)(n17:Int)(w18:World)(_:Nat->Value),y14 b16 n17 w18->IfB (decide ((i:Int)<=n17)) (F160k1 s n17 w18 a b16 y14 y) (([]:List Df)=[]/\y n17 w18.drew):=by
 refine⟨fun n x W=>∃j':Nat,j'=n/\x=(j':Int)/\j'<=j/\Pt a e xs ys v (fun x=>x<v) i j'/\Ext w W,⟨_,j,rfl,rfl,Nat.le_refl _,hP,Ch.refl _ _⟩,?_⟩
 rintro _ _ W _ ⟨j',rfl,rfl,hjj,hP',hW⟩
 have hl:=hP'.pi.len;have h3:=hP'.len;have h4:=hP'.ai;have h5:=hP'.je;have h6:=hA.2.2.1
 have hd:=hW.trans (extDrew W)
 refine IfB.dec (fun hle=>?_) (fun hgt=>⟨rfl,hy j' _ hP' (.inl (by omega)) hjj hd⟩)
 have hle:i<=j':=by omega
 refine ls (w:=W.drew) (hA.ch hd id) (by omega) (by omega) (by omega) (by omega) (IfB.intro (fun hl1=>?_) (fun hl1=>⟨rfl,hy j' _ hP' (.inr ?_) hjj hd⟩))
 ·simp only[Int.toNat_natCast,hP'.v,Bool.not_eq_true',decide_eq_false_iff_not] at hl1
  exact⟨rfl,j'-1,by omega,j'-1,rfl,wm1 (by omega) (by omega),by omega,hP'.dn hle hl1,hd⟩
 ·simp only[Int.toNat_natCast,hP'.v,Bool.not_eq_false',decide_eq_true_eq] at hl1;exact hl1
theorem c160{s:Sl}{b:Nat}{w:World}{xs:List Int}{a e p:Nat}(h:Ar s b w.heap xs)(he:e<=xs.length)(hp:a<=p/\p<e):
  Cw 160 #[slV s,iv a,iv e,iv p] w fun v w'=>∃(m:Nat)(t:Bool),v=.tuple #[iv m,.bool t]/\(a<=m/\m<e)/\∃ys,PI a e xs ys/\(∀k,a<=k->k<m->g ys k<g ys m)/\(∀k,m<k->k<e->g ys m<=g ys k)/\Ar s b w'.heap ys/\CB b w w':=by
 have hl:=h.2.2.1
 refine F160_ok s a e p w _ ?_
 have hCd:CB b w w.drew:=(extDrew w).mono fun _ _ h=>h.elim
 refine sw (w:=w.drew) h (by omega) (by omega) (by omega) (by omega) fun w12 h12 C12=>?_
 rw[Int.toNat_natCast,Int.toNat_natCast] at h12
 have C12:=hCd.trans C12
 have hP0:Pt a e xs (swp xs a p) (g (swp xs a p) a) (fun x=>x<g (swp xs a p) a) (a+1) (e-1):=
  ⟨.step .refl (by omega) (by omega) (by omega) (by omega) he,he,rfl,by omega,by omega,by omega,fun k h1 h2=>by omega,fun k h1 h2=>by omega⟩
 generalize swp xs a p=ys0 at hP0 h12
 generalize g ys0 a=v at hP0
 have fin:∀ {ys:List Int}{j:Nat}{W:World}{t:Bool},Pt a e xs ys v (fun x=>x<v) (j+1) j->Ar s b W.heap ys->CB b w W->
   ∀W2:World,Ar s b W2.heap (swp ys j a)->CB b W W2->∃(m:Nat)(t':Bool),Value.tuple #[iv j,.bool t]=.tuple #[iv m,.bool t']/\(a<=m/\m<e)/\∃ys,PI a e xs ys/\(∀k,a<=k->k<m->g ys k<g ys m)/\(∀k,m<k->k<e->g ys m<=g ys k)/\Ar s b W2.heap ys/\CB b w W2:=by
  intro ys j W t hP hA hC W2 hA2 hC2
  have hyl:=hP.pi.len;have h4:=hP.ai;have h5:=hP.je
  have gj:g (swp ys j a) j=v:=by rw[g_swl (by omega) (by omega)];exact hP.v
  refine⟨j,t,rfl,by omega,_,.step hP.pi (by omega) (by omega) (by omega) (by omega) (by omega),fun k h1 h2=>?_,fun k h1 h2=>?_,hA2,hC.trans hC2⟩
  ·rw[gj]
   by_cases hk:k=a
   ·subst hk;rw[g_swq (by omega) (by omega)];exact hP.lo j (by omega) (by omega)
   ·rw[g_swo (by omega) (by omega) (by omega) (by omega)];exact hP.lo k (by omega) (by omega)
  ·rw[gj,g_swo (by omega) (by omega) (by omega) (by omega)]
   have:=hP.hi k h1 h2
   omega
 refine⟨fun x W=>∃i:Nat,x=(i:Int)/\Pt a e xs ys0 v (fun x=>x<v) i (e-1)/\(e-1<i\/¬g ys0 i<v)/\Ar s b W.heap ys0/\CB b w W,?_,?_⟩
 ·unfold F160j1
  rw[wp1 (by omega),wm1 (by omega) (by omega)]
  exact upPart hP0 h12 fun i' w' h1 h2 _ h3=>⟨i',rfl,h1,h2,h12.ch h3 id,C12.then h3 fun _ _ h=>h.elim⟩
 rintro _ W _ ⟨i,rfl,hP,hi,hA,hC⟩
 refine⟨fun x W'=>∃j:Nat,x=(j:Int)/\Pt a e xs ys0 v (fun x=>x<v) i j/\(j<i\/g ys0 j<v)/\(j<i\/¬g ys0 i<v)/\Ar s b W'.heap ys0/\CB b w W',?_,?_⟩
 ·unfold F160j3
  rw[wm1 (by omega) (by omega)]
  exact dnPart hP hA fun j' w' h1 h2 h3 h4=>⟨j',rfl,h1,h2,by omega,hA.ch h4 id,hC.then h4 fun _ _ h=>h.elim⟩
 rintro _ W1 _ ⟨j,rfl,hP1,hj1,hj2,hA1,hC1⟩
 have hyl:=hP1.pi.len;have h4:=hP1.ai;have h5:=hP1.je;have h6:=hP1.ij
 have hC1d:CB b w W1.drew:=hC1.then (extDrew W1) fun _ _ h=>h.elim
 unfold F160j4
 refine IfB.dec (fun hlt=>?_) (fun hge=>?_)
 ·have hij:i=j+1:=by omega
  subst hij
  refine sw (w:=W1.drew) hA1 (by omega) (by omega) (by omega) (by omega) fun W2 h2 C2=>?_
  rw[Int.toNat_natCast,Int.toNat_natCast] at h2
  exact fin (W:=W1.drew) hP1 hA1 hC1d W2 h2 C2
 ·have hij:i<=j:=by omega
  refine sw (w:=W1.drew) hA1 (by omega) (by omega) (by omega) (by omega) fun W2 h2 C2=>?_
  rw[Int.toNat_natCast,Int.toNat_natCast] at h2
  have hP2:=hP1.sw hij (by omega) (by omega)
  have C2:=hC1d.trans C2
  refine⟨fun n x W=>∃(i j:Nat)(ys:List Int),n=j+1-i/\x=((i:Int),(j:Int))/\Pt a e xs ys v (fun x=>x<v) i j/\Ar s b W.heap ys/\CB b w W,⟨_,i+1,j-1,_,rfl,by rw[wp1 (by omega),wm1 (by omega) (by omega)],hP2,h2,C2⟩,?_⟩
  rintro _ _ W3 _ ⟨i3,j3,ys3,rfl,rfl,hP3,hA3,hC3⟩
  unfold F160j5
  refine⟨fun x W=>∃i:Nat,x=(i:Int)/\i3<=i/\Pt a e xs ys3 v (fun x=>x<v) i j3/\(j3<i\/¬g ys3 i<v)/\Ar s b W.heap ys3/\CB b w W,?_,?_⟩
  ·exact upPart hP3 hA3 fun i' w' h1 h2 h3 h4=>⟨i',rfl,h3,h1,h2,hA3.ch h4 id,hC3.then h4 fun _ _ h=>h.elim⟩
  rintro _ W4 _ ⟨i4,rfl,hi34,hP4,hi4,hA4,hC4⟩
  refine⟨fun x W'=>∃j:Nat,x=(j:Int)/\j<=j3/\Pt a e xs ys3 v (fun x=>x<v) i4 j/\(j<i4\/g ys3 j<v)/\(j<i4\/¬g ys3 i4<v)/\Ar s b W'.heap ys3/\CB b w W',?_,?_⟩
  ·exact dnPart hP4 hA4 fun j' w' h1 h2 h3 h4=>⟨j',rfl,h3,h1,h2,by omega,hA4.ch h4 id,hC4.then h4 fun _ _ h=>h.elim⟩
  rintro _ W5 _ ⟨j5,rfl,hj5,hP5,hj51,hj52,hA5,hC5⟩
  have hyl:=hP5.pi.len;have h4:=hP5.ai;have h5:=hP5.je;have h6:=hP5.ij
  have hC5d:CB b w W5.drew:=hC5.then (extDrew W5) fun _ _ h=>h.elim
  unfold F160j9
  refine IfB.dec (fun hlt=>?_) (fun hge=>?_)
  ·have hij:i4=j5+1:=by omega
   subst hij
   refine sw (w:=W5.drew) hA5 (by omega) (by omega) (by omega) (by omega) fun W6 h6 C6=>?_
   rw[Int.toNat_natCast,Int.toNat_natCast] at h6
   exact fin (W:=W5.drew) hP5 hA5 hC5d W6 h6 C6
  ·have hij:i4<=j5:=by omega
   refine sw (w:=W5.drew) hA5 (by omega) (by omega) (by omega) (by omega) fun W6 h6 C6=>?_
   rw[Int.toNat_natCast,Int.toNat_natCast] at h6
   exact⟨rfl,_,by omega,i4+1,j5-1,_,rfl,by rw[wp1 (by omega),wm1 (by omega) (by omega)],hP5.sw hij (by omega) (by omega),h6,hC5d.trans C6⟩
theorem c159{s:Sl}{b:Nat}{w:World}{xs:List Int}{a e p:Nat}(h:Ar s b w.heap xs)(he:e<=xs.length)(hp:a<=p/\p<e):
  Cw 159 #[slV s,iv a,iv e,iv p] w fun v w'=>∃m:Nat,v=iv m/\(a<m/\m<=e)/\∃ys,PI a e xs ys/\g ys a=g xs p/\(∀k,a<=k->k<m->¬g xs p<g ys k)/\(∀k,m<=k->k<e->g xs p<g ys k)/\Ar s b w'.heap ys/\CB b w w':=by
 have hl:=h.2.2.1
 refine F159_ok s a e p w _ ?_
 have hCd:CB b w w.drew:=(extDrew w).mono fun _ _ h=>h.elim
 refine sw (w:=w.drew) h (by omega) (by omega) (by omega) (by omega) fun w12 h12 C12=>?_
 rw[Int.toNat_natCast,Int.toNat_natCast] at h12
 have C12:=hCd.trans C12
 have hv:g (swp xs a p) a=g xs p:=g_swl (by omega) (by omega)
 have hP0:Pt a e xs (swp xs a p) (g xs p) (fun x=>¬g xs p<x) (a+1) (e-1):=
  ⟨.step .refl (by omega) (by omega) (by omega) (by omega) he,he,hv,by omega,by omega,by omega,fun k h1 h2=>by omega,fun k h1 h2=>by omega⟩
 generalize swp xs a p=ys0 at hP0 h12
 clear hv
 generalize g xs p=v at hP0
 refine⟨fun n x W=>∃(i j:Nat)(ys:List Int),n=j+1-i/\x=((i:Int),(j:Int))/\Pt a e xs ys v (fun x=>¬v<x) i j/\Ar s b W.heap ys/\CB b w W,⟨_,a+1,e-1,_,rfl,by rw[wp1 (by omega),wm1 (by omega) (by omega)],hP0,h12,C12⟩,?_⟩
 rintro _ _ W3 _ ⟨i3,j3,ys3,rfl,rfl,hP3,hA3,hC3⟩
 unfold F159j1
 refine⟨fun x W=>∃i:Nat,x=(i:Int)/\i3<=i/\Pt a e xs ys3 v (fun x=>¬v<x) i j3/\(j3<i\/v<g ys3 i)/\Ar s b W.heap ys3/\CB b w W,?_,?_⟩
 ·refine⟨fun n x W=>∃i:Nat,n=j3+1-i/\x=(i:Int)/\i3<=i/\Pt a e xs ys3 v (fun x=>¬v<x) i j3/\Ar s b W.heap ys3/\CB b w W,⟨_,i3,rfl,rfl,Nat.le_refl _,hP3,hA3,hC3⟩,?_⟩
  rintro _ _ W _ ⟨i,rfl,rfl,hii,hP,hA,hC⟩
  have hyl:=hP.pi.len;have h4:=hP.ai;have h5:=hP.je;have h6:=hP.ij
  have hd:CB b w W.drew:=hC.then (extDrew W) fun _ _ h=>h.elim
  unfold F159j2
  refine IfB.dec (fun hle=>?_) (fun hgt=>⟨rfl,i,rfl,hii,hP,.inl ?_,hA,hd⟩)
  ·have hle:i<=j3:=by
    have:(i:Int)<=(j3:Int):=hle
    omega
   refine ls (w:=W.drew) hA (by omega) (by omega) (by omega) (by omega) (IfB.intro (fun hl1=>?_) (fun hl1=>⟨rfl,i,rfl,hii,hP,.inr ?_,hA,hd⟩))
   ·simp only[Int.toNat_natCast,hP.v,Bool.not_eq_true',decide_eq_false_iff_not] at hl1
    exact⟨rfl,_,by omega,i+1,rfl,wp1 (by omega),by omega,hP.up hle hl1,hA,hd⟩
   ·simp only[Int.toNat_natCast,hP.v,Bool.not_eq_false',decide_eq_true_eq] at hl1;exact hl1
  ·have:¬(i:Int)<=(j3:Int):=hgt
   omega
 rintro _ W4 _ ⟨i4,rfl,hi34,hP4,hi4,hA4,hC4⟩
 refine⟨fun x W'=>∃j:Nat,x=(j:Int)/\j<=j3/\Pt a e xs ys3 v (fun x=>¬v<x) i4 j/\(j<i4\/¬v<g ys3 j)/\(j<i4\/v<g ys3 i4)/\Ar s b W'.heap ys3/\CB b w W',?_,?_⟩
 ·refine⟨fun n x W=>∃j:Nat,j=n/\x=(j:Int)/\j<=j3/\Pt a e xs ys3 v (fun x=>¬v<x) i4 j/\(j<i4\/v<g ys3 i4)/\Ar s b W.heap ys3/\CB b w W,⟨_,j3,rfl,rfl,Nat.le_refl _,hP4,by omega,hA4,hC4⟩,?_⟩
  rintro _ _ W _ ⟨j,rfl,rfl,hjj,hP,hi,hA,hC⟩
  have hyl:=hP.pi.len;have h4:=hP.ai;have h5:=hP.je;have h6:=hP.ij
  have hd:CB b w W.drew:=hC.then (extDrew W) fun _ _ h=>h.elim
  unfold F159j4
  refine IfB.dec (fun hle=>?_) (fun hgt=>⟨rfl,j,rfl,hjj,hP,.inl (by omega),hi,hA,hd⟩)
  have hle:i4<=j:=by omega
  refine ls (w:=W.drew) hA (by omega) (by omega) (by omega) (by omega) (IfB.dec (fun hl1=>?_) (fun hl1=>⟨rfl,j,rfl,hjj,hP,.inr ?_,hi,hA,hd⟩))
  ·rw[Int.toNat_natCast,Int.toNat_natCast,hP.v] at hl1
   exact⟨rfl,j-1,by omega,j-1,rfl,wm1 (by omega) (by omega),by omega,hP.dn hle (by omega),by omega,hA,hd⟩
  ·rw[Int.toNat_natCast,Int.toNat_natCast,hP.v] at hl1;exact hl1
 rintro _ W5 _ ⟨j5,rfl,hj5,hP5,hj51,hj52,hA5,hC5⟩
 have hyl:=hP5.pi.len;have h4:=hP5.ai;have h5:=hP5.je;have h6:=hP5.ij
 have hC5d:CB b w W5.drew:=hC5.then (extDrew W5) fun _ _ h=>h.elim
 unfold F159j5
 refine IfB.dec (fun hlt=>?_) (fun hge=>?_)
 ·refine⟨i4,rfl,by omega,ys3,hP5.pi,hP5.v,fun k h1 h2=>?_,fun k h1 h2=>?_,hA5,hC5⟩
  ·by_cases hk:k=a
   ·subst hk;rw[hP5.v];omega
   ·exact hP5.lo k (by omega) h2
  ·have:=hP5.hi k (by omega) h2
   omega
 ·have hij:i4<=j5:=by omega
  refine sw (w:=W5.drew) hA5 (by omega) (by omega) (by omega) (by omega) fun W6 h6 C6=>?_
  rw[Int.toNat_natCast,Int.toNat_natCast] at h6
  exact⟨rfl,_,by omega,i4+1,j5-1,_,rfl,by rw[wp1 (by omega),wm1 (by omega) (by omega)],hP5.sw hij (by omega) (by omega),h6,hC5d.trans C6⟩
theorem CB.drew{b:Nat}{w W:World}(h:CB b w W):CB b w W.drew:=Ch.then h (extDrew W) fun _ _ h=>h.elim
theorem c157{s:Sl}{b:Nat}{w:World}{xs:List Int}{a e:Nat}(h:Ar s b w.heap xs)(he:e<=xs.length)(ha:a<e)(hb:0<a->∀k,a<=k->k<e->g xs (a-1)<=g xs k):
  Cw 157 #[slV s,iv a,iv e] w fun v w'=>∃t,v=.bool t/\∃ys,PI a e xs ys/\(t=true->SO ys a e)/\Ar s b w'.heap ys/\CB b w w':=by
 have hl:=h.2.2.1
 have lb:∀ {ys},PI a e xs ys->0<a->∀k,a<=k->k<e->g ys (a-1)<=g ys k:=fun{ys} hP h0 k h1 h2=>by
  rw[hP.out (.inl (by omega))]
  exact hP.all (Q:=fun v=>g xs (a-1)<=v) (fun i h3 h4=>hb h0 i h3 h4) k h1 h2
 refine F157_ok s a e w _ ⟨fun n x W=>∃(i j:Nat)(ys:List Int),n=5-j/\x=((i:Int),(j:Int))/\j<=5/\(a+1<=i/\i<=e)/\PI a e xs ys/\SO ys a i/\Ar s b W.heap ys/\CB b w W,⟨_,a+1,0,xs,rfl,by rw[wp1 (by omega)];rfl,by omega,by omega,.refl,fun p q _ _ _=>by omega,h,Ch.refl _ _⟩,?_⟩
 rintro _ _ W _ ⟨i0,j0,ys,rfl,rfl,hj0,hi0,hP,hS0,hA,hC⟩
 have hyl:=hP.len
 refine IfB.dec (fun hlt=>?_) (fun hge=>⟨false,rfl,ys,hP,(fun h=>by cases h),hA,hC⟩)
 have hj5:j0<5:=by
  have:(j0:Int)<5:=hlt
  omega
 refine⟨fun x W=>∃i:Nat,x=(i:Int)/\(a+1<=i/\i<=e)/\SO ys a i/\Ar s b W.heap ys/\CB b w W,?_,?_⟩
 ·refine⟨fun n x W=>∃i:Nat,n=e-i/\x=(i:Int)/\(a+1<=i/\i<=e)/\SO ys a i/\Ar s b W.heap ys/\CB b w W,⟨_,i0,rfl,rfl,hi0,hS0,hA,hC⟩,?_⟩
  rintro _ _ W1 _ ⟨i,rfl,rfl,hi,hS,hA1,hC1⟩
  unfold F157j2
  refine IfB.dec (fun hlt=>?_) (fun hge=>⟨rfl,i,rfl,hi,hS,hA1,hC1.drew⟩)
  rw[wm1 (by omega) (by omega)]
  refine ls (w:=W1.drew) hA1 (by omega) (by omega) (by omega) (by omega) (IfB.intro (fun hl1=>?_) (fun hl1=>⟨rfl,i,rfl,hi,hS,hA1,hC1.drew⟩))
  simp only[Int.toNat_natCast,Bool.not_eq_true',decide_eq_false_iff_not] at hl1
  refine⟨rfl,_,by omega,i+1,rfl,wp1 (by omega),by omega,fun p q h1 h2 h3=>?_,hA1,hC1.drew⟩
  by_cases hq:q=i
  ·subst hq
   by_cases hp:p=q-1
   ·subst hp;omega
   ·have:=hS p (q-1) h1 (by omega) (by omega)
    omega
  ·exact hS p q h1 h2 (by omega)
 rintro _ W2 _ ⟨i,rfl,hi,hS,hA2,hC2⟩
 unfold F157j3
 refine IfB.intro (fun hi3=>?_) (fun hi3=>?_)
 ·have hi3:(i:Int)=(e:Int):=by simpa using hi3
  have:i=e:=by omega
  subst this
  exact⟨true,rfl,ys,hP,fun _=>hS,hA2,hC2⟩
 have hie:i<e:=by
  have:(i:Int)≠(e:Int):=by simpa using hi3
  omega
 rw[wsb (by omega) (by omega)]
 refine @IfB.dec (((e-a:Nat):Int)<(50:Int)) _ _ _ (fun _=>⟨false,rfl,ys,hP,(fun h=>by cases h),hA2,hC2⟩) (fun _=>?_)
 rw[wm1 (by omega) (by omega)]
 refine sw (w:=W2.drew) hA2 (by omega) (by omega) (by omega) (by omega) fun W3 hA3 hC3=>?_
 rw[Int.toNat_natCast,Int.toNat_natCast] at hA3
 have hP3:PI a e xs (swp ys i (i-1)):=.step hP (by omega) (by omega) (by omega) (by omega) (by omega)
 have hC3:=(CB.drew hC2).trans hC3
 rw[wsb (by omega) (by omega)]
 refine⟨fun _ W=>∃zs,PI a e xs zs/\SO zs a i/\Ar s b W.heap zs/\CB b w W,?_,?_⟩
 ·refine IfB.dec (fun h2=>?_) (fun h2=>⟨rfl,_,hP3,fun p q _ _ _=>by omega,hA3,hC3⟩)
  refine⟨fun n x W=>∃(j:Nat)(zs:List Int),j=n/\x=(j:Int)/\(a<=j/\j<=i-1)/\PI a e xs zs/\(∀p q,a<=p->p<q->q<i->q≠j->g zs p<=g zs q)/\Ar s b W.heap zs/\CB b w W,⟨_,i-1,_,rfl,rfl,by omega,hP3,fun p q h1 h2 h3 h4=>?_,hA3,hC3⟩,?_⟩
  ·rw[g_swo (by omega) (by omega) (by omega) (by omega),g_swo (by omega) (by omega) (by omega) (by omega)]
   exact hS p q h1 h2 h3
  rintro _ _ W4 _ ⟨j,zs,rfl,rfl,hj,hP4,hS4,hA4,hC4⟩
  have hzl:=hP4.len
  unfold F157j4
  refine IfB.dec (fun hj1=>?_) (fun hj1=>⟨rfl,zs,hP4,fun p q h1 h2 h3=>hS4 p q h1 h2 h3 (by omega),hA4,hC4⟩)
  rw[wm1 (by omega) (by omega)]
  refine ls (w:=W4.drew) hA4 (by omega) (by omega) (by omega) (by omega) (IfB.intro (fun hl1=>?_) (fun hl1=>?_))
  ·simp only[Int.toNat_natCast,Bool.not_eq_true',decide_eq_false_iff_not] at hl1
   refine⟨rfl,zs,hP4,fun p q h1 h2 h3=>?_,hA4,hC4.drew⟩
   by_cases hq:q=j
   ·subst hq
    by_cases hp:p=q-1
    ·subst hp;omega
    ·have:=hS4 p (q-1) h1 (by omega) (by omega) (by omega)
     omega
   ·exact hS4 p q h1 h2 h3 hq
  ·simp only[Int.toNat_natCast,Bool.not_eq_false',decide_eq_true_eq] at hl1
   have haj:a<j:=by
    rcases Nat.lt_or_ge a j with h|h
    ·exact h
    ·have:a=j:=by omega
     subst this
     have:=lb hP4 (by omega) a (Nat.le_refl _) (by omega)
     omega
   refine sw (w:=W4.drew.drew) hA4 (by omega) (by omega) (by omega) (by omega) fun W5 hA5 hC5=>?_
   rw[Int.toNat_natCast,Int.toNat_natCast] at hA5
   refine⟨rfl,j-1,by omega,j-1,_,rfl,rfl,by omega,.step hP4 (by omega) (by omega) (by omega) (by omega) (by omega),fun p q h1 h2 h3 h4=>?_,hA5,(CB.drew (CB.drew hC4)).trans hC5⟩
   rw[g_swp (by omega) (by omega),g_swp (by omega) (by omega)]
   have A1:=hS4 p (j-1) h1
   have A2:=hS4 p q h1 h2 h3
   have A3:=hS4 j q (by omega)
   have A4:=hS4 (j-1) q (by omega)
   split<;>split<;>(try split)<;>(try split)<;>first|omega|skip
 rintro _ W6 _ ⟨zs,hP6,hS6,hA6,hC6⟩
 have hzl:=hP6.len
 have next:∀ {us:List Int}{W:World},PI a e xs us->SO us a i->Ar s b W.heap us->CB b w W->([]:List Df)=[]/\∃b112,b112<5-j0/\∃(i' j':Nat)(ys:List Int),b112=5-j'/\((i:Int),IntKind.i64.wrap ((j0:Int)+(1:Int)))=((i':Int),(j':Int))/\j'<=5/\(a+1<=i'/\i'<=e)/\PI a e xs ys/\SO ys a i'/\Ar s b W.heap ys/\CB b w W:=
  fun h1 h2 h3 h4=>⟨rfl,5-(j0+1),by omega,i,j0+1,_,rfl,by rw[wp1 (by omega)],by omega,by omega,h1,h2,h3,h4⟩
 unfold F157j5
 refine⟨fun t W=>W=W6,⟨rfl,rfl⟩,?_⟩
 rintro t _ _ rfl
 refine IfB.intro (fun _=>?_) (fun _=>next hP6 hS6 hA6 hC6)
 refine⟨fun n x W=>∃(j:Nat)(us:List Int),n=e-j/\x=(j:Int)/\(i+1<=j/\j<=e)/\PI a e xs us/\SO us a i/\Ar s b W.heap us/\CB b w W,⟨_,i+1,zs,rfl,wp1 (by omega),by omega,hP6,hS6,hA6,hC6⟩,?_⟩
 rintro _ _ W7 _ ⟨j,us,rfl,rfl,hj,hP7,hS7,hA7,hC7⟩
 have hul:=hP7.len
 unfold F157j7
 refine IfB.dec (fun hlt=>?_) (fun _=>next hP7 hS7 hA7 hC7)
 rw[wm1 (by omega) (by omega)]
 refine ls (w:=W7.drew) hA7 (by omega) (by omega) (by omega) (by omega) (IfB.intro (fun _=>next hP7 hS7 hA7 hC7.drew) (fun _=>?_))
 refine sw (w:=W7.drew.drew) hA7 (by omega) (by omega) (by omega) (by omega) fun W8 hA8 hC8=>?_
 rw[Int.toNat_natCast,Int.toNat_natCast] at hA8
 refine⟨rfl,_,by omega,j+1,_,rfl,wp1 (by omega),by omega,.step hP7 (by omega) (by omega) (by omega) (by omega) (by omega),fun p q h1 h2 h3=>?_,hA8,(CB.drew (CB.drew hC7)).trans hC8⟩
 rw[g_swo (by omega) (by omega) (by omega) (by omega),g_swo (by omega) (by omega) (by omega) (by omega)]
 exact hS7 p q h1 h2 h3
theorem tab_all:((List.range 256).all fun i=>match GxLSby0[i]? with|some y=>decide (i<2^y.toNat)&&(decide (i=0)||decide (2^(y.toNat-1)<=i))&&decide (y.toNat<=8)&&(decide (i=0)||decide (1<=y.toNat))|none=>false)=true:=by kernel_rfl
theorem tab_get{i:Nat}(hi:i<256):∃y,GxLSby0[i]? =some y/\i<2^y.toNat/\(0<i->2^(y.toNat-1)<=i/\1<=y.toNat)/\y.toNat<=8:=by
 have h:=List.all_eq_true.1 tab_all i (List.mem_range.2 hi)
 cases hy:GxLSby0[i]? with
 | none=>rw[hy] at h;cases h
 | some y=>
  rw[hy] at h
  simp only[Bool.and_eq_true,Bool.or_eq_true,decide_eq_true_eq] at h
  exact⟨y,rfl,h.1.1.1,fun h0=>⟨by omega,by omega⟩,h.1.2⟩
theorem wu8{i:Nat}(h:i<256):IntKind.u8.wrap (i:Int)=(i:Int):=by
 unfold IntKind.wrap;simp[IntKind.signed,IntKind.bits];omega
def LenIs(x L:Nat):Prop:=x<2^L/\(0<x->2^(L-1)<=x/\1<=L)/\L<=24
theorem LenIs.shift{x L k:Nat}(h:LenIs (x/2^k) L)(h0:0<x/2^k)(hL:L+k<=24):LenIs x (k+L):=by
 obtain⟨h1,h2,h3⟩:=h
 obtain⟨h4,h5⟩:=h2 h0
 have hp:0<2^k:=Nat.pow_pos (by decide)
 refine⟨?_,fun _=>⟨?_,by omega⟩,by omega⟩
 ·rw[Nat.pow_add,Nat.mul_comm];exact(Nat.div_lt_iff_lt_mul hp).1 h1
 ·rw[show k+L-1=(L-1)+k by omega,Nat.pow_add]
  exact(Nat.le_div_iff_mul_le hp).1 h4
theorem fdv{x k:Nat}{n:Int}(hk:min (Int.toNat n) IntKind.u64.bits=k):(x:Int).fdiv ((2:Int)^min (Int.toNat n) IntKind.u64.bits)=((x/2^k:Nat):Int):=by
 rw[hk,Int.fdiv_eq_ediv_of_nonneg _ (Int.pow_nonneg (by decide))]
 simp
theorem c149{x:Nat}(hx:x<=1000000)(w:World):Cw 149 #[.int .u64 x] w fun v w'=>∃L:Nat,v=iv L/\LenIs x L/\w=w':=by
 refine F149_ok _ _ _ (IfB.no (decide_eq_false (by omega)) (IfB.dec (fun h1=>⟨by decide,?_⟩) (fun h1=>IfB.dec (fun h2=>?_) (fun h2=>?_))))
 ·rw[fdv (n:=(16:Int)) (k:=16) rfl]
  refine IfB.no (decide_eq_false (by omega)) ?_
  unfold F149k3
  rw[fdv (n:=(16:Int)) (k:=16) rfl,wu8 (by omega)]
  obtain⟨y,hy,h3,h4,h5⟩:=tab_get (i:=x/2^16) (by omega)
  refine⟨y,by omega,by rw[Int.toNat_natCast];exact hy,16+y.toNat,?_,LenIs.shift ⟨h3,h4,by omega⟩ (by omega) (by omega),rfl⟩
  rw[wrap_of (n:=((y.toNat:Nat):Int)) (by omega) (by omega),wrap_of (n:=(0:Int)+16) (by omega) (by omega),wrap_of (by omega) (by omega)];rfl
 ·unfold F149k4
  rw[fdv (n:=(8:Int)) (k:=8) rfl,wu8 (by omega)]
  obtain⟨y,hy,h3,h4,h5⟩:=tab_get (i:=x/2^8) (by omega)
  refine⟨by decide,y,by omega,by rw[Int.toNat_natCast];exact hy,8+y.toNat,?_,LenIs.shift ⟨h3,h4,by omega⟩ (by omega) (by omega),rfl⟩
  rw[wrap_of (n:=((y.toNat:Nat):Int)) (by omega) (by omega),wrap_of (n:=(0:Int)+8) (by omega) (by omega),wrap_of (by omega) (by omega)];rfl
 ·unfold F149k1
  rw[wu8 (by omega)]
  obtain⟨y,hy,h3,h4,h5⟩:=tab_get (i:=x) (by omega)
  refine⟨y,by omega,by rw[Int.toNat_natCast];exact hy,y.toNat,?_,⟨h3,h4,by omega⟩,rfl⟩
  rw[wrap_of (n:=((y.toNat:Nat):Int)) (by omega) (by omega),wrap_of (by omega) (by omega)];simp
theorem c122{x:Nat}(hx:x<=1000000)(w:World):Cw 122 #[.int .u64 x] w fun v w'=>∃L:Nat,v=iv L/\LenIs x L/\w=w':=by
 refine F122_ok _ _ _ ((c149 hx w).use ?_)
 rintro _ _ ⟨L,rfl,hL,rfl⟩
 exact⟨_,rfl,L,rfl,hL,rfl⟩
theorem wu64{i:Nat}(h:i<2^64):IntKind.u64.wrap (i:Int)=(i:Int):=by
 unfold IntKind.wrap;simp[IntKind.signed,IntKind.bits];omega
theorem c162{x:Nat}(hx:x<=1000000)(w:World):Cw 162 #[iv x] w fun v w'=>∃L:Nat,v=.int .u64 ((2^L:Nat):Int)/\LenIs x L/\w=w':=by
 refine F162_ok _ _ _ ?_
 unfold F162
 rw[wu64 (by omega)]
 refine(c122 hx w).use ?_
 rintro _ _ ⟨L,rfl,hL,rfl⟩
 refine⟨_,rfl,by omega,L,?_,hL,rfl⟩
 have h24:=hL.2.2
 rw[Int.toNat_natCast,show min L IntKind.u64.bits=L from Nat.min_eq_left (by show L<=64;omega),Int.one_mul]
 have:2^L<2^64:=Nat.pow_lt_pow_right (by decide) (by omega)
 rw[<-wu64 this];simp
theorem c163{b1:Nat}{w:World}(h:Ct .u64 b1 w):Cw 163 #[.pointer (some ⟨b1,0,none⟩)] w fun v w'=>∃n,v=.int .u64 n/\Ct .u64 b1 w'/\Ch (fun q=>q=b1) w w':=by
 obtain⟨T,n,hn⟩:=h
 refine F163_ok _ w _ ⟨b1,0,rfl,n,by rw[cell_of (w:=w.drew) hn];rfl,b1,0,rfl,n,by rw[cell_of (w:=w.drew) hn];rfl,by decide,b1,0,rfl,rfl,store_one (w:=w.drew) hn (by simp) rfl fun w9 h9=>?_⟩
 have hn9:=h9.new
 refine⟨b1,0,rfl,_,by rw[cell_of (w:=w9.drew) hn9];rfl,b1,0,rfl,_,by rw[cell_of (w:=w9.drew) hn9];rfl,by decide,b1,0,rfl,rfl,store_one (w:=w9.drew) hn9 (by simp) rfl fun w18 h18=>?_⟩
 have hn18:=h18.new
 refine⟨b1,0,rfl,_,by rw[cell_of (w:=w18.drew) hn18];rfl,b1,0,rfl,_,by rw[cell_of (w:=w18.drew) hn18];rfl,by decide,b1,0,rfl,rfl,store_one (w:=w18.drew) hn18 (by simp) rfl fun w27 h27=>?_⟩
 have hn27:=h27.new
 exact⟨b1,0,rfl,_,by rw[cell_of hn27];rfl,_,rfl,⟨T,_,hn27⟩,((CB.drew (CB.drew (CB.drew (Ch.refl _ w) |>.trans h9.ch) |>.trans h18.ch)).trans h27.ch)⟩
theorem and_le{n:Int}{m:Nat}(hm:m<2^64):∃k:Nat,bitsI BinOp.and IntKind.u64 n (m:Int)=(k:Int)/\k<=m:=by
 refine⟨(BitVec.ofInt 64 n &&& BitVec.ofInt 64 (m:Int)).toNat,?_,?_⟩
 ·show IntKind.u64.wrap _=_
  exact wu64 (BitVec.isLt _)
 ·rw[BitVec.toNat_and]
  refine Nat.le_trans Nat.and_le_right ?_
  rw[BitVec.ofInt_natCast,BitVec.toNat_ofNat,Nat.mod_eq_of_lt hm]
  exact Nat.le_refl _
theorem c154{s:Sl}{b:Nat}{w:World}{xs:List Int}{a e:Nat}(h:Ar s b w.heap xs)(he:e<=xs.length)(ha:a+12<e):
  Cw 154 #[slV s,iv a,iv e] w fun v w'=>v=.tuple #[]/\∃ys,PI a e xs ys/\Ar s b w'.heap ys/\CB b w w':=by
 have hl:=h.2.2.1
 have hlt:=h.lt
 refine F154_ok s a e w _ ?_
 unfold F154
 rw[wsb (by omega) (by omega)]
 refine IfB.yes (decide_eq_true (by omega)) ?_
 intro b1 w2 h2
 have p2:=h2.here;have z2:=h2.size
 rw[wu64 (by omega)]
 refine⟨rfl,store_all h2.new rfl (by intro u hu;simp at hu;subst hu;rfl) fun w3 h3=>?_⟩
 have e3:Ext w w3:=Ext.fresh h2 h3
 have hne:b1≠b:=by omega
 refine(c162 (x:=e-a) (by omega) w3).use ?_
 rintro _ _ ⟨L,rfl,hL,rfl⟩
 have hq:IntKind.i64.wrap ((((e-a:Nat):Int)).tdiv (4:Int))=(((e-a)/4:Nat):Int):=by
  rw[Int.tdiv_eq_ediv_of_nonneg (by omega),wrap_of (by omega) (by omega)];omega
 obtain⟨hL1,hL2,hL3⟩:=hL
 obtain⟨hL4,hL5⟩:=hL2 (by omega)
 have h2L:2^L<=2*(e-a):=by
  have:2^L=2^(L-1)*2:=by rw[<-Nat.pow_succ];congr 1;omega
  omega
 have hLpos:0<2^L:=Nat.pow_pos (by decide)
 generalize 2^L=M at*
 rw[hq,wmul (k:=(2:Int)) (m:=2) rfl (by omega) (by omega),wad (by omega),wm1 (by omega) (by omega)]
 generalize hqq:(e-a)/4=q at*
 refine⟨_,rfl,by decide,fun n x W=>∃(i:Nat)(ys:List Int),n=a+q*2+2-i/\x=(i:Int)/\(a+q*2-1<=i/\i<=a+q*2+2)/\PI a e xs ys/\Ar s b W.heap ys/\Ct .u64 b1 W/\CB b w W,⟨_,_,xs,rfl,rfl,by omega,.refl,h.ch e3 id,⟨_,_,h3.new⟩,e3.mono fun _ _ h=>h.elim⟩,?_⟩
 rintro _ _ W _ ⟨i,ys,rfl,rfl,hi,hP,hA,hK,hC⟩
 have hyl:=hP.len
 unfold F154j1
 rw[wsb (by omega) (by omega),hq,wmul (k:=(2:Int)) (m:=2) rfl (by omega) (by omega),wad (by omega),wp1 (by omega)]
 refine⟨by decide,IfB.dec (fun hle=>?_) (fun hgt=>⟨rfl,ys,hP,hA,hC⟩)⟩
 refine(c163 hK).use ?_
 rintro _ w15 ⟨n16,rfl,hK2,hC2⟩
 have hA2:=hA.ch hC2 (Ne.symm hne)
 have hC3:CB b w w15:=hC.then hC2 fun j hj h=>by omega
 have hm:IntKind.u64.wrap ((M:Int)-(1:Int))=((M-1:Nat):Int):=by
  rw[show ((M:Int)-(1:Int))=((M-1:Nat):Int) by omega,wu64 (by omega)]
 obtain⟨k,hk,hkM⟩:=and_le (n:=n16) (m:=M-1) (by omega)
 refine⟨n16,rfl,fun x W=>∃t:Nat,x=(t:Int)/\t<e-a/\w15=W,?_,?_⟩
 ·rw[hm,hk,wrap_of (n:=(k:Int)) (by omega) (by omega)]
  refine IfB.dec (fun h1=>⟨rfl,k-(e-a),wsb (by omega) (by omega),by omega,rfl⟩) (fun h1=>⟨rfl,k,rfl,by omega,rfl⟩)
 rintro _ _ _ ⟨t,rfl,ht,rfl⟩
 unfold F154j2
 rw[wad (by omega)]
 refine sw (w:=w15.drew) hA2 (by omega) (by omega) (by omega) (by omega) fun W5 hA5 hC5=>?_
 rw[Int.toNat_natCast,Int.toNat_natCast] at hA5
 exact⟨rfl,_,by omega,i+1,_,rfl,wp1 (by omega),by omega,.step hP (by omega) (by omega) (by omega) (by omega) (by omega),hA5,by
  obtain⟨T,n,hn⟩:=hK2
  exact⟨T,n,hC5.at (w:=w15.drew) hn hne⟩,hC3.drew.trans hC5⟩
theorem SO.split{ys:List Int}{a m e:Nat}(h1:SO ys a m)(h2:SO ys (m+1) e)(hl:∀k,a<=k->k<m->g ys k<=g ys m)(hr:∀k,m<k->k<e->g ys m<=g ys k):SO ys a e:=by
 intro p q hp hpq hq
 rcases Nat.lt_trichotomy p m with h|h|h
 ·rcases Nat.lt_trichotomy q m with k|k|k
  ·exact h1 p q hp hpq k
  ·subst k;exact hl p hp h
  ·have:=hl p hp h;have:=hr q k hq;omega
 ·subst h;exact hr q hpq hq
 ·exact h2 p q (by omega) hpq hq
theorem PI.trans'{a b a' b':Nat}{xs ys zs:List Int}(h:PI a b xs ys)(k:PI a' b' ys zs)(h1:a<=a')(h2:b'<=b)(h3:b<=xs.length):PI a b xs zs:=
 h.trans (k.mono h1 h2 (by rw[h.len];exact h3))
def LB(xs:List Int)(a e:Nat):Prop:=0<a->∀k,a<=k->k<e->g xs (a-1)<=g xs k
theorem LB.pi{xs ys:List Int}{a e:Nat}(h:LB xs a e)(hP:PI a e xs ys):LB ys a e:=fun h0 k h1 h2=>by
 rw[hP.out (.inl (by omega))]
 exact hP.all (Q:=fun v=>g xs (a-1)<=v) (fun i h3 h4=>h h0 i h3 h4) k h1 h2
def Pd(ys:List Int)(a m e:Nat):Prop:=(∀k,a<=k->k<m->g ys k<=g ys m)/\(∀k,m<k->k<e->g ys m<=g ys k)
theorem Pd.left{ys zs:List Int}{a m e:Nat}(h:Pd ys a m e)(hP:PI a m ys zs):Pd zs a m e:=by
 have em:g zs m=g ys m:=hP.out (.inr (Nat.le_refl _))
 refine⟨fun k h1 h2=>?_,fun k h1 h2=>?_⟩
 ·rw[em];exact hP.all (Q:=fun v=>v<=g ys m) (fun i h3 h4=>h.1 i h3 h4) k h1 h2
 ·rw[em,hP.out (.inr (by omega))];exact h.2 k h1 h2
theorem Pd.right{ys zs:List Int}{a m e:Nat}(h:Pd ys a m e)(hP:PI (m+1) e ys zs):Pd zs a m e:=by
 have em:g zs m=g ys m:=hP.out (.inl (by omega))
 refine⟨fun k h1 h2=>?_,fun k h1 h2=>?_⟩
 ·rw[em,hP.out (.inl (by omega))];exact h.1 k h1 h2
 ·rw[em];exact hP.all (Q:=fun v=>g ys m<=v) (fun i h3 h4=>h.2 i (by omega) h4) k (by omega) h2
theorem SO.keep{ys zs:List Int}{a e a' e':Nat}(h:SO ys a e)(hP:PI a' e' ys zs)(hd:e<=a'\/e'<=a):SO zs a e:=by
 intro p q h1 h2 h3
 rw[hP.out (by omega),hP.out (by omega)]
 exact h p q h1 h2 h3
theorem c136(n:Nat):∀ {s:Sl}{b:Nat}{w:World}{xs:List Int}{a e:Nat}(lim:Int),e-a=n->Ar s b w.heap xs->e<=xs.length->a<=e->LB xs a e->
  Cw 136 #[slV s,iv a,iv e,iv lim] w fun v w'=>v=.tuple #[]/\∃ys,PI a e xs ys/\SO ys a e/\Ar s b w'.heap ys/\CB b w w':=by
 induction n using Nat.strongRecOn with
 | _ n ih=>
 intro s b w xs a e lim hn h he hae hLB
 have hl:=h.2.2.1
 refine F136_ok s a e lim w _ ⟨fun k x W=>∃(a' e':Nat)(lm:Int)(wb wp:Bool)(ys:List Int),k=e'-a'/\x=((a':Int),(e':Int),lm,wb,wp)/\(a<=a'/\a'<=e'/\e'<=e)/\PI a e xs ys/\LB ys a' e'/\
  (∀zs,PI a' e' ys zs->SO zs a' e'->SO zs a e)/\Ar s b W.heap ys/\CB b w W,⟨_,a,e,lim,true,true,xs,rfl,rfl,by omega,.refl,hLB,fun _ _ h=>h,h,Ch.refl _ _⟩,?_⟩
 rintro _ _ W _ ⟨a',e',lm,wb,wp,ys,rfl,rfl,hae',hP,hB,hG,hA,hC⟩
 have hyl:=hP.len
 have up:∀ {zs},PI a' e' ys zs->PI a e xs zs:=fun k=>hP.trans' k (by omega) (by omega) he
 unfold F136j1
 dsimp only
 rw[wsb (by omega) (by omega)]
 refine IfB.dec (fun h12=>?_) (fun h12=>?_)
 ·refine(c152 hA (by omega) (by omega)).use ?_
  rintro _ W2 ⟨rfl,zs,hP2,hS2,hA2,hC2⟩
  exact⟨(),rfl,rfl,zs,up hP2,hG zs hP2 hS2,hA2,hC.trans hC2⟩
 have hbig:a'+12<e':=by omega
 refine IfB.intro (fun _=>?_) (fun _=>?_)
 ·refine(c153 hA (by omega) (by omega)).use ?_
  rintro _ W2 ⟨rfl,zs,hP2,hS2,hA2,hC2⟩
  exact⟨(),rfl,rfl,zs,up hP2,hG zs hP2 hS2,hA2,hC.trans hC2⟩
 refine⟨fun _ W=>∃zs,PI a' e' ys zs/\Ar s b W.heap zs/\CB b w W,?_,?_⟩
 ·refine IfB.intro (fun _=>?_) (fun _=>⟨rfl,ys,.refl,hA,hC⟩)
  refine(c154 hA (by omega) hbig).use ?_
  rintro _ W2 ⟨rfl,zs,hP2,hA2,hC2⟩
  exact⟨(),rfl,rfl,zs,hP2,hA2,hC.trans hC2⟩
 rintro lm2 W2 _ ⟨zs,hP2,hA2,hC2⟩
 have hzl:=hP2.len
 unfold F136j2
 dsimp only
 refine(c155 hA2 (by omega) hbig).use ?_
 rintro _ W3 ⟨p,t,rfl,hp,hA3,e3⟩
 have hC3:CB b w W3:=hC2.then e3 fun _ _ h=>h.elim
 refine⟨((p:Int),t),rfl,fun x W=>∃(p:Nat)(us:List Int),x.1=(p:Int)/\(a'<=p/\p<e')/\PI a' e' ys us/\Ar s b W.heap us/\CB b w W,?_,?_⟩
 ·refine IfB.intro (fun _=>?_) (fun _=>⟨rfl,p,zs,rfl,hp,hP2,hA3,hC3⟩)
  refine(c156 hA3 (by omega) (by omega)).use ?_
  rintro _ W4 ⟨rfl,us,hP4,hA4,hC4⟩
  refine⟨(),rfl,rfl,e'-1-(p-a'),us,?_,by omega,hP2.trans hP4,hA4,hC3.trans hC4⟩
  show IntKind.i64.wrap (IntKind.i64.wrap ((e':Int)-1)-IntKind.i64.wrap ((p:Int)-(a':Int)))=_
  rw[wm1 (by omega) (by omega),wsb (by omega) (by omega),wsb (by omega) (by omega)]
 rintro⟨_,t2⟩ W5 _ ⟨p,us,rfl,hp,hP5,hA5,hC5⟩
 have hul:=hP5.len
 unfold F136j3
 dsimp only
 refine⟨fun _ W=>∃us,PI a' e' ys us/\Ar s b W.heap us/\CB b w W,?_,?_⟩
 ·refine IfB.intro (fun _=>IfB.intro (fun _=>IfB.intro (fun _=>?_) (fun _=>⟨rfl,us,hP5,hA5,hC5⟩)) (fun _=>⟨rfl,us,hP5,hA5,hC5⟩)) (fun _=>⟨rfl,us,hP5,hA5,hC5⟩)
  refine(c157 hA5 (by omega) (by omega) (hB.pi hP5)).use ?_
  rintro _ W6 ⟨t,rfl,vs,hP6,hS6,hA6,hC6⟩
  exact⟨t,rfl,IfB.intro (fun ht=>⟨rfl,vs,up (hP5.trans hP6),hG vs (hP5.trans hP6) (hS6 ht),hA6,hC5.trans hC6⟩) (fun _=>⟨rfl,vs,hP5.trans hP6,hA6,hC5.trans hC6⟩)⟩
 rintro _ W7 _ ⟨us,hP7,hA7,hC7⟩
 have hul:=hP7.len
 have hB7:=hB.pi hP7
 have hG7:∀zs,PI a' e' us zs->SO zs a' e'->SO zs a e:=fun zs k=>hG zs (hP7.trans k)
 have part:∀ {W8:World},W8.heap=W7.heap->CB b w W8->Cx 160 #[slV s,iv a',iv e',iv p] W8 fun v65 w66=>∃x67:Int×Bool,v65=.tuple #[.int .i64 x67.1,.bool x67.2]/\¬(8:Int)=0/\
   IfB (decide (IntKind.i64.wrap (x67.fst-(a':Int))<IntKind.i64.wrap ((e':Int)-x67.fst))) (F136k2 s ((a':Int),(e':Int),lm,wb,wp) x67 lm2 w66 (e'-a') (fun k x W=>∃(a' e':Nat)(lm:Int)(wb wp:Bool)(ys:List Int),k=e'-a'/\x=((a':Int),(e':Int),lm,wb,wp)/\(a<=a'/\a'<=e'/\e'<=e)/\PI a e xs ys/\LB ys a' e'/\
  (∀zs,PI a' e' ys zs->SO zs a' e'->SO zs a e)/\Ar s b W.heap ys/\CB b w W))
    (F136k1 s x67 ((a':Int),(e':Int),lm,wb,wp) lm2 w66 (e'-a') (fun k x W=>∃(a' e':Nat)(lm:Int)(wb wp:Bool)(ys:List Int),k=e'-a'/\x=((a':Int),(e':Int),lm,wb,wp)/\(a<=a'/\a'<=e'/\e'<=e)/\PI a e xs ys/\LB ys a' e'/\
  (∀zs,PI a' e' ys zs->SO zs a' e'->SO zs a e)/\Ar s b W.heap ys/\CB b w W)):=by
  intro W8 hW8 hC8
  have hA8:Ar s b W8.heap us:=by rw[hW8];exact hA7
  refine(c160 hA8 (by omega) hp).use ?_
  rintro _ W9 ⟨m,t,rfl,hm,vs,hP9,h1,h2,hA9,hC9⟩
  have hvl:=hP9.len
  have hPd:Pd vs a' m e':=⟨fun k h3 h4=>Int.le_of_lt (h1 k h3 h4),h2⟩
  have hB9:=hB7.pi hP9
  have hC9:=hC8.trans hC9
  refine⟨((m:Int),t),rfl,by decide,IfB.intro (fun _=>?_) (fun _=>?_)⟩
  ·unfold F136k2
   refine(ih (m-a') (by omega) lm2 rfl hA9 (by omega) (by omega) fun h0 k h3 h4=>hB9 h0 k h3 (by omega)).use ?_
   rintro _ W10 ⟨rfl,ts,hP10,hS10,hA10,hC10⟩
   have hPd2:=hPd.left hP10
   refine⟨(),rfl,rfl,e'-(m+1),by omega,m+1,e',_,_,_,ts,rfl,by rw[wp1 (by omega)],by omega,hP.trans' (hP7.trans (hP9.trans' hP10 (by omega) (by omega) (by omega))) (by omega) (by omega) he,fun _ k h3 h4=>hPd2.2 k (by omega) h4,fun zs hz hSz=>?_,hA10,hC9.trans hC10⟩
   have hPz:PI a' e' us zs:=(hP9.trans' hP10 (by omega) (by omega) (by omega)).trans' hz (by omega) (by omega) (by omega)
   have hPd3:=hPd2.right hz
   exact hG7 zs hPz ((hS10.keep hz (.inl (by omega))).split hSz hPd3.1 hPd3.2)
  ·unfold F136k1
   dsimp only
   rw[wp1 (by omega)]
   refine(ih (e'-(m+1)) (by omega) lm2 rfl hA9 (by omega) (by omega) fun h0 k h3 h4=>hPd.2 k (by omega) h4).use ?_
   rintro _ W10 ⟨rfl,ts,hP10,hS10,hA10,hC10⟩
   have hPd2:=hPd.right hP10
   have hB10:LB ts a' m:=fun h0 k h3 h4=>by
    rw[hP10.out (.inl (by omega)),hP10.out (.inl (by omega))]
    exact hB9 h0 k h3 (by omega)
   refine⟨(),rfl,rfl,m-a',by omega,a',m,_,_,_,ts,rfl,rfl,by omega,hP.trans' (hP7.trans (hP9.trans' hP10 (by omega) (by omega) (by omega))) (by omega) (by omega) he,hB10,fun zs hz hSz=>?_,hA10,hC9.trans hC10⟩
   have hPz:PI a' e' us zs:=(hP9.trans' hP10 (by omega) (by omega) (by omega)).trans' hz (by omega) (by omega) (by omega)
   have hPd3:=hPd2.left hz
   exact hG7 zs hPz (hSz.split (hS10.keep hz (.inr (by omega))) hPd3.1 hPd3.2)
 unfold F136j4
 dsimp only
 refine IfB.dec (fun h0=>?_) (fun h0=>part rfl hC7.drew)
 have h0:0<a':=by omega
 rw[wm1 (by omega) (by omega)]
 refine ls (w:=W7.drew) hA7 (by omega) (by omega) (by omega) (by omega) (IfB.intro (fun hl1=>?_) (fun _=>part rfl hC7.drew))
 simp only[Int.toNat_natCast,Bool.not_eq_true',decide_eq_false_iff_not] at hl1
 refine(c159 (w:=W7.drew) hA7 (by omega) hp).use ?_
 rintro _ W8 ⟨m,rfl,hm,vs,hP8,hv,h1,h2,hA8,hC8⟩
 have hvl:=hP8.len
 have hB8:=hB7.pi hP8
 have ho:g vs (a'-1)=g us (a'-1):=hP8.out (.inl (by omega))
 have hv1:∀k,a'<=k->k<m->g vs k=g us p:=fun k h3 h4=>by
  have:=h1 k h3 h4
  have:=hB8 h0 k h3 (by omega)
  omega
 refine⟨_,rfl,rfl,e'-m,by omega,m,e',lm2,wb,wp,vs,rfl,rfl,by omega,up (hP7.trans hP8),fun _ k h3 h4=>?_,fun zs hz hSz=>?_,hA8,hC7.drew.trans hC8⟩
 ·rw[hv1 (m-1) (by omega) (by omega)]
  have:=h2 k h3 h4
  omega
 ·have hlow:∀k,a'<=k->k<m->g zs k=g us p:=fun k h3 h4=>by rw[hz.out (.inl h4)];exact hv1 k h3 h4
  have hhigh:∀k,m<=k->k<e'->g us p<g zs k:=hz.all (Q:=fun v=>g us p<v) h2
  refine hG7 zs (hP8.trans' hz (by omega) (by omega) (by omega)) fun i j h3 h4 h5=>?_
  by_cases hj:j<m
  ·rw[hlow i h3 (by omega),hlow j (by omega) hj];exact Int.le_refl _
  ·by_cases hi:i<m
   ·rw[hlow i h3 hi]
    have:=hhigh j (by omega) h5
    omega
   ·exact hSz i j (by omega) h4 h5
theorem SO.sorted{ys:List Int}(h:SO ys 0 ys.length):ys.Pairwise (· <=·):=by
 rw[List.pairwise_iff_getElem]
 intro i j hi hj hij
 have:=h i j (Nat.zero_le _) hij hj
 have e1:=g_eq hi;have e2:=g_eq hj
 rw[List.getElem?_eq_getElem hi] at e1
 rw[List.getElem?_eq_getElem hj] at e2
 rw[Option.some.injEq] at e1 e2
 rw[e1,e2];exact this
theorem c125e(s:Sl)(w:World):Cw 152 #[slV s,iv 0,iv 0] w fun v w'=>v=.tuple #[]/\w=w':=by
 refine F152_ok s (0:Int) (0:Int) w _ ⟨fun k x W'=>x=(1:Int)/\w=W',⟨0,by decide,rfl⟩,?_⟩
 rintro k _ _ _ ⟨rfl,rfl⟩
 exact IfB.no (by decide) ⟨rfl,rfl⟩
theorem c120e(s:Sl)(L:Int)(w:World):Cw 136 #[slV s,iv 0,iv 0,iv L] w fun v w'=>v=.tuple #[]/\w=w':=by
 refine F136_ok s (0:Int) (0:Int) L w _ ⟨fun k x W=>x=((0:Int),(0:Int),L,true,true)/\w=W,⟨0,rfl,rfl⟩,?_⟩
 rintro k _ _ _ ⟨rfl,rfl⟩
 unfold F136j1
 refine IfB.yes (show decide (IntKind.i64.wrap ((0:Int)-(0:Int))<=(12:Int))=true by decide) ((c125e s w).use ?_)
 rintro _ _ ⟨rfl,rfl⟩
 exact⟨(),rfl,rfl,rfl⟩
theorem c112{w:World}{s:Sl}{xs:List Int}(h:OwS w s 1 (xs.map iv))(hl:xs.length<=1000000):
  Cw 112 #[slV s] w fun v w'=>v=.tuple #[]/\∃ys:List Int,ys.Perm xs/\ys.Pairwise (· <=·)/\OwS w' s 1 (ys.map iv)/\Ch (fun i=>i∈blk s) w w':=by
 have hn:=h.len1
 rw[List.length_map] at hn
 refine F112_ok s w _ ?_
 unfold F112
 rw[show (s.2:Int)=((xs.length:Nat):Int) by show (s.n:Int)=_;rw[hn],wu64 (by omega)]
 refine(c122 hl w).use ?_
 rintro _ _ ⟨L,rfl,hL,rfl⟩
 refine⟨_,rfl,?_⟩
 by_cases h0:xs.length=0
 ·have:xs=[]:=List.length_eq_zero_iff.1 h0
  subst this
  refine(c120e s L w).use ?_
  rintro _ _ ⟨rfl,rfl⟩
  exact⟨(),rfl,rfl,[],.refl _,.nil,h,Ch.refl _ _⟩
 ·obtain⟨b,hA,hb⟩:=Ar.of h (by omega) hl
  refine(c136 _ (L:Int) rfl hA (Nat.le_refl _) (Nat.zero_le _) (fun h0=>absurd h0 (by decide))).use ?_
  rintro _ W2 ⟨rfl,ys,hP,hS,hA2,hC2⟩
  have hyl:=hP.len
  exact⟨(),rfl,rfl,ys,hP.perm,SO.sorted (by rw[hyl];exact hS),hA2.own,hC2.mono fun i _ hi=>by rw[hb];simpa using hi⟩
section
variable {α:Type} {E E':α->α->Prop}
end
section
variable {δ:Type} {sv:δ->List Value} {sz:Nat}
theorem flatLen(h:∀x,(sv x).length=sz):∀l:List δ,(l.flatMap sv).length=l.length*sz
 | []=>by simp
 | x::l=>by rw[List.flatMap_cons,List.length_append,flatLen h l,h,List.length_cons,Nat.add_mul];omega
theorem flatTake(h:∀x,(sv x).length=sz):∀(l:List δ)(i:Nat),(l.flatMap sv).take (i*sz)=(l.take i).flatMap sv
 | [],i=>by simp
 | x::l,0=>by simp
 | x::l,i+1=>by
  rw[List.flatMap_cons,List.take_succ_cons,List.flatMap_cons,<-flatTake h l i,Nat.add_mul,Nat.one_mul,Nat.add_comm,<-h x,List.take_length_add_append]
theorem flatDrop(h:∀x,(sv x).length=sz):∀(l:List δ)(i:Nat),(l.flatMap sv).drop (i*sz)=(l.drop i).flatMap sv
 | [],i=>by simp
 | x::l,0=>by simp
 | x::l,i+1=>by
  rw[List.flatMap_cons,List.drop_succ_cons,<-flatDrop h l i,Nat.add_mul,Nat.one_mul,Nat.add_comm,<-h x,List.drop_length_add_append]
theorem flatSet(h:∀x,(sv x).length=sz){l:List δ}{i:Nat}{x:δ}(hi:i<l.length):(l.flatMap sv).take (i*sz)++sv x++(l.flatMap sv).drop (i*sz+sz)=(l.set i x).flatMap sv:=by
 rw[List.set_eq_take_append_cons_drop,if_pos hi,List.flatMap_append,List.flatMap_cons,flatTake h,show i*sz+sz=(i+1)*sz by rw[Nat.add_mul,Nat.one_mul],flatDrop h]
 simp
theorem flatGet(h:∀x,(sv x).length=sz){l:List δ}{i:Nat}{x:δ}(hx:l[i]? =some x):((l.flatMap sv).drop (i*sz)).take sz=sv x:=by
 obtain⟨hi,rfl⟩:=List.getElem?_eq_some_iff.1 hx
 rw[flatDrop h,List.drop_eq_getElem_cons hi,List.flatMap_cons,<-h l[i],List.take_append_of_le_length (Nat.le_refl _),List.take_length]
theorem flatOne(h:∀x,One (sv x))(l:List δ):One (l.flatMap sv):=by
 intro v hv
 obtain⟨x,_,hx⟩:=List.mem_flatMap.1 hv
 exact h x v hx
theorem owsN{w:World}{t:Sl}{l:List δ}(h:∀x,(sv x).length=sz)(hz:0<sz)(ho:OwS w t sz (l.flatMap sv)):t.n=l.length:=by
 have:=ho.len
 rw[flatLen h] at this
 exact(Nat.eq_of_mul_eq_mul_right hz this).symm
theorem rdN{w:World}{t:Sl}{l:List δ}(h:∀x,(sv x).length=sz)(hz:0<sz)(ho:Rd w t sz (l.flatMap sv)):t.n=l.length:=by
 have:=ho.1
 rw[flatLen h] at this
 exact(Nat.eq_of_mul_eq_mul_right hz this).symm
end
theorem takeFilter{α:Type}{p:α->Bool}{l:List α}{i:Nat}{x:α}(h:l[i]? =some x):(l.take (i+1)).filter p=(l.take i).filter p++if p x then [x] else []:=by
 rw[take_succ_get h,List.filter_append]
 cases hp:p x<;>simp[hp]
theorem Ch.chN{F:Nat->Prop}{w W W':World}(e:Ext w W)(hC:Ch F W W')(hF:∀i,F i->w.heap.size<=i):Ext w W':=e.then hC fun i hi h=>by have:=hF i h;omega
end Go.Proofs.YtoahfpabpdjkkaaGreat.Gx
namespace Go.Proofs.YtoahfpabpdjkkaaGreat.Gx.SfS
open Go Go.Proofs.YtoahfpabpdjkkaaGreat.Gx
set_option linter.unusedSimpArgs false
set_option linter.unusedVariables false
abbrev El:=Int×Int
abbrev sv(x:El):List Value:=[.int .i64 x.1,.int .i64 x.2]
theorem sv_len(x:El):(sv x).length=2:=rfl
theorem sv_one(x:El):One (sv x):=by intro v hv;simp at hv;rcases hv with rfl|rfl<;>rfl
def key(x:El):Int:=x.1
def ge(xs:List El)(i:Nat):El:=xs.getD i (0,0)
def g(xs:List El)(i:Nat):Int:=key (ge xs i)
def swp(xs:List El)(p q:Nat):List El:=(xs.set p (ge xs q)).set q (ge xs p)
theorem swp_len(xs:List El)(p q:Nat):(swp xs p q).length=xs.length:=by simp[swp]
theorem ge_eq{xs:List El}{i:Nat}(h:i<xs.length):xs[i]? =some (ge xs i):=by
 unfold ge;rw[List.getElem?_eq_getElem h,List.getElem_eq_getD (fallback:=(0,0))]
theorem ge_swp{xs:List El}{p q:Nat}(hp:p<xs.length)(hcp:q<xs.length)(i:Nat):ge (swp xs p q) i=if i=q then ge xs p else if i=p then ge xs q else ge xs i:=by
 show ((xs.set p (ge xs q)).set q (ge xs p)).getD i (0,0)=_
 rw[List.getD_eq_getElem?_getD,List.getElem?_set,List.getElem?_set]
 by_cases h1:q=i
 ·subst h1;simp[hcp]
 ·by_cases h2:p=i
  ·subst h2;simp[h1,hp,Ne.symm h1]
  ·simp only[if_neg h1,if_neg h2,if_neg (Ne.symm h1),if_neg (Ne.symm h2)]
   unfold ge;rw[List.getD_eq_getElem?_getD]
theorem g_swp{xs:List El}{p q:Nat}(hp:p<xs.length)(hcp:q<xs.length)(i:Nat):g (swp xs p q) i=if i=q then g xs p else if i=p then g xs q else g xs i:=by
 unfold g;rw[ge_swp hp hcp]
 split
 ·rfl
 ·split<;>rfl
theorem g_swq{xs:List El}{p q:Nat}(hp:p<xs.length)(hcp:q<xs.length):g (swp xs p q) q=g xs p:=by rw[g_swp hp hcp,if_pos rfl]
theorem g_swl{xs:List El}{p q:Nat}(hp:p<xs.length)(hcp:q<xs.length):g (swp xs p q) p=g xs q:=by
 rw[g_swp hp hcp]
 split
 ·rename_i h;rw[h]
 ·rw[if_pos rfl]
theorem g_swo{xs:List El}{p q i:Nat}(hp:p<xs.length)(hcp:q<xs.length)(h1:i≠p)(h2:i≠q):g (swp xs p q) i=g xs i:=by rw[g_swp hp hcp,if_neg h2,if_neg h1]
theorem swp_perm{xs:List El}{p q:Nat}(hp:p<xs.length)(hcp:q<xs.length):(swp xs p q).Perm xs:=by
 have h:=(Array.swap_perm (xs:=xs.toArray) (i:=p) (j:=q) (by simpa using hp) (by simpa using hcp)).toList
 have e:(xs.toArray.swap p q (by simpa using hp) (by simpa using hcp)).toList=swp xs p q:=by
  apply List.ext_getElem?
  intro i
  simp only[Array.swap,swp,Array.toList_set,List.getElem_toArray,ge,List.getD_eq_getElem?_getD,List.getElem?_eq_getElem hp,List.getElem?_eq_getElem hcp,Option.getD_some]
 rw[e] at h
 exact h
inductive PI(a b:Nat)(xs:List El):List El->Prop
 | refl:PI a b xs xs
 | step {ys:List El} {p q:Nat}:PI a b xs ys->a<=p->p<b->a<=q->q<b->b<=ys.length->PI a b xs (swp ys p q)
theorem PI.len{a b:Nat}{xs ys:List El}(h:PI a b xs ys):ys.length=xs.length:=by
 induction h with
 | refl=>rfl
 | step _ _ _ _ _ _ ih=>rw[swp_len,ih]
theorem PI.perm{a b:Nat}{xs ys:List El}(h:PI a b xs ys):ys.Perm xs:=by
 induction h with
 | refl=>exact .refl _
 | step _ _ h2 _ h4 h5 ih=>exact(swp_perm (by omega) (by omega)).trans ih
theorem PI.out{a b:Nat}{xs ys:List El}(h:PI a b xs ys){i:Nat}(hi:i<a\/b<=i):g ys i=g xs i:=by
 induction h with
 | refl=>rfl
 | step _ h1 h2 h3 h4 h5 ih=>rw[g_swp (by omega) (by omega),if_neg (by omega),if_neg (by omega),ih]
theorem PI.all{a b:Nat}{xs ys:List El}(h:PI a b xs ys){Q:Int->Prop}(hq:∀i,a<=i->i<b->Q (g xs i)):∀i,a<=i->i<b->Q (g ys i):=by
 induction h with
 | refl=>exact hq
 | step _ h1 h2 h3 h4 h5 ih=>
  intro i hi hi2
  rw[g_swp (by omega) (by omega)]
  split
  ·exact ih _ h1 h2
  ·split
   ·exact ih _ h3 h4
   ·exact ih _ hi hi2
theorem PI.mono{a b a' b':Nat}{xs ys:List El}(h:PI a b xs ys)(ha:a'<=a)(hb:b<=b')(hl:b'<=xs.length):PI a' b' xs ys:=by
 induction h with
 | refl=>exact .refl
 | step h h1 h2 h3 h4 h5 ih=>exact .step ih (by omega) (by omega) (by omega) (by omega) (by rw[h.len];exact hl)
theorem PI.trans{a b:Nat}{xs ys zs:List El}(h:PI a b xs ys)(k:PI a b ys zs):PI a b xs zs:=by
 induction k with
 | refl=>exact h
 | step _ h1 h2 h3 h4 h5 ih=>exact .step ih h1 h2 h3 h4 h5
def SO(xs:List El)(a b:Nat):Prop:=∀i j,a<=i->i<j->j<b->g xs i<=g xs j
def Ar(s:Sl)(b:Nat)(H:Array Obj)(xs:List El):Prop:=
 s.p=some ⟨b,0,none⟩/\s.n=xs.length/\xs.length<=1000000/\∃arr T,H[b]? =some (.cells arr T (0,0))/\arr.size=s.c*2/\s.n<=s.c/\arr.toList.take (s.n*2)=xs.flatMap sv
theorem Ar.own{s:Sl}{b:Nat}{w:World}{xs:List El}(h:Ar s b w.heap xs):OwS w s 2 (xs.flatMap sv):=by
 obtain⟨h1,h2,_,arr,T,h3,h4,h5,h6⟩:=h
 exact .inr ⟨b,arr,T,h1,h3,h4,h5,h6⟩
theorem Ar.ofp{s:Sl}{b:Nat}{w:World}{xs:List El}(h:OwS w s 2 (xs.flatMap sv))(hp:s.p=some ⟨b,0,none⟩)(hl:xs.length<=1000000):Ar s b w.heap xs:=by
 have hn:=owsN sv_len (by omega) h
 rcases h with ⟨rfl,_⟩|⟨b',arr,T,h1,h3,h4,h5,h6⟩
 ·cases hp
 ·rw[h1] at hp;cases hp
  exact⟨h1,hn,hl,arr,T,h3,h4,h5,h6⟩
theorem Ar.of{s:Sl}{w:World}{xs:List El}(h:OwS w s 2 (xs.flatMap sv))(h0:0<xs.length)(hl:xs.length<=1000000):∃b,Ar s b w.heap xs/\blk s=[b]:=by
 have hn:=owsN sv_len (by omega) h
 obtain⟨b,hp⟩:=h.ptr (by omega)
 exact⟨b,Ar.ofp h hp hl,by simp[blk,hp]⟩
theorem Ar.lt{s:Sl}{b:Nat}{w:World}{xs:List El}(h:Ar s b w.heap xs):b<w.heap.size:=by
 obtain⟨_,_,_,_,_,h3,_⟩:=h
 exact heap_lt h3
theorem rd{s:Sl}{b:Nat}{w:World}{xs:List El}(h:Ar s b w.heap xs){i:Int}(h0:0<=i)(h1:i<xs.length){K:El->Prop}(k:K (ge xs i.toNat)):
  ∃b1 b2:Nat,s.1=some ⟨b1,b2,none⟩/\((0:Int)<=i/\i<(s.2:Int))/\∃n:El,CellsAt w b1 (b2+i.toNat*2) [.int .i64 n.1,.int .i64 n.2]/\K n:=by
 have e2:=h.2.1
 obtain⟨b',hp,hc⟩:=h.own.elem (i:=i.toNat) (by omega) (flatGet sv_len (ge_eq (xs:=xs) (i:=i.toNat) (by omega)))
 exact⟨b',0,hp,⟨h0,by show i<(s.n:Int);omega⟩,_,by rw[Nat.zero_add];exact hc,k⟩
theorem wr{s:Sl}{b:Nat}{w:World}{xs:List El}(h:Ar s b w.heap xs){i:Int}{x:El}(h0:0<=i)(h1:i<xs.length){K:World->Prop}(k:∀w',Ar s b w'.heap (xs.set i.toNat x)->CB b w w'->K w'):
  ∃b1 b2:Nat,s.1=some ⟨b1,b2,none⟩/\((0:Int)<=i/\i<(s.2:Int))/\#[Value.int .i64 x.1,Value.int .i64 x.2].size=2/\StoreP w b1 (b2+i.toNat*2) [.int .i64 x.1,.int .i64 x.2] K:=by
 have e1:=h.1;have e2:=h.2.1;have el:=h.2.2.1
 refine⟨b,0,e1,⟨h0,by show i<(s.n:Int);omega⟩,rfl,?_⟩
 rw[Nat.zero_add]
 refine h.own.store (vs:=sv x) e1 (by rw[sv_len];omega) (sv_one x) fun w' ho hc=>k w' (Ar.ofp ?_ e1 (by rw[List.length_set];exact el)) hc
 rw[sv_len,flatSet sv_len (by omega)] at ho
 exact ho
theorem sw{s:Sl}{b:Nat}{w:World}{xs:List El}(h:Ar s b w.heap xs){p q:Int}(hp0:0<=p)(hp1:p<xs.length)(hq0:0<=q)(hq1:q<xs.length){K:World->Prop}(k:∀w',Ar s b w'.heap (swp xs p.toNat q.toNat)->CB b w w'->K w'):
  ∃b1 b2:Nat,s.1=some ⟨b1,b2,none⟩/\((0:Int)<=q/\q<(s.2:Int))/\∃n:El,CellsAt w b1 (b2+q.toNat*2) [.int .i64 n.1,.int .i64 n.2]/\
  ∃b3 b4:Nat,s.1=some ⟨b3,b4,none⟩/\((0:Int)<=p/\p<(s.2:Int))/\∃m:El,CellsAt w b3 (b4+p.toNat*2) [.int .i64 m.1,.int .i64 m.2]/\
  ∃b5 b6:Nat,s.1=some ⟨b5,b6,none⟩/\((0:Int)<=p/\p<(s.2:Int))/\#[Value.int .i64 n.1,Value.int .i64 n.2].size=2/\StoreP w b5 (b6+p.toNat*2) [.int .i64 n.1,.int .i64 n.2] fun w1=>
  ∃b7 b8:Nat,s.1=some ⟨b7,b8,none⟩/\((0:Int)<=q/\q<(s.2:Int))/\#[Value.int .i64 m.1,Value.int .i64 m.2].size=2/\StoreP w1 b7 (b8+q.toNat*2) [.int .i64 m.1,.int .i64 m.2] K:=by
 refine rd h hq0 hq1 (rd h hp0 hp1 (wr h hp0 hp1 fun w1 h1 c1=>wr h1 hq0 (by rw[List.length_set];exact hq1) fun w2 h2 c2=>k w2 h2 (c1.trans c2)))
def CmpP(cl:Nat×Array Value):Prop:=∀(x y:El)(W:World),Cw cl.1 { toList:=Value.agg (sv x).toArray::Value.agg (sv y).toArray::cl.2.toList } W fun v w'=>∃n:Int,v=iv n/\(n<0↔key x<key y)/\Ext W w'
theorem ls{cl:Nat×Array Value}(hcp:CmpP cl){s:Sl}{b:Nat}{w:World}{xs:List El}(h:Ar s b w.heap xs){i j:Int}(hi0:0<=i)(hi1:i<xs.length)(hj0:0<=j)(hj1:j<xs.length){K:Int->World->Prop}(k:∀(nn:Int)(ww:World),(nn<0↔g xs i.toNat<g xs j.toNat)->Ext w ww->K nn ww):
  ∃b1 b2:Nat,s.1=some ⟨b1,b2,none⟩/\((0:Int)<=i/\i<(s.2:Int))/\∃n:El,CellsAt w b1 (b2+i.toNat*2) [.int .i64 n.1,.int .i64 n.2]/\
  ∃b3 b4:Nat,s.1=some ⟨b3,b4,none⟩/\((0:Int)<=j/\j<(s.2:Int))/\∃m:El,CellsAt w b3 (b4+j.toNat*2) [.int .i64 m.1,.int .i64 m.2]/\
  Cx cl.1 { toList:=Value.agg #[.int .i64 n.1,.int .i64 n.2]::Value.agg #[.int .i64 m.1,.int .i64 m.2]::cl.2.1 } w fun v w'=>∃n:Int,v=.int .i64 n/\K n w':=by
 refine rd h hi0 hi1 (rd h hj0 hj1 ((hcp _ _ w).use ?_))
 rintro _ ww ⟨n,rfl,hn,e⟩
 exact⟨n,rfl,k n ww hn e⟩
theorem decC{n:Int}{P:Prop}[Decidable P]{A B:Prop}(hn:n<0↔P)(h:P->A)(k:¬P->B):IfB (decide (n<0)) A B:=IfB.dec (fun h'=>h (hn.1 h')) fun h'=>k fun hp=>h' (hn.2 hp)
theorem introC{n:Int}{P:Prop}[Decidable P]{A B:Prop}(hn:n<0↔P)(h:(!decide P)=true->A)(k:(!decide P)=false->B):IfB (!decide (n<0)) A B:=by
 rw[show decide (n<0)=decide P from decide_eq_decide.2 hn]
 exact IfB.intro h k
theorem Ar.ch{F:Nat->Prop}{s:Sl}{b:Nat}{w w':World}{xs:List El}(h:Ar s b w.heap xs)(hc:Ch F w w')(hF:¬F b):Ar s b w'.heap xs:=by
 obtain⟨e1,e2,e3,arr,T,e4,e5⟩:=h
 exact⟨e1,e2,e3,arr,T,hc.at e4 hF,e5⟩
theorem CBe{b:Nat}{w W W':World}(h:CB b w W)(e:Ext W W'):CB b w W':=Ch.then h e fun _ _ h=>h.elim
theorem c140{cl:Nat×Array Value}(hcp:CmpP cl){s:Sl}{b:Nat}{w:World}{xs:List El}{a e:Nat}(h:Ar s b w.heap xs)(he:e<=xs.length)(ha:a<=xs.length):
  Cw 140 #[slV s,iv a,iv e,.func (.func cl.1) #[] cl.2] w fun v w'=>v=.tuple #[]/\∃ys,PI a e xs ys/\SO ys a e/\Ar s b w'.heap ys/\CB b w w':=by
 have hl:xs.length<=1000000:=h.2.2.1
 refine F140_ok s a e cl w _ ⟨fun n x W=>∃(i:Nat)(ys:List El),n=e+1-i/\x=(i:Int)/\a+1<=i/\(i=a+1\/i<=e)/\PI a e xs ys/\SO ys a i/\Ar s b W.heap ys/\CB b w W,⟨_,a+1,xs,rfl,wp1 (by omega),Nat.le_refl _,.inl rfl,.refl,fun i j _ _ _=>by omega,h,Ch.refl _ _⟩,?_⟩
 rintro n _ W _ ⟨i,ys,rfl,rfl,hai,hi,hP,hS,hA,hC⟩
 have hyl:=hP.len
 refine IfB.dec (fun hlt=>?_) (fun hge=>⟨rfl,ys,hP,fun p q h1 h2 h3=>hS p q h1 h2 (by omega),hA,hC⟩)
 have hie:i<e:=by omega
 refine⟨fun m x W'=>∃(j:Nat)(zs:List El),j=m/\x=(j:Int)/\a<=j/\j<=i/\PI a e xs zs/\(∀p q,a<=p->p<q->q<=i->q≠j->g zs p<=g zs q)/\Ar s b W'.heap zs/\CB b w W',⟨_,i,ys,rfl,rfl,by omega,Nat.le_refl _,hP,fun p q h1 h2 h3 h4=>hS p q h1 h2 (by omega),hA,hC⟩,?_⟩
 rintro m _ W1 _ ⟨j,zs,rfl,rfl,haj,hji,hP1,hS1,hA1,hC1⟩
 have hzl:=hP1.len
 have hCd:CB b w W1.drew:=hC1.then (extDrew W1) fun _ _ h=>h.elim
 have done:(∀p,a<=p->p<j->g zs p<=g zs j)->∀W2:World,Ar s b W2.heap zs->CB b w W2->([]:List Df)=[]/\∃b38,b38<e+1-i/\∃(i':Nat)(ys:List El),b38=e+1-i'/\IntKind.i64.wrap ((i:Int)+(1:Int))=(i':Int)/\a+1<=i'/\(i'=a+1\/i'<=e)/\PI a e xs ys/\SO ys a i'/\Ar s b W2.heap ys/\CB b w W2:=by
  rintro hj W2 hA1 hCd
  refine⟨rfl,e+1-(i+1),by omega,i+1,zs,rfl,wp1 (by omega),by omega,.inr (by omega),hP1,fun p q h1 h2 h3=>?_,hA1,hCd⟩
  by_cases hq:q=j
  ·subst hq;exact hj p h1 h2
  ·exact hS1 p q h1 h2 (by omega) hq
 unfold F140j2
 refine IfB.dec (fun hlt2=>?_) (fun hge2=>done (fun p h1 h2=>by omega) W1.drew hA1 hCd)
 have hj:a<j:=by omega
 have hw:=wm1 (i:=j) (by omega) (by omega)
 rw[hw]
 refine ls hcp (w:=W1.drew) hA1 (by omega) (by omega) (by omega) (by omega) (fun nn ww hn eC=>have hA1:=Ar.ch (w:=W1.drew) hA1 eC id;have hCd:=CBe hCd eC;decC hn (fun hl1=>?_) (fun hl1=>done (fun p h1 h2=>?_) ww hA1 hCd))
 ·rw[Int.toNat_natCast,Int.toNat_natCast] at hl1
  refine sw (w:=ww.drew) hA1 (by omega) (by omega) (by omega) (by omega) fun W3 hA3 hC3=>⟨rfl,j-1,by omega,j-1,_,rfl,rfl,by omega,by omega,.step hP1 (p:=j) (q:=j-1) (by omega) (by omega) (by omega) (by omega) (by omega),?_,hA3,(hCd.then (extDrew _) fun _ _ h=>h.elim).trans hC3⟩
  intro p q h1 h2 h3 h4
  rw[g_swp (by omega) (by omega),g_swp (by omega) (by omega)]
  have A1:=hS1 p (j-1) h1
  have A2:=hS1 p q h1 h2 h3
  have A3:=hS1 j q (by omega)
  have A4:=hS1 (j-1) q (by omega)
  split<;>split<;>(try split)<;>(try split)<;>first|omega|skip
 ·rw[Int.toNat_natCast,Int.toNat_natCast] at hl1
  have:=hS1 p (j-1) h1
  by_cases hp:p=j-1
  ·subst hp;omega
  ·have:=this (by omega) (by omega) (by omega)
   omega
def HpAt(xs:List El)(f hi k:Nat):Prop:=∀c,c=2*k+1\/c=2*k+2->c<hi->g xs (f+c)<=g xs (f+k)
theorem c161{cl:Nat×Array Value}(hcp:CmpP cl){s:Sl}{b:Nat}{w:World}{xs:List El}{lo hi f:Nat}(h:Ar s b w.heap xs)(hl:f+hi<=xs.length)(hlo:lo<=1000000)(hh:∀k,lo<k->HpAt xs f hi k):
  Cw 161 #[slV s,iv lo,iv hi,iv f,.func (.func cl.1) #[] cl.2] w fun v w'=>v=.tuple #[]/\∃ys,PI f (f+hi) xs ys/\(∀k,lo<=k->HpAt ys f hi k)/\Ar s b w'.heap ys/\CB b w w':=by
 have hll:xs.length<=1000000:=h.2.2.1
 refine F161_ok s lo hi f cl w _ ⟨fun n x W=>∃(r:Nat)(ys:List El),n=hi-r/\x=(r:Int)/\lo<=r/\(r=lo\/r<hi)/\PI f (f+hi) xs ys/\(∀k,lo<=k->k≠r->HpAt ys f hi k)/\
  (∀k,lo<=k->r=2*k+1\/r=2*k+2->∀c,c=2*r+1\/c=2*r+2->c<hi->g ys (f+c)<=g ys (f+k))/\Ar s b W.heap ys/\CB b w W,⟨_,lo,xs,rfl,rfl,Nat.le_refl _,.inl rfl,.refl,fun k h1 h2=>hh k (by omega),fun k h1 h2=>by omega,h,Ch.refl _ _⟩,?_⟩
 rintro n _ W _ ⟨r,ys,rfl,rfl,hlr,hr,hP,hH,hG,hA,hC⟩
 have hyl:=hP.len
 unfold F161j1
 rw[wdb (by omega),wp1 (by omega)]
 refine IfB.dec (fun hge=>⟨rfl,ys,hP,fun k hk=>?_,hA,hC⟩) (fun hlt=>?_)
 ·by_cases hkr:k=r
  ·subst hkr;intro c hc1 hc2;omega
  ·exact hH k hk hkr
 have hc1:2*r+1<hi:=by omega
 rw[wp1 (by omega),wad (by omega),wp1 (by omega)]
 have hCd:CB b w W.drew:=hC.then (extDrew W) fun _ _ h=>h.elim
 refine⟨fun x W'=>∃c:Nat,x=(c:Int)/\(c=2*r+1\/c=2*r+2)/\c<hi/\(∀d,d=2*r+1\/d=2*r+2->d<hi->g ys (f+d)<=g ys (f+c))/\Ext W.drew W',?_,?_⟩
 ·refine IfB.dec (fun h2=>?_) (fun h2=>⟨rfl,2*r+1,rfl,.inl rfl,hc1,fun d hd1 hd2=>?_,Ch.refl _ _⟩)
  ·refine ls hcp (w:=W.drew) hA (by omega) (by omega) (by omega) (by omega) (fun nn ww hn eC=>decC hn (fun hl1=>⟨rfl,2*r+1+1,rfl,.inr rfl,by omega,fun d hd1 hd2=>?_,eC⟩) (fun hl1=>⟨rfl,2*r+1,rfl,.inl rfl,hc1,fun d hd1 hd2=>?_,eC⟩))
   ·rw[Int.toNat_natCast,Int.toNat_natCast] at hl1
    rcases hd1 with rfl|rfl
    ·rw[show f+(2*r+1+1)=f+(2*r+1)+1 by omega];omega
    ·exact Int.le_refl _
   ·rw[Int.toNat_natCast,Int.toNat_natCast] at hl1
    rcases hd1 with rfl|rfl
    ·exact Int.le_refl _
    ·rw[show f+(2*r+2)=f+(2*r+1)+1 by omega];omega
  ·have:d=2*r+1:=by omega
   subst this;exact Int.le_refl _
 rintro _ W' _ ⟨c,rfl,hc2,hc3,hc4,eW⟩
 have hA:=Ar.ch (w:=W.drew) hA eW id
 have hCd:=CBe hCd eW
 unfold F161j2
 rw[wad (by omega),wad (by omega)]
 have hCd2:CB b w W'.drew:=hCd.then (extDrew _) fun _ _ h=>h.elim
 refine ls hcp (w:=W'.drew) hA (by omega) (by omega) (by omega) (by omega) (fun nn ww hn eC=>have hA:=Ar.ch (w:=W'.drew) hA eC id;have hCd2:=CBe hCd2 eC;introC hn (fun hl1=>⟨rfl,ys,hP,fun k hk=>?_,hA,hCd2⟩) fun hl1=>?_)
 ·simp only[Int.toNat_natCast,Bool.not_eq_true',decide_eq_false_iff_not] at hl1
  by_cases hkr:k=r
  ·subst hkr
   intro d hd1 hd2
   have:=hc4 d hd1 hd2
   omega
  ·exact hH k hk hkr
 ·simp only[Int.toNat_natCast,Bool.not_eq_false',decide_eq_true_eq] at hl1
  refine sw (w:=ww.drew) hA (by omega) (by omega) (by omega) (by omega) fun W3 hA3 hC3=>⟨rfl,hi-c,by omega,c,_,rfl,rfl,by omega,.inr hc3,.step hP (p:=f+r) (q:=f+c) (by omega) (by omega) (by omega) (by omega) (by omega),?_,?_,hA3,(CBe hCd2 (extDrew ww)).trans hC3⟩
  ·intro k hk hkc d hd1 hd2
   by_cases hkr:k=r
   ·subst hkr
    rw[g_swl (by omega) (by omega)]
    by_cases hdc:d=c
    ·subst hdc;rw[g_swq (by omega) (by omega)];omega
    ·rw[g_swo (by omega) (by omega) (by omega) (by omega)];exact hc4 d hd1 hd2
   ·rw[g_swo (i:=f+k) (by omega) (by omega) (by omega) (by omega)]
    by_cases hdr:d=r
    ·subst hdr
     rw[g_swl (by omega) (by omega)]
     exact hG k hk hd1 c hc2 hc3
    ·rw[g_swo (by omega) (by omega) (by omega) (by omega)]
     exact hH k hk hkr d hd1 hd2
  ·intro k hk hck d hd1 hd2
   have hkr:k=r:=by omega
   subst hkr
   rw[g_swl (by omega) (by omega),g_swo (by omega) (by omega) (by omega) (by omega)]
   exact hH c (by omega) (by omega) d hd1 hd2
theorem heap_max{xs:List El}{f hi:Nat}(h:∀k,HpAt xs f hi k)(p:Nat)(hp:p<hi):g xs (f+p)<=g xs f:=by
 induction p using Nat.strongRecOn with
 | _ p ih=>
  by_cases h0:p=0
  ·subst h0;exact Int.le_refl _
  ·have h1:=h ((p-1)/2) p (by omega) hp
   have h2:=ih ((p-1)/2) (by omega) (by omega)
   omega
theorem c141{cl:Nat×Array Value}(hcp:CmpP cl){s:Sl}{b:Nat}{w:World}{xs:List El}{a e:Nat}(h:Ar s b w.heap xs)(he:e<=xs.length)(ha:a<=e):
  Cw 141 #[slV s,iv a,iv e,.func (.func cl.1) #[] cl.2] w fun v w'=>v=.tuple #[]/\∃ys,PI a e xs ys/\SO ys a e/\Ar s b w'.heap ys/\CB b w w':=by
 have hl:xs.length<=1000000:=h.2.2.1
 refine F141_ok s a e cl w _ ⟨by decide,?_⟩
 have hea:a+(e-a)=e:=by omega
 rw[wsb ha (by omega)]
 generalize hhi:e-a=hi at hea
 refine⟨fun n x W=>∃(i:Nat)(ys:List El),i=n/\x=(i:Int)-1/\i<=hi+1/\PI a e xs ys/\(∀k,i<=k->HpAt ys a hi k)/\Ar s b W.heap ys/\CB b w W,⟨_,(if hi=0 then 1 else (hi-1)/2+1),xs,rfl,?_,?_,.refl,?_,h,Ch.refl _ _⟩,?_⟩
 ·rw[wrap_of (n:=(hi:Int)-1) (by omega) (by omega)]
  split
  ·rename_i h0;subst h0;decide
  ·rename_i h0
   rw[Int.tdiv_eq_ediv_of_nonneg (by omega),wrap_of (by omega) (by omega)]
   omega
 ·split<;>omega
 ·intro k hk c hc1 hc2
  split at hk<;>omega
 rintro n _ W _ ⟨i,ys,rfl,rfl,hi1,hP,hH,hA,hC⟩
 have hyl:=hP.len
 unfold F141j1
 refine IfB.dec (fun hge=>?_) (fun hlt=>?_)
 ·rw[show ((i:Int)-1)=((i-1:Nat):Int) by omega,wsb ha (by omega),hhi]
  refine(c161 hcp hA (by omega) (by omega) fun k hk=>hH k (by omega)).use ?_
  rintro _ W2 ⟨rfl,zs,hP2,hH2,hA2,hC2⟩
  rw[hea] at hP2
  exact⟨(),rfl,rfl,i-1,by omega,i-1,zs,rfl,by rw[wrap_of (by omega) (by omega)],by omega,hP.trans hP2,hH2,hA2,hC.trans hC2⟩
 ·have hi0:i=0:=by omega
  subst hi0
  refine⟨fun n x W'=>∃(i:Nat)(zs:List El),i=n/\x=(i:Int)-1/\i<=hi/\PI a e xs zs/\(∀k,HpAt zs a i k)/\(∀p q,i<=p->p<q->q<hi->g zs (a+p)<=g zs (a+q))/\(∀p q,p<i->i<=q->q<hi->g zs (a+p)<=g zs (a+q))/\Ar s b W'.heap zs/\CB b w W',⟨_,hi,ys,rfl,?_,Nat.le_refl _,hP,fun k=>hH k (Nat.zero_le _),fun p q _ _ _=>by omega,fun p q _ _ _=>by omega,hA,hC⟩,?_⟩
  ·rw[wsb ha (by omega),hhi,wrap_of (by omega) (by omega)]
  rintro n _ W1 _ ⟨i,zs,rfl,rfl,hi2,hP1,hH1,hS1,hX1,hA1,hC1⟩
  have hzl:=hP1.len
  unfold F141j2
  refine IfB.dec (fun hge=>?_) (fun hlt=>⟨rfl,zs,hP1,fun p q h1 h2 h3=>?_,hA1,hC1⟩)
  ·obtain⟨m,rfl⟩:∃m,i=m+1:=⟨i-1,by omega⟩
   rw[show (((m+1:Nat):Int)-1)=(m:Int) by omega,wad (by omega)]
   have hCd:CB b w W1.drew:=hC1.then (extDrew W1) fun _ _ h=>h.elim
   refine sw (w:=W1.drew) hA1 (by omega) (by omega) (by omega) (by omega) fun W2 hA2 hC2=>?_
   rw[Int.toNat_natCast,Int.toNat_natCast] at hA2
   have hP2:PI a e xs (swp zs a (a+m)):=.step hP1 (by omega) (by omega) (by omega) (by omega) (by omega)
   have g0:∀p,0<p->p<m->g (swp zs a (a+m)) (a+p)=g zs (a+p):=fun p h1 h2=>g_swo (by omega) (by omega) (by omega) (by omega)
   have gm:g (swp zs a (a+m)) (a+m)=g zs a:=g_swq (by omega) (by omega)
   have gz:g (swp zs a (a+m)) a=g zs (a+m):=g_swl (by omega) (by omega)
   have gb:∀q,m<q->g (swp zs a (a+m)) (a+q)=g zs (a+q):=fun q h1=>g_swo (by omega) (by omega) (by omega) (by omega)
   refine(c161 hcp (lo:=0) hA2 (by rw[swp_len];omega) (by omega) fun k hk c hc1 hc2=>?_).use ?_
   ·rw[g0 k hk (by omega),g0 c (by omega) hc2]
    exact hH1 k c hc1 (by omega)
   rintro _ W3 ⟨rfl,us,hP3,hH3,hA3,hC3⟩
   have hmax:=heap_max hH1
   have hP3':PI a e (swp zs a (a+m)) us:=hP3.mono (Nat.le_refl _) (by omega) (by rw[swp_len];omega)
   have ub:∀q,m<=q->g us (a+q)=g (swp zs a (a+m)) (a+q):=fun q hq=>hP3.out (.inr (by omega))
   refine⟨(),rfl,rfl,m,by omega,m,us,rfl,by rw[wrap_of (by omega) (by omega)],by omega,hP2.trans hP3',fun k=>hH3 k (Nat.zero_le _),?_,?_,hA3,(hCd.trans hC2).trans hC3⟩
   ·intro p q h1 h2 h3
    rw[ub p h1,ub q (by omega),gb q (by omega)]
    by_cases hp:p=m
    ·subst hp;rw[gm]
     have:=hX1 0 q (by omega) (by omega) h3
     exact this
    ·rw[gb p (by omega)];exact hS1 p q (by omega) h2 h3
   ·intro p q h1 h2 h3
    have hQ:∀i,a<=i->i<a+m->(fun v=>v<=g us (a+q)) (g us i):=by
     refine hP3.all (Q:=fun v=>v<=g us (a+q)) fun i h4 h5=>?_
     show _<=g us (a+q)
     rw[ub q h2]
     obtain⟨t,rfl⟩:∃t,i=a+t:=⟨i-a,by omega⟩
     have h6:g (swp zs a (a+m)) (a+t)=g zs (a+t)\/g (swp zs a (a+m)) (a+t)=g zs (a+m):=by
      by_cases ht:t=0
      ·subst ht;exact .inr gz
      ·exact .inl (g0 t (by omega) (by omega))
     by_cases hq:q=m
     ·subst hq
      rw[gm]
      have h7:=hmax t (by omega)
      have h8:=hmax q (by omega)
      rcases h6 with h6|h6<;>omega
     ·rw[gb q (by omega)]
      have h7:=hX1 t q (by omega) (by omega) h3
      have h8:=hX1 m q (by omega) (by omega) h3
      rcases h6 with h6|h6<;>omega
    exact hQ _ (by omega) (by omega)
  ·obtain⟨p',rfl⟩:∃t,p=a+t:=⟨p-a,by omega⟩
   obtain⟨q',rfl⟩:∃t,q=a+t:=⟨q-a,by omega⟩
   exact hS1 p' q' (by omega) (by omega) (by omega)
theorem c144{cl:Nat×Array Value}(hcp:CmpP cl){s:Sl}{b:Nat}{w:World}{xs:List El}{a e:Nat}(h:Ar s b w.heap xs)(he:e<=xs.length)(ha:a<e):
  Cw 144 #[slV s,iv a,iv e,.func (.func cl.1) #[] cl.2] w fun v w'=>v=.tuple #[]/\∃ys,PI a e xs ys/\Ar s b w'.heap ys/\CB b w w':=by
 have hl:xs.length<=1000000:=h.2.2.1
 refine F144_ok s a e cl w _ ⟨fun n x W=>∃(i j:Nat)(ys:List El),n=j/\x=((i:Int),(j:Int))/\a<=i/\j<e/\i<=j+1/\PI a e xs ys/\Ar s b W.heap ys/\CB b w W,⟨_,a,e-1,xs,rfl,by rw[wm1 (by omega) (by omega)],Nat.le_refl _,by omega,by omega,.refl,h,Ch.refl _ _⟩,?_⟩
 rintro n _ W _ ⟨i,j,ys,rfl,rfl,hai,hje,hij,hP,hA,hC⟩
 have hyl:=hP.len
 unfold F144j1
 refine IfB.dec (fun hlt=>?_) (fun hge=>⟨rfl,ys,hP,hA,hC⟩)
 have hlt:i<n:=by
  have:(i:Int)<(n:Int):=hlt
  omega
 have hCd:CB b w W.drew:=hC.then (extDrew W) fun _ _ h=>h.elim
 refine sw (w:=W.drew) hA (p:=(i:Int)) (q:=(n:Int)) (by omega) (by omega) (by omega) (by omega) fun W2 hA2 hC2=>?_
 rw[Int.toNat_natCast,Int.toNat_natCast] at hA2
 exact⟨rfl,n-1,by omega,i+1,n-1,_,rfl,by rw[<-wp1 (by omega),<-wm1 (by omega) (by omega)],by omega,by omega,by omega,.step hP (by omega) (by omega) (by omega) (by omega) (by omega),hA2,hCd.trans hC2⟩
theorem c170{cl:Nat×Array Value}(hcp:CmpP cl){s:Sl}{b b1:Nat}{w:World}{xs:List El}{i j:Nat}(h:Ar s b w.heap xs)(hc:Ct .i64 b1 w)(hne:b1≠b)(hi:i<xs.length)(hj:j<xs.length):
  Cw 170 #[slV s,iv i,iv j,.pointer (some ⟨b1,0,none⟩),.func (.func cl.1) #[] cl.2] w fun v w'=>∃x y:Nat,v=.tuple #[iv x,iv y]/\(x=i/\y=j\/x=j/\y=i)/\Ar s b w'.heap xs/\Ct .i64 b1 w'/\Ch (fun q=>q=b1) w w':=by
 have hd:Ch (fun q=>q=b1) w w.drew:=(extDrew w).mono fun _ _ h=>h.elim
 refine F170_ok s i j _ cl w _ (ls hcp (w:=w.drew) h (by omega) (by omega) (by omega) (by omega) (fun nn ww hn eC=>have h:=Ar.ch (w:=w.drew) h eC id;have hc:Ct .i64 b1 ww:=(have ⟨T,n,k⟩:=hc;⟨T,n,Ch.at (w:=w.drew) eC k id⟩);have hd:=hd.then eC (fun _ _ h=>h.elim);decC hn (fun _=>?_) (fun _=>⟨i,j,rfl,.inl ⟨rfl,rfl⟩,h,hc,hd⟩)))
 obtain⟨T,n,hn⟩:=hc
 refine⟨b1,0,rfl,n,by rw[cell_of (w:=ww) hn];rfl,b1,0,rfl,rfl,store_one (w:=ww) hn (by simp) rfl fun w2 h2=>⟨j,i,rfl,.inr ⟨rfl,rfl⟩,?_,⟨T,_,h2.new⟩,hd.trans h2.ch⟩⟩
 exact Ar.ch (w:=ww) h h2.ch (Ne.symm hne)
theorem c165{cl:Nat×Array Value}(hcp:CmpP cl){s:Sl}{b b1:Nat}{w:World}{xs:List El}{i j k:Nat}(h:Ar s b w.heap xs)(hc:Ct .i64 b1 w)(hne:b1≠b)(hi:i<xs.length)(hj:j<xs.length)(hk:k<xs.length):
  Cw 165 #[slV s,iv i,iv j,iv k,.pointer (some ⟨b1,0,none⟩),.func (.func cl.1) #[] cl.2] w fun v w'=>∃x:Nat,v=iv x/\(x=i\/x=j\/x=k)/\Ar s b w'.heap xs/\Ct .i64 b1 w'/\Ch (fun q=>q=b1) w w':=by
 refine F165_ok s i j k _ cl w _ ((c170 hcp h hc hne hi hj).use ?_)
 rintro _ w2 ⟨x1,y1,rfl,e1,h2,k2,l2⟩
 refine⟨((x1:Int),(y1:Int)),rfl,(c170 hcp h2 k2 hne (by omega) hk).use ?_⟩
 rintro _ w3 ⟨x2,y2,rfl,e2,h3,k3,l3⟩
 refine⟨((x2:Int),(y2:Int)),rfl,(c170 hcp h3 k3 hne (by omega) (by omega)).use ?_⟩
 rintro _ w4 ⟨x3,y3,rfl,e3,h4,k4,l4⟩
 exact⟨((x3:Int),(y3:Int)),rfl,y3,rfl,by omega,h4,k4,(l2.trans l3).trans l4⟩
theorem c164{cl:Nat×Array Value}(hcp:CmpP cl){s:Sl}{b b1:Nat}{w:World}{xs:List El}{i:Nat}(h:Ar s b w.heap xs)(hc:Ct .i64 b1 w)(hne:b1≠b)(h0:0<i)(hi:i+1<xs.length):
  Cw 164 #[slV s,iv i,.pointer (some ⟨b1,0,none⟩),.func (.func cl.1) #[] cl.2] w fun v w'=>∃x:Nat,v=iv x/\(i<=x+1/\x<=i+1)/\Ar s b w'.heap xs/\Ct .i64 b1 w'/\Ch (fun q=>q=b1) w w':=by
 have hl:=h.2.2.1
 refine F164_ok s i _ cl w _ ?_
 unfold F164
 rw[wm1 (by omega) (by omega),wp1 (by omega)]
 refine(c165 hcp h hc hne (by omega) (by omega) hi).use ?_
 rintro _ w2 ⟨x,rfl,e,h2,k2,l2⟩
 exact⟨_,rfl,x,rfl,by omega,h2,k2,l2⟩
theorem c143{cl:Nat×Array Value}(hcp:CmpP cl){s:Sl}{b:Nat}{w:World}{xs:List El}{a e:Nat}(h:Ar s b w.heap xs)(he:e<=xs.length)(ha:a+12<e):
  Cw 143 #[slV s,iv a,iv e,.func (.func cl.1) #[] cl.2] w fun v w'=>∃(p:Nat)(t:Int),v=.tuple #[iv p,iv t]/\(a<=p/\p<e)/\Ar s b w'.heap xs/\Ext w w':=by
 have hl:=h.2.2.1
 have hlt:=h.lt
 refine F143_ok s a e cl w _ ?_
 intro b1 w2 h2
 have e2:Ext w w2:=h2.ch _
 have p2:=h2.here
 have hA2:=h.ch e2 id
 have hc2:Ct .i64 b1 w2:=⟨_,_,h2.new⟩
 have hne:b1≠b:=by omega
 have hq:IntKind.i64.wrap ((IntKind.i64.wrap ((e:Int)-(a:Int))).tdiv (4:Int))=(((e-a)/4:Nat):Int):=by
  rw[wsb (by omega) (by omega),Int.tdiv_eq_ediv_of_nonneg (by omega),wrap_of (by omega) (by omega)];omega
 rw[hq,wmul (k:=(1:Int)) (m:=1) rfl (by omega) (by omega),wmul (k:=(2:Int)) (m:=2) rfl (by omega) (by omega),wmul (k:=(3:Int)) (m:=3) rfl (by omega) (by omega),wad (by omega),wad (by omega),wad (by omega),wsb (by omega) (by omega)]
 generalize hqq:(e-a)/4=q
 have hx:∀ {w':World},Ch (fun i=>i=b1) w2 w'->Ext w w':=fun hc=>e2.then hc fun i hi h=>by omega
 refine⟨by decide,by decide,by decide,fun x W=>∃p:Nat,x=(p:Int)/\(a<=p/\p<e)/\Ar s b W.heap xs/\Ct .i64 b1 W/\Ch (fun i=>i=b1) w2 W,?_,?_⟩
 ·refine IfB.yes (decide_eq_true (by omega)) ⟨fun x W=>∃i j k:Nat,x=((i:Int),(j:Int),(k:Int))/\(a<=i/\i<e)/\(a<=j/\j<e)/\(a<=k/\k<e)/\Ar s b W.heap xs/\Ct .i64 b1 W/\Ch (fun i=>i=b1) w2 W,?_,?_⟩
  ·refine IfB.dec (fun h50=>?_) (fun _=>⟨rfl,_,_,_,rfl,by omega,by omega,by omega,hA2,hc2,Ch.refl _ _⟩)
   have h50:50<=e-a:=by omega
   refine(c164 hcp hA2 hc2 hne (by omega) (by omega)).use ?_
   rintro _ w6 ⟨i,rfl,hi,h6,k6,l6⟩
   refine⟨_,rfl,(c164 hcp h6 k6 hne (by omega) (by omega)).use ?_⟩
   rintro _ w9 ⟨j,rfl,hj,h9,k9,l9⟩
   refine⟨_,rfl,(c164 hcp h9 k9 hne (by omega) (by omega)).use ?_⟩
   rintro _ w12 ⟨k,rfl,hk,h12,k12,l12⟩
   exact⟨_,rfl,rfl,i,j,k,rfl,by omega,by omega,by omega,h12,k12,(l6.trans l9).trans l12⟩
  ·rintro _ w15 _ ⟨i,j,k,rfl,hi,hj,hk,h15,k15,l15⟩
   refine(c165 hcp h15 k15 hne (by omega) (by omega) (by omega)).use ?_
   rintro _ w19 ⟨x,rfl,hx,h19,k19,l19⟩
   exact⟨_,rfl,rfl,x,rfl,by omega,h19,k19,l15.trans l19⟩
 ·rintro _ w22 _ ⟨p,rfl,hp,h22,⟨T,n,hn⟩,l22⟩
  refine⟨n,by rw[cell_of hn];rfl,IfB.intro (fun _=>⟨p,1,rfl,hp,h22,hx l22⟩) fun _=>IfB.intro (fun _=>⟨p,2,rfl,hp,h22,hx l22⟩) fun _=>⟨p,0,rfl,hp,h22,hx l22⟩⟩
structure Pt(a e:Nat)(xs ys:List El)(v:Int)(Lo:Int->Prop)(i j:Nat):Prop where
 pi:PI a e xs ys
 len:e<=xs.length
 v:g ys a=v
 ai:a+1<=i
 ij:i<=j+1
 je:j+1<=e
 lo:∀k,a<k->k<i->Lo (g ys k)
 hi:∀k,j<k->k<e->¬Lo (g ys k)
theorem Pt.up{a e i j:Nat}{xs ys:List El}{v:Int}{Lo:Int->Prop}(h:Pt a e xs ys v Lo i j)(hij:i<=j)(hl:Lo (g ys i)):Pt a e xs ys v Lo (i+1) j:=by
 have h1:=h.ai
 refine⟨h.pi,h.len,h.v,by omega,by omega,h.je,fun k h1 h2=>?_,h.hi⟩
 by_cases hk:k=i
 ·subst hk;exact hl
 ·exact h.lo k h1 (by omega)
theorem Pt.dn{a e i j:Nat}{xs ys:List El}{v:Int}{Lo:Int->Prop}(h:Pt a e xs ys v Lo i j)(hij:i<=j)(hl:¬Lo (g ys j)):Pt a e xs ys v Lo i (j-1):=by
 have h1:=h.ai;have h2:=h.je
 refine⟨h.pi,h.len,h.v,h1,by omega,by omega,h.lo,fun k h1 h2=>?_⟩
 by_cases hk:k=j
 ·subst hk;exact hl
 ·exact h.hi k (by omega) h2
theorem Pt.sw{a e i j:Nat}{xs ys:List El}{v:Int}{Lo:Int->Prop}(h:Pt a e xs ys v Lo i j)(hij:i<=j)(h1:¬Lo (g ys i))(h2:Lo (g ys j)):Pt a e xs (swp ys i j) v Lo (i+1) (j-1):=by
 have hne:i≠j:=fun e=>h1 (e ▸ h2)
 have hl:=h.pi.len;have h3:=h.len;have h4:=h.ai;have h5:=h.je
 refine⟨.step h.pi (by omega) (by omega) (by omega) (by omega) (by omega),h3,?_,by omega,by omega,by omega,fun k h6 h7=>?_,fun k h6 h7=>?_⟩
 ·rw[g_swo (by omega) (by omega) (by omega) (by omega)];exact h.v
 ·by_cases hk:k=i
  ·subst hk;rw[g_swl (by omega) (by omega)];exact h2
  ·rw[g_swo (by omega) (by omega) (by omega) (by omega)];exact h.lo k h6 (by omega)
 ·by_cases hk:k=j
  ·subst hk;rw[g_swq (by omega) (by omega)];exact h1
  ·rw[g_swo (by omega) (by omega) (by omega) (by omega)];exact h.hi k (by omega) h7
theorem upPart{cl:Nat×Array Value}(hcp:CmpP cl){s:Sl}{b a e i j:Nat}{w:World}{xs ys:List El}{v:Int}{y:Int->World->Prop}(hP:Pt a e xs ys v (fun x=>x<v) i j)(hA:Ar s b w.heap ys)
  (hy:∀(i':Nat)(w':World),Pt a e xs ys v (fun x=>x<v) i' j->(j<i'\/¬g ys i'<v)->i<=i'->Ext w w'->y (i':Int) w'):
  ∃y14:Nat->Int->World->Prop,(∃b15,y14 b15 (i:Int) w)/\∀(b16:Nat)(n17:Int)(w18:World)(_:Nat->Value),y14 b16 n17 w18->F147j6 s a cl ((0:Int),(j:Int)) y y14 b16 n17 w18:=by
 refine⟨fun n x W=>∃i':Nat,n=j+1-i'/\x=(i':Int)/\i<=i'/\Pt a e xs ys v (fun x=>x<v) i' j/\Ext w W,⟨_,i,rfl,rfl,Nat.le_refl _,hP,Ch.refl _ _⟩,?_⟩
 rintro _ _ W _ ⟨i',rfl,rfl,hii,hP',hW⟩
 have hl:=hP'.pi.len;have h3:=hP'.len;have h4:=hP'.ai;have h5:=hP'.je;have h6:=hA.2.2.1
 have hd:=hW.trans (extDrew W)
 refine IfB.dec (fun hle=>?_) (fun hgt=>⟨rfl,hy i' _ hP' (.inl (by omega)) hii hd⟩)
 have hle:i'<=j:=by omega
 refine ls hcp (w:=W.drew) (hA.ch hd id) (by omega) (by omega) (by omega) (by omega) (fun nn ww hn eC=>have hd:=hd.trans eC;decC hn (fun hl1=>?_) (fun hl1=>⟨rfl,hy i' _ hP' (.inr ?_) hii hd⟩))
 ·rw[Int.toNat_natCast,Int.toNat_natCast,hP'.v] at hl1
  exact⟨rfl,_,by omega,i'+1,rfl,wp1 (by omega),by omega,hP'.up hle hl1,hd⟩
 ·rw[Int.toNat_natCast,Int.toNat_natCast,hP'.v] at hl1;exact hl1
theorem dnPart{cl:Nat×Array Value}(hcp:CmpP cl){s:Sl}{b a e i j:Nat}{w:World}{xs ys:List El}{v:Int}{y:Int->World->Prop}(hP:Pt a e xs ys v (fun x=>x<v) i j)(hA:Ar s b w.heap ys)
  (hy:∀(j':Nat)(w':World),Pt a e xs ys v (fun x=>x<v) i j'->(j'<i\/g ys j'<v)->j'<=j->Ext w w'->y (j':Int) w'):
  ∃y14:Nat->Int->World->Prop,(∃b15,y14 b15 (j:Int) w)/\∀(b16:Nat)(n17:Int)(w18:World)(_:Nat->Value),y14 b16 n17 w18->F147j8 s a cl (i:Int) y y14 b16 n17 w18:=by
 refine⟨fun n x W=>∃j':Nat,j'=n/\x=(j':Int)/\j'<=j/\Pt a e xs ys v (fun x=>x<v) i j'/\Ext w W,⟨_,j,rfl,rfl,Nat.le_refl _,hP,Ch.refl _ _⟩,?_⟩
 rintro _ _ W _ ⟨j',rfl,rfl,hjj,hP',hW⟩
 have hl:=hP'.pi.len;have h3:=hP'.len;have h4:=hP'.ai;have h5:=hP'.je;have h6:=hA.2.2.1
 have hd:=hW.trans (extDrew W)
 refine IfB.dec (fun hle=>?_) (fun hgt=>⟨rfl,hy j' _ hP' (.inl (by omega)) hjj hd⟩)
 have hle:i<=j':=by omega
 refine ls hcp (w:=W.drew) (hA.ch hd id) (by omega) (by omega) (by omega) (by omega) (fun nn ww hn eC=>have hd:=hd.trans eC;introC hn (fun hl1=>?_) (fun hl1=>⟨rfl,hy j' _ hP' (.inr ?_) hjj hd⟩))
 ·simp only[Int.toNat_natCast,hP'.v,Bool.not_eq_true',decide_eq_false_iff_not] at hl1
  exact⟨rfl,j'-1,by omega,j'-1,rfl,wm1 (by omega) (by omega),by omega,hP'.dn hle hl1,hd⟩
 ·simp only[Int.toNat_natCast,hP'.v,Bool.not_eq_false',decide_eq_true_eq] at hl1;exact hl1
theorem c147{cl:Nat×Array Value}(hcp:CmpP cl){s:Sl}{b:Nat}{w:World}{xs:List El}{a e p:Nat}(h:Ar s b w.heap xs)(he:e<=xs.length)(hp:a<=p/\p<e):
  Cw 147 #[slV s,iv a,iv e,iv p,.func (.func cl.1) #[] cl.2] w fun v w'=>∃(m:Nat)(t:Bool),v=.tuple #[iv m,.bool t]/\(a<=m/\m<e)/\∃ys,PI a e xs ys/\(∀k,a<=k->k<m->g ys k<g ys m)/\(∀k,m<k->k<e->g ys m<=g ys k)/\Ar s b w'.heap ys/\CB b w w':=by
 have hl:=h.2.2.1
 refine F147_ok s a e p cl w _ ?_
 have hCd:CB b w w.drew:=(extDrew w).mono fun _ _ h=>h.elim
 refine sw (w:=w.drew) h (by omega) (by omega) (by omega) (by omega) fun w12 h12 C12=>?_
 rw[Int.toNat_natCast,Int.toNat_natCast] at h12
 have C12:=hCd.trans C12
 have hP0:Pt a e xs (swp xs a p) (g (swp xs a p) a) (fun x=>x<g (swp xs a p) a) (a+1) (e-1):=
  ⟨.step .refl (by omega) (by omega) (by omega) (by omega) he,he,rfl,by omega,by omega,by omega,fun k h1 h2=>by omega,fun k h1 h2=>by omega⟩
 generalize swp xs a p=ys0 at hP0 h12
 generalize g ys0 a=v at hP0
 have fin:∀ {ys:List El}{j:Nat}{W:World}{t:Bool},Pt a e xs ys v (fun x=>x<v) (j+1) j->Ar s b W.heap ys->CB b w W->
   ∀W2:World,Ar s b W2.heap (swp ys j a)->CB b W W2->∃(m:Nat)(t':Bool),Value.tuple #[iv j,.bool t]=.tuple #[iv m,.bool t']/\(a<=m/\m<e)/\∃ys,PI a e xs ys/\(∀k,a<=k->k<m->g ys k<g ys m)/\(∀k,m<k->k<e->g ys m<=g ys k)/\Ar s b W2.heap ys/\CB b w W2:=by
  intro ys j W t hP hA hC W2 hA2 hC2
  have hyl:=hP.pi.len;have h4:=hP.ai;have h5:=hP.je
  have gj:g (swp ys j a) j=v:=by rw[g_swl (by omega) (by omega)];exact hP.v
  refine⟨j,t,rfl,by omega,_,.step hP.pi (by omega) (by omega) (by omega) (by omega) (by omega),fun k h1 h2=>?_,fun k h1 h2=>?_,hA2,hC.trans hC2⟩
  ·rw[gj]
   by_cases hk:k=a
   ·subst hk;rw[g_swq (by omega) (by omega)];exact hP.lo j (by omega) (by omega)
   ·rw[g_swo (by omega) (by omega) (by omega) (by omega)];exact hP.lo k (by omega) (by omega)
  ·rw[gj,g_swo (by omega) (by omega) (by omega) (by omega)]
   have:=hP.hi k h1 h2
   omega
 refine⟨fun x W=>∃i:Nat,x=(i:Int)/\Pt a e xs ys0 v (fun x=>x<v) i (e-1)/\(e-1<i\/¬g ys0 i<v)/\Ar s b W.heap ys0/\CB b w W,?_,?_⟩
 ·unfold F147j1
  rw[wp1 (by omega),wm1 (by omega) (by omega)]
  exact upPart hcp hP0 h12 fun i' w' h1 h2 _ h3=>⟨i',rfl,h1,h2,h12.ch h3 id,C12.then h3 fun _ _ h=>h.elim⟩
 rintro _ W _ ⟨i,rfl,hP,hi,hA,hC⟩
 refine⟨fun x W'=>∃j:Nat,x=(j:Int)/\Pt a e xs ys0 v (fun x=>x<v) i j/\(j<i\/g ys0 j<v)/\(j<i\/¬g ys0 i<v)/\Ar s b W'.heap ys0/\CB b w W',?_,?_⟩
 ·unfold F147j3
  rw[wm1 (by omega) (by omega)]
  exact dnPart hcp hP hA fun j' w' h1 h2 h3 h4=>⟨j',rfl,h1,h2,by omega,hA.ch h4 id,hC.then h4 fun _ _ h=>h.elim⟩
 rintro _ W1 _ ⟨j,rfl,hP1,hj1,hj2,hA1,hC1⟩
 have hyl:=hP1.pi.len;have h4:=hP1.ai;have h5:=hP1.je;have h6:=hP1.ij
 have hC1d:CB b w W1.drew:=hC1.then (extDrew W1) fun _ _ h=>h.elim
 unfold F147j4
 refine IfB.dec (fun hlt=>?_) (fun hge=>?_)
 ·have hij:i=j+1:=by omega
  subst hij
  refine sw (w:=W1.drew) hA1 (by omega) (by omega) (by omega) (by omega) fun W2 h2 C2=>?_
  rw[Int.toNat_natCast,Int.toNat_natCast] at h2
  exact fin (W:=W1.drew) hP1 hA1 hC1d W2 h2 C2
 ·have hij:i<=j:=by omega
  refine sw (w:=W1.drew) hA1 (by omega) (by omega) (by omega) (by omega) fun W2 h2 C2=>?_
  rw[Int.toNat_natCast,Int.toNat_natCast] at h2
  have hP2:=hP1.sw hij (by omega) (by omega)
  have C2:=hC1d.trans C2
  refine⟨fun n x W=>∃(i j:Nat)(ys:List El),n=j+1-i/\x=((i:Int),(j:Int))/\Pt a e xs ys v (fun x=>x<v) i j/\Ar s b W.heap ys/\CB b w W,⟨_,i+1,j-1,_,rfl,by rw[wp1 (by omega),wm1 (by omega) (by omega)],hP2,h2,C2⟩,?_⟩
  rintro _ _ W3 _ ⟨i3,j3,ys3,rfl,rfl,hP3,hA3,hC3⟩
  unfold F147j5
  refine⟨fun x W=>∃i:Nat,x=(i:Int)/\i3<=i/\Pt a e xs ys3 v (fun x=>x<v) i j3/\(j3<i\/¬g ys3 i<v)/\Ar s b W.heap ys3/\CB b w W,?_,?_⟩
  ·exact upPart hcp hP3 hA3 fun i' w' h1 h2 h3 h4=>⟨i',rfl,h3,h1,h2,hA3.ch h4 id,hC3.then h4 fun _ _ h=>h.elim⟩
  rintro _ W4 _ ⟨i4,rfl,hi34,hP4,hi4,hA4,hC4⟩
  refine⟨fun x W'=>∃j:Nat,x=(j:Int)/\j<=j3/\Pt a e xs ys3 v (fun x=>x<v) i4 j/\(j<i4\/g ys3 j<v)/\(j<i4\/¬g ys3 i4<v)/\Ar s b W'.heap ys3/\CB b w W',?_,?_⟩
  ·exact dnPart hcp hP4 hA4 fun j' w' h1 h2 h3 h4=>⟨j',rfl,h3,h1,h2,by omega,hA4.ch h4 id,hC4.then h4 fun _ _ h=>h.elim⟩
  rintro _ W5 _ ⟨j5,rfl,hj5,hP5,hj51,hj52,hA5,hC5⟩
  have hyl:=hP5.pi.len;have h4:=hP5.ai;have h5:=hP5.je;have h6:=hP5.ij
  have hC5d:CB b w W5.drew:=hC5.then (extDrew W5) fun _ _ h=>h.elim
  unfold F147j9
  refine IfB.dec (fun hlt=>?_) (fun hge=>?_)
  ·have hij:i4=j5+1:=by omega
   subst hij
   refine sw (w:=W5.drew) hA5 (by omega) (by omega) (by omega) (by omega) fun W6 h6 C6=>?_
   rw[Int.toNat_natCast,Int.toNat_natCast] at h6
   exact fin (W:=W5.drew) hP5 hA5 hC5d W6 h6 C6
  ·have hij:i4<=j5:=by omega
   refine sw (w:=W5.drew) hA5 (by omega) (by omega) (by omega) (by omega) fun W6 h6 C6=>?_
   rw[Int.toNat_natCast,Int.toNat_natCast] at h6
   exact⟨rfl,_,by omega,i4+1,j5-1,_,rfl,by rw[wp1 (by omega),wm1 (by omega) (by omega)],hP5.sw hij (by omega) (by omega),h6,hC5d.trans C6⟩
theorem c146{cl:Nat×Array Value}(hcp:CmpP cl){s:Sl}{b:Nat}{w:World}{xs:List El}{a e p:Nat}(h:Ar s b w.heap xs)(he:e<=xs.length)(hp:a<=p/\p<e):
  Cw 146 #[slV s,iv a,iv e,iv p,.func (.func cl.1) #[] cl.2] w fun v w'=>∃m:Nat,v=iv m/\(a<m/\m<=e)/\∃ys,PI a e xs ys/\g ys a=g xs p/\(∀k,a<=k->k<m->¬g xs p<g ys k)/\(∀k,m<=k->k<e->g xs p<g ys k)/\Ar s b w'.heap ys/\CB b w w':=by
 have hl:=h.2.2.1
 refine F146_ok s a e p cl w _ ?_
 have hCd:CB b w w.drew:=(extDrew w).mono fun _ _ h=>h.elim
 refine sw (w:=w.drew) h (by omega) (by omega) (by omega) (by omega) fun w12 h12 C12=>?_
 rw[Int.toNat_natCast,Int.toNat_natCast] at h12
 have C12:=hCd.trans C12
 have hv:g (swp xs a p) a=g xs p:=g_swl (by omega) (by omega)
 have hP0:Pt a e xs (swp xs a p) (g xs p) (fun x=>¬g xs p<x) (a+1) (e-1):=
  ⟨.step .refl (by omega) (by omega) (by omega) (by omega) he,he,hv,by omega,by omega,by omega,fun k h1 h2=>by omega,fun k h1 h2=>by omega⟩
 generalize swp xs a p=ys0 at hP0 h12
 clear hv
 generalize g xs p=v at hP0
 refine⟨fun n x W=>∃(i j:Nat)(ys:List El),n=j+1-i/\x=((i:Int),(j:Int))/\Pt a e xs ys v (fun x=>¬v<x) i j/\Ar s b W.heap ys/\CB b w W,⟨_,a+1,e-1,_,rfl,by rw[wp1 (by omega),wm1 (by omega) (by omega)],hP0,h12,C12⟩,?_⟩
 rintro _ _ W3 _ ⟨i3,j3,ys3,rfl,rfl,hP3,hA3,hC3⟩
 unfold F146j1
 refine⟨fun x W=>∃i:Nat,x=(i:Int)/\i3<=i/\Pt a e xs ys3 v (fun x=>¬v<x) i j3/\(j3<i\/v<g ys3 i)/\Ar s b W.heap ys3/\CB b w W,?_,?_⟩
 ·refine⟨fun n x W=>∃i:Nat,n=j3+1-i/\x=(i:Int)/\i3<=i/\Pt a e xs ys3 v (fun x=>¬v<x) i j3/\Ar s b W.heap ys3/\CB b w W,⟨_,i3,rfl,rfl,Nat.le_refl _,hP3,hA3,hC3⟩,?_⟩
  rintro _ _ W _ ⟨i,rfl,rfl,hii,hP,hA,hC⟩
  have hyl:=hP.pi.len;have h4:=hP.ai;have h5:=hP.je;have h6:=hP.ij
  have hd:CB b w W.drew:=hC.then (extDrew W) fun _ _ h=>h.elim
  unfold F146j2
  refine IfB.dec (fun hle=>?_) (fun hgt=>⟨rfl,i,rfl,hii,hP,.inl ?_,hA,hd⟩)
  ·have hle:i<=j3:=by
    have:(i:Int)<=(j3:Int):=hle
    omega
   refine ls hcp (w:=W.drew) hA (by omega) (by omega) (by omega) (by omega) (fun nn ww hn eC=>have hA:=Ar.ch (w:=W.drew) hA eC id;have hd:=CBe hd eC;introC hn (fun hl1=>?_) (fun hl1=>⟨rfl,i,rfl,hii,hP,.inr ?_,hA,hd⟩))
   ·simp only[Int.toNat_natCast,hP.v,Bool.not_eq_true',decide_eq_false_iff_not] at hl1
    exact⟨rfl,_,by omega,i+1,rfl,wp1 (by omega),by omega,hP.up hle hl1,hA,hd⟩
   ·simp only[Int.toNat_natCast,hP.v,Bool.not_eq_false',decide_eq_true_eq] at hl1;exact hl1
  ·have:¬(i:Int)<=(j3:Int):=hgt
   omega
 rintro _ W4 _ ⟨i4,rfl,hi34,hP4,hi4,hA4,hC4⟩
 refine⟨fun x W'=>∃j:Nat,x=(j:Int)/\j<=j3/\Pt a e xs ys3 v (fun x=>¬v<x) i4 j/\(j<i4\/¬v<g ys3 j)/\(j<i4\/v<g ys3 i4)/\Ar s b W'.heap ys3/\CB b w W',?_,?_⟩
 ·refine⟨fun n x W=>∃j:Nat,j=n/\x=(j:Int)/\j<=j3/\Pt a e xs ys3 v (fun x=>¬v<x) i4 j/\(j<i4\/v<g ys3 i4)/\Ar s b W.heap ys3/\CB b w W,⟨_,j3,rfl,rfl,Nat.le_refl _,hP4,by omega,hA4,hC4⟩,?_⟩
  rintro _ _ W _ ⟨j,rfl,rfl,hjj,hP,hi,hA,hC⟩
  have hyl:=hP.pi.len;have h4:=hP.ai;have h5:=hP.je;have h6:=hP.ij
  have hd:CB b w W.drew:=hC.then (extDrew W) fun _ _ h=>h.elim
  unfold F146j4
  refine IfB.dec (fun hle=>?_) (fun hgt=>⟨rfl,j,rfl,hjj,hP,.inl (by omega),hi,hA,hd⟩)
  have hle:i4<=j:=by omega
  refine ls hcp (w:=W.drew) hA (by omega) (by omega) (by omega) (by omega) (fun nn ww hn eC=>have hA:=Ar.ch (w:=W.drew) hA eC id;have hd:=CBe hd eC;decC hn (fun hl1=>?_) (fun hl1=>⟨rfl,j,rfl,hjj,hP,.inr ?_,hi,hA,hd⟩))
  ·rw[Int.toNat_natCast,Int.toNat_natCast,hP.v] at hl1
   exact⟨rfl,j-1,by omega,j-1,rfl,wm1 (by omega) (by omega),by omega,hP.dn hle (by omega),by omega,hA,hd⟩
  ·rw[Int.toNat_natCast,Int.toNat_natCast,hP.v] at hl1;exact hl1
 rintro _ W5 _ ⟨j5,rfl,hj5,hP5,hj51,hj52,hA5,hC5⟩
 have hyl:=hP5.pi.len;have h4:=hP5.ai;have h5:=hP5.je;have h6:=hP5.ij
 have hC5d:CB b w W5.drew:=hC5.then (extDrew W5) fun _ _ h=>h.elim
 unfold F146j5
 refine IfB.dec (fun hlt=>?_) (fun hge=>?_)
 ·refine⟨i4,rfl,by omega,ys3,hP5.pi,hP5.v,fun k h1 h2=>?_,fun k h1 h2=>?_,hA5,hC5⟩
  ·by_cases hk:k=a
   ·subst hk;rw[hP5.v];omega
   ·exact hP5.lo k (by omega) h2
  ·have:=hP5.hi k (by omega) h2
   omega
 ·have hij:i4<=j5:=by omega
  refine sw (w:=W5.drew) hA5 (by omega) (by omega) (by omega) (by omega) fun W6 h6 C6=>?_
  rw[Int.toNat_natCast,Int.toNat_natCast] at h6
  exact⟨rfl,_,by omega,i4+1,j5-1,_,rfl,by rw[wp1 (by omega),wm1 (by omega) (by omega)],hP5.sw hij (by omega) (by omega),h6,hC5d.trans C6⟩
theorem c145{cl:Nat×Array Value}(hcp:CmpP cl){s:Sl}{b:Nat}{w:World}{xs:List El}{a e:Nat}(h:Ar s b w.heap xs)(he:e<=xs.length)(ha:a<e)(hb:0<a->∀k,a<=k->k<e->g xs (a-1)<=g xs k):
  Cw 145 #[slV s,iv a,iv e,.func (.func cl.1) #[] cl.2] w fun v w'=>∃t,v=.bool t/\∃ys,PI a e xs ys/\(t=true->SO ys a e)/\Ar s b w'.heap ys/\CB b w w':=by
 have hl:=h.2.2.1
 have lb:∀ {ys},PI a e xs ys->0<a->∀k,a<=k->k<e->g ys (a-1)<=g ys k:=fun{ys} hP h0 k h1 h2=>by
  rw[hP.out (.inl (by omega))]
  exact hP.all (Q:=fun v=>g xs (a-1)<=v) (fun i h3 h4=>hb h0 i h3 h4) k h1 h2
 refine F145_ok s a e cl w _ ⟨fun n x W=>∃(i j:Nat)(ys:List El),n=5-j/\x=((i:Int),(j:Int))/\j<=5/\(a+1<=i/\i<=e)/\PI a e xs ys/\SO ys a i/\Ar s b W.heap ys/\CB b w W,⟨_,a+1,0,xs,rfl,by rw[wp1 (by omega)];rfl,by omega,by omega,.refl,fun p q _ _ _=>by omega,h,Ch.refl _ _⟩,?_⟩
 rintro _ _ W _ ⟨i0,j0,ys,rfl,rfl,hj0,hi0,hP,hS0,hA,hC⟩
 have hyl:=hP.len
 refine IfB.dec (fun hlt=>?_) (fun hge=>⟨false,rfl,ys,hP,(fun h=>by cases h),hA,hC⟩)
 have hj5:j0<5:=by
  have:(j0:Int)<5:=hlt
  omega
 refine⟨fun x W=>∃i:Nat,x=(i:Int)/\(a+1<=i/\i<=e)/\SO ys a i/\Ar s b W.heap ys/\CB b w W,?_,?_⟩
 ·refine⟨fun n x W=>∃i:Nat,n=e-i/\x=(i:Int)/\(a+1<=i/\i<=e)/\SO ys a i/\Ar s b W.heap ys/\CB b w W,⟨_,i0,rfl,rfl,hi0,hS0,hA,hC⟩,?_⟩
  rintro _ _ W1 _ ⟨i,rfl,rfl,hi,hS,hA1,hC1⟩
  unfold F145j2
  refine IfB.dec (fun hlt=>?_) (fun hge=>⟨rfl,i,rfl,hi,hS,hA1,hC1.drew⟩)
  rw[wm1 (by omega) (by omega)]
  refine ls hcp (w:=W1.drew) hA1 (by omega) (by omega) (by omega) (by omega) (fun nn ww hn eC=>have hA1:=Ar.ch (w:=W1.drew) hA1 eC id;have hC1:=CBe (CB.drew hC1) eC;introC hn (fun hl1=>?_) (fun hl1=>⟨rfl,i,rfl,hi,hS,hA1,hC1⟩))
  simp only[Int.toNat_natCast,Bool.not_eq_true',decide_eq_false_iff_not] at hl1
  refine⟨rfl,_,by omega,i+1,rfl,wp1 (by omega),by omega,fun p q h1 h2 h3=>?_,hA1,hC1⟩
  by_cases hq:q=i
  ·subst hq
   by_cases hp:p=q-1
   ·subst hp;omega
   ·have:=hS p (q-1) h1 (by omega) (by omega)
    omega
  ·exact hS p q h1 h2 (by omega)
 rintro _ W2 _ ⟨i,rfl,hi,hS,hA2,hC2⟩
 unfold F145j3
 refine IfB.intro (fun hi3=>?_) (fun hi3=>?_)
 ·have hi3:(i:Int)=(e:Int):=by simpa using hi3
  have:i=e:=by omega
  subst this
  exact⟨true,rfl,ys,hP,fun _=>hS,hA2,hC2⟩
 have hie:i<e:=by
  have:(i:Int)≠(e:Int):=by simpa using hi3
  omega
 rw[wsb (by omega) (by omega)]
 refine @IfB.dec (((e-a:Nat):Int)<(50:Int)) _ _ _ (fun _=>⟨false,rfl,ys,hP,(fun h=>by cases h),hA2,hC2⟩) (fun _=>?_)
 rw[wm1 (by omega) (by omega)]
 refine sw (w:=W2.drew) hA2 (by omega) (by omega) (by omega) (by omega) fun W3 hA3 hC3=>?_
 rw[Int.toNat_natCast,Int.toNat_natCast] at hA3
 have hP3:PI a e xs (swp ys i (i-1)):=.step hP (by omega) (by omega) (by omega) (by omega) (by omega)
 have hC3:=(CB.drew hC2).trans hC3
 rw[wsb (by omega) (by omega)]
 refine⟨fun _ W=>∃zs,PI a e xs zs/\SO zs a i/\Ar s b W.heap zs/\CB b w W,?_,?_⟩
 ·refine IfB.dec (fun h2=>?_) (fun h2=>⟨rfl,_,hP3,fun p q _ _ _=>by omega,hA3,hC3⟩)
  refine⟨fun n x W=>∃(j:Nat)(zs:List El),j=n/\x=(j:Int)/\(a<=j/\j<=i-1)/\PI a e xs zs/\(∀p q,a<=p->p<q->q<i->q≠j->g zs p<=g zs q)/\Ar s b W.heap zs/\CB b w W,⟨_,i-1,_,rfl,rfl,by omega,hP3,fun p q h1 h2 h3 h4=>?_,hA3,hC3⟩,?_⟩
  ·rw[g_swo (by omega) (by omega) (by omega) (by omega),g_swo (by omega) (by omega) (by omega) (by omega)]
   exact hS p q h1 h2 h3
  rintro _ _ W4 _ ⟨j,zs,rfl,rfl,hj,hP4,hS4,hA4,hC4⟩
  have hzl:=hP4.len
  unfold F145j4
  refine IfB.dec (fun hj1=>?_) (fun hj1=>⟨rfl,zs,hP4,fun p q h1 h2 h3=>hS4 p q h1 h2 h3 (by omega),hA4,hC4⟩)
  rw[wm1 (by omega) (by omega)]
  refine ls hcp (w:=W4.drew) hA4 (by omega) (by omega) (by omega) (by omega) (fun nn ww hn eC=>have hA4:=Ar.ch (w:=W4.drew) hA4 eC id;have hC4:=CBe (CB.drew hC4) eC;introC hn (fun hl1=>?_) (fun hl1=>?_))
  ·simp only[Int.toNat_natCast,Bool.not_eq_true',decide_eq_false_iff_not] at hl1
   refine⟨rfl,zs,hP4,fun p q h1 h2 h3=>?_,hA4,hC4⟩
   by_cases hq:q=j
   ·subst hq
    by_cases hp:p=q-1
    ·subst hp;omega
    ·have:=hS4 p (q-1) h1 (by omega) (by omega) (by omega)
     omega
   ·exact hS4 p q h1 h2 h3 hq
  ·simp only[Int.toNat_natCast,Bool.not_eq_false',decide_eq_true_eq] at hl1
   have haj:a<j:=by
    rcases Nat.lt_or_ge a j with h|h
    ·exact h
    ·have:a=j:=by omega
     subst this
     have:=lb hP4 (by omega) a (Nat.le_refl _) (by omega)
     omega
   refine sw (w:=ww.drew) hA4 (by omega) (by omega) (by omega) (by omega) fun W5 hA5 hC5=>?_
   rw[Int.toNat_natCast,Int.toNat_natCast] at hA5
   refine⟨rfl,j-1,by omega,j-1,_,rfl,rfl,by omega,.step hP4 (by omega) (by omega) (by omega) (by omega) (by omega),fun p q h1 h2 h3 h4=>?_,hA5,(CB.drew hC4).trans hC5⟩
   rw[g_swp (by omega) (by omega),g_swp (by omega) (by omega)]
   have A1:=hS4 p (j-1) h1
   have A2:=hS4 p q h1 h2 h3
   have A3:=hS4 j q (by omega)
   have A4:=hS4 (j-1) q (by omega)
   split<;>split<;>(try split)<;>(try split)<;>first|omega|skip
 rintro _ W6 _ ⟨zs,hP6,hS6,hA6,hC6⟩
 have hzl:=hP6.len
 have next:∀ {us:List El}{W:World},PI a e xs us->SO us a i->Ar s b W.heap us->CB b w W->([]:List Df)=[]/\∃b112,b112<5-j0/\∃(i' j':Nat)(ys:List El),b112=5-j'/\((i:Int),IntKind.i64.wrap ((j0:Int)+(1:Int)))=((i':Int),(j':Int))/\j'<=5/\(a+1<=i'/\i'<=e)/\PI a e xs ys/\SO ys a i'/\Ar s b W.heap ys/\CB b w W:=
  fun h1 h2 h3 h4=>⟨rfl,5-(j0+1),by omega,i,j0+1,_,rfl,by rw[wp1 (by omega)],by omega,by omega,h1,h2,h3,h4⟩
 unfold F145j5
 refine⟨fun t W=>W=W6,⟨rfl,rfl⟩,?_⟩
 rintro t _ _ rfl
 refine IfB.intro (fun _=>?_) (fun _=>next hP6 hS6 hA6 hC6)
 refine⟨fun n x W=>∃(j:Nat)(us:List El),n=e-j/\x=(j:Int)/\(i+1<=j/\j<=e)/\PI a e xs us/\SO us a i/\Ar s b W.heap us/\CB b w W,⟨_,i+1,zs,rfl,wp1 (by omega),by omega,hP6,hS6,hA6,hC6⟩,?_⟩
 rintro _ _ W7 _ ⟨j,us,rfl,rfl,hj,hP7,hS7,hA7,hC7⟩
 have hul:=hP7.len
 unfold F145j7
 refine IfB.dec (fun hlt=>?_) (fun _=>next hP7 hS7 hA7 hC7)
 rw[wm1 (by omega) (by omega)]
 refine ls hcp (w:=W7.drew) hA7 (by omega) (by omega) (by omega) (by omega) (fun nn ww hn eC=>have hA7:=Ar.ch (w:=W7.drew) hA7 eC id;have hC7:=CBe (CB.drew hC7) eC;introC hn (fun _=>next hP7 hS7 hA7 hC7) (fun _=>?_))
 refine sw (w:=ww.drew) hA7 (by omega) (by omega) (by omega) (by omega) fun W8 hA8 hC8=>?_
 rw[Int.toNat_natCast,Int.toNat_natCast] at hA8
 refine⟨rfl,_,by omega,j+1,_,rfl,wp1 (by omega),by omega,.step hP7 (by omega) (by omega) (by omega) (by omega) (by omega),fun p q h1 h2 h3=>?_,hA8,(CB.drew hC7).trans hC8⟩
 rw[g_swo (by omega) (by omega) (by omega) (by omega),g_swo (by omega) (by omega) (by omega) (by omega)]
 exact hS7 p q h1 h2 h3
theorem c142{cl:Nat×Array Value}(hcp:CmpP cl){s:Sl}{b:Nat}{w:World}{xs:List El}{a e:Nat}(h:Ar s b w.heap xs)(he:e<=xs.length)(ha:a+12<e):
  Cw 142 #[slV s,iv a,iv e,.func (.func cl.1) #[] cl.2] w fun v w'=>v=.tuple #[]/\∃ys,PI a e xs ys/\Ar s b w'.heap ys/\CB b w w':=by
 have hl:=h.2.2.1
 have hlt:=h.lt
 refine F142_ok s a e cl w _ ?_
 unfold F142
 rw[wsb (by omega) (by omega)]
 refine IfB.yes (decide_eq_true (by omega)) ?_
 intro b1 w2 h2
 have p2:=h2.here;have z2:=h2.size
 rw[wu64 (by omega)]
 refine⟨rfl,store_all h2.new rfl (by intro u hu;simp at hu;subst hu;rfl) fun w3 h3=>?_⟩
 have e3:Ext w w3:=Ext.fresh h2 h3
 have hne:b1≠b:=by omega
 refine(c162 (x:=e-a) (by omega) w3).use ?_
 rintro _ _ ⟨L,rfl,hL,rfl⟩
 have hq:IntKind.i64.wrap ((((e-a:Nat):Int)).tdiv (4:Int))=(((e-a)/4:Nat):Int):=by
  rw[Int.tdiv_eq_ediv_of_nonneg (by omega),wrap_of (by omega) (by omega)];omega
 obtain⟨hL1,hL2,hL3⟩:=hL
 obtain⟨hL4,hL5⟩:=hL2 (by omega)
 have h2L:2^L<=2*(e-a):=by
  have:2^L=2^(L-1)*2:=by rw[<-Nat.pow_succ];congr 1;omega
  omega
 have hLpos:0<2^L:=Nat.pow_pos (by decide)
 generalize 2^L=M at*
 rw[hq,wmul (k:=(2:Int)) (m:=2) rfl (by omega) (by omega),wad (by omega),wm1 (by omega) (by omega)]
 generalize hqq:(e-a)/4=q at*
 refine⟨_,rfl,by decide,fun n x W=>∃(i:Nat)(ys:List El),n=a+q*2+2-i/\x=(i:Int)/\(a+q*2-1<=i/\i<=a+q*2+2)/\PI a e xs ys/\Ar s b W.heap ys/\Ct .u64 b1 W/\CB b w W,⟨_,_,xs,rfl,rfl,by omega,.refl,h.ch e3 id,⟨_,_,h3.new⟩,e3.mono fun _ _ h=>h.elim⟩,?_⟩
 rintro _ _ W _ ⟨i,ys,rfl,rfl,hi,hP,hA,hK,hC⟩
 have hyl:=hP.len
 unfold F142j1
 rw[wsb (by omega) (by omega),hq,wmul (k:=(2:Int)) (m:=2) rfl (by omega) (by omega),wad (by omega),wp1 (by omega)]
 refine⟨by decide,IfB.dec (fun hle=>?_) (fun hgt=>⟨rfl,ys,hP,hA,hC⟩)⟩
 refine(c163 hK).use ?_
 rintro _ w15 ⟨n16,rfl,hK2,hC2⟩
 have hA2:=hA.ch hC2 (Ne.symm hne)
 have hC3:CB b w w15:=hC.then hC2 fun j hj h=>by omega
 have hm:IntKind.u64.wrap ((M:Int)-(1:Int))=((M-1:Nat):Int):=by
  rw[show ((M:Int)-(1:Int))=((M-1:Nat):Int) by omega,wu64 (by omega)]
 obtain⟨k,hk,hkM⟩:=and_le (n:=n16) (m:=M-1) (by omega)
 refine⟨n16,rfl,fun x W=>∃t:Nat,x=(t:Int)/\t<e-a/\w15=W,?_,?_⟩
 ·rw[hm,hk,wrap_of (n:=(k:Int)) (by omega) (by omega)]
  refine IfB.dec (fun h1=>⟨rfl,k-(e-a),wsb (by omega) (by omega),by omega,rfl⟩) (fun h1=>⟨rfl,k,rfl,by omega,rfl⟩)
 rintro _ _ _ ⟨t,rfl,ht,rfl⟩
 unfold F142j2
 rw[wad (by omega)]
 refine sw (w:=w15.drew) hA2 (by omega) (by omega) (by omega) (by omega) fun W5 hA5 hC5=>?_
 rw[Int.toNat_natCast,Int.toNat_natCast] at hA5
 exact⟨rfl,_,by omega,i+1,_,rfl,wp1 (by omega),by omega,.step hP (by omega) (by omega) (by omega) (by omega) (by omega),hA5,by
  obtain⟨T,n,hn⟩:=hK2
  exact⟨T,n,hC5.at (w:=w15.drew) hn hne⟩,hC3.drew.trans hC5⟩
theorem SO.split{ys:List El}{a m e:Nat}(h1:SO ys a m)(h2:SO ys (m+1) e)(hl:∀k,a<=k->k<m->g ys k<=g ys m)(hr:∀k,m<k->k<e->g ys m<=g ys k):SO ys a e:=by
 intro p q hp hpq hq
 rcases Nat.lt_trichotomy p m with h|h|h
 ·rcases Nat.lt_trichotomy q m with k|k|k
  ·exact h1 p q hp hpq k
  ·subst k;exact hl p hp h
  ·have:=hl p hp h;have:=hr q k hq;omega
 ·subst h;exact hr q hpq hq
 ·exact h2 p q (by omega) hpq hq
theorem PI.trans'{a b a' b':Nat}{xs ys zs:List El}(h:PI a b xs ys)(k:PI a' b' ys zs)(h1:a<=a')(h2:b'<=b)(h3:b<=xs.length):PI a b xs zs:=
 h.trans (k.mono h1 h2 (by rw[h.len];exact h3))
def LB(xs:List El)(a e:Nat):Prop:=0<a->∀k,a<=k->k<e->g xs (a-1)<=g xs k
theorem LB.pi{xs ys:List El}{a e:Nat}(h:LB xs a e)(hP:PI a e xs ys):LB ys a e:=fun h0 k h1 h2=>by
 rw[hP.out (.inl (by omega))]
 exact hP.all (Q:=fun v=>g xs (a-1)<=v) (fun i h3 h4=>h h0 i h3 h4) k h1 h2
def Pd(ys:List El)(a m e:Nat):Prop:=(∀k,a<=k->k<m->g ys k<=g ys m)/\(∀k,m<k->k<e->g ys m<=g ys k)
theorem Pd.left{ys zs:List El}{a m e:Nat}(h:Pd ys a m e)(hP:PI a m ys zs):Pd zs a m e:=by
 have em:g zs m=g ys m:=hP.out (.inr (Nat.le_refl _))
 refine⟨fun k h1 h2=>?_,fun k h1 h2=>?_⟩
 ·rw[em];exact hP.all (Q:=fun v=>v<=g ys m) (fun i h3 h4=>h.1 i h3 h4) k h1 h2
 ·rw[em,hP.out (.inr (by omega))];exact h.2 k h1 h2
theorem Pd.right{ys zs:List El}{a m e:Nat}(h:Pd ys a m e)(hP:PI (m+1) e ys zs):Pd zs a m e:=by
 have em:g zs m=g ys m:=hP.out (.inl (by omega))
 refine⟨fun k h1 h2=>?_,fun k h1 h2=>?_⟩
 ·rw[em,hP.out (.inl (by omega))];exact h.1 k h1 h2
 ·rw[em];exact hP.all (Q:=fun v=>g ys m<=v) (fun i h3 h4=>h.2 i (by omega) h4) k (by omega) h2
theorem SO.keep{ys zs:List El}{a e a' e':Nat}(h:SO ys a e)(hP:PI a' e' ys zs)(hd:e<=a'\/e'<=a):SO zs a e:=by
 intro p q h1 h2 h3
 rw[hP.out (by omega),hP.out (by omega)]
 exact h p q h1 h2 h3
theorem c121{cl:Nat×Array Value}(hcp:CmpP cl)(n:Nat):∀ {s:Sl}{b:Nat}{w:World}{xs:List El}{a e:Nat}(lim:Int),e-a=n->Ar s b w.heap xs->e<=xs.length->a<=e->LB xs a e->
  Cw 121 #[slV s,iv a,iv e,iv lim,.func (.func cl.1) #[] cl.2] w fun v w'=>v=.tuple #[]/\∃ys,PI a e xs ys/\SO ys a e/\Ar s b w'.heap ys/\CB b w w':=by
 induction n using Nat.strongRecOn with
 | _ n ih=>
 intro s b w xs a e lim hn h he hae hLB
 have hl:=h.2.2.1
 refine F121_ok s a e lim cl w _ ⟨fun k x W=>∃(a' e':Nat)(lm:Int)(wb wp:Bool)(ys:List El),k=e'-a'/\x=((a':Int),(e':Int),lm,wb,wp)/\(a<=a'/\a'<=e'/\e'<=e)/\PI a e xs ys/\LB ys a' e'/\
  (∀zs,PI a' e' ys zs->SO zs a' e'->SO zs a e)/\Ar s b W.heap ys/\CB b w W,⟨_,a,e,lim,true,true,xs,rfl,rfl,by omega,.refl,hLB,fun _ _ h=>h,h,Ch.refl _ _⟩,?_⟩
 rintro _ _ W _ ⟨a',e',lm,wb,wp,ys,rfl,rfl,hae',hP,hB,hG,hA,hC⟩
 have hyl:=hP.len
 have up:∀ {zs},PI a' e' ys zs->PI a e xs zs:=fun k=>hP.trans' k (by omega) (by omega) he
 unfold F121j1
 dsimp only
 rw[wsb (by omega) (by omega)]
 refine IfB.dec (fun h12=>?_) (fun h12=>?_)
 ·refine(c140 hcp hA (by omega) (by omega)).use ?_
  rintro _ W2 ⟨rfl,zs,hP2,hS2,hA2,hC2⟩
  exact⟨(),rfl,rfl,zs,up hP2,hG zs hP2 hS2,hA2,hC.trans hC2⟩
 have hbig:a'+12<e':=by omega
 refine IfB.intro (fun _=>?_) (fun _=>?_)
 ·refine(c141 hcp hA (by omega) (by omega)).use ?_
  rintro _ W2 ⟨rfl,zs,hP2,hS2,hA2,hC2⟩
  exact⟨(),rfl,rfl,zs,up hP2,hG zs hP2 hS2,hA2,hC.trans hC2⟩
 refine⟨fun _ W=>∃zs,PI a' e' ys zs/\Ar s b W.heap zs/\CB b w W,?_,?_⟩
 ·refine IfB.intro (fun _=>?_) (fun _=>⟨rfl,ys,.refl,hA,hC⟩)
  refine(c142 hcp hA (by omega) hbig).use ?_
  rintro _ W2 ⟨rfl,zs,hP2,hA2,hC2⟩
  exact⟨(),rfl,rfl,zs,hP2,hA2,hC.trans hC2⟩
 rintro lm2 W2 _ ⟨zs,hP2,hA2,hC2⟩
 have hzl:=hP2.len
 unfold F121j2
 dsimp only
 refine(c143 hcp hA2 (by omega) hbig).use ?_
 rintro _ W3 ⟨p,t,rfl,hp,hA3,e3⟩
 have hC3:CB b w W3:=hC2.then e3 fun _ _ h=>h.elim
 refine⟨((p:Int),t),rfl,fun x W=>∃(p:Nat)(us:List El),x.1=(p:Int)/\(a'<=p/\p<e')/\PI a' e' ys us/\Ar s b W.heap us/\CB b w W,?_,?_⟩
 ·refine IfB.intro (fun _=>?_) (fun _=>⟨rfl,p,zs,rfl,hp,hP2,hA3,hC3⟩)
  refine(c144 hcp hA3 (by omega) (by omega)).use ?_
  rintro _ W4 ⟨rfl,us,hP4,hA4,hC4⟩
  refine⟨(),rfl,rfl,e'-1-(p-a'),us,?_,by omega,hP2.trans hP4,hA4,hC3.trans hC4⟩
  show IntKind.i64.wrap (IntKind.i64.wrap ((e':Int)-1)-IntKind.i64.wrap ((p:Int)-(a':Int)))=_
  rw[wm1 (by omega) (by omega),wsb (by omega) (by omega),wsb (by omega) (by omega)]
 rintro⟨_,t2⟩ W5 _ ⟨p,us,rfl,hp,hP5,hA5,hC5⟩
 have hul:=hP5.len
 unfold F121j3
 dsimp only
 refine⟨fun _ W=>∃us,PI a' e' ys us/\Ar s b W.heap us/\CB b w W,?_,?_⟩
 ·refine IfB.intro (fun _=>IfB.intro (fun _=>IfB.intro (fun _=>?_) (fun _=>⟨rfl,us,hP5,hA5,hC5⟩)) (fun _=>⟨rfl,us,hP5,hA5,hC5⟩)) (fun _=>⟨rfl,us,hP5,hA5,hC5⟩)
  refine(c145 hcp hA5 (by omega) (by omega) (hB.pi hP5)).use ?_
  rintro _ W6 ⟨t,rfl,vs,hP6,hS6,hA6,hC6⟩
  exact⟨t,rfl,IfB.intro (fun ht=>⟨rfl,vs,up (hP5.trans hP6),hG vs (hP5.trans hP6) (hS6 ht),hA6,hC5.trans hC6⟩) (fun _=>⟨rfl,vs,hP5.trans hP6,hA6,hC5.trans hC6⟩)⟩
 rintro _ W7 _ ⟨us,hP7,hA7,hC7⟩
 have hul:=hP7.len
 have hB7:=hB.pi hP7
 have hG7:∀zs,PI a' e' us zs->SO zs a' e'->SO zs a e:=fun zs k=>hG zs (hP7.trans k)
 have part:∀ {W8:World},Ar s b W8.heap us->CB b w W8->Cx 147 #[slV s,iv a',iv e',iv p,.func (.func cl.1) #[] cl.2] W8 fun v65 w66=>∃x67:Int×Bool,v65=.tuple #[.int .i64 x67.1,.bool x67.2]/\¬(8:Int)=0/\
   IfB (decide (IntKind.i64.wrap (x67.fst-(a':Int))<IntKind.i64.wrap ((e':Int)-x67.fst))) (F121k2 s ((a':Int),(e':Int),lm,wb,wp) x67 lm2 cl w66 (e'-a') (fun k x W=>∃(a' e':Nat)(lm:Int)(wb wp:Bool)(ys:List El),k=e'-a'/\x=((a':Int),(e':Int),lm,wb,wp)/\(a<=a'/\a'<=e'/\e'<=e)/\PI a e xs ys/\LB ys a' e'/\
  (∀zs,PI a' e' ys zs->SO zs a' e'->SO zs a e)/\Ar s b W.heap ys/\CB b w W))
    (F121k1 s x67 ((a':Int),(e':Int),lm,wb,wp) lm2 cl w66 (e'-a') (fun k x W=>∃(a' e':Nat)(lm:Int)(wb wp:Bool)(ys:List El),k=e'-a'/\x=((a':Int),(e':Int),lm,wb,wp)/\(a<=a'/\a'<=e'/\e'<=e)/\PI a e xs ys/\LB ys a' e'/\
  (∀zs,PI a' e' ys zs->SO zs a' e'->SO zs a e)/\Ar s b W.heap ys/\CB b w W)):=by
  intro W8 hA8 hC8
  refine(c147 hcp hA8 (by omega) hp).use ?_
  rintro _ W9 ⟨m,t,rfl,hm,vs,hP9,h1,h2,hA9,hC9⟩
  have hvl:=hP9.len
  have hPd:Pd vs a' m e':=⟨fun k h3 h4=>Int.le_of_lt (h1 k h3 h4),h2⟩
  have hB9:=hB7.pi hP9
  have hC9:=hC8.trans hC9
  refine⟨((m:Int),t),rfl,by decide,IfB.intro (fun _=>?_) (fun _=>?_)⟩
  ·unfold F121k2
   refine(ih (m-a') (by omega) lm2 rfl hA9 (by omega) (by omega) fun h0 k h3 h4=>hB9 h0 k h3 (by omega)).use ?_
   rintro _ W10 ⟨rfl,ts,hP10,hS10,hA10,hC10⟩
   have hPd2:=hPd.left hP10
   refine⟨(),rfl,rfl,e'-(m+1),by omega,m+1,e',_,_,_,ts,rfl,by rw[wp1 (by omega)],by omega,hP.trans' (hP7.trans (hP9.trans' hP10 (by omega) (by omega) (by omega))) (by omega) (by omega) he,fun _ k h3 h4=>hPd2.2 k (by omega) h4,fun zs hz hSz=>?_,hA10,hC9.trans hC10⟩
   have hPz:PI a' e' us zs:=(hP9.trans' hP10 (by omega) (by omega) (by omega)).trans' hz (by omega) (by omega) (by omega)
   have hPd3:=hPd2.right hz
   exact hG7 zs hPz ((hS10.keep hz (.inl (by omega))).split hSz hPd3.1 hPd3.2)
  ·unfold F121k1
   dsimp only
   rw[wp1 (by omega)]
   refine(ih (e'-(m+1)) (by omega) lm2 rfl hA9 (by omega) (by omega) fun h0 k h3 h4=>hPd.2 k (by omega) h4).use ?_
   rintro _ W10 ⟨rfl,ts,hP10,hS10,hA10,hC10⟩
   have hPd2:=hPd.right hP10
   have hB10:LB ts a' m:=fun h0 k h3 h4=>by
    rw[hP10.out (.inl (by omega)),hP10.out (.inl (by omega))]
    exact hB9 h0 k h3 (by omega)
   refine⟨(),rfl,rfl,m-a',by omega,a',m,_,_,_,ts,rfl,rfl,by omega,hP.trans' (hP7.trans (hP9.trans' hP10 (by omega) (by omega) (by omega))) (by omega) (by omega) he,hB10,fun zs hz hSz=>?_,hA10,hC9.trans hC10⟩
   have hPz:PI a' e' us zs:=(hP9.trans' hP10 (by omega) (by omega) (by omega)).trans' hz (by omega) (by omega) (by omega)
   have hPd3:=hPd2.left hz
   exact hG7 zs hPz (hSz.split (hS10.keep hz (.inr (by omega))) hPd3.1 hPd3.2)
 unfold F121j4
 dsimp only
 refine IfB.dec (fun h0=>?_) (fun h0=>part (W8:=W7.drew) hA7 hC7.drew)
 have h0:0<a':=by omega
 rw[wm1 (by omega) (by omega)]
 refine ls hcp (w:=W7.drew) hA7 (by omega) (by omega) (by omega) (by omega) (fun nn ww hn eC=>have hA7:=Ar.ch (w:=W7.drew) hA7 eC id;have hC7:=CBe (CB.drew hC7) eC;introC hn (fun hl1=>?_) (fun _=>part hA7 hC7))
 simp only[Int.toNat_natCast,Bool.not_eq_true',decide_eq_false_iff_not] at hl1
 refine(c146 hcp (w:=ww) hA7 (by omega) hp).use ?_
 rintro _ W8 ⟨m,rfl,hm,vs,hP8,hv,h1,h2,hA8,hC8⟩
 have hvl:=hP8.len
 have hB8:=hB7.pi hP8
 have ho:g vs (a'-1)=g us (a'-1):=hP8.out (.inl (by omega))
 have hv1:∀k,a'<=k->k<m->g vs k=g us p:=fun k h3 h4=>by
  have:=h1 k h3 h4
  have:=hB8 h0 k h3 (by omega)
  omega
 refine⟨_,rfl,rfl,e'-m,by omega,m,e',lm2,wb,wp,vs,rfl,rfl,by omega,up (hP7.trans hP8),fun _ k h3 h4=>?_,fun zs hz hSz=>?_,hA8,hC7.trans hC8⟩
 ·rw[hv1 (m-1) (by omega) (by omega)]
  have:=h2 k h3 h4
  omega
 ·have hlow:∀k,a'<=k->k<m->g zs k=g us p:=fun k h3 h4=>by rw[hz.out (.inl h4)];exact hv1 k h3 h4
  have hhigh:∀k,m<=k->k<e'->g us p<g zs k:=hz.all (Q:=fun v=>g us p<v) h2
  refine hG7 zs (hP8.trans' hz (by omega) (by omega) (by omega)) fun i j h3 h4 h5=>?_
  by_cases hj:j<m
  ·rw[hlow i h3 (by omega),hlow j (by omega) hj];exact Int.le_refl _
  ·by_cases hi:i<m
   ·rw[hlow i h3 hi]
    have:=hhigh j (by omega) h5
    omega
   ·exact hSz i j (by omega) h4 h5
theorem SO.sorted{ys:List El}(h:SO ys 0 ys.length):ys.Pairwise (fun x y=>key x<=key y):=by
 rw[List.pairwise_iff_getElem]
 intro i j hi hj hij
 have:=h i j (Nat.zero_le _) hij hj
 have e1:=ge_eq hi;have e2:=ge_eq hj
 rw[List.getElem?_eq_getElem hi] at e1
 rw[List.getElem?_eq_getElem hj] at e2
 rw[Option.some.injEq] at e1 e2
 rw[e1,e2];exact this
theorem c125e(cl:Nat×Array Value)(s:Sl)(w:World):Cw 140 #[slV s,iv 0,iv 0,.func (.func cl.1) #[] cl.2] w fun v w'=>v=.tuple #[]/\w=w':=by
 refine F140_ok s (0:Int) (0:Int) cl w _ ⟨fun k x W'=>x=(1:Int)/\w=W',⟨0,by decide,rfl⟩,?_⟩
 rintro k _ _ _ ⟨rfl,rfl⟩
 exact IfB.no (by decide) ⟨rfl,rfl⟩
theorem c120e(cl:Nat×Array Value)(s:Sl)(L:Int)(w:World):Cw 121 #[slV s,iv 0,iv 0,iv L,.func (.func cl.1) #[] cl.2] w fun v w'=>v=.tuple #[]/\w=w':=by
 refine F121_ok s (0:Int) (0:Int) L cl w _ ⟨fun k x W=>x=((0:Int),(0:Int),L,true,true)/\w=W,⟨0,rfl,rfl⟩,?_⟩
 rintro k _ _ _ ⟨rfl,rfl⟩
 unfold F121j1
 refine IfB.yes (show decide (IntKind.i64.wrap ((0:Int)-(0:Int))<=(12:Int))=true by decide) ((c125e cl s w).use ?_)
 rintro _ _ ⟨rfl,rfl⟩
 exact⟨(),rfl,rfl,rfl⟩
theorem c86{cl:Nat×Array Value}(hcp:CmpP cl){w:World}{s:Sl}{xs:List El}(h:OwS w s 2 (xs.flatMap sv))(hl:xs.length<=1000000):
  Cw 86 #[slV s,.func (.func cl.1) #[] cl.2] w fun v w'=>v=.tuple #[]/\∃ys:List El,ys.Perm xs/\ys.Pairwise (fun x y=>key x<=key y)/\OwS w' s 2 (ys.flatMap sv)/\Ch (fun i=>i∈blk s) w w':=by
 have hn:=owsN sv_len (by omega) h
 refine F86_ok s cl w _ ?_
 unfold F86
 rw[show (s.2:Int)=((xs.length:Nat):Int) by show (s.n:Int)=_;rw[hn],wu64 (by omega)]
 refine(c122 hl w).use ?_
 rintro _ _ ⟨L,rfl,hL,rfl⟩
 refine⟨_,rfl,?_⟩
 by_cases h0:xs.length=0
 ·have:xs=[]:=List.length_eq_zero_iff.1 h0
  subst this
  refine(c120e cl s L w).use ?_
  rintro _ _ ⟨rfl,rfl⟩
  exact⟨(),rfl,rfl,[],.refl _,.nil,h,Ch.refl _ _⟩
 ·obtain⟨b,hA,hb⟩:=Ar.of h (by omega) hl
  refine(c121 hcp _ (L:Int) rfl hA (Nat.le_refl _) (Nat.zero_le _) (fun h0=>absurd h0 (by decide))).use ?_
  rintro _ W2 ⟨rfl,ys,hP,hS,hA2,hC2⟩
  have hyl:=hP.len
  exact⟨(),rfl,rfl,ys,hP.perm,SO.sorted (by rw[hyl];exact hS),hA2.own,hC2.mono fun i _ hi=>by rw[hb];simpa using hi⟩
end Go.Proofs.YtoahfpabpdjkkaaGreat.Gx.SfS
namespace Go.Proofs.YtoahfpabpdjkkaaGreat.Gx
open Go
set_option linter.unusedSimpArgs false
set_option linter.unusedVariables false
structure Kp(U:World->Nat->Prop)(n:Nat)(W W':World):Prop where
 at':∀(i:Nat) o,n<=i->¬U W i->W.heap[i]? =some o->Gx.Obj.keep o=true->W'.heap[i]? =some o
 own:∀i:Nat,U W' i->U W i\/W.heap.size<=i
theorem Kp.upd{U:World->Nat->Prop}{n l:Nat}{W A B:World}{o:Obj}(h:Kp U n W A)(hu:IsUpd A l o B)(hl:l<n)(hU:∀i,U B i->U A i):Kp U n W B:=
 ⟨fun i o h1 h2 h3 h4=>(hu.old i (by omega)).trans (h.at' i o h1 h2 h3 h4),fun i hi=>h.own i (hU i hi)⟩
def IterU{α:Type}(P:Program)(g:FuncId)(lb:Array Value)(enc:α->Array Value)(bnd:Bool)(Nxt:List α->α->Prop)(Fin:List α->Prop)(Inv:World->Prop):Prop:=
 Entr P g/\∀(l:Nat)(J Jx:List α->World->Prop)(U:World->Nat->Prop)(W:World),Abid W.heap.size J->Abid W.heap.size Jx->(∀pre W',J pre W'->Inv W')->(∀pre W',J pre W'->W.heap.size<=W'.heap.size)->
  (bnd=true->∃B,∀pre W',J pre W'->pre.length<=B)->
  (∀A B,Stb W.heap.size A B->∀i,U B i->U A i)->(∀pre W',J pre W'->∀i,U W' i->i<W'.heap.size)->
  (∀pre x W1,J pre W1->Nxt pre x->YW P l (enc x) W1 fun b W'=>match b with|true=>J (pre++[x]) W'/\Its W1 W'/\Kp U W.heap.size W1 W'|false=>Jx (pre++[x]) W')->J [] W->
  CW P g (#[.func (.yield l) #[] #[]]++lb) W fun _ W'=>(∃xs,Fin xs/\J xs W')\/(∃pre,Jx pre W')
section
variable {P:Program} {tb:Tab}
theorem range_noneU(hT:tb.Ok P)(hm:P.follows .mixedOrders=true){α:Type}{N:Nat}{an:An}{g:Operand}{ps:Array Tmp}{assign body:Code}{f:Fr}{ds:List Df}{w:World}{Kn Kr:List Df->World->Prop}{Kx:Nat->List Df->World->Prop}
  {gf:FuncId}{lb:Array Value}(hg:ev f g=.func (.func gf) #[] lb){enc:α->Array Value}{bnd:Bool}{Nxt:List α->α->Prop}{Fin:List α->Prop}{Inv:World->Prop}(spec:IterU P gf lb enc bnd Nxt Fin Inv)
  (hok1:okC tb N assign .nil=true)(hok2:okC tb N body an=true)(hps:ps.toList.all (fun p=>Nat.blt p N)=true)(henc:∀x,(enc x).size=ps.size)
  (U:World->Nat->Prop)(hU:∀W W',Stb w.heap.size W W'->∀i,U W' i->U W i)(I:List α->World->Prop)(Ix:Code->List α->World->Prop)(hI:Abid w.heap.size I)(hIx:∀c,Abid w.heap.size (Ix c))(hInv:∀pre W,I pre W->Inv W)
  (hbnd:bnd=true->∃B,∀pre W,I pre W->pre.length<=B)(hU1:∀pre W,I pre W->∀i,U W i->i<W.heap.size)(h0:I [] w)
  (hbody:∀pre x W,I pre W->Nxt pre x->w.heap.size+1<W.heap.size->BodyP P tb N (w.heap.size+1) w.heap.size w.heap.size an ps assign body f (fun W'=>I (pre++[x]) W'/\Its W W'/\Kp U (w.heap.size+2) W W') (fun c=>Ix c (pre++[x])) (enc x).toList W)
  (hdone:∀xs W,Fin xs->I xs W->W.heap[w.heap.size]? =some (.deferred (some []))->Kn (.col w.heap.size::ds) W)
  (hstop:∀c pre W,Ix c pre W->W.heap[w.heap.size]? =some (.deferred (some []))->jumpQ Kr Kx (.col w.heap.size::ds) W c):
  RangeP P tb N none an g ps assign body f ds w Kn Kr Kx:=by
 intro a hR
 refine wpIn_rangeFunc ?_
 intro fn _
 obtain⟨rec,hrec⟩:∃rec:Loop,rec={ state:=.ready,pending:=none,fn,tmps:=a.tmps,params:=ps,assign,body,defers:=w.heap.size }:=⟨_,rfl⟩
 obtain⟨W1,hW1⟩:∃W1,(w.alloc (.deferred (some []))).alloc (.loop rec)=W1:=⟨_,rfl⟩
 have e1:IsAlloc w (.deferred (some [])) w.heap.size (w.alloc (.deferred (some []))):=isAlloc_push w _ w.drawn
 have e2:IsAlloc (w.alloc (.deferred (some []))) (.loop rec) (w.heap.size+1) W1:=by
  have:=isAlloc_push (w.alloc (.deferred (some []))) (.loop rec) (w.alloc (.deferred (some []))).drawn
  rw[e1.size] at this
  rw[<-hW1];exact this
 have hL1:W1.heap[w.heap.size+1]? =some (.loop rec):=e2.new
 have hK1:W1.heap[w.heap.size]? =some (.deferred (some [])):=by rw[e2.old _ (by rw[e1.size];omega)];exact e1.new
 have hS1:Stb w.heap.size w W1:=(Stb.alloc e1 (Nat.le_refl _)).trans (Stb.alloc e2 (by rw[e1.size];omega))
 have hsz1:W1.heap.size=w.heap.size+2:=by rw[e2.size,e1.size]
 have hev:a.eval g=.func (.func gf) #[] lb:=by rw[hR.eval];exact hg
 have hpsN:∀p∈ps.toList,p<N:=fun p hp=>by have:=List.all_eq_true.1 hps p hp;rw[Nat.blt_eq] at this;exact this
 refine⟨w.heap.size+1,[{ target:=.collected w.heap.size,args:=#[] }],W1,{ target:=.fn (.func gf) lb,args:=#[.func (.yield (w.heap.size+1)) #[] #[]] },W1,gf,
  #[.func (.yield (w.heap.size+1)) #[] #[]]++lb,W1,?_,?_,fun f' _=>trivial,?_,fz_depth none,?_⟩
 ·rw[<-hW1,hrec];exact run_enterLoop_outer _ _ _ _ _
 ·simp only[resolve]
  rw[hev]
  simp[Deferred.ofValue,Act.eval]
 ·simp only[invoke]
  exact spec.1 _ _
 ·refine fz_callsIn.2 ?_
  have hc:=spec.2 (w.heap.size+1)
   (fun pre W=>I pre W/\W.heap[w.heap.size+1]? =some (.loop rec)/\W.heap[w.heap.size]? =some (.deferred (some [])))
   (fun pre W=>∃c,Ix c pre W/\W.heap[w.heap.size+1]? =some (.loop { rec with state:=.done,pending:=some c })/\W.heap[w.heap.size]? =some (.deferred (some [])))
   U W1
   (fun s A B hs hS=>⟨hI s A B hs.1 (hS.mono (by omega)),(hS.low _ (by omega)).trans hs.2.1,(hS.low _ (by omega)).trans hs.2.2⟩)
   (fun s A B hs hS=>by obtain⟨c,hc,h1,h2⟩:=hs;exact⟨c,hIx c s A B hc (hS.mono (by omega)),(hS.low _ (by omega)).trans h1,(hS.low _ (by omega)).trans h2⟩)
   (fun pre W h=>hInv pre W h.1)
   (fun pre W h=>by have:w.heap.size+1<W.heap.size:=(Array.getElem?_eq_some_iff.1 h.2.1).1;omega)
   (fun hb=>by obtain⟨B,hB⟩:=hbnd hb;exact⟨B,fun pre W h=>hB pre W h.1⟩)
   (fun A B hS=>hU A B (hS.mono (by omega)))
   (fun pre W h=>hU1 pre W h.1)
   (fun pre x W h hx=>by
    have hlt:w.heap.size+1<W.heap.size:=(Array.getElem?_eq_some_iff.1 h.2.1).1
    refine(round_of hT hm (l:=w.heap.size+1) (D:=w.heap.size) (n₀:=w.heap.size) hR.size hR.val hpsN hok1 hok2 (henc x) (by omega) hrec h.2.1 hI hIx (E:=fun W'=>Its W W'/\Kp U (w.heap.size+2) W W') (fun A B o hE hu hl=>by obtain⟨rc,hl⟩:=hl;exact⟨hE.1.trans (Its.upd hu hl (by simp)),hE.2.upd hu (by omega) (hU _ _ (Stb.upd hu hl rfl (by omega)))⟩) (hbody pre x W h.1 hx hlt)).mono ?_
    rintro b W' ⟨hD,hb⟩
    cases b with
    | true=>exact⟨⟨hb.2.1,hb.1,(hD (by omega)).trans h.2.2⟩,hb.2.2.1,by rw[hsz1];exact hb.2.2.2⟩
    | false=>obtain⟨c,h1,h2⟩:=hb;exact⟨c,h2,h1,(hD (by omega)).trans h.2.2⟩)
   ⟨hI _ _ _ h0 hS1,hL1,hK1⟩
  refine hc.2.mono ?_
  rintro e W2 ⟨v,rfl,h⟩
  have hds:∀(a':Act),a'={ a with defers:=[{ target:=.collected w.heap.size,args:=#[] }]++a.defers }->Rel N a' f (.col w.heap.size::ds):=fun a' e=>by
   subst e
   exact⟨hR.size,hR.val,by rw[hR.defers];rfl⟩
  rcases h with ⟨xs,hF,hi,hl,hk⟩|⟨pre,c,hi,hl,hk⟩
  ·obtain⟨w4,o4,hr4,hu⟩:∃w4 o4,(Instr.endLoop (w.heap.size+1)).run P W2=.ok rec.pending w4/\IsUpd W2 (w.heap.size+1) o4 w4:=
    ⟨_,_,run_endLoop (P:=P) hl (by rw[hrec];simp),isUpd_putObj hl _⟩
   have hp:rec.pending=none:=by rw[hrec]
   rw[hp] at hr4
   refine⟨none,w4,hr4,?_⟩
   exact⟨f,.col w.heap.size::ds,hds _ rfl,rfl,hdone xs _ hF (hI _ _ _ hi (Stb.upd hu hl rfl (by omega))) ((hu.old _ (by omega)).trans hk)⟩
  ·have hu:=isUpd_putObj hl (.loop { rec with state:=.exhausted,pending:=some c })
   refine⟨some c,_,by have:=run_endLoop (P:=P) hl (by simp);exact this,?_⟩
   have hj:=hstop c pre _ (hIx c _ _ _ hi (Stb.upd hu hl rfl (by omega))) ((hu.old _ (by omega)).trans hk)
   unfold jumpQ at hj
   split at hj
   ·exact wpIn_ret ⟨f,.col w.heap.size::ds,hds _ rfl,rfl,hj⟩
   ·exact wpIn_exit ⟨f,.col w.heap.size::ds,hds _ rfl,rfl,hj⟩
   ·exact hj.elim
end
abbrev Spn:=Int×Int
abbrev sv(x:Spn):List Value:=[.int .i64 x.1,.int .i64 x.2]
theorem sv_len(x:Spn):(sv x).length=2:=rfl
theorem sv_one(x:Spn):One (sv x):=by intro v hv;simp at hv;rcases hv with rfl|rfl<;>rfl
abbrev spV(x:Spn):Value:=.agg #[.int .i64 x.1,.int .i64 x.2]
theorem boxCells{w:World}{vs:List Value}{n:Nat}{z:Array Value}{T:TypeId}(hn:vs.length=n)(h1:One vs)(hz:z.size=n){K:Nat->World->Prop}(hK:∀b w',w.heap.size=b->w'.heap.size=b+1->w'.heap[b]? =some (.cells vs.toArray T (0,0))->Ext w w'->(∀n,n<=w.heap.size->Stb n w w')->K b w'):
  AllocP w (.cells z T) fun b w2=>vs.toArray.size=n/\StoreP w2 b 0 vs (K b):=by
 intro b w2 h2
 refine⟨by simpa using hn,store_all (vs:=vs) h2.new (by rw[hz,hn]) h1 fun w3 h3=>hK b w3 h2.here.symm ?_ h3.new (Ext.fresh h2 h3) fun n hn=>Stb.fresh h2 h3 hn⟩
 have:=h2.here;have:=h2.size;have:=h3.size;omega
theorem boxSp{w:World}{x:Spn}{z:Array Value}{T:TypeId}(hz:z.size=2){K:Nat->World->Prop}(hK:∀b w',w.heap.size=b->w'.heap.size=b+1->w'.heap[b]? =some (.cells #[.int .i64 x.1,.int .i64 x.2] T (0,0))->Ext w w'->(∀n,n<=w.heap.size->Stb n w w')->K b w'):
  AllocP w (.cells z T) fun b w2=>#[Value.int .i64 x.1,Value.int .i64 x.2].size=2/\StoreP w2 b 0 [.int .i64 x.1,.int .i64 x.2] (K b):=
 boxCells (vs:=sv x) rfl (sv_one x) hz hK
def mayS(x:Spn):Prop:=0<=x.1/\x.1<=x.2/\x.2<=999
instance(x:Spn):Decidable (mayS x):=inferInstanceAs (Decidable (_/\_))
def hasS(l:List Spn)(k:Int):Prop:=∃x∈l,mayS x/\x.1<=k/\k<=x.2
instance(l:List Spn)(k:Int):Decidable (hasS l k):=inferInstanceAs (Decidable (∃x∈l,_))
theorem c88(x y:Int)(w:World):Cw 88 #[.int .i64 x,.int .i64 y] w fun v w'=>∃n:Int,v=iv n/\(n<0↔x<y)/\w=w':=by
 refine F88_ok _ _ _ _ ((c123 x w).use ?_)
 rintro _ _ ⟨rfl,rfl⟩
 refine⟨false,rfl,(c123 y w).use ?_⟩
 rintro _ _ ⟨rfl,rfl⟩
 refine⟨false,rfl,IfB.no rfl (IfB.no rfl (IfB.dec (fun h=>⟨_,rfl,by simp;omega,rfl⟩) fun h=>IfB.dec (fun h'=>⟨_,rfl,by simp;omega,rfl⟩) fun h'=>⟨_,rfl,by simp;omega,rfl⟩))⟩
theorem c85(x:Spn)(w:World):Cw 85 #[spV x] w fun v w'=>v=.bool (decide (mayS x))/\Ext w w':=by
 refine F85_ok x w _ fun b w2 h2=>?_
 have p0:w2.cell? ⟨b,0+0,none⟩=some (.int .i64 x.1):=by rw[cell_of h2.new];rfl
 have p1:w2.cell? ⟨b,0+1,none⟩=some (.int .i64 x.2):=by rw[cell_of h2.new];rfl
 have e:Ext w w2:=h2.ch _
 refine⟨_,p0,IfB.dec (fun h0=>⟨_,p0,_,p1,IfB.dec (fun h1=>⟨_,p1,?_,e⟩) fun h1=>⟨?_,e⟩⟩) fun h0=>⟨?_,e⟩⟩
 ·have:(x.2<=999)↔mayS x:=by unfold mayS;omega
  rw[decide_eq_decide.2 this]
 ·have:¬mayS x:=by unfold mayS;omega
  simp[this]
 ·have:¬mayS x:=by unfold mayS;omega
  simp[this]
theorem c84(x:Spn)(w:World):Cw 84 #[spV x] w fun v w'=>v=.bool (!decide (mayS x))/\Ext w w':=by
 refine F84_ok x w _ fun b w2 h2=>⟨x,cellsAt_of h2.new fun i v hv=>by simpa using hv,(c85 x w2).use ?_⟩
 rintro _ w3 ⟨rfl,e3⟩
 exact⟨_,rfl,rfl,(h2.ch _).trans e3⟩
theorem c87:SfS.CmpP (87,#[]):=by
 intro x y w
 refine F87_ok x y w _ fun b1 w2 h2 b3 w4 h4=>?_
 refine⟨x.1,by rw[cell_of (h4.at h2.new)];rfl,y.1,by rw[cell_of h4.new];rfl,(c88 _ _ w4).use ?_⟩
 rintro _ _ ⟨n,rfl,hn,rfl⟩
 exact⟨n,rfl,n,rfl,hn,(h2.ch _).trans (h4.ch _)⟩
theorem c119{w:World}{t:Sl}{xs:List Spn}{t1:Nat×Array Value}{q:Spn->Bool}(h:Rd w t 2 (xs.flatMap sv))(hl:xs.length<=1000000)
  (hq:∀(x:Spn)(W:World),x∈xs->Ext w W->∀R':RV,(∀w',Ext W w'->R' (.bool (q x)) w')->Cx t1.1 { toList:=spV x::t1.2.toList } W R'):
  Cw 119 #[slV t,.func (.func t1.1) #[] t1.2] w fun v w'=>v=iv (idxV (xs.findIdx? q))/\Ext w w':=by
 refine F119_ok t t1 w _ ?_
 have hn:=rdN sv_len (by omega) h
 have e:F119 t t1 w (fun v w'=>v=iv (idxV (xs.findIdx? q))/\Ext w w')=IndexF Tryz.prog (fun W b o i (x:Spn)=>CellsAt W b (o+i*2) [.int .i64 x.1,.int .i64 x.2]) spV t t1 w (fun v w'=>v=iv (idxV (xs.findIdx? q))/\Ext w w'):=rfl
 rw[e]
 refine IndexF_of xs id q hn (by omega) (fun i x W hx e=>?_) (fun i x W hx e R' hR=>hq x W (List.mem_of_getElem? hx) e R' hR) fun w' e=>⟨rfl,e⟩
 obtain⟨hi,_⟩:=List.getElem?_eq_some_iff.1 hx
 obtain⟨b,o,hp,hc⟩:=(h.ext e).elem (i:=i) (by omega) (by omega) (flatGet sv_len hx)
 exact⟨b,o,hp,hc⟩
theorem c82{w:World}{t0:Sl}{xs:List Spn}{t1:Nat×Array Value}{q:Spn->Bool}(ho:OwS w t0 2 (xs.flatMap sv))(hn:xs.length<=1000000)
  (hq:∀(x:Spn)(W:World),x∈xs->Ch (fun i=>i∈blk t0) w W->∀R':RV,(∀w',Ext W w'->R' (.bool (q x)) w')->Cx t1.1 { toList:=spV x::t1.2.toList } W R'):
  Cw 82 #[slV t0,.func (.func t1.1) #[] t1.2] w fun v w'=>∃t',v=slV t'/\OwS w' t' 2 ((xs.filter fun x=> !q x).flatMap sv)/\t'.p=t0.p/\Ch (fun i=>i∈blk t0) w w':=by
 have htn:=owsN sv_len (by omega) ho
 have hl:=sv_len
 refine F82_ok t0 t1 w _ ((c119 ho.rd hn fun x W hx e=>hq x W hx (e.mono fun _ _ h=>h.elim)).use ?_)
 rintro _ w2 ⟨rfl,e2⟩
 refine⟨_,rfl,?_⟩
 cases hf:xs.findIdx? q with
 | none=>
  refine IfB.yes rfl ?_
  have:(xs.filter fun x=> !q x)=xs:=List.filter_eq_self.2 fun x hx=>by rw[List.findIdx?_eq_none_iff.1 hf x hx];rfl
  exact⟨t0,rfl,by rw[this];exact ho.ext e2,rfl,e2.mono fun _ _ h=>h.elim⟩
 | some i0=>
  obtain⟨hi0,hqi,hlow⟩:=List.findIdx?_eq_some_iff_getElem.1 hf
  refine IfB.no (by simp[idxV]) ?_
  have hx0:xs[i0]? =some xs[i0]:=List.getElem?_eq_getElem hi0
  have hkeep0:(xs.take i0).filter (fun x=> !q x)=xs.take i0:=List.filter_eq_self.2 fun x hx=>by
   obtain⟨j,hj,rfl⟩:=List.getElem_of_mem hx
   rw[List.length_take] at hj
   rw[List.getElem_take]
   have:=hlow j (by omega)
   simpa using this
  have hkeep1:(xs.take (i0+1)).filter (fun x=> !q x)=xs.take i0:=by rw[takeFilter hx0,hkeep0,hqi];simp
  refine⟨fun n x W=>∃(j:Nat)(gs:List Spn),gs≠[]/\n+j=xs.length/\((xs.take j).filter fun x=> !q x).length+gs.length=j/\j<=xs.length/\x=((((xs.take j).filter fun x=> !q x).length:Int),(j:Int))/\OwS W t0 2 ((((xs.take j).filter fun x=> !q x)++gs++xs.drop j).flatMap sv)/\Ch (fun i=>i∈blk t0) w W,
   ⟨xs.length-(i0+1),i0+1,[xs[i0]],by simp,by omega,by rw[hkeep1,List.length_take];simp;omega,by omega,?_,?_,e2.mono fun _ _ h=>h.elim⟩,?_⟩
  ·rw[hkeep1,List.length_take,Nat.min_eq_left (by omega)]
   show ((i0:Int),IntKind.i64.wrap ((i0:Int)+1))=_
   rw[wrap_of (by omega) (by omega)];rfl
  ·rw[hkeep1]
   have:xs.take i0++[xs[i0]]++xs.drop (i0+1)=xs:=by
    rw[List.append_assoc,List.singleton_append,<-List.drop_eq_getElem_cons hi0,List.take_append_drop]
   rw[this]
   exact ho.ext e2
  ·rintro n _ W g ⟨j,gs,hgs,hnj,hlen,hj,rfl,hO,hC⟩
   generalize hkd:(xs.take j).filter (fun x=> !q x)=kd at hlen hO
   have hg0:0<gs.length:=List.length_pos_iff.2 hgs
   have hcap:=ho.cap
   obtain⟨b,hp⟩:=ho.ptr (by omega)
   have hbl:b<w.heap.size:=ho.lt b (by simp[blk,hp])
   unfold F82j1
   refine IfB.dec (fun hlt=>?_) fun hge=>?_
   ·have hj':j<xs.length:=by dsimp only at hlt;omega
    have hx:xs[j]? =some xs[j]:=List.getElem?_eq_getElem hj'
    have hxm:=List.mem_of_getElem? hx
    have htf:=takeFilter (p:=fun x=> !q x) hx
    rw[hkd] at htf
    have hdrop:xs.drop j=xs[j]::xs.drop (j+1):=List.drop_eq_getElem_cons hj'
    generalize xs[j]=x at hx hxm htf hdrop
    have hLx:(kd++gs++xs.drop j)[j]? =some x:=by
     rw[List.getElem?_append_right (by rw[List.length_append];omega),List.length_append,show j-(kd.length+gs.length)=0 by omega,hdrop];rfl
    obtain⟨b',hp',hc⟩:=hO.elem (i:=j) (by omega) (flatGet hl hLx)
    rw[hp] at hp';cases hp'
    refine⟨b,0,hp,⟨by dsimp only;omega,hlt⟩,x,?_,boxSp rfl fun b14 w16 hb14 hs16 h16 e16 _=>⟨x,cellsAt_of h16 fun i v hv=>by simpa using hv,hq x w16 hxm (hC.then e16 fun _ _ h=>h.elim) _ fun w19 e19=>⟨q x,rfl,?_⟩⟩⟩
    ·dsimp only
     rw[Int.toNat_natCast,Nat.zero_add]
     exact hc
    ·have e15:Ext W w19:=e16.trans e19
     have h19:=e19.at h16
     have hO15:=hO.ext e15
     have hC15:=hC.then e15 fun _ _ h=>h.elim
     refine IfB.intro (fun hk=>?_) fun hk=>?_
     ·have hqx:q x=false:=by simpa using hk
      rw[hqx] at htf
      simp only[Bool.not_false,if_true] at htf
      refine⟨x,cellsAt_of h19 fun i v hv=>by simpa using hv,b,0,hp,⟨by dsimp only;omega,by show (kd.length:Int)<(t0.n:Int);omega⟩,rfl,?_⟩
      dsimp only
      rw[Int.toNat_natCast,Nat.zero_add]
      have hLl:(kd++gs++xs.drop j).length=xs.length:=by rw[List.length_append,List.length_append,List.length_drop];omega
      refine hO15.store (vs:=sv x) hp (by rw[hl];omega) (sv_one x) fun w19 hO19 hC19=>⟨rfl,n-1,by omega,j+1,gs.tail++[x],by simp,by omega,?_,by omega,?_,?_,hC15.then hC19 fun i _ e=>by simp[blk,hp,e]⟩
      ·rw[htf];simp;omega
      ·rw[htf,wrap_of (by omega) (by omega),wrap_of (by omega) (by omega)];simp
      ·rw[hl,flatSet hl (by omega)] at hO19
       rw[htf]
       have:(kd++gs++xs.drop j).set kd.length x=kd++[x]++(gs.tail++[x])++xs.drop (j+1):=by
        rw[hdrop]
        cases gs with
        | nil=>exact absurd rfl hgs
        | cons g0 gs=>simp
       rw[<-this];exact hO19
     ·have hqx:q x=true:=by simpa using hk
      rw[hqx] at htf
      simp only[Bool.not_true,Bool.false_eq_true,if_false,List.append_nil] at htf
      refine⟨rfl,n-1,by omega,j+1,gs++[x],by simp,by omega,by rw[htf];simp;omega,by omega,?_,?_,hC15⟩
      ·rw[htf];dsimp only;rw[wrap_of (by omega) (by omega)];rfl
      ·rw[htf]
       rw[hdrop] at hO15
       simpa using hO15
   ·have hjn:j=xs.length:=by dsimp only at hge;omega
    subst hjn
    rw[List.take_length] at hkd
    rw[List.drop_length,List.append_nil] at hO
    have hkl:kd.length<t0.n:=by omega
    refine⟨⟨by dsimp only;omega,by show (kd.length:Int)<=(t0.n:Int);omega⟩,?_⟩
    dsimp only
    rw[Int.toNat_natCast,hp,slAddr_some]
    have hcut:=hO.cut (k:=kd.length) (by omega)
    rw[flatTake hl,List.take_append_of_le_length (Nat.le_refl _),List.take_length] at hcut
    dsimp only
    rw[if_neg (by omega),Nat.zero_add]
    refine hcut.storeTail hp (Nat.le_refl _) (by rw[zc_len];show kd.length*2+(t0.n-kd.length)*2<=t0.c*2;omega) (zc_one (by intro y hy;simp at hy;rcases hy with rfl|rfl<;>rfl) _) fun w25 hO25 hC25=>⟨⟨by omega,by omega⟩,⟨t0.p,kd.length,t0.c⟩,?_,by rw[hkd];exact hO25,hp,hC.then hC25 fun i _ e=>by simp[blk,hp,e]⟩
    rw[<-hp,slAddr_zero]
theorem F120_eq(t0:Sl)(t1:Int)(w:World)(R:RV):F120 t0 t1 w R=GrowF tt71 71 2 t0 t1 w R:=by kernel_rfl
theorem c120{k:Nat}(hk:k<=1000000)(w:World):Cw 120 #[.slice none 0 0,.int .i64 k] w fun v w'=>∃t',v=slV t'/\OwS w' t' 2 []/\t'.n=0/\Ext w w'/\∀j∈blk t',w.heap.size<=j:=by
 refine F120_ok ⟨none,0,0⟩ k w _ ?_
 rw[F120_eq]
 refine GrowF_nil rfl rfl (by intro y hy;simp[Value.cells] at hy;rcases hy with rfl|rfl<;>rfl) ⟨by omega,by dsimp only;omega⟩ (by decide) (by omega) ?_
 intro s' w' ho hn he hb
 exact⟨s',rfl,ho,hn,he,hb⟩
abbrev SpL:=Sl×List Spn
abbrev hS(x:SpL):Value:=slV x.1
def sumS(xs:List SpL):Nat:=(xs.flatMap (·.2)).length
theorem sumS_take{xs:List SpL}{i:Nat}{x:SpL}(h:xs[i]? =some x):sumS (xs.take (i+1))=sumS (xs.take i)+x.2.length:=by
 unfold sumS;rw[take_succ_get h];simp
theorem sumS_le(xs:List SpL)(i:Nat):sumS (xs.take i)<=sumS xs:=by
 unfold sumS
 conv=>rhs;rw[<-List.take_append_drop i xs]
 rw[List.flatMap_append,List.length_append];omega
theorem c83{w:World}{t:Sl}{xs:List SpL}(h:Rd w t 1 (xs.map hS))(hx:∀x∈xs,Rd w x.1 2 (x.2.flatMap sv))(hl:sumS xs<=1000000)(hn:xs.length<=1000):
  Cw 83 #[slV t] w fun v w'=>∃t',v=slV t'/\OwS w' t' 2 ((xs.flatMap (·.2)).flatMap sv)/\Ext w w'/\∀j∈blk t',w.heap.size<=j:=by
 have htn:t.n=xs.length:=by rw[h.len1,List.length_map]
 have elem:∀(i:Nat)(w5:World),Ext w w5->i<xs.length->∃x a o,xs[i]? =some x/\t.p=some ⟨a,o,none⟩/\w5.cell? ⟨a,o+i,none⟩=some (slV x.1)/\Rd w5 x.1 2 (x.2.flatMap sv)/\x.1.n=x.2.length:=by
  intro i w5 e hi
  have hxi:xs[i]? =some xs[i]:=List.getElem?_eq_getElem hi
  obtain⟨a,o,ha,hc⟩:=(h.ext e).elem1 (i:=i) (v:=hS xs[i]) (by rw[List.getElem?_map,hxi];rfl)
  have ho:=(hx xs[i] (List.getElem_mem hi)).ext e
  exact⟨xs[i],a,o,hxi,ha,hc,ho,rdN sv_len (by omega) ho⟩
 refine F83_ok t w _ ?_
 refine⟨fun n x w5=>∃i:Nat,i<=xs.length/\n+i=xs.length/\x=((sumS (xs.take i):Int),(i:Int))/\w5=w,⟨xs.length,0,Nat.zero_le _,rfl,rfl,rfl⟩,?_⟩
 rintro n x w5 g ⟨i,hi,hni,rfl,rfl⟩
 unfold F83j1
 refine IfB.dec (fun hlt=>?_) (fun hge=>?_)
 ·have hi':i<xs.length:=by
   have:(i:Int)<(t.n:Int):=hlt
   omega
  obtain⟨y,a,o,hy,ha,hc,ho,hyn⟩:=elem i w5 (Ch.refl _ _) hi'
  have h1:=sumS_take hy
  have h2:=sumS_le xs (i+1)
  have e1:IntKind.i64.wrap ((sumS (xs.take i):Int)+(y.1.n:Int))=(sumS (xs.take (i+1)):Int):=by rw[wrap_of (by omega) (by omega)];omega
  refine⟨a,o,ha,(⟨by omega,by omega⟩:(0:Int)<=(i:Int)/\(i:Int)<(t.n:Int)),y.1,by rw[Int.toNat_natCast];exact hc,?_⟩
  dsimp only
  rw[e1]
  refine IfB.no (by simp) ⟨rfl,n-1,by omega,i+1,hi',by omega,?_,rfl⟩
  rw[wrap_of (by omega) (by omega)];rfl
 ·have hi':i=xs.length:=by
   have:¬(i:Int)<(t.n:Int):=hge
   omega
  subst hi'
  have hT:sumS (xs.take xs.length)=sumS xs:=by rw[List.take_length]
  dsimp only
  rw[hT]
  refine(c120 hl w5).use ?_
  rintro _ w13 ⟨t1,rfl,ho1,hn1,e13,hb1⟩
  refine⟨t1,rfl,fun n x w19=>∃i t2,i<=xs.length/\n+i=xs.length/\x=(t2,(i:Int))/\OwS w19 t2 2 (((xs.take i).flatMap (·.2)).flatMap sv)/\Ext w5 w19/\∀j∈blk t2,w5.heap.size<=j,⟨xs.length,0,t1,Nat.zero_le _,rfl,rfl,ho1,e13,hb1⟩,?_⟩
  rintro n x w19 g ⟨i,t2,hi,hni,rfl,ho2,e19,hb2⟩
  unfold F83j2
  refine IfB.dec (fun hlt=>?_) (fun hge=>?_)
  ·have hi':i<xs.length:=by
    have:(i:Int)<(t.n:Int):=hlt
    omega
   obtain⟨y,a,o,hy,ha,hc,ho,hyn⟩:=elem i w19 e19 hi'
   have h1:=sumS_take hy
   have h2:=sumS_le xs (i+1)
   have ht2:t2.n=sumS (xs.take i):=owsN sv_len (by omega) ho2
   refine⟨a,o,ha,(⟨by omega,by omega⟩:(0:Int)<=(i:Int)/\(i:Int)<(t.n:Int)),y.1,by rw[Int.toNat_natCast];exact hc,y.2.flatMap sv,ho.2,?_⟩
   refine ho2.append (cnt:=y.1.n) rfl rfl ho.1 (flatOne sv_one _) ⟨by omega,by dsimp only;omega⟩ ?_
   intro s' w' ho' hn' hc' hb' _
   refine⟨rfl,n-1,by omega,i+1,s',hi',by omega,?_,?_,?_,?_⟩
   ·rw[wrap_of (by dsimp only;omega) (by dsimp only;omega)];rfl
   ·rw[take_succ_get hy,List.flatMap_append,List.flatMap_append]
    simpa using ho'
   ·exact e19.then hc' fun j hj hjb=>by have:=hb2 j hjb;omega
   ·intro j hj
    rcases hb' j hj with h|h
    ·exact hb2 j h
    ·have:=e19.size;omega
  ·have hi':i=xs.length:=by
    have:¬(i:Int)<(t.n:Int):=hge
    omega
   subst hi'
   rw[List.take_length] at ho2
   exact⟨t2,rfl,ho2,e19,hb2⟩
def NormS(l:List Spn):Prop:=l.Pairwise (fun a b=>a.2+1<b.1)/\∀x∈l,mayS x
structure PlI(os ds:List Spn):Prop where
 norm:NormS os
 has:∀k,hasS os k↔hasS ds k
 lo:∀y∈os,∃d∈ds,y.1=d.1
 len:os.length<=ds.length
theorem PlI.nil:PlI [] []:=⟨⟨.nil,by simp⟩,fun k=>Iff.rfl,by simp,Nat.le_refl _⟩
theorem hasS_append(a b:List Spn)(k:Int):hasS (a++b) k↔hasS a k\/hasS b k:=by
 unfold hasS
 constructor
 ·rintro⟨x,hx,h⟩
  rcases List.mem_append.1 hx with hx|hx
  ·exact .inl ⟨x,hx,h⟩
  ·exact .inr ⟨x,hx,h⟩
 ·rintro(⟨x,hx,h⟩|⟨x,hx,h⟩)
  ·exact⟨x,List.mem_append.2 (.inl hx),h⟩
  ·exact⟨x,List.mem_append.2 (.inr hx),h⟩
theorem hasS_one(s:Spn)(k:Int):hasS [s] k↔mayS s/\s.1<=k/\k<=s.2:=by simp[hasS]
theorem PlI.add{os ds:List Spn}{s:Spn}(h:PlI os ds)(hs:mayS s)(hb:∀y∈os,y.2+1<s.1):PlI (os++[s]) (ds++[s]):=by
 refine⟨⟨List.pairwise_append.2 ⟨h.norm.1,by simp,fun a ha b hb'=>?_⟩,fun x hx=>?_⟩,fun k=>?_,fun y hy=>?_,?_⟩
 ·rw[List.mem_singleton.1 hb'];exact hb a ha
 ·rcases List.mem_append.1 hx with hx|hx
  ·exact h.norm.2 x hx
  ·rw[List.mem_singleton.1 hx];exact hs
 ·rw[hasS_append,hasS_append,h.has]
 ·rcases List.mem_append.1 hy with hy|hy
  ·obtain⟨d,hd,e⟩:=h.lo y hy
   exact⟨d,List.mem_append.2 (.inl hd),e⟩
  ·exact⟨y,List.mem_append.2 (.inr hy),rfl⟩
 ·have:=h.len;simp;omega
theorem PlI.grow{pre ds:List Spn}{l s:Spn}{m:Int}(h:PlI (pre++[l]) ds)(hs:mayS s)(hd:∀d∈ds,d.1<=s.1)(hb:s.1<=l.2+1)(hm:m=if l.2<s.2 then s.2 else l.2):PlI (pre++[(l.1,m)]) (ds++[s]):=by
 obtain⟨d0,hd0,e0⟩:=h.lo l (by simp)
 have hls:l.1<=s.1:=by rw[e0];exact hd d0 hd0
 have hml:=h.norm.2 l (by simp)
 obtain⟨p1,_,p3⟩:=List.pairwise_append.1 h.norm.1
 have hm1:l.2<=m:=by subst hm;split<;>omega
 have hm2:s.2<=m:=by subst hm;split<;>omega
 have hm3:m=s.2\/m=l.2:=by subst hm;split<;>simp
 have hmm:mayS (l.1,m):=by unfold mayS at*;dsimp only;omega
 refine⟨⟨List.pairwise_append.2 ⟨p1,by simp,fun a ha b hb'=>?_⟩,fun x hx=>?_⟩,fun k=>?_,fun y hy=>?_,?_⟩
 ·rw[List.mem_singleton.1 hb'];exact p3 a ha l (by simp)
 ·rcases List.mem_append.1 hx with hx|hx
  ·exact h.norm.2 x (by simp[hx])
  ·rw[List.mem_singleton.1 hx];exact hmm
 ·rw[hasS_append,hasS_append,<-h.has,hasS_append,hasS_one,hasS_one,hasS_one,or_assoc]
  refine or_congr Iff.rfl ?_
  unfold mayS at*
  dsimp only at*
  omega
 ·rcases List.mem_append.1 hy with hy|hy
  ·obtain⟨d,hd,e⟩:=h.lo y (by simp[hy])
   exact⟨d,List.mem_append.2 (.inl hd),e⟩
  ·rw[List.mem_singleton.1 hy]
   exact⟨d0,List.mem_append.2 (.inl hd0),e0⟩
 ·have:=h.len;simp at this ⊢;omega
theorem hasS_filter(xs:List Spn)(k:Int):hasS (xs.filter fun x=> !!decide (mayS x)) k↔hasS xs k:=by
 unfold hasS
 constructor
 ·rintro⟨x,hx,h⟩;exact⟨x,(List.mem_filter.1 hx).1,h⟩
 ·rintro⟨x,hx,h⟩;exact⟨x,List.mem_filter.2 ⟨hx,by simp[h.1]⟩,h⟩
theorem hasS_perm{xs ys:List Spn}(h:xs.Perm ys)(k:Int):hasS xs k↔hasS ys k:=by
 unfold hasS
 exact⟨fun⟨x,hx,r⟩=>⟨x,h.mem_iff.1 hx,r⟩,fun⟨x,hx,r⟩=>⟨x,h.mem_iff.2 hx,r⟩⟩
theorem last_split{os:List Spn}(h:0<os.length):∃pre l,os=pre++[l]:=by
 have hne:os≠[]:=List.length_pos_iff.1 h
 exact⟨os.dropLast,os.getLast hne,(List.dropLast_concat_getLast hne).symm⟩
theorem c50{w:World}{t:Sl}{xs:List SpL}(h:Rd w t 1 (xs.map hS))(hx:∀x∈xs,Rd w x.1 2 (x.2.flatMap sv))(hl:sumS xs<=1000000)(hn:xs.length<=1000):
  Cw 50 #[slV t] w fun v w'=>∃t' os,v=slV t'/\NormS os/\(∀k,hasS os k↔hasS (xs.flatMap (·.2)) k)/\OwS w' t' 2 (os.flatMap sv)/\os.length<=sumS xs/\Ext w w'/\∀j∈blk t',w.heap.size<=j:=by
 refine F50_ok t w _ ((c83 h hx hl hn).use ?_)
 rintro _ w2 ⟨s3,rfl,ho3,e2,hb3⟩
 obtain⟨all,hall⟩:∃all,all=xs.flatMap (·.2):=⟨_,rfl⟩
 have hal:all.length=sumS xs:=by rw[hall];rfl
 rw[<-hall] at ho3 ⊢
 refine⟨s3,rfl,(c82 (t1:=(84,#[])) (q:=fun x=> !decide (mayS x)) ho3 (by omega) fun x W hx hC R' hR=>(c84 x W).use fun v w' ⟨hv,e⟩=>hv ▸ hR w' e).use ?_⟩
 rintro _ w5 ⟨s6,rfl,ho6,hp6,hC5⟩
 have hb6:blk s6=blk s3:=by simp[blk,hp6]
 have e5:Ext w w5:=e2.then hC5 fun i hi h=>by have:=hb3 i h;omega
 have hfl:=List.length_filter_le (fun x:Spn=> !!decide (mayS x)) all
 refine⟨s6,rfl,(SfS.c86 c87 ho6 (by omega)).use ?_⟩
 rintro _ w8 ⟨rfl,zs,hperm,hsort,ho8,hC8⟩
 have e8:Ext w w8:=e5.then hC8 fun i hi h=>by rw[hb6] at h;have:=hb3 i h;omega
 have hzl:zs.length<=sumS xs:=by have:=hperm.length_eq;omega
 have hzm:∀x∈zs,mayS x:=fun x hx=>by
  have:=(List.mem_filter.1 (hperm.mem_iff.1 hx)).2
  simpa using this
 have hzk:∀k,hasS zs k↔hasS all k:=fun k=>(hasS_perm hperm k).trans (hasS_filter all k)
 have hzn:=owsN sv_len (by omega) ho8
 have hzs:∀i(hi:i<zs.length),∀d∈zs.take i,d.1<=zs[i].1:=fun i hi d hd=>by
  obtain⟨j,hj,rfl⟩:=List.getElem_of_mem hd
  rw[List.length_take] at hj
  rw[List.getElem_take]
  exact List.pairwise_iff_getElem.1 hsort j i (by omega) hi (by omega)
 have hR8:=ho8.rd
 refine⟨(),rfl,fun n x W=>∃(i:Nat)(so:Sl)(os:List Spn),i<=zs.length/\n+i=zs.length/\x=(so,(i:Int))/\PlI os (zs.take i)/\OwS W so 2 (os.flatMap sv)/\Ext w8 W/\∀j∈blk so,w8.heap.size<=j,
  ⟨zs.length,0,⟨none,0,0⟩,[],Nat.zero_le _,rfl,rfl,.nil,.nil _ _,Ch.refl _ _,by simp[blk]⟩,?_⟩
 rintro n _ W g ⟨i,so,os,hi,hni,rfl,hI,ho,hE,hbo⟩
 have hon:=owsN sv_len (by omega) ho
 have hol:=hI.len
 rw[List.length_take] at hol
 unfold F50j1
 refine IfB.dec (fun hlt=>?_) fun hge=>?_
 ·have hi':i<zs.length:=by
   have:(i:Int)<(s6.n:Int):=hlt
   omega
  have hz:zs[i]? =some zs[i]:=List.getElem?_eq_getElem hi'
  have hms:=hzm _ (List.getElem_mem hi')
  have hds:=hzs i hi'
  generalize zs[i]=s at hz hms hds
  obtain⟨a,o,hp,hc⟩:=(hR8.ext hE).elem (i:=i) (by omega) (by omega) (flatGet sv_len hz)
  have htk:=take_succ_get hz
  refine⟨a,o,hp,(⟨by omega,by omega⟩:(0:Int)<=(i:Int)/\(i:Int)<(s6.n:Int)),s,by rw[Int.toNat_natCast];exact hc,boxSp rfl fun b20 w22 hb20 hs22 h22 e22 _=>?_⟩
  have ho22:=ho.ext e22
  have hi1:IntKind.i64.wrap ((i:Int)+1)=((i+1:Nat):Int):=by rw[wrap_of (by omega) (by omega)];rfl
  have app:(∀y∈os,y.2+1<s.1)->∀(w2:World),Ext w22 w2->∃(x42:Int×Int),CellsAt w2 b20 0 [.int .i64 x42.1,.int .i64 x42.2]/\1*2<=16777216/\
    AllocP w2 (.cells #[.int .i64 x42.1,.int .i64 x42.2] 71) fun b43 w44=>∃l45,ReadC w44 (some ⟨b43,0,none⟩) (1*2) l45/\
    AppendP tt71 71 w44 so.1 so.2 so.3 1 l45 fun s46 w47=>([]:List Df)=[]/\∃b48,b48<n/\∃(i':Nat)(so':Sl)(os:List Spn),i'<=zs.length/\b48+i'=zs.length/\(({ p:=s46.1,n:=s46.2,c:=s46.3 }:Sl),IntKind.i64.wrap ((i:Int)+1))=(so',(i':Int))/\PlI os (zs.take i')/\OwS w47 so' 2 (os.flatMap sv)/\Ext w8 w47/\∀j∈blk so',w8.heap.size<=j:=by
   intro hb w2 e2
   refine⟨s,cellsAt_of (e2.at h22) fun i v hv=>by simpa using hv,by decide,fun b43 w44 h44=>?_⟩
   have e44:Ext w22 w44:=e2.trans (h44.ch _)
   refine(ho22.ext e44).lit (new:=sv s) (T':=71) h44.new rfl (sv_one s) rfl rfl (by omega) (by decide) fun s' w' ho' hn' hC' hb'=>⟨rfl,n-1,by omega,i+1,s',os++[s],hi',by omega,by rw[hi1],?_,?_,?_,?_⟩
   ·rw[htk];exact hI.add hms hb
   ·rw[List.flatMap_append];simpa using ho'
   ·exact(hE.trans (e22.trans e44)).then hC' fun j hj h=>by have:=hbo j h;omega
   ·intro j hj
    rcases hb' j hj with h|h
    ·exact hbo j h
    ·have:=hE.size;have:=(e22.trans e44).size;omega
  refine IfB.dec (fun h0=>?_) fun h0=>?_
  ·have h0':0<os.length:=by
    have:(0:Int)<(so.n:Int):=h0
    omega
   obtain⟨pre,l,hos⟩:=last_split h0'
   have hol':os.length=pre.length+1:=by rw[hos];simp
   have hgl:os[pre.length]? =some l:=by rw[hos];simp
   have hml:mayS l:=hI.norm.2 l (by rw[hos];simp)
   have hd:∀W2,Ext w22 W2->∃a2,so.p=some ⟨a2,0,none⟩/\CellsAt W2 a2 (pre.length*2) [.int .i64 l.1,.int .i64 l.2]:=fun W2 e=>(ho22.ext e).elem (i:=pre.length) (by omega) (flatGet sv_len hgl)
   have ed:=extDrew w22
   have edd:=ed.trans (extDrew w22.drew)
   obtain⟨a2,hp2,hc2⟩:=hd _ ed
   obtain⟨a3,hp3,hc3⟩:=hd _ edd
   rw[hp2] at hp3;cases hp3
   have hwn:IntKind.i64.wrap ((so.n:Int)-1)=((pre.length:Nat):Int):=by rw[wrap_of (by omega) (by omega)];omega
   have hw2:IntKind.i64.wrap (l.2+1)=l.2+1:=by unfold mayS at hml;rw[wrap_of (by omega) (by omega)]
   have q0:∀W2,Ext w22 W2->W2.cell? ⟨b20,0+0,none⟩=some (.int .i64 s.1):=fun W2 e=>by rw[cell_of (e.at h22)];rfl
   have q1:∀W2,Ext w22 W2->W2.cell? ⟨b20,0+1,none⟩=some (.int .i64 s.2):=fun W2 e=>by rw[cell_of (e.at h22)];rfl
   refine⟨s.1,q0 _ ed,a2,0,hp2,?_,l.2,?_,?_⟩
   ·dsimp only;rw[hwn];omega
   ·dsimp only;rw[hwn,Int.toNat_natCast,Nat.zero_add];exact hc2.snd
   ·try dsimp only
    rw[hw2]
    refine IfB.dec (fun hle=>?_) fun hgt=>?_
    ·refine⟨a2,0,hp2,?_,l.2,?_,s.2,q1 _ edd,a2,0,hp2,?_,rfl,?_⟩
     ·(try dsimp only);rw[hwn];omega
     ·(try dsimp only);rw[hwn,Int.toNat_natCast,Nat.zero_add];exact hc3.snd
     ·(try dsimp only);rw[hwn];omega
     ·(try dsimp only);rw[hwn,Int.toNat_natCast,Nat.zero_add]
      refine(ho22.ext edd).store (vs:=[.int .i64 (if l.2<s.2 then s.2 else l.2)]) hp2 (by simp;omega) (by intro v hv;rw[List.mem_singleton.1 hv];rfl) fun w33 ho33 hC33=>?_
      refine⟨rfl,n-1,by omega,i+1,so,pre++[(l.1,if l.2<s.2 then s.2 else l.2)],hi',by omega,by rw[hi1],?_,?_,?_,hbo⟩
      ·rw[htk];exact PlI.grow (hos ▸ hI) hms hds hle rfl
      ·have e1:(os.flatMap sv)=(pre.flatMap sv++[.int .i64 l.1])++[.int .i64 l.2]:=by rw[hos];simp
       have e2:(pre.flatMap sv++[Value.int .i64 l.1]).length=pre.length*2+1:=by simp[flatLen sv_len]
       rw[e1,<-e2,List.take_append_of_le_length (Nat.le_refl _),List.take_length,List.drop_of_length_le (by simp)] at ho33
       simpa using ho33
      ·exact(hE.trans (e22.trans edd)).then hC33 fun j hj e=>by have:=hbo j (by simp[blk,hp2,e]);omega
    ·unfold F50k1
     refine app (fun y hy=>?_) _ ed
     have hgt':l.2+1<s.1:=by omega
     rw[hos] at hy
     rcases List.mem_append.1 hy with hy|hy
     ·have:=(List.pairwise_append.1 (hos ▸ hI.norm.1)).2.2 y hy l (by simp)
      unfold mayS at hml;omega
     ·rw[List.mem_singleton.1 hy];exact hgt'
  ·have h0':os=[]:=List.length_eq_zero_iff.1 (by
    have:¬(0:Int)<(so.n:Int):=h0
    omega)
   unfold F50k1
   exact app (by rw[h0'];simp) _ (extDrew _)
 ·have hi':i=zs.length:=by
   have:¬(i:Int)<(s6.n:Int):=hge
   omega
  subst hi'
  rw[List.take_length] at hI
  exact⟨so,os,rfl,hI.norm,fun k=>(hI.has k).trans (hzk k),ho,by omega,e8.trans hE,fun j hj=>by have:=hbo j hj;have:=e8.size;omega⟩
end Go.Proofs.YtoahfpabpdjkkaaGreat.Gx
