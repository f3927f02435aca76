/- Written by mkf.py: what is to be shown of functions, as Gx reckons it from their code. -/
import Derived.Test.YtopecljhehcldaaGxT
namespace Go.Proofs.Ytopecljhehcldaa.Gx
open Go
set_option linter.unusedVariables false
set_option maxRecDepth 100000

def F4k1 (t1 : Sl) (n34 : Int) (w35 : World) (b12 : Nat) (b33 : Nat) (y31 : Nat → Int → World → Prop) : Prop :=
 ∃ (b38 : Nat),
 ∃ (b39 : Nat),
 t1.1 = some ({ block := b38, off := b39 } : Addr) ∧
 ((0 : Int) ≤ n34 ∧ n34 < (t1.2 : Int)) ∧
 ∃ (n40 : Int),
 w35.drew.cell? ({ block := b38, off := b39 + n34.toNat * (2 : Nat) + (0 : Nat) } : Addr) = some (Value.int IntKind.i64 n40) ∧
 ∃ (b41 : Nat),
 ∃ (b42 : Nat),
 t1.1 = some ({ block := b41, off := b42 } : Addr) ∧
 ((0 : Int) ≤ n34 ∧ n34 < (t1.2 : Int)) ∧
 ∃ (n43 : Int),
 w35.drew.cell? ({ block := b41, off := b42 + n34.toNat * (2 : Nat) + (1 : Nat) } : Addr) = some (Value.int IntKind.i64 n43) ∧
 CX Try.prog (20 : Nat) #[Value.pointer (some ({ block := b12, off := (0 : Nat) } : Addr)), Value.int IntKind.i64 n40, Value.int IntKind.i64 n43] w35.drew fun (v44 : Value) (w45 : World) =>
 ∃ (n46 : Int), v44 = Value.int IntKind.i64 n46 ∧ ([] : List Nat) = [] ∧ ∃ (b47 : Nat), b47 < b33 ∧ y31 b47 (IntKind.i64.wrap (n34 + (1 : Int))) w45
def F4j2 (t1 : Sl) (t2 : Int) (t3 : Int) (R : Value → World → Prop) (p6 : Option Addr) (p9 : Option Addr) (b10 : Nat) (b12 : Nat) (y31 : Nat → Int → World → Prop) (b33 : Nat) (n34 : Int) (w35 : World) : Prop :=
 IfB (decide (n34 < (t1.n : Int)))
 (F4k1 t1 n34 w35 b12 b33 y31)
 (CX Try.prog (21 : Nat) #[Value.pointer p6, Value.pointer (some ({ block := b10, off := (0 : Nat) } : Addr))] w35.drew fun (v48 : Value) (w49 : World) =>
 ∃ (t50 : Bool),
 v48 = Value.bool t50 ∧
 IfB t50
 (CX Try.prog (23 : Nat) #[Value.pointer p6, Value.int IntKind.i64 t2, Value.int IntKind.i64 t3] w49 fun (v51 : Value) (w52 : World) =>
 ∃ (s53 : Sl),
 v51 = Value.slice s53.1 s53.2 s53.3 ∧
 CX Try.prog (24 : Nat) #[Value.pointer (some ({ block := b10, off := (0 : Nat) } : Addr)), Value.int IntKind.i64 t2, Value.int IntKind.i64 t3] w52 fun (v54 : Value) (w55 : World) =>
 ∃ (s56 : Sl),
 v54 = Value.slice s56.1 s56.2 s56.3 ∧
 CX Try.prog (22 : Nat) #[Value.slice s53.1 s53.2 s53.3, Value.slice s56.1 s56.2 s56.3] w55 fun (v57 : Value) (w58 : World) =>
 ∃ (t59 : Bool),
 v57 = Value.bool t59 ∧
 IfB t59
 (CX Try.prog (25 : Nat) #[Value.pointer p6, Value.pointer p9] w58 fun (v60 : Value) (w61 : World) =>
 ∃ (t62 : Bool),
 v60 = Value.bool t62 ∧
 CX Try.prog (26 : Nat) #[Value.pointer (some ({ block := b10, off := (0 : Nat) } : Addr))] w61 fun (v63 : Value) (w64 : World) =>
 ∃ (s65 : Sl),
 v63 = Value.slice s65.1 s65.2 s65.3 ∧
 CX Try.prog (26 : Nat) #[Value.pointer (some ({ block := b12, off := (0 : Nat) } : Addr))] w64 fun (v66 : Value) (w67 : World) =>
 ∃ (s68 : Sl),
 v66 = Value.slice s68.1 s68.2 s68.3 ∧
 CX Try.prog (22 : Nat) #[Value.slice s65.1 s65.2 s65.3, Value.slice s68.1 s68.2 s68.3] w67 fun (v69 : Value) (w70 : World) =>
 ∃ (t71 : Bool),
 v69 = Value.bool t71 ∧
 IfB (t62 == t71)
 (∃ (b72 : Nat),
 ∃ (b73 : Nat),
 some ({ block := b10, off := (0 : Nat) } : Addr) = some ({ block := b72, off := b73 } : Addr) ∧
 ∃ (s74 : Sl),
 w70.cell? ({ block := b72, off := b73 + (0 : Nat) } : Addr) = some (Value.slice s74.1 s74.2 s74.3) ∧
 CX Try.prog (25 : Nat) #[Value.pointer p6, Value.pointer none] w70 fun (v75 : Value) (w76 : World) =>
 ∃ (t77 : Bool), v75 = Value.bool t77 ∧ w76.cell? ({ block := b72, off := b73 + (0 : Nat) } : Addr) = some (Value.slice s74.1 s74.2 s74.3) ∧ R (Value.bool (t77 == ((s74.2 : Int) == (0 : Int)))) w76)
 (R (Value.bool false) w70))
 (R (Value.bool false) w58))
 (R (Value.bool false) w49))
def F4j1 (t0 : Sl) (t1 : Sl) (t2 : Int) (t3 : Int) (R : Value → World → Prop) (p6 : Option Addr) (p9 : Option Addr) (b10 : Nat) (b12 : Nat) (y14 : Nat → Int → World → Prop) (b16 : Nat) (n17 : Int) (w18 : World) : Prop :=
 IfB (decide (n17 < (t0.n : Int)))
 (F4k1 t0 n17 w18 b10 b16 y14)
 (∃ (y31 : Nat → Int → World → Prop),
 (∃ (b32 : Nat), y31 b32 (0 : Int) w18) ∧
 ∀ (b33 : Nat) (n34 : Int) (w35 : World) (y36 : Nat → Value),
 y31 b33 n34 w35 →
 (F4j2 t1 t2 t3 R p6 p9 b10 b12 y31 b33 n34 w35))
def F4 (t0 : Sl) (t1 : Sl) (t2 : Int) (t3 : Int) (w : World) (R : Value → World → Prop) : Prop :=
 CX Try.prog (18 : Nat) #[] w fun (v1 : Value) (w2 : World) =>
 ∃ (t3_1 : Bool),
 v1 = Value.bool t3_1 ∧
 IfB (!t3_1) (R (Value.bool false) w2)
 (IfB (decide ((150 : Int) < (t0.n : Int))) (R (Value.bool true) w2)
 (IfB (decide ((150 : Int) < (t1.n : Int))) (R (Value.bool true) w2)
 (CX Try.prog (19 : Nat) #[Value.slice t0.1 t0.2 t0.3] w2 fun (v4 : Value) (w5 : World) =>
 ∃ (p6 : Option Addr),
 v4 = Value.pointer p6 ∧
 CX Try.prog (19 : Nat) #[Value.slice t1.1 t1.2 t1.3] w5 fun (v7 : Value) (w8 : World) =>
 ∃ (p9 : Option Addr),
 v7 = Value.pointer p9 ∧
 AllocP w8 (Obj.cells #[Value.slice none (0 : Nat) (0 : Nat)] (34 : Nat)) fun (b10 : Nat) (w11 : World) =>
 AllocP w11 (Obj.cells #[Value.slice none (0 : Nat) (0 : Nat)] (34 : Nat)) fun (b12 : Nat) (w13 : World) =>
 ∃ (y14 : Nat → Int → World → Prop),
 (∃ (b15 : Nat), y14 b15 (0 : Int) w13) ∧
 ∀ (b16 : Nat) (n17 : Int) (w18 : World) (y19 : Nat → Value),
 y14 b16 n17 w18 →
 (F4j1 t0 t1 t2 t3 R p6 p9 b10 b12 y14 b16 n17 w18))))
theorem F4_ok (t0 : Sl) (t1 : Sl) (t2 : Int) (t3 : Int) (w : World) (R : Value → World → Prop) (h : F4 t0 t1 t2 t3 w R) : CW Try.prog 4 #[Value.slice t0.1 t0.2 t0.3, Value.slice t1.1 t1.2 t1.3, Value.int IntKind.i64 t2, Value.int IntKind.i64 t3] w R :=
  call_of tbOk mixed en4 Try.func4 rfl (.node (.nil) (.node (.nil) (.node (.nil) (.node (.nil) (.node (.nil) (.node (.node (.nil) (.loop [(13, .one (.int .i64))] [33, 34, 35, 36, 39, 40, 41, 42, 43, 44, 45, 46, 47, 48, 49, 50, 37, 38, 13] (.node (.nil) (.node (.draw (.st 0 (.st 1 (.st 2 (.st 3 (.st 4 (.st 5 (.st 6 (.st 7 (.st 8 (.st 9 (.st 10 (.ac 11 [] (.fin) (.non)))))))))))))) (.nil))))) (.node (.node (.nil) (.loop [(14, .one (.int .i64))] [51, 52, 53, 54, 57, 58, 59, 60, 61, 62, 63, 64, 65, 66, 67, 68, 55, 56, 14] (.node (.nil) (.node (.draw (.st 0 (.st 1 (.st 2 (.st 3 (.st 4 (.st 5 (.st 6 (.st 7 (.st 8 (.st 9 (.st 10 (.ac 11 [] (.fin) (.non)))))))))))))) (.nil))))) (.node (.draw (.st 0 (.st 1 (.ac 2 [] (.st 3 (.st 4 (.st 5 (.st 6 (.st 8 (.st 9 (.st 10 (.ac 7 [10, 9, 8] (.ac 11 [] (.ac 12 [] (.st 13 (.st 14 (.st 15 (.st 16 (.st 18 (.st 20 (.ac 17 [20, 18] (.ac 19 [20] (.ac 21 [] (.ac 22 [] (.st 23 (.st 24 (.st 25 (.st 26 (.st 28 (.st 29 (.st 30 (.st 31 (.st 32 (.st 33 (.ac 27 [33, 32, 31, 30, 29, 28] (.st 34 (.st 35 (.st 36 (.fin)))) (.non)))))))))))) (.non)) (.non)) (.non)) (.non)))))))) (.non)) (.non)) (.non))))))))) (.non))))) (.nil))))))))) (by kernel_rfl) (Nat.le_of_ble_eq_true (by kernel_rfl)) (Eq.mp (α := F4 t0 t1 t2 t3 w R) (by kernel_rfl) h)

def F5j2 (R : Value → World → Prop) (b4 : Nat) (b6 : Nat) (b8 : Nat) (y10 : Nat → Int → World → Prop) (b12 : Nat) (n13 : Int) (n19 : Int) (w49 : World) : Prop :=
 CX Try.prog (29 : Nat) #[Value.pointer (some ({ block := b4, off := (0 : Nat) } : Addr)), Value.int IntKind.i64 n19] w49 fun (v52 : Value) (w53 : World) =>
 ∃ (x54 : Int × Int),
 v52 = Value.tuple #[Value.int IntKind.i64 x54.1, Value.int IntKind.i64 x54.2] ∧
 ((0 : Int) ≤ n19 ∧ n19 < ((1000 : Nat) : Int)) ∧
 ∃ (t55 : Bool),
 w53.cell? ({ block := b8, off := (0 : Nat) + n19.toNat } : Addr) = some (Value.bool t55) ∧
 IfB (!(x54.2 == (0 : Int)) == t55) (R (Value.bool false) w53)
 (((0 : Int) ≤ n19 ∧ n19 < ((1000 : Nat) : Int)) ∧
 ∃ (t56 : Bool),
 w53.cell? ({ block := b8, off := (0 : Nat) + n19.toNat } : Addr) = some (Value.bool t56) ∧
 IfB t56
 (((0 : Int) ≤ n19 ∧ n19 < ((1000 : Nat) : Int)) ∧
 ∃ (n57 : Int),
 w53.cell? ({ block := b6, off := (0 : Nat) + n19.toNat } : Addr) = some (Value.int IntKind.i64 n57) ∧
 IfB (x54.1 != n57) (R (Value.bool false) w53) (([] : List Nat) = [] ∧ ∃ (b58 : Nat), b58 < b12 ∧ y10 b58 (IntKind.i64.wrap (n13 + (1 : Int))) w53))
 (([] : List Nat) = [] ∧ ∃ (b59 : Nat), b59 < b12 ∧ y10 b59 (IntKind.i64.wrap (n13 + (1 : Int))) w53))
def F5k2 (t0 : Sl) (n13 : Int) (w14 : World) (b12 : Nat) (y10 : Nat → Int → World → Prop) (b4 : Nat) (b8 : Nat) (b6 : Nat) (R : Value → World → Prop) : Prop :=
 ∃ (b17 : Nat),
 ∃ (b18 : Nat),
 t0.1 = some ({ block := b17, off := b18 } : Addr) ∧
 ((0 : Int) ≤ n13 ∧ n13 < (t0.2 : Int)) ∧
 ∃ (n19 : Int),
 w14.cell? ({ block := b17, off := b18 + n13.toNat * (3 : Nat) + (1 : Nat) } : Addr) = some (Value.int IntKind.i64 n19) ∧
 IfB (decide (n19 < (0 : Int))) (([] : List Nat) = [] ∧ ∃ (b20 : Nat), b20 < b12 ∧ y10 b20 (IntKind.i64.wrap (n13 + (1 : Int))) w14)
 (IfB (decide ((999 : Int) < n19)) (([] : List Nat) = [] ∧ ∃ (b21 : Nat), b21 < b12 ∧ y10 b21 (IntKind.i64.wrap (n13 + (1 : Int))) w14)
 (∃ (y22 : Unit → World → Prop),
 (∃ (b23 : Nat),
 ∃ (b24 : Nat),
 t0.1 = some ({ block := b23, off := b24 } : Addr) ∧
 ((0 : Int) ≤ n13 ∧ n13 < (t0.2 : Int)) ∧
 ∃ (n25 : Int),
 w14.cell? ({ block := b23, off := b24 + n13.toNat * (3 : Nat) + (0 : Nat) } : Addr) = some (Value.int IntKind.u8 n25) ∧
 ¬(8 : Int) = (0 : Int) ∧
 IfB (n25.tmod (8 : Int) == (4 : Int))
 (CX Try.prog (27 : Nat) #[Value.pointer (some ({ block := b4, off := (0 : Nat) } : Addr)), Value.int IntKind.i64 n19] w14 fun (v26 : Value) (w27 : World) =>
 ∃ (n28 : Int),
 v26 = Value.int IntKind.i64 n28 ∧
 ((0 : Int) ≤ n19 ∧ n19 < ((1000 : Nat) : Int)) ∧
 #[Value.bool false].size = (1 : Nat) ∧ StoreP w27 b8 ((0 : Nat) + n19.toNat) [Value.bool false] fun (w29 : World) => ([] : List Nat) = [] ∧ y22 PUnit.unit w29)
 (∃ (b30 : Nat),
 ∃ (b31 : Nat),
 t0.1 = some ({ block := b30, off := b31 } : Addr) ∧
 ((0 : Int) ≤ n13 ∧ n13 < (t0.2 : Int)) ∧
 ∃ (n32 : Int),
 w14.cell? ({ block := b30, off := b31 + n13.toNat * (3 : Nat) + (0 : Nat) } : Addr) = some (Value.int IntKind.u8 n32) ∧
 ¬(8 : Int) = (0 : Int) ∧
 IfB (n32.tmod (8 : Int) == (5 : Int))
 (CX Try.prog (27 : Nat) #[Value.pointer (some ({ block := b4, off := (0 : Nat) } : Addr)), Value.int IntKind.i64 n19] w14 fun (v33 : Value) (w34 : World) =>
 ∃ (n35 : Int),
 v33 = Value.int IntKind.i64 n35 ∧
 ((0 : Int) ≤ n19 ∧ n19 < ((1000 : Nat) : Int)) ∧
 #[Value.bool false].size = (1 : Nat) ∧ StoreP w34 b8 ((0 : Nat) + n19.toNat) [Value.bool false] fun (w36 : World) => ([] : List Nat) = [] ∧ y22 PUnit.unit w36)
 (∃ (b37 : Nat),
 ∃ (b38 : Nat),
 t0.1 = some ({ block := b37, off := b38 } : Addr) ∧
 ((0 : Int) ≤ n13 ∧ n13 < (t0.2 : Int)) ∧
 ∃ (n39 : Int),
 w14.cell? ({ block := b37, off := b38 + n13.toNat * (3 : Nat) + (2 : Nat) } : Addr) = some (Value.int IntKind.i64 n39) ∧
 CX Try.prog (28 : Nat) #[Value.pointer (some ({ block := b4, off := (0 : Nat) } : Addr)), Value.int IntKind.i64 n19, Value.int IntKind.i64 n39] w14 fun (v40 : Value) (w41 : World) =>
 ∃ (n42 : Int),
 v40 = Value.int IntKind.i64 n42 ∧
 ∃ (b43 : Nat),
 ∃ (b44 : Nat),
 t0.1 = some ({ block := b43, off := b44 } : Addr) ∧
 ((0 : Int) ≤ n13 ∧ n13 < (t0.2 : Int)) ∧
 ∃ (n45 : Int),
 w41.cell? ({ block := b43, off := b44 + n13.toNat * (3 : Nat) + (2 : Nat) } : Addr) = some (Value.int IntKind.i64 n45) ∧
 ((0 : Int) ≤ n19 ∧ n19 < ((1000 : Nat) : Int)) ∧
 #[Value.int IntKind.i64 n45].size = (1 : Nat) ∧
 StoreP w41 b6 ((0 : Nat) + n19.toNat) [Value.int IntKind.i64 n45] fun (w46 : World) =>
 ((0 : Int) ≤ n19 ∧ n19 < ((1000 : Nat) : Int)) ∧
 #[Value.bool true].size = (1 : Nat) ∧ StoreP w46 b8 ((0 : Nat) + n19.toNat) [Value.bool true] fun (w47 : World) => ([] : List Nat) = [] ∧ y22 PUnit.unit w47))) ∧
 ∀ (y48 : Unit) (w49 : World) (y50 : Nat → Value),
 y22 y48 w49 →
 (F5j2 R b4 b6 b8 y10 b12 n13 n19 w49)))
def F5k1 (n96 : Int) (s92 : Sl) (w97 : World) (b4 : Nat) (R : Value → World → Prop) (b95 : Nat) (y93 : Nat → Int → World → Prop) : Prop :=
 IfB (decide (IntKind.i64.wrap (n96 + (1 : Int)) < (s92.n : Int)))
 (∃ (b100 : Nat),
 ∃ (b101 : Nat),
 s92.1 = some ({ block := b100, off := b101 } : Addr) ∧
 ((0 : Int) ≤ IntKind.i64.wrap (n96 + (1 : Int)) ∧ IntKind.i64.wrap (n96 + (1 : Int)) < (s92.2 : Int)) ∧
 ∃ (n102 : Int),
 w97.cell? ({ block := b100, off := b101 + (IntKind.i64.wrap (n96 + (1 : Int))).toNat } : Addr) = some (Value.int IntKind.i64 n102) ∧
 ∃ (b103 : Nat),
 ∃ (b104 : Nat),
 s92.1 = some ({ block := b103, off := b104 } : Addr) ∧
 ((0 : Int) ≤ n96 ∧ n96 < (s92.2 : Int)) ∧
 ∃ (n105 : Int),
 w97.cell? ({ block := b103, off := b104 + n96.toNat } : Addr) = some (Value.int IntKind.i64 n105) ∧
 CX Try.prog (23 : Nat) #[Value.pointer (some ({ block := b4, off := (0 : Nat) } : Addr)), Value.int IntKind.i64 n105, Value.int IntKind.i64 (IntKind.i64.wrap (n102 - (1 : Int)))] w97
 fun (v106 : Value) (w107 : World) =>
 ∃ (s108 : Sl),
 v106 = Value.slice s108.1 s108.2 s108.3 ∧
 IfB (decide ((s108.n : Int) < (1 : Int))) (R (Value.bool false) w107)
 (IfB (decide ((8 : Int) < (s108.n : Int))) (R (Value.bool false) w107) (([] : List Nat) = [] ∧ ∃ (b109 : Nat), b109 < b95 ∧ y93 b109 (IntKind.i64.wrap (n96 + (1 : Int))) w107)))
 (∃ (b110 : Nat),
 ∃ (b111 : Nat),
 s92.1 = some ({ block := b110, off := b111 } : Addr) ∧
 ((0 : Int) ≤ n96 ∧ n96 < (s92.2 : Int)) ∧
 ∃ (n112 : Int),
 w97.cell? ({ block := b110, off := b111 + n96.toNat } : Addr) = some (Value.int IntKind.i64 n112) ∧
 CX Try.prog (23 : Nat) #[Value.pointer (some ({ block := b4, off := (0 : Nat) } : Addr)), Value.int IntKind.i64 n112, Value.int IntKind.i64 (999 : Int)] w97 fun (v113 : Value) (w114 : World) =>
 ∃ (s115 : Sl),
 v113 = Value.slice s115.1 s115.2 s115.3 ∧
 IfB (decide ((s115.n : Int) < (1 : Int))) (R (Value.bool false) w114)
 (IfB (decide ((8 : Int) < (s115.n : Int))) (R (Value.bool false) w114) (([] : List Nat) = [] ∧ ∃ (b116 : Nat), b116 < b95 ∧ y93 b116 (IntKind.i64.wrap (n96 + (1 : Int))) w114)))
def F5j3 (R : Value → World → Prop) (b4 : Nat) (s62 : Sl) (y63 : Nat → Int → World → Prop) (b65 : Nat) (n66 : Int) (w67 : World) : Prop :=
 IfB (decide (n66 < (s62.n : Int)))
 (F5k1 n66 s62 w67 b4 R b65 y63)
 (CX Try.prog (31 : Nat) #[Value.pointer (some ({ block := b4, off := (0 : Nat) } : Addr))] w67 fun (v87 : Value) (w88 : World) =>
 ∃ (n89 : Int), v87 = Value.int IntKind.i64 n89 ∧ R (Value.bool (decide ((0 : Int) < (s62.n : Int)) == decide ((0 : Int) < n89))) w88)
def F5j4 (R : Value → World → Prop) (b4 : Nat) (s92 : Sl) (y93 : Nat → Int → World → Prop) (b95 : Nat) (n96 : Int) (w97 : World) : Prop :=
 IfB (decide (n96 < (s92.n : Int)))
 (F5k1 n96 s92 w97 b4 R b95 y93)
 (CX Try.prog (31 : Nat) #[Value.pointer (some ({ block := b4, off := (0 : Nat) } : Addr))] w97 fun (v117 : Value) (w118 : World) =>
 ∃ (n119 : Int), v117 = Value.int IntKind.i64 n119 ∧ R (Value.bool (decide ((0 : Int) < (s92.n : Int)) == decide ((0 : Int) < n119))) w118)
def F5j1 (t0 : Sl) (R : Value → World → Prop) (b4 : Nat) (b6 : Nat) (b8 : Nat) (y10 : Nat → Int → World → Prop) (b12 : Nat) (n13 : Int) (w14 : World) : Prop :=
 IfB (decide (n13 < (t0.n : Int)))
 (IfB (decide (n13 < (150 : Int)))
 (F5k2 t0 n13 w14 b12 y10 b4 b8 b6 R)
 (CX Try.prog (30 : Nat) #[Value.pointer (some ({ block := b4, off := (0 : Nat) } : Addr))] w14 fun (v60 : Value) (w61 : World) =>
 ∃ (s62 : Sl),
 v60 = Value.slice s62.1 s62.2 s62.3 ∧
 ∃ (y63 : Nat → Int → World → Prop),
 (∃ (b64 : Nat), y63 b64 (0 : Int) w61) ∧
 ∀ (b65 : Nat) (n66 : Int) (w67 : World) (y68 : Nat → Value),
 y63 b65 n66 w67 →
 (F5j3 R b4 s62 y63 b65 n66 w67)))
 (CX Try.prog (30 : Nat) #[Value.pointer (some ({ block := b4, off := (0 : Nat) } : Addr))] w14 fun (v90 : Value) (w91 : World) =>
 ∃ (s92 : Sl),
 v90 = Value.slice s92.1 s92.2 s92.3 ∧
 ∃ (y93 : Nat → Int → World → Prop),
 (∃ (b94 : Nat), y93 b94 (0 : Int) w91) ∧
 ∀ (b95 : Nat) (n96 : Int) (w97 : World) (y98 : Nat → Value),
 y93 b95 n96 w97 →
 (F5j4 R b4 s92 y93 b95 n96 w97))
def F5 (t0 : Sl) (w : World) (R : Value → World → Prop) : Prop :=
 CX Try.prog (18 : Nat) #[] w fun (v1 : Value) (w2 : World) =>
 ∃ (t3 : Bool),
 v1 = Value.bool t3 ∧
 IfB (!t3) (R (Value.bool false) w2)
 (AllocP w2 (Obj.cells #[Value.slice none (0 : Nat) (0 : Nat)] (47 : Nat)) fun (b4 : Nat) (w5 : World) =>
 AllocP w5 (Obj.cells (Array.replicate (1000 : Nat) (Value.int IntKind.i64 (0 : Int))) (48 : Nat)) fun (b6 : Nat) (w7 : World) =>
 AllocP w7 (Obj.cells (Array.replicate (1000 : Nat) (Value.bool false)) (49 : Nat)) fun (b8 : Nat) (w9 : World) =>
 ∃ (y10 : Nat → Int → World → Prop),
 (∃ (b11 : Nat), y10 b11 (0 : Int) w9) ∧
 ∀ (b12 : Nat) (n13 : Int) (w14 : World) (y15 : Nat → Value),
 y10 b12 n13 w14 →
 (F5j1 t0 R b4 b6 b8 y10 b12 n13 w14))
theorem F5_ok (t0 : Sl) (w : World) (R : Value → World → Prop) (h : F5 t0 w R) : CW Try.prog 5 #[Value.slice t0.1 t0.2 t0.3] w R :=
  call_of tbOk mixed en5 Try.func5 rfl (.node (.nil) (.node (.nil) (.node (.nil) (.node (.nil) (.node (.nil) (.node (.node (.nil) (.loop [(6, .one (.int .i64))] [18, 19, 20, 21, 22, 23, 24, 25, 28, 29, 30, 31, 32, 7, 33, 34, 35, 36, 37, 38, 39, 40, 41, 42, 43, 44, 45, 46, 47, 48, 49, 50, 51, 52, 53, 54, 55, 56, 57, 58, 59, 60, 61, 62, 63, 64, 65, 66, 67, 68, 69, 70, 71, 72, 73, 74, 75, 76, 78, 79, 80, 77, 81, 82, 8, 9, 83, 84, 85, 86, 87, 88, 89, 90, 91, 92, 93, 94, 95, 96, 97, 98, 99, 100, 2, 26, 27, 6] (.node (.nil) (.node (.node (.nil) (.node (.nil) (.join [] [39, 40, 41, 42, 43, 44, 45, 46, 47, 48, 49, 50, 51, 52, 53, 54, 55, 56, 57, 58, 59, 60, 61, 62, 63, 64, 65, 66, 67, 68, 69, 70, 71, 72, 73, 74, 75, 76] (.nil) (.nil)))) (.nil))))) (.node (.nil) (.node (.node (.nil) (.loop [(11, .one (.int .i64))] [103, 104, 105, 106, 12, 109, 110, 111, 112, 113, 114, 115, 116, 117, 118, 119, 120, 121, 122, 123, 124, 125, 126, 127, 13, 128, 129, 130, 131, 132, 133, 2, 107, 108, 11] (.nil))) (.nil))))))))) (by kernel_rfl) (Nat.le_of_ble_eq_true (by kernel_rfl)) (Eq.mp (α := F5 t0 w R) (by kernel_rfl) h)

def F6j2 (t0 : Sl) (R : Value → World → Prop) (y6 : Nat → Int → World → Prop) (b8 : Nat) (n9 : Int) (y17 : Nat → Int → World → Prop) (b19 : Nat) (n20 : Int) (w21 : World) : Prop :=
 IfB (decide (n20 < n9))
 (∃ (b24 : Nat),
 ∃ (b25 : Nat),
 t0.1 = some ({ block := b24, off := b25 } : Addr) ∧
 ((0 : Int) ≤ n20 ∧ n20 < (t0.2 : Int)) ∧
 ∃ (n26 : Int),
 w21.drew.cell? ({ block := b24, off := b25 + n20.toNat * (2 : Nat) + (0 : Nat) } : Addr) = some (Value.int IntKind.i64 n26) ∧
 ∃ (b27 : Nat),
 ∃ (b28 : Nat),
 t0.1 = some ({ block := b27, off := b28 } : Addr) ∧
 ((0 : Int) ≤ n9 ∧ n9 < (t0.2 : Int)) ∧
 ∃ (n29 : Int),
 w21.drew.cell? ({ block := b27, off := b28 + n9.toNat * (2 : Nat) + (0 : Nat) } : Addr) = some (Value.int IntKind.i64 n29) ∧
 IfB (n26 == n29) (R (Value.bool true) w21.drew) (([] : List Nat) = [] ∧ ∃ (b30 : Nat), b30 < b19 ∧ y17 b30 (IntKind.i64.wrap (n20 + (1 : Int))) w21.drew))
 (([] : List Nat) = [] ∧ ∃ (b31 : Nat), b31 < b8 ∧ y6 b31 (IntKind.i64.wrap (n9 + (1 : Int))) w21)
def F6j3 (t0 : Sl) (R : Value → World → Prop) (b1 : Nat) (y32 : Nat → Sl × Int → World → Prop) (b34 : Nat) (x35 : Sl × Int) (w36 : World) : Prop :=
 IfB (decide ((0 : Int) ≤ x35.snd))
 (∃ (b39 : Nat),
 ∃ (b40 : Nat),
 t0.1 = some ({ block := b39, off := b40 } : Addr) ∧
 ((0 : Int) ≤ x35.2 ∧ x35.2 < (t0.2 : Int)) ∧
 ∃ (x41 : Int × Int),
 CellsAt w36 b39 (b40 + x35.2.toNat * (2 : Nat)) [Value.int IntKind.i64 x41.1, Value.int IntKind.i64 x41.2] ∧
 (1 : Nat) * (2 : Nat) ≤ (16777216 : Nat) ∧
 AllocP w36 (Obj.cells #[Value.int IntKind.i64 x41.1, Value.int IntKind.i64 x41.2] (37 : Nat)) fun (b42 : Nat) (w43 : World) =>
 ∃ (l44 : List Value),
 ReadC w43 (some ({ block := b42, off := (0 : Nat) } : Addr)) ((1 : Nat) * (2 : Nat)) l44 ∧
 AppendP tt37 (37 : Nat) w43 x35.fst.1 x35.fst.2 x35.fst.3 (1 : Nat) l44 fun (s45 : Sl) (w46 : World) =>
 ([] : List Nat) = [] ∧ ∃ (b47 : Nat), b47 < b34 ∧ y32 b47 ({ p := s45.1, n := s45.2, c := s45.3 }, IntKind.i64.wrap (x35.2 - (1 : Int))) w46)
 (CX Try.prog (19 : Nat) #[Value.slice t0.1 t0.2 t0.3] w36 fun (v48 : Value) (w49 : World) =>
 ∃ (p50 : Option Addr),
 v48 = Value.pointer p50 ∧
 CX Try.prog (19 : Nat) #[Value.slice x35.fst.1 x35.fst.2 x35.fst.3] w49 fun (v51 : Value) (w52 : World) =>
 ∃ (p53 : Option Addr),
 v51 = Value.pointer p53 ∧
 ∃ (n54 : Int),
 w52.cell? ({ block := b1, off := (0 : Nat) + (0 : Nat) } : Addr) = some (Value.int IntKind.i64 n54) ∧
 ∃ (n55 : Int),
 w52.cell? ({ block := b1, off := (0 : Nat) + (1 : Nat) } : Addr) = some (Value.int IntKind.i64 n55) ∧
 CX Try.prog (28 : Nat) #[Value.pointer p53, Value.int IntKind.i64 n54, Value.int IntKind.i64 n55] w52 fun (v56 : Value) (w57 : World) =>
 ∃ (n58 : Int),
 v56 = Value.int IntKind.i64 n58 ∧
 ∃ (n59 : Int),
 w57.cell? ({ block := b1, off := (0 : Nat) + (0 : Nat) } : Addr) = some (Value.int IntKind.i64 n59) ∧
 CX Try.prog (27 : Nat) #[Value.pointer p53, Value.int IntKind.i64 n59] w57 fun (v60 : Value) (w61 : World) =>
 ∃ (n62 : Int),
 v60 = Value.int IntKind.i64 n62 ∧
 CX Try.prog (25 : Nat) #[Value.pointer p50, Value.pointer p53] w61 fun (v63 : Value) (w64 : World) =>
 ∃ (t65 : Bool), v63 = Value.bool t65 ∧ IfB t65 (R (Value.bool (n58 == n62)) w64) (R (Value.bool false) w64))
def F6j1 (t0 : Sl) (R : Value → World → Prop) (b1 : Nat) (y6 : Nat → Int → World → Prop) (b8 : Nat) (n9 : Int) (w10 : World) : Prop :=
 IfB (decide (n9 < (t0.n : Int)))
 (∃ (b13 : Nat),
 ∃ (b14 : Nat),
 t0.1 = some ({ block := b13, off := b14 } : Addr) ∧
 ((0 : Int) ≤ n9 ∧ n9 < (t0.2 : Int)) ∧
 ∃ (n15 : Int),
 w10.drew.cell? ({ block := b13, off := b14 + n9.toNat * (2 : Nat) + (0 : Nat) } : Addr) = some (Value.int IntKind.i64 n15) ∧
 ∃ (n16 : Int),
 w10.drew.cell? ({ block := b1, off := (0 : Nat) + (0 : Nat) } : Addr) = some (Value.int IntKind.i64 n16) ∧
 IfB (n15 == n16) (R (Value.bool true) w10.drew)
 (∃ (y17 : Nat → Int → World → Prop),
 (∃ (b18 : Nat), y17 b18 (0 : Int) w10.drew) ∧
 ∀ (b19 : Nat) (n20 : Int) (w21 : World) (y22 : Nat → Value),
 y17 b19 n20 w21 →
 (F6j2 t0 R y6 b8 n9 y17 b19 n20 w21)))
 (∃ (y32 : Nat → Sl × Int → World → Prop),
 (∃ (b33 : Nat), y32 b33 ({ p := none, n := (0 : Nat), c := (0 : Nat) }, IntKind.i64.wrap ((t0.2 : Int) - (1 : Int))) w10) ∧
 ∀ (b34 : Nat) (x35 : Sl × Int) (w36 : World) (y37 : Nat → Value),
 y32 b34 x35 w36 →
 (F6j3 t0 R b1 y32 b34 x35 w36))
def F6 (t0 : Sl) (t1 : (Leaf.int IntKind.i64).den × dens [Leaf.int IntKind.i64]) (w : World) (R : Value → World → Prop) : Prop :=
 AllocP w (Obj.cells #[Value.int IntKind.i64 t1.1, Value.int IntKind.i64 t1.2] (37 : Nat)) fun (b1 : Nat) (w2 : World) =>
 CX Try.prog (18 : Nat) #[] w2 fun (v3 : Value) (w4 : World) =>
 ∃ (t5 : Bool),
 v3 = Value.bool t5 ∧
 IfB (!t5) (R (Value.bool false) w4)
 (IfB (decide ((60 : Int) < (t0.n : Int))) (R (Value.bool true) w4)
 (∃ (y6 : Nat → Int → World → Prop),
 (∃ (b7 : Nat), y6 b7 (0 : Int) w4) ∧
 ∀ (b8 : Nat) (n9 : Int) (w10 : World) (y11 : Nat → Value),
 y6 b8 n9 w10 →
 (F6j1 t0 R b1 y6 b8 n9 w10)))
theorem F6_ok (t0 : Sl) (t1 : (Leaf.int IntKind.i64).den × dens [Leaf.int IntKind.i64]) (w : World) (R : Value → World → Prop) (h : F6 t0 t1 w R) : CW Try.prog 6 #[Value.slice t0.1 t0.2 t0.3, Value.agg #[Value.int IntKind.i64 t1.1, Value.int IntKind.i64 t1.2]] w R :=
  call_of tbOk mixed en6 Try.func6 rfl (.node (.nil) (.node (.nil) (.node (.nil) (.node (.node (.nil) (.loop [(5, .one (.int .i64))] [18, 19, 20, 21, 24, 25, 26, 27, 28, 29, 30, 31, 4, 6, 32, 33, 34, 37, 38, 39, 40, 41, 42, 43, 44, 45, 46, 47, 35, 36, 22, 23, 5] (.node (.nil) (.node (.node (.node (.draw (.st 0 (.st 1 (.st 2 (.st 3 (.st 4 (.st 5 (.st 6 (.st 7 (.fin)))))))))) (.nil)) (.node (.nil) (.loop [(6, .one (.int .i64))] [32, 33, 34, 37, 38, 39, 40, 41, 42, 43, 44, 45, 46, 47, 4, 35, 36, 6] (.node (.nil) (.node (.node (.draw (.st 0 (.st 1 (.st 2 (.st 3 (.st 4 (.st 5 (.st 6 (.st 7 (.st 8 (.st 9 (.st 10 (.fin))))))))))))) (.nil)) (.nil)))))) (.nil))))) (.node (.nil) (.node (.node (.nil) (.loop [(7, .one (.sl)), (8, .one (.int .i64))] [51, 52, 55, 56, 57, 58, 59, 60, 61, 7, 53, 54, 8] (.nil))) (.nil))))))) (by kernel_rfl) (Nat.le_of_ble_eq_true (by kernel_rfl)) (Eq.mp (α := F6 t0 t1 w R) (by kernel_rfl) h)

def F7k2 (w20 : World) (b18 : Nat) (x11 : Option Addr × Int) (b6 : Nat) (R : Value → World → Prop) (y21 : Option Addr → World → Prop) : Prop :=
 ∃ (n23 : Int),
 w20.drew.cell? ({ block := b18, off := (0 : Nat) + (1 : Nat) } : Addr) = some (Value.int IntKind.i64 n23) ∧
 ∃ (n24 : Int),
 w20.drew.cell? ({ block := b18, off := (0 : Nat) + (1 : Nat) } : Addr) = some (Value.int IntKind.i64 n24) ∧
 CX Try.prog (27 : Nat) #[Value.pointer x11.1, Value.int IntKind.i64 n23] w20.drew fun (v25 : Value) (w26 : World) =>
 ∃ (n27 : Int),
 v25 = Value.int IntKind.i64 n27 ∧
 w26.cell? ({ block := b18, off := (0 : Nat) + (1 : Nat) } : Addr) = some (Value.int IntKind.i64 n24) ∧
 CX Try.prog (32 : Nat) #[Value.pointer (some ({ block := b6, off := (0 : Nat) } : Addr)), Value.int IntKind.i64 n24] w26 fun (v28 : Value) (w29 : World) =>
 ∃ (n30 : Int), v28 = Value.int IntKind.i64 n30 ∧ IfB (n27 != n30) (R (Value.bool false) w29) (([] : List Nat) = [] ∧ y21 x11.1 w29)
def F7k1 (n22 : Int) (w20 : World) (b18 : Nat) (x11 : Option Addr × Int) (b6 : Nat) (R : Value → World → Prop) (y21 : Option Addr → World → Prop) : Prop :=
 IfB (n22.tmod (8 : Int) == (6 : Int))
 (∃ (n31 : Int),
 w20.cell? ({ block := b18, off := (0 : Nat) + (1 : Nat) } : Addr) = some (Value.int IntKind.i64 n31) ∧
 CX Try.prog (29 : Nat) #[Value.pointer x11.1, Value.int IntKind.i64 n31] w20 fun (v32 : Value) (w33 : World) =>
 ∃ (x34 : Int × Int),
 v32 = Value.tuple #[Value.int IntKind.i64 x34.1, Value.int IntKind.i64 x34.2] ∧
 ∃ (n35 : Int),
 w33.cell? ({ block := b18, off := (0 : Nat) + (1 : Nat) } : Addr) = some (Value.int IntKind.i64 n35) ∧
 CX Try.prog (33 : Nat) #[Value.pointer (some ({ block := b6, off := (0 : Nat) } : Addr)), Value.int IntKind.i64 n35] w33 fun (v36 : Value) (w37 : World) =>
 ∃ (x38 : Int × Int),
 v36 = Value.tuple #[Value.int IntKind.i64 x38.1, Value.int IntKind.i64 x38.2] ∧
 IfB (x34.1 != x38.1) (R (Value.bool false) w37) (IfB (x34.2 != x38.2) (R (Value.bool false) w37) (([] : List Nat) = [] ∧ y21 x11.1 w37)))
 (IfB (n22.tmod (8 : Int) == (7 : Int))
 (CX Try.prog (34 : Nat) #[Value.pointer x11.1] w20 fun (v39 : Value) (w40 : World) =>
 ∃ (p41 : Option Addr),
 v39 = Value.pointer p41 ∧
 ∃ (n42 : Int),
 w40.cell? ({ block := b18, off := (0 : Nat) + (1 : Nat) } : Addr) = some (Value.int IntKind.i64 n42) ∧
 ∃ (n43 : Int),
 w40.cell? ({ block := b18, off := (0 : Nat) + (2 : Nat) } : Addr) = some (Value.int IntKind.i64 n43) ∧
 CX Try.prog (28 : Nat) #[Value.pointer x11.1, Value.int IntKind.i64 n42, Value.int IntKind.i64 (IntKind.i64.wrap (n43 + (1 : Int)))] w40 fun (v44 : Value) (w45 : World) =>
 ∃ (n46 : Int),
 v44 = Value.int IntKind.i64 n46 ∧
 CX Try.prog (27 : Nat) #[Value.pointer x11.1, Value.int IntKind.i64 (0 : Int)] w45 fun (v47 : Value) (w48 : World) =>
 ∃ (n49 : Int), v47 = Value.int IntKind.i64 n49 ∧ ([] : List Nat) = [] ∧ y21 p41 w48)
 (∃ (n50 : Int),
 w20.drew.cell? ({ block := b18, off := (0 : Nat) + (1 : Nat) } : Addr) = some (Value.int IntKind.i64 n50) ∧
 ∃ (n51 : Int),
 w20.drew.cell? ({ block := b18, off := (0 : Nat) + (2 : Nat) } : Addr) = some (Value.int IntKind.i64 n51) ∧
 ∃ (n52 : Int),
 w20.drew.cell? ({ block := b18, off := (0 : Nat) + (1 : Nat) } : Addr) = some (Value.int IntKind.i64 n52) ∧
 ∃ (n53 : Int),
 w20.drew.cell? ({ block := b18, off := (0 : Nat) + (2 : Nat) } : Addr) = some (Value.int IntKind.i64 n53) ∧
 CX Try.prog (28 : Nat) #[Value.pointer x11.1, Value.int IntKind.i64 n50, Value.int IntKind.i64 n51] w20.drew fun (v54 : Value) (w55 : World) =>
 ∃ (n56 : Int),
 v54 = Value.int IntKind.i64 n56 ∧
 w55.cell? ({ block := b18, off := (0 : Nat) + (2 : Nat) } : Addr) = some (Value.int IntKind.i64 n53) ∧
 w55.cell? ({ block := b18, off := (0 : Nat) + (1 : Nat) } : Addr) = some (Value.int IntKind.i64 n52) ∧
 CX Try.prog (20 : Nat) #[Value.pointer (some ({ block := b6, off := (0 : Nat) } : Addr)), Value.int IntKind.i64 n52, Value.int IntKind.i64 n53] w55 fun (v57 : Value) (w58 : World) =>
 ∃ (n59 : Int), v57 = Value.int IntKind.i64 n59 ∧ IfB (n56 != n59) (R (Value.bool false) w58) (([] : List Nat) = [] ∧ y21 x11.1 w58)))
def F7j1 (t0 : Sl) (R : Value → World → Prop) (b6 : Nat) (y8 : Nat → Option Addr × Int → World → Prop) (b10 : Nat) (x11 : Option Addr × Int) (w12 : World) : Prop :=
 IfB (decide (x11.snd < (t0.n : Int)))
 (IfB (decide (x11.snd < (120 : Int)))
 (∃ (b15 : Nat),
 ∃ (b16 : Nat),
 t0.1 = some ({ block := b15, off := b16 } : Addr) ∧
 ((0 : Int) ≤ x11.2 ∧ x11.2 < (t0.2 : Int)) ∧
 ∃ (x17 : Int × Int × Int),
 CellsAt w12 b15 (b16 + x11.2.toNat * (3 : Nat)) [Value.int IntKind.u8 x17.1, Value.int IntKind.i64 x17.snd.1, Value.int IntKind.i64 x17.snd.2] ∧
 AllocP w12 (Obj.cells #[Value.int IntKind.u8 (0 : Int), Value.int IntKind.i64 (0 : Int), Value.int IntKind.i64 (0 : Int)] (51 : Nat)) fun (b18 : Nat) (w19 : World) =>
 #[Value.int IntKind.u8 x17.1, Value.int IntKind.i64 x17.snd.1, Value.int IntKind.i64 x17.snd.2].size = (3 : Nat) ∧
 StoreP w19 b18 (0 : Nat) [Value.int IntKind.u8 x17.1, Value.int IntKind.i64 x17.snd.1, Value.int IntKind.i64 x17.snd.2] fun (w20 : World) =>
 ∃ (y21 : Option Addr → World → Prop),
 (∃ (n22 : Int),
 w20.cell? ({ block := b18, off := (0 : Nat) + (0 : Nat) } : Addr) = some (Value.int IntKind.u8 n22) ∧
 ¬(8 : Int) = (0 : Int) ∧
 IfB (n22.tmod (8 : Int) == (4 : Int))
 (IfB (n22.tmod (8 : Int) == (4 : Int))
 (F7k2 w20 b18 x11 b6 R y21)
 (F7k1 n22 w20 b18 x11 b6 R y21))
 (IfB (n22.tmod (8 : Int) == (5 : Int))
 (F7k2 w20 b18 x11 b6 R y21)
 (F7k1 n22 w20 b18 x11 b6 R y21))) ∧
 ∀ (p97 : Option Addr) (w98 : World) (y99 : Nat → Value),
 y21 p97 w98 →
 CX Try.prog (21 : Nat) #[Value.pointer p97, Value.pointer (some ({ block := b6, off := (0 : Nat) } : Addr))] w98 fun (v101 : Value) (w102 : World) =>
 ∃ (t103 : Bool), v101 = Value.bool t103 ∧ IfB (!t103) (R (Value.bool false) w102) (([] : List Nat) = [] ∧ ∃ (b104 : Nat), b104 < b10 ∧ y8 b104 (p97, IntKind.i64.wrap (x11.2 + (1 : Int))) w102))
 (R (Value.bool true) w12))
 (R (Value.bool true) w12)
def F7 (t0 : Sl) (w : World) (R : Value → World → Prop) : Prop :=
 CX Try.prog (18 : Nat) #[] w fun (v1 : Value) (w2 : World) =>
 ∃ (t3 : Bool),
 v1 = Value.bool t3 ∧
 IfB (!t3) (R (Value.bool false) w2)
 (AllocP w2 (Obj.cells #[Value.slice none (0 : Nat) (0 : Nat)] (47 : Nat)) fun (b4 : Nat) (w5 : World) =>
 AllocP w5 (Obj.cells #[Value.slice none (0 : Nat) (0 : Nat)] (34 : Nat)) fun (b6 : Nat) (w7 : World) =>
 ∃ (y8 : Nat → Option Addr × Int → World → Prop),
 (∃ (b9 : Nat), y8 b9 (some ({ block := b4, off := (0 : Nat) } : Addr), (0 : Int)) w7) ∧
 ∀ (b10 : Nat) (x11 : Option Addr × Int) (w12 : World) (y13 : Nat → Value),
 y8 b10 x11 w12 →
 (F7j1 t0 R b6 y8 b10 x11 w12))
theorem F7_ok (t0 : Sl) (w : World) (R : Value → World → Prop) (h : F7 t0 w R) : CW Try.prog 7 #[Value.slice t0.1 t0.2 t0.3] w R :=
  call_of tbOk mixed en7 Try.func7 rfl (.node (.nil) (.node (.nil) (.node (.nil) (.node (.node (.nil) (.loop [(3, .one (.ptr)), (5, .one (.int .i64))] [18, 19, 20, 21, 22, 23, 24, 25, 28, 29, 30, 31, 6, 32, 33, 34, 49, 48, 50, 51, 52, 53, 54, 55, 56, 57, 58, 59, 2, 61, 60, 63, 64, 65, 66, 62, 67, 68, 7, 8, 70, 71, 72, 73, 69, 74, 75, 9, 10, 76, 77, 78, 79, 80, 81, 82, 83, 85, 84, 86, 11, 87, 88, 3, 89, 90, 91, 92, 93, 94, 95, 96, 97, 35, 36, 37, 38, 39, 40, 41, 42, 43, 44, 45, 46, 47, 98, 99, 100, 101, 26, 27, 5] (.node (.nil) (.node (.node (.nil) (.join [(3, .one (.ptr))] [32, 33, 34, 49, 48, 50, 51, 52, 53, 54, 55, 56, 57, 58, 59, 2, 61, 60, 63, 64, 65, 66, 62, 67, 68, 7, 8, 70, 71, 72, 73, 69, 74, 75, 9, 10, 76, 77, 78, 79, 80, 81, 82, 83, 85, 84, 86, 11, 87, 88, 3, 89, 90, 91, 92, 93, 94, 95, 96, 97, 35, 36, 37, 38, 39, 40, 41, 42, 43, 44, 45, 46, 47] (.node (.nil) (.node (.nil) (.node (.node (.draw (.st 0 (.st 1 (.st 2 (.st 4 (.st 5 (.st 6 (.ac 3 [6, 5, 4] (.ac 7 [] (.st 8 (.fin)) (.non)) (.non))))))))) (.nil)) (.node (.nil) (.node (.nil) (.node (.nil) (.node (.nil) (.node (.draw (.st 0 (.st 1 (.st 2 (.st 3 (.st 4 (.st 6 (.st 7 (.st 8 (.st 9 (.st 10 (.ac 5 [10, 9, 8, 7, 6] (.ac 11 [] (.st 12 (.fin)) (.non)) (.non))))))))))))) (.nil))))))))) (.nil))) (.nil))))) (.nil))))) (by kernel_rfl) (Nat.le_of_ble_eq_true (by kernel_rfl)) (Eq.mp (α := F7 t0 w R) (by kernel_rfl) h)

def F8 (t0 : Int) (t1 : Int) (w : World) (R : Value → World → Prop) : Prop :=
 CX Try.prog (18 : Nat) #[] w fun (v1 : Value) (w2 : World) =>
 ∃ (t3 : Bool),
 v1 = Value.bool t3 ∧
 IfB (!t3) (R (Value.bool false) w2)
 (CX Try.prog (29 : Nat) #[Value.pointer none, Value.int IntKind.i64 t0] w2 fun (v4 : Value) (w5 : World) =>
 ∃ (x6 : Int × Int),
 v4 = Value.tuple #[Value.int IntKind.i64 x6.1, Value.int IntKind.i64 x6.2] ∧
 CX Try.prog (28 : Nat) #[Value.pointer none, Value.int IntKind.i64 t0, Value.int IntKind.i64 t1] w5 fun (v7 : Value) (w8 : World) =>
 ∃ (n9 : Int),
 v7 = Value.int IntKind.i64 n9 ∧
 IfB (n9 == (3 : Int))
 (IfB (x6.1 == (0 : Int))
 (IfB (x6.2 == (3 : Int))
 (CX Try.prog (27 : Nat) #[Value.pointer none, Value.int IntKind.i64 t0] w8 fun (v10 : Value) (w11 : World) =>
 ∃ (n12 : Int),
 v10 = Value.int IntKind.i64 n12 ∧
 IfB (n12 == (3 : Int))
 (CX Try.prog (23 : Nat) #[Value.pointer none, Value.int IntKind.i64 (0 : Int), Value.int IntKind.i64 (999 : Int)] w11 fun (v13 : Value) (w14 : World) =>
 ∃ (s15 : Sl),
 v13 = Value.slice s15.1 s15.2 s15.3 ∧
 IfB ((s15.2 : Int) == (0 : Int))
 (CX Try.prog (31 : Nat) #[Value.pointer none] w14 fun (v16 : Value) (w17 : World) =>
 ∃ (n18 : Int),
 v16 = Value.int IntKind.i64 n18 ∧
 IfB (n18 == (0 : Int))
 (CX Try.prog (30 : Nat) #[Value.pointer none] w17 fun (v19 : Value) (w20 : World) =>
 ∃ (s21 : Sl),
 v19 = Value.slice s21.1 s21.2 s21.3 ∧
 IfB ((s21.2 : Int) == (0 : Int))
 (CX Try.prog (34 : Nat) #[Value.pointer none] w20 fun (v22 : Value) (w23 : World) =>
 ∃ (p24 : Option Addr),
 v22 = Value.pointer p24 ∧
 IfB p24.isNone (CX Try.prog (25 : Nat) #[Value.pointer none, Value.pointer none] w23 fun (v25 : Value) (w26 : World) => ∃ (t27 : Bool), v25 = Value.bool t27 ∧ R (Value.bool t27) w26)
 (R (Value.bool false) w23))
 (R (Value.bool false) w20))
 (R (Value.bool false) w17))
 (R (Value.bool false) w14))
 (R (Value.bool false) w11))
 (R (Value.bool false) w8))
 (R (Value.bool false) w8))
 (R (Value.bool false) w8))
theorem F8_ok (t0 : Int) (t1 : Int) (w : World) (R : Value → World → Prop) (h : F8 t0 t1 w R) : CW Try.prog 8 #[Value.int IntKind.i64 t0, Value.int IntKind.i64 t1] w R :=
  call_of tbOk mixed en8 Try.func8 rfl (.nil) (by kernel_rfl) (Nat.le_of_ble_eq_true (by kernel_rfl)) (Eq.mp (α := F8 t0 t1 w R) (by kernel_rfl) h)

end Go.Proofs.Ytopecljhehcldaa.Gx
