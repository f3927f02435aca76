/- Written by mkf.py: what is to be shown of functions, as Gx reckons it from their code. -/
import Derived.Test.YtmmhbjbaallkfaaGxT
namespace Go.Proofs.Ytmmhbjbaallkfaa.Gx
open Go
set_option linter.unusedVariables false
set_option maxRecDepth 100000

def F3j4 (R : Value → World → Prop) (s34 : Sl) (y35 : Nat → Int → World → Prop) (b37 : Nat) (n38 : Int) (y42 : Nat → Int → World → Prop) (b44 : Nat) (n45 : Int) (w46 : World) : Prop :=
 ∃ (b49 : Nat),
 ∃ (b50 : Nat),
 s34.1 = some ({ block := b49, off := b50 } : Addr) ∧
 ((0 : Int) ≤ n38 ∧ n38 < (s34.2 : Int)) ∧
 ∃ (s51 : Sl),
 w46.cell? ({ block := b49, off := b50 + n38.toNat } : Addr) = some (Value.slice s51.1 s51.2 s51.3) ∧
 IfB (decide (n45 < (s51.n : Int)))
 (∃ (b52 : Nat),
 ∃ (b53 : Nat),
 s34.1 = some ({ block := b52, off := b53 } : Addr) ∧
 ((0 : Int) ≤ n38 ∧ n38 < (s34.2 : Int)) ∧
 ∃ (s54 : Sl),
 w46.cell? ({ block := b52, off := b53 + n38.toNat } : Addr) = some (Value.slice s54.1 s54.2 s54.3) ∧
 ∃ (b55 : Nat),
 ∃ (b56 : Nat),
 s54.1 = some ({ block := b55, off := b56 } : Addr) ∧
 ((0 : Int) ≤ n45 ∧ n45 < (s54.2 : Int)) ∧
 ∃ (n57 : Int),
 w46.cell? ({ block := b55, off := b56 + n45.toNat } : Addr) = some (Value.int IntKind.i64 n57) ∧
 IfB (decide (n38 ≤ n57)) (R (Value.bool false) w46) (([] : List Nat) = [] ∧ ∃ (b58 : Nat), b58 < b44 ∧ y42 b58 (IntKind.i64.wrap (n45 + (1 : Int))) w46))
 (([] : List Nat) = [] ∧ ∃ (b59 : Nat), b59 < b37 ∧ y35 b59 (IntKind.i64.wrap (n38 + (1 : Int))) w46)
def F3j3 (t0 : Sl) (t1 : Int) (t2 : Int) (R : Value → World → Prop) (t28 : Bool) (s34 : Sl) (y35 : Nat → Int → World → Prop) (b37 : Nat) (n38 : Int) (w39 : World) : Prop :=
 IfB (decide (n38 < (s34.n : Int)))
 (∃ (y42 : Nat → Int → World → Prop),
 (∃ (b43 : Nat), y42 b43 (0 : Int) w39) ∧
 ∀ (b44 : Nat) (n45 : Int) (w46 : World) (y47 : Nat → Value),
 y42 b44 n45 w46 →
 (F3j4 R s34 y35 b37 n38 y42 b44 n45 w46))
 (CX Try.prog (15 : Nat) #[Value.slice t0.1 t0.2 t0.3] w39 fun (v60 : Value) (w61 : World) =>
 ∃ (s62 : Sl),
 v60 = Value.slice s62.1 s62.2 s62.3 ∧
 CX Try.prog (14 : Nat) #[Value.slice s34.1 s34.2 s34.3, Value.slice s62.1 s62.2 s62.3] w61 fun (v63 : Value) (w64 : World) =>
 ∃ (t65 : Bool),
 v63 = Value.bool t65 ∧
 IfB t65
 (CX Try.prog (16 : Nat) #[Value.slice t0.1 t0.2 t0.3, Value.int IntKind.i64 t1, Value.int IntKind.i64 t2] w64 fun (v66 : Value) (w67 : World) =>
 ∃ (t68 : Bool), v66 = Value.bool t68 ∧ R (Value.bool (t68 == t28)) w67)
 (R (Value.bool false) w64))
def F3j1 (t0 : Sl) (t1 : Int) (t2 : Int) (R : Value → World → Prop) (t8 : Bool) (w9 : World) : Prop :=
 ∃ (y12 : Bool → World → Prop),
 IfB t8
 (∃ (b13 : Nat),
 ∃ (b14 : Nat),
 t0.1 = some ({ block := b13, off := b14 } : Addr) ∧
 ((0 : Int) ≤ t1 ∧ t1 < (t0.2 : Int)) ∧
 ∃ (n15 : Int),
 w9.drew.cell? ({ block := b13, off := b14 + t1.toNat * (6 : Nat) + (0 : Nat) } : Addr) = some (Value.int IntKind.i64 n15) ∧
 ∃ (b16 : Nat),
 ∃ (b17 : Nat),
 t0.1 = some ({ block := b16, off := b17 } : Addr) ∧
 ((0 : Int) ≤ t2 ∧ t2 < (t0.2 : Int)) ∧
 ∃ (n18 : Int),
 w9.drew.cell? ({ block := b16, off := b17 + t2.toNat * (6 : Nat) + (0 : Nat) } : Addr) = some (Value.int IntKind.i64 n18) ∧
 IfB (n15 == n18) (([] : List Nat) = [] ∧ y12 true w9.drew)
 (∃ (b19 : Nat),
 ∃ (b20 : Nat),
 t0.1 = some ({ block := b19, off := b20 } : Addr) ∧
 ((0 : Int) ≤ t1 ∧ t1 < (t0.2 : Int)) ∧
 ∃ (x21 : Int × Int × Int × Bool × Sl × Sl),
 CellsAt w9.drew b19 (b20 + t1.toNat * (6 : Nat))
 [Value.int IntKind.i64 x21.1, Value.int IntKind.i64 x21.snd.1, Value.int IntKind.i64 x21.snd.snd.1, Value.bool x21.snd.snd.snd.1,
 Value.slice x21.snd.snd.snd.snd.fst.1 x21.snd.snd.snd.snd.fst.2 x21.snd.snd.snd.snd.fst.3, Value.slice x21.snd.snd.snd.snd.snd.1 x21.snd.snd.snd.snd.snd.2 x21.snd.snd.snd.snd.snd.3] ∧
 ∃ (b22 : Nat),
 ∃ (b23 : Nat),
 t0.1 = some ({ block := b22, off := b23 } : Addr) ∧
 ((0 : Int) ≤ t2 ∧ t2 < (t0.2 : Int)) ∧
 ∃ (x24 : Int × Int × Int × Bool × Sl × Sl),
 CellsAt w9.drew b22 (b23 + t2.toNat * (6 : Nat))
 [Value.int IntKind.i64 x24.1, Value.int IntKind.i64 x24.snd.1, Value.int IntKind.i64 x24.snd.snd.1, Value.bool x24.snd.snd.snd.1,
 Value.slice x24.snd.snd.snd.snd.fst.1 x24.snd.snd.snd.snd.fst.2 x24.snd.snd.snd.snd.fst.3, Value.slice x24.snd.snd.snd.snd.snd.1 x24.snd.snd.snd.snd.snd.2 x24.snd.snd.snd.snd.snd.3] ∧
 CX Try.prog (12 : Nat)
 #[Value.agg
 #[Value.int IntKind.i64 x21.1, Value.int IntKind.i64 x21.snd.1, Value.int IntKind.i64 x21.snd.snd.1, Value.bool x21.snd.snd.snd.1,
 Value.slice x21.snd.snd.snd.snd.fst.1 x21.snd.snd.snd.snd.fst.2 x21.snd.snd.snd.snd.fst.3, Value.slice x21.snd.snd.snd.snd.snd.1 x21.snd.snd.snd.snd.snd.2 x21.snd.snd.snd.snd.snd.3],
 Value.agg
 #[Value.int IntKind.i64 x24.1, Value.int IntKind.i64 x24.snd.1, Value.int IntKind.i64 x24.snd.snd.1, Value.bool x24.snd.snd.snd.1,
 Value.slice x24.snd.snd.snd.snd.fst.1 x24.snd.snd.snd.snd.fst.2 x24.snd.snd.snd.snd.fst.3, Value.slice x24.snd.snd.snd.snd.snd.1 x24.snd.snd.snd.snd.snd.2 x24.snd.snd.snd.snd.snd.3]]
 w9.drew fun (v25 : Value) (w26 : World) => ∃ (t27 : Bool), v25 = Value.bool t27 ∧ ([] : List Nat) = [] ∧ y12 t27 w26))
 (([] : List Nat) = [] ∧ y12 false w9.drew) ∧
 ∀ (t28 : Bool) (w29 : World) (y30 : Nat → Value),
 y12 t28 w29 →
 CX Try.prog (13 : Nat) #[Value.slice t0.1 t0.2 t0.3] w29 fun (v32 : Value) (w33 : World) =>
 ∃ (s34 : Sl),
 v32 = Value.slice s34.1 s34.2 s34.3 ∧
 ∃ (y35 : Nat → Int → World → Prop),
 (∃ (b36 : Nat), y35 b36 (0 : Int) w33) ∧
 ∀ (b37 : Nat) (n38 : Int) (w39 : World) (y40 : Nat → Value),
 y35 b37 n38 w39 →
 (F3j3 t0 t1 t2 R t28 s34 y35 b37 n38 w39)
def F3 (t0 : Sl) (t1 : Int) (t2 : Int) (w : World) (R : Value → World → Prop) : Prop :=
 CX Try.prog (10 : Nat) #[] w fun (v1 : Value) (w2 : World) =>
 ∃ (t3 : Bool),
 v1 = Value.bool t3 ∧
 IfB (!t3) (R (Value.bool false) w2)
 (CX Try.prog (11 : Nat) #[Value.slice t0.1 t0.2 t0.3] w2 fun (v4 : Value) (w5 : World) =>
 ∃ (t6 : Bool),
 v4 = Value.bool t6 ∧
 IfB t6 (R (Value.bool true) w5)
 (∃ (y7 : Bool → World → Prop),
 IfB (decide ((0 : Int) ≤ t1)) (IfB (decide (t1 < (t0.n : Int))) (IfB (decide ((0 : Int) ≤ t2)) (([] : List Nat) = [] ∧ y7 (decide (t2 < t1)) w5) (([] : List Nat) = [] ∧ y7 false w5)) (([] : List Nat) = [] ∧ y7 false w5))
 (([] : List Nat) = [] ∧ y7 false w5) ∧
 ∀ (t8 : Bool) (w9 : World) (y10 : Nat → Value),
 y7 t8 w9 →
 (F3j1 t0 t1 t2 R t8 w9)))
theorem F3_ok (t0 : Sl) (t1 : Int) (t2 : Int) (w : World) (R : Value → World → Prop) (h : F3 t0 t1 t2 w R) : CW Try.prog 3 #[Value.slice t0.1 t0.2 t0.3, Value.int IntKind.i64 t1, Value.int IntKind.i64 t2] w R :=
  call_of tbOk mixed en3 Try.func3 rfl (.node (.nil) (.node (.nil) (.node (.nil) (.join [(7, .one (.bool))] [16, 17, 18, 19, 20, 21, 22, 23, 24, 25, 26, 27, 28, 29, 30, 31, 32, 7] (.nil) (.join [(8, .one (.bool))] [33, 34, 35, 36, 37, 38, 39, 40, 41, 42, 43, 44, 45, 46, 47, 48, 49, 50, 51, 52, 53, 54, 55, 56, 57, 8] (.draw (.st 0 (.st 1 (.st 2 (.st 3 (.st 4 (.st 5 (.st 6 (.st 7 (.st 8 (.st 9 (.st 10 (.st 11 (.st 12 (.st 13 (.st 14 (.st 15 (.st 16 (.st 17 (.st 18 (.st 19 (.st 20 (.st 21 (.ac 22 [] (.st 23 (.st 24 (.st 25 (.fin)))) (.non))))))))))))))))))))))))) (.node (.nil) (.node (.node (.nil) (.loop [(10, .one (.int .i64))] [60, 61, 62, 63, 11, 66, 67, 68, 69, 70, 71, 72, 75, 76, 77, 78, 79, 80, 81, 82, 83, 6, 73, 74, 64, 65, 10] (.node (.nil) (.node (.node (.nil) (.loop [(11, .one (.int .i64))] [66, 67, 68, 69, 70, 71, 72, 75, 76, 77, 78, 79, 80, 81, 82, 83, 6, 73, 74, 11] (.nil))) (.nil))))) (.nil)))))))) (by kernel_rfl) (Nat.le_of_ble_eq_true (by kernel_rfl)) (Eq.mp (α := F3 t0 t1 t2 w R) (by kernel_rfl) h)

def F4j2 (R : Value → World → Prop) (s9 : Sl) (s12 : Sl) (n16 : Int) (y20 : Unit → World → Prop) (y27 : Nat → Int → World → Prop) (b29 : Nat) (n30 : Int) (w31 : World) : Prop :=
 ∃ (b34 : Nat),
 ∃ (b35 : Nat),
 s9.1 = some ({ block := b34, off := b35 } : Addr) ∧
 ((0 : Int) ≤ n16 ∧ n16 < (s9.2 : Int)) ∧
 ∃ (s36 : Sl),
 w31.cell? ({ block := b34, off := b35 + n16.toNat } : Addr) = some (Value.slice s36.1 s36.2 s36.3) ∧
 IfB (decide (n30 < (s36.n : Int)))
 (∃ (b37 : Nat),
 ∃ (b38 : Nat),
 s12.1 = some ({ block := b37, off := b38 } : Addr) ∧
 ((0 : Int) ≤ n16 ∧ n16 < (s12.2 : Int)) ∧
 ∃ (s39 : Sl),
 w31.drew.cell? ({ block := b37, off := b38 + n16.toNat } : Addr) = some (Value.slice s39.1 s39.2 s39.3) ∧
 ∃ (b40 : Nat),
 ∃ (b41 : Nat),
 s39.1 = some ({ block := b40, off := b41 } : Addr) ∧
 ((0 : Int) ≤ n30 ∧ n30 < (s39.2 : Int)) ∧
 ∃ (n42 : Int),
 w31.drew.cell? ({ block := b40, off := b41 + n30.toNat } : Addr) = some (Value.int IntKind.i64 n42) ∧
 ∃ (b43 : Nat),
 ∃ (b44 : Nat),
 s9.1 = some ({ block := b43, off := b44 } : Addr) ∧
 ((0 : Int) ≤ n16 ∧ n16 < (s9.2 : Int)) ∧
 ∃ (s45 : Sl),
 w31.drew.cell? ({ block := b43, off := b44 + n16.toNat } : Addr) = some (Value.slice s45.1 s45.2 s45.3) ∧
 ∃ (b46 : Nat),
 ∃ (b47 : Nat),
 s45.1 = some ({ block := b46, off := b47 } : Addr) ∧
 ((0 : Int) ≤ n30 ∧ n30 < (s45.2 : Int)) ∧
 ∃ (n48 : Int),
 w31.drew.cell? ({ block := b46, off := b47 + n30.toNat } : Addr) = some (Value.int IntKind.i64 n48) ∧
 IfB (n42 != n48) (R (Value.bool false) w31.drew) (([] : List Nat) = [] ∧ ∃ (b49 : Nat), b49 < b29 ∧ y27 b49 (IntKind.i64.wrap (n30 + (1 : Int))) w31.drew))
 (([] : List Nat) = [] ∧ y20 PUnit.unit w31)
def F4j6 (R : Value → World → Prop) (s9 : Sl) (n16 : Int) (s72 : Sl) (y73 : Nat → Int → World → Prop) (b75 : Nat) (n76 : Int) (y80 : Nat → Bool × Int → World → Prop) (b82 : Nat) (x83 : Bool × Int) (w84 : World) : Prop :=
 ∃ (b87 : Nat),
 ∃ (b88 : Nat),
 s9.1 = some ({ block := b87, off := b88 } : Addr) ∧
 ((0 : Int) ≤ n16 ∧ n16 < (s9.2 : Int)) ∧
 ∃ (s89 : Sl),
 w84.cell? ({ block := b87, off := b88 + n16.toNat } : Addr) = some (Value.slice s89.1 s89.2 s89.3) ∧
 IfB (decide (x83.snd < (s89.n : Int)))
 (∃ (y90 : Bool → World → Prop),
 IfB x83.1 (([] : List Nat) = [] ∧ y90 true w84.drew)
 (∃ (b91 : Nat),
 ∃ (b92 : Nat),
 s9.1 = some ({ block := b91, off := b92 } : Addr) ∧
 ((0 : Int) ≤ n16 ∧ n16 < (s9.2 : Int)) ∧
 ∃ (s93 : Sl),
 w84.drew.cell? ({ block := b91, off := b92 + n16.toNat } : Addr) = some (Value.slice s93.1 s93.2 s93.3) ∧
 ∃ (b94 : Nat),
 ∃ (b95 : Nat),
 s93.1 = some ({ block := b94, off := b95 } : Addr) ∧
 ((0 : Int) ≤ x83.2 ∧ x83.2 < (s93.2 : Int)) ∧
 ∃ (n96 : Int),
 w84.drew.cell? ({ block := b94, off := b95 + x83.2.toNat } : Addr) = some (Value.int IntKind.i64 n96) ∧
 ∃ (b97 : Nat),
 ∃ (b98 : Nat),
 s72.1 = some ({ block := b97, off := b98 } : Addr) ∧
 ((0 : Int) ≤ n76 ∧ n76 < (s72.2 : Int)) ∧ ∃ (n99 : Int), w84.drew.cell? ({ block := b97, off := b98 + n76.toNat } : Addr) = some (Value.int IntKind.i64 n99) ∧ ([] : List Nat) = [] ∧ y90 (n96 == n99) w84.drew) ∧
 ∀ (t100 : Bool) (w101 : World) (y102 : Nat → Value), y90 t100 w101 → ([] : List Nat) = [] ∧ ∃ (b104 : Nat), b104 < b82 ∧ y80 b104 (t100, IntKind.i64.wrap (x83.2 + (1 : Int))) w101)
 (IfB (!x83.1) (R (Value.bool false) w84) (([] : List Nat) = [] ∧ ∃ (b105 : Nat), b105 < b75 ∧ y73 b105 (IntKind.i64.wrap (n76 + (1 : Int))) w84))
def F4j4 (R : Value → World → Prop) (s9 : Sl) (y13 : Nat → Int → World → Prop) (b15 : Nat) (n16 : Int) (y54 : Nat → Int → World → Prop) (b56 : Nat) (n57 : Int) (w58 : World) : Prop :=
 ∃ (b61 : Nat),
 ∃ (b62 : Nat),
 s9.1 = some ({ block := b61, off := b62 } : Addr) ∧
 ((0 : Int) ≤ n16 ∧ n16 < (s9.2 : Int)) ∧
 ∃ (s63 : Sl),
 w58.cell? ({ block := b61, off := b62 + n16.toNat } : Addr) = some (Value.slice s63.1 s63.2 s63.3) ∧
 IfB (decide (n57 < (s63.n : Int)))
 (∃ (b64 : Nat),
 ∃ (b65 : Nat),
 s9.1 = some ({ block := b64, off := b65 } : Addr) ∧
 ((0 : Int) ≤ n16 ∧ n16 < (s9.2 : Int)) ∧
 ∃ (s66 : Sl),
 w58.cell? ({ block := b64, off := b65 + n16.toNat } : Addr) = some (Value.slice s66.1 s66.2 s66.3) ∧
 ∃ (b67 : Nat),
 ∃ (b68 : Nat),
 s66.1 = some ({ block := b67, off := b68 } : Addr) ∧
 ((0 : Int) ≤ n57 ∧ n57 < (s66.2 : Int)) ∧
 ∃ (n69 : Int),
 w58.cell? ({ block := b67, off := b68 + n57.toNat } : Addr) = some (Value.int IntKind.i64 n69) ∧
 ∃ (b70 : Nat),
 ∃ (b71 : Nat),
 s9.1 = some ({ block := b70, off := b71 } : Addr) ∧
 ((0 : Int) ≤ n69 ∧ n69 < (s9.2 : Int)) ∧
 ∃ (s72 : Sl),
 w58.cell? ({ block := b70, off := b71 + n69.toNat } : Addr) = some (Value.slice s72.1 s72.2 s72.3) ∧
 ∃ (y73 : Nat → Int → World → Prop),
 (∃ (b74 : Nat), y73 b74 (0 : Int) w58) ∧
 ∀ (b75 : Nat) (n76 : Int) (w77 : World) (y78 : Nat → Value),
 y73 b75 n76 w77 →
 IfB (decide (n76 < (s72.n : Int)))
 (∃ (y80 : Nat → Bool × Int → World → Prop),
 (∃ (b81 : Nat), y80 b81 (false, (0 : Int)) w77) ∧
 ∀ (b82 : Nat) (x83 : Bool × Int) (w84 : World) (y85 : Nat → Value),
 y80 b82 x83 w84 →
 (F4j6 R s9 n16 s72 y73 b75 n76 y80 b82 x83 w84))
 (([] : List Nat) = [] ∧ ∃ (b106 : Nat), b106 < b56 ∧ y54 b106 (IntKind.i64.wrap (n57 + (1 : Int))) w77))
 (([] : List Nat) = [] ∧ ∃ (b107 : Nat), b107 < b15 ∧ y13 b107 (IntKind.i64.wrap (n16 + (1 : Int))) w58)
def F4j1 (t0 : Sl) (t1 : Int) (R : Value → World → Prop) (s9 : Sl) (s12 : Sl) (y13 : Nat → Int → World → Prop) (b15 : Nat) (n16 : Int) (w17 : World) : Prop :=
 IfB (decide (n16 < (s9.n : Int)))
 (∃ (y20 : Unit → World → Prop),
 IfB (decide (n16 < (IntKind.i64.wrap t1).tmod (IntKind.i64.wrap ((t0.n : Int) + (1 : Int)))))
 (∃ (b21 : Nat),
 ∃ (b22 : Nat),
 s12.1 = some ({ block := b21, off := b22 } : Addr) ∧
 ((0 : Int) ≤ n16 ∧ n16 < (s12.2 : Int)) ∧
 ∃ (s23 : Sl),
 w17.drew.cell? ({ block := b21, off := b22 + n16.toNat } : Addr) = some (Value.slice s23.1 s23.2 s23.3) ∧
 ∃ (b24 : Nat),
 ∃ (b25 : Nat),
 s9.1 = some ({ block := b24, off := b25 } : Addr) ∧
 ((0 : Int) ≤ n16 ∧ n16 < (s9.2 : Int)) ∧
 ∃ (s26 : Sl),
 w17.drew.cell? ({ block := b24, off := b25 + n16.toNat } : Addr) = some (Value.slice s26.1 s26.2 s26.3) ∧
 IfB ((s23.2 : Int) != (s26.2 : Int)) (R (Value.bool false) w17.drew)
 (∃ (y27 : Nat → Int → World → Prop),
 (∃ (b28 : Nat), y27 b28 (0 : Int) w17.drew) ∧
 ∀ (b29 : Nat) (n30 : Int) (w31 : World) (y32 : Nat → Value),
 y27 b29 n30 w31 →
 (F4j2 R s9 s12 n16 y20 y27 b29 n30 w31)))
 (([] : List Nat) = [] ∧ y20 PUnit.unit w17) ∧
 ∀ (y50 : Unit) (w51 : World) (y52 : Nat → Value),
 y20 y50 w51 →
 ∃ (y54 : Nat → Int → World → Prop),
 (∃ (b55 : Nat), y54 b55 (0 : Int) w51) ∧
 ∀ (b56 : Nat) (n57 : Int) (w58 : World) (y59 : Nat → Value),
 y54 b56 n57 w58 →
 (F4j4 R s9 y13 b15 n16 y54 b56 n57 w58))
 (R (Value.bool true) w17)
def F4 (t0 : Sl) (t1 : Int) (w : World) (R : Value → World → Prop) : Prop :=
 CX Try.prog (10 : Nat) #[] w fun (v1 : Value) (w2 : World) =>
 ∃ (t3 : Bool),
 v1 = Value.bool t3 ∧
 IfB (!t3) (R (Value.bool false) w2)
 (CX Try.prog (11 : Nat) #[Value.slice t0.1 t0.2 t0.3] w2 fun (v4 : Value) (w5 : World) =>
 ∃ (t6 : Bool),
 v4 = Value.bool t6 ∧
 IfB t6 (R (Value.bool true) w5)
 (CX Try.prog (13 : Nat) #[Value.slice t0.1 t0.2 t0.3] w5 fun (v7 : Value) (w8 : World) =>
 ∃ (s9 : Sl),
 v7 = Value.slice s9.1 s9.2 s9.3 ∧
 ¬IntKind.i64.wrap ((t0.2 : Int) + (1 : Int)) = (0 : Int) ∧
 ((0 : Int) ≤ (IntKind.i64.wrap t1).tmod (IntKind.i64.wrap ((t0.2 : Int) + (1 : Int))) ∧ (IntKind.i64.wrap t1).tmod (IntKind.i64.wrap ((t0.2 : Int) + (1 : Int))) ≤ (t0.3 : Int)) ∧
 CX Try.prog (13 : Nat) #[Value.slice (slAddr t0.1 t0.3 (0 : Nat) (6 : Nat)) ((IntKind.i64.wrap t1).tmod (IntKind.i64.wrap ((t0.2 : Int) + (1 : Int)))).toNat t0.3] w8
 fun (v10 : Value) (w11 : World) =>
 ∃ (s12 : Sl),
 v10 = Value.slice s12.1 s12.2 s12.3 ∧
 IfB ((s9.2 : Int) != (t0.2 : Int)) (R (Value.bool false) w11)
 (IfB ((s12.2 : Int) != (IntKind.i64.wrap t1).tmod (IntKind.i64.wrap ((t0.2 : Int) + (1 : Int)))) (R (Value.bool false) w11)
 (∃ (y13 : Nat → Int → World → Prop),
 (∃ (b14 : Nat), y13 b14 (0 : Int) w11) ∧
 ∀ (b15 : Nat) (n16 : Int) (w17 : World) (y18 : Nat → Value),
 y13 b15 n16 w17 →
 (F4j1 t0 t1 R s9 s12 y13 b15 n16 w17)))))
theorem F4_ok (t0 : Sl) (t1 : Int) (w : World) (R : Value → World → Prop) (h : F4 t0 t1 w R) : CW Try.prog 4 #[Value.slice t0.1 t0.2 t0.3, Value.int IntKind.u8 t1] w R :=
  call_of tbOk mixed en4 Try.func4 rfl (.node (.nil) (.node (.nil) (.node (.nil) (.node (.nil) (.node (.nil) (.node (.nil) (.node (.nil) (.node (.node (.nil) (.loop [(8, .one (.int .i64))] [42, 43, 44, 45, 48, 49, 50, 51, 52, 53, 54, 55, 56, 57, 58, 59, 60, 61, 4, 9, 62, 63, 64, 65, 66, 67, 68, 71, 72, 73, 74, 75, 76, 77, 78, 79, 80, 81, 82, 83, 84, 85, 69, 70, 10, 86, 87, 88, 89, 90, 91, 92, 95, 96, 97, 98, 99, 100, 101, 102, 103, 104, 11, 12, 105, 106, 107, 108, 13, 14, 111, 112, 113, 114, 115, 116, 117, 120, 121, 122, 123, 124, 125, 126, 127, 128, 129, 130, 131, 132, 133, 134, 118, 119, 135, 136, 109, 110, 93, 94, 46, 47, 8] (.node (.nil) (.node (.join [] [48, 49, 50, 51, 52, 53, 54, 55, 56, 57, 58, 59, 60, 61, 4, 9, 62, 63, 64, 65, 66, 67, 68, 71, 72, 73, 74, 75, 76, 77, 78, 79, 80, 81, 82, 83, 84, 85, 69, 70] (.node (.nil) (.node (.node (.node (.draw (.st 0 (.st 1 (.st 2 (.st 3 (.st 4 (.st 5 (.st 6 (.st 7 (.st 8 (.st 9 (.st 10 (.fin))))))))))))) (.nil)) (.node (.nil) (.loop [(9, .one (.int .i64))] [62, 63, 64, 65, 66, 67, 68, 71, 72, 73, 74, 75, 76, 77, 78, 79, 80, 81, 82, 83, 84, 85, 4, 69, 70, 9] (.node (.nil) (.node (.node (.draw (.st 0 (.st 1 (.st 2 (.st 3 (.st 4 (.st 5 (.st 6 (.st 7 (.st 8 (.st 9 (.st 10 (.st 11 (.st 12 (.st 13 (.st 14 (.fin))))))))))))))))) (.nil)) (.nil)))))) (.nil))) (.node (.nil) (.loop [(10, .one (.int .i64))] [86, 87, 88, 89, 90, 91, 92, 95, 96, 97, 98, 99, 100, 101, 102, 103, 104, 11, 12, 105, 106, 107, 108, 13, 14, 111, 112, 113, 114, 115, 116, 117, 120, 121, 122, 123, 124, 125, 126, 127, 128, 129, 130, 131, 132, 133, 134, 118, 119, 135, 136, 4, 109, 110, 93, 94, 10] (.node (.nil) (.node (.node (.nil) (.node (.nil) (.loop [(12, .one (.int .i64))] [105, 106, 107, 108, 13, 14, 111, 112, 113, 114, 115, 116, 117, 120, 121, 122, 123, 124, 125, 126, 127, 128, 129, 130, 131, 132, 133, 134, 118, 119, 135, 136, 4, 109, 110, 12] (.node (.nil) (.node (.node (.nil) (.node (.node (.nil) (.loop [(13, .one (.bool)), (14, .one (.int .i64))] [111, 112, 113, 114, 115, 116, 117, 120, 121, 122, 123, 124, 125, 126, 127, 128, 129, 130, 131, 132, 133, 134, 13, 118, 119, 14] (.node (.nil) (.join [(13, .one (.bool))] [120, 121, 122, 123, 124, 125, 126, 127, 128, 129, 130, 131, 132, 133, 134, 13] (.draw (.st 0 (.st 1 (.st 2 (.st 3 (.st 4 (.st 5 (.st 6 (.st 7 (.st 8 (.st 9 (.st 10 (.st 11 (.st 12 (.st 13 (.st 14 (.st 15 (.fin)))))))))))))))))) (.nil))))) (.nil))) (.nil)))))) (.nil)))))) (.nil))))) (.nil))))))))) (by kernel_rfl) (Nat.le_of_ble_eq_true (by kernel_rfl)) (Eq.mp (α := F4 t0 t1 w R) (by kernel_rfl) h)

def F5j1 (t0 : Sl) (t1 : Int) (t2 : Int) (R : Value → World → Prop) (t8 : Bool) (w9 : World) : Prop :=
 IfB t8
 (CX Try.prog (17 : Nat) #[Value.slice t0.1 t0.2 t0.3, Value.int IntKind.i64 t1, Value.int IntKind.i64 t2] w9 fun (v12 : Value) (w13 : World) =>
 ∃ (t14 : Bool),
 v12 = Value.bool t14 ∧
 IfB (!t14)
 (CX Try.prog (18 : Nat) #[Value.slice t0.1 t0.2 t0.3, Value.int IntKind.i64 t1, Value.int IntKind.i64 t2] w13 fun (v15 : Value) (w16 : World) =>
 ∃ (t17 : Bool), v15 = Value.bool t17 ∧ R (Value.bool !t17) w16)
 (R (Value.bool false) w13))
 (CX Try.prog (15 : Nat) #[Value.slice t0.1 t0.2 t0.3] w9 fun (v18 : Value) (w19 : World) =>
 ∃ (s20 : Sl),
 v18 = Value.slice s20.1 s20.2 s20.3 ∧
 ∃ (b21 : Nat),
 ∃ (b22 : Nat),
 s20.1 = some ({ block := b21, off := b22 } : Addr) ∧
 ((0 : Int) ≤ t1 ∧ t1 < (s20.2 : Int)) ∧
 ∃ (s23 : Sl),
 w19.drew.cell? ({ block := b21, off := b22 + t1.toNat } : Addr) = some (Value.slice s23.1 s23.2 s23.3) ∧
 ∃ (b24 : Nat),
 ∃ (b25 : Nat),
 s23.1 = some ({ block := b24, off := b25 } : Addr) ∧
 ((0 : Int) ≤ t2 ∧ t2 < (s23.2 : Int)) ∧
 ∃ (t26 : Bool),
 w19.drew.cell? ({ block := b24, off := b25 + t2.toNat } : Addr) = some (Value.bool t26) ∧
 CX Try.prog (17 : Nat) #[Value.slice t0.1 t0.2 t0.3, Value.int IntKind.i64 t1, Value.int IntKind.i64 t2] w19.drew fun (v27 : Value) (w28 : World) =>
 ∃ (t29 : Bool),
 v27 = Value.bool t29 ∧
 w28.cell? ({ block := b24, off := b25 + t2.toNat } : Addr) = some (Value.bool t26) ∧
 w28.cell? ({ block := b21, off := b22 + t1.toNat } : Addr) = some (Value.slice s23.1 s23.2 s23.3) ∧
 IfB (t29 == t26)
 (∃ (b30 : Nat),
 ∃ (b31 : Nat),
 s20.1 = some ({ block := b30, off := b31 } : Addr) ∧
 ((0 : Int) ≤ t1 ∧ t1 < (s20.2 : Int)) ∧
 ∃ (s32 : Sl),
 w28.cell? ({ block := b30, off := b31 + t1.toNat } : Addr) = some (Value.slice s32.1 s32.2 s32.3) ∧
 ∃ (b33 : Nat),
 ∃ (b34 : Nat),
 s32.1 = some ({ block := b33, off := b34 } : Addr) ∧
 ((0 : Int) ≤ t2 ∧ t2 < (s32.2 : Int)) ∧
 ∃ (t35 : Bool),
 w28.cell? ({ block := b33, off := b34 + t2.toNat } : Addr) = some (Value.bool t35) ∧
 CX Try.prog (18 : Nat) #[Value.slice t0.1 t0.2 t0.3, Value.int IntKind.i64 t1, Value.int IntKind.i64 t2] w28 fun (v36 : Value) (w37 : World) =>
 ∃ (t38 : Bool),
 v36 = Value.bool t38 ∧
 w37.cell? ({ block := b33, off := b34 + t2.toNat } : Addr) = some (Value.bool t35) ∧
 w37.cell? ({ block := b30, off := b31 + t1.toNat } : Addr) = some (Value.slice s32.1 s32.2 s32.3) ∧
 IfB (!t35)
 (∃ (b39 : Nat),
 ∃ (b40 : Nat),
 s20.1 = some ({ block := b39, off := b40 } : Addr) ∧
 ((0 : Int) ≤ t2 ∧ t2 < (s20.2 : Int)) ∧
 ∃ (s41 : Sl),
 w37.cell? ({ block := b39, off := b40 + t2.toNat } : Addr) = some (Value.slice s41.1 s41.2 s41.3) ∧
 ∃ (b42 : Nat),
 ∃ (b43 : Nat),
 s41.1 = some ({ block := b42, off := b43 } : Addr) ∧
 ((0 : Int) ≤ t1 ∧ t1 < (s41.2 : Int)) ∧ ∃ (t44 : Bool), w37.cell? ({ block := b42, off := b43 + t1.toNat } : Addr) = some (Value.bool t44) ∧ R (Value.bool (t38 == !t44)) w37)
 (R (Value.bool (t38 == false)) w37))
 (R (Value.bool false) w28))
def F5 (t0 : Sl) (t1 : Int) (t2 : Int) (w : World) (R : Value → World → Prop) : Prop :=
 CX Try.prog (10 : Nat) #[] w fun (v1 : Value) (w2 : World) =>
 ∃ (t3 : Bool),
 v1 = Value.bool t3 ∧
 IfB (!t3) (R (Value.bool false) w2)
 (CX Try.prog (11 : Nat) #[Value.slice t0.1 t0.2 t0.3] w2 fun (v4 : Value) (w5 : World) =>
 ∃ (t6 : Bool),
 v4 = Value.bool t6 ∧
 IfB t6 (R (Value.bool true) w5)
 (∃ (y7 : Bool → World → Prop),
 IfB (decide (t1 < (0 : Int))) (([] : List Nat) = [] ∧ y7 true w5)
 (IfB (decide ((t0.n : Int) ≤ t1)) (([] : List Nat) = [] ∧ y7 true w5) (IfB (decide (t2 < (0 : Int))) (([] : List Nat) = [] ∧ y7 true w5) (([] : List Nat) = [] ∧ y7 (decide ((t0.n : Int) ≤ t2)) w5))) ∧
 ∀ (t8 : Bool) (w9 : World) (y10 : Nat → Value),
 y7 t8 w9 →
 (F5j1 t0 t1 t2 R t8 w9)))
theorem F5_ok (t0 : Sl) (t1 : Int) (t2 : Int) (w : World) (R : Value → World → Prop) (h : F5 t0 t1 t2 w R) : CW Try.prog 5 #[Value.slice t0.1 t0.2 t0.3, Value.int IntKind.i64 t1, Value.int IntKind.i64 t2] w R :=
  call_of tbOk mixed en5 Try.func5 rfl (.node (.nil) (.node (.nil) (.node (.nil) (.node (.join [(29, .one (.bool))] [12, 13, 14, 15, 16, 17, 18, 19, 20, 21, 22, 23, 24, 25, 26, 27, 28, 29] (.nil) (.nil)) (.node (.nil) (.node (.draw (.st 0 (.st 1 (.st 2 (.st 4 (.st 5 (.st 6 (.st 7 (.st 8 (.st 9 (.st 10 (.ac 3 [10, 9, 8, 7, 6, 5, 4] (.st 11 (.st 12 (.st 13 (.st 14 (.st 15 (.st 17 (.st 18 (.st 19 (.st 20 (.st 21 (.st 22 (.st 23 (.st 24 (.ac 16 [24, 23, 22, 21, 20, 19, 18, 17] (.st 25 (.st 26 (.st 27 (.st 28 (.st 29 (.st 30 (.st 31 (.st 32 (.st 33 (.st 34 (.st 35 (.st 36 (.st 37 (.fin)))))))))))))) (.non))))))))))))))) (.non))))))))))))) (.nil))))))) (by kernel_rfl) (Nat.le_of_ble_eq_true (by kernel_rfl)) (Eq.mp (α := F5 t0 t1 t2 w R) (by kernel_rfl) h)

def F6k1 (t0 : Sl) (w18 : World) (b1 : Nat) (R : Value → World → Prop) : Prop :=
 CX Try.prog (13 : Nat) #[Value.slice t0.1 t0.2 t0.3] w18 fun (v20 : Value) (w21 : World) =>
 ∃ (s22 : Sl),
 v20 = Value.slice s22.1 s22.2 s22.3 ∧
 ∃ (x23 : Int × Int × Int × Bool × Sl × Sl),
 CellsAt w21 b1 (0 : Nat)
 [Value.int IntKind.i64 x23.1, Value.int IntKind.i64 x23.snd.1, Value.int IntKind.i64 x23.snd.snd.1, Value.bool x23.snd.snd.snd.1,
 Value.slice x23.snd.snd.snd.snd.fst.1 x23.snd.snd.snd.snd.fst.2 x23.snd.snd.snd.snd.fst.3, Value.slice x23.snd.snd.snd.snd.snd.1 x23.snd.snd.snd.snd.snd.2 x23.snd.snd.snd.snd.snd.3] ∧
 CX Try.prog (19 : Nat)
 #[Value.slice s22.1 s22.2 s22.3, Value.slice t0.1 t0.2 t0.3,
 Value.agg
 #[Value.int IntKind.i64 x23.1, Value.int IntKind.i64 x23.snd.1, Value.int IntKind.i64 x23.snd.snd.1, Value.bool x23.snd.snd.snd.1,
 Value.slice x23.snd.snd.snd.snd.fst.1 x23.snd.snd.snd.snd.fst.2 x23.snd.snd.snd.snd.fst.3, Value.slice x23.snd.snd.snd.snd.snd.1 x23.snd.snd.snd.snd.snd.2 x23.snd.snd.snd.snd.snd.3]]
 w21 fun (v24 : Value) (w25 : World) =>
 ∃ (s26 : Sl),
 v24 = Value.slice s26.1 s26.2 s26.3 ∧
 ∃ (x27 : Int × Int × Int × Bool × Sl × Sl),
 CellsAt w25.drew b1 (0 : Nat)
 [Value.int IntKind.i64 x27.1, Value.int IntKind.i64 x27.snd.1, Value.int IntKind.i64 x27.snd.snd.1, Value.bool x27.snd.snd.snd.1,
 Value.slice x27.snd.snd.snd.snd.fst.1 x27.snd.snd.snd.snd.fst.2 x27.snd.snd.snd.snd.fst.3, Value.slice x27.snd.snd.snd.snd.snd.1 x27.snd.snd.snd.snd.snd.2 x27.snd.snd.snd.snd.snd.3] ∧
 ((0 : Nat) * (6 : Nat) ≤ (16777216 : Nat) ∧
 AllocP w25.drew (Obj.cells #[] (27 : Nat)) fun (b28 : Nat) (w29 : World) =>
 CellsAt w29 b1 (0 : Nat)
 [Value.int IntKind.i64 x27.1, Value.int IntKind.i64 x27.snd.1, Value.int IntKind.i64 x27.snd.snd.1, Value.bool x27.snd.snd.snd.1,
 Value.slice x27.snd.snd.snd.snd.fst.1 x27.snd.snd.snd.snd.fst.2 x27.snd.snd.snd.snd.fst.3, Value.slice x27.snd.snd.snd.snd.snd.1 x27.snd.snd.snd.snd.snd.2 x27.snd.snd.snd.snd.snd.3] ∧
 (∃ (l30 : List Value),
 ReadC w29 t0.1 (t0.2 * (6 : Nat)) l30 ∧
 AppendP tt27 (27 : Nat) w29 (some ({ block := b28, off := (0 : Nat) } : Addr)) (0 : Nat) (0 : Nat) t0.2 l30 fun (s31 : Sl) (w32 : World) =>
 CellsAt w32 b1 (0 : Nat)
 [Value.int IntKind.i64 x27.1, Value.int IntKind.i64 x27.snd.1, Value.int IntKind.i64 x27.snd.snd.1, Value.bool x27.snd.snd.snd.1,
 Value.slice x27.snd.snd.snd.snd.fst.1 x27.snd.snd.snd.snd.fst.2 x27.snd.snd.snd.snd.fst.3, Value.slice x27.snd.snd.snd.snd.snd.1 x27.snd.snd.snd.snd.snd.2 x27.snd.snd.snd.snd.snd.3] ∧
 (1 : Nat) * (6 : Nat) ≤ (16777216 : Nat) ∧
 AllocP w32
 (Obj.cells
 #[Value.int IntKind.i64 x27.1, Value.int IntKind.i64 x27.snd.1, Value.int IntKind.i64 x27.snd.snd.1, Value.bool x27.snd.snd.snd.1,
 Value.slice x27.snd.snd.snd.snd.fst.1 x27.snd.snd.snd.snd.fst.2 x27.snd.snd.snd.snd.fst.3, Value.slice x27.snd.snd.snd.snd.snd.1 x27.snd.snd.snd.snd.snd.2 x27.snd.snd.snd.snd.snd.3]
 (27 : Nat))
 fun (b33 : Nat) (w34 : World) =>
 ∃ (l35 : List Value),
 ReadC w34 (some ({ block := b33, off := (0 : Nat) } : Addr)) ((1 : Nat) * (6 : Nat)) l35 ∧
 AppendP tt27 (27 : Nat) w34 s31.1 s31.2 s31.3 (1 : Nat) l35 fun (s36 : Sl) (w37 : World) =>
 CX Try.prog (15 : Nat) #[Value.slice s36.1 s36.2 s36.3] w37 fun (v38 : Value) (w39 : World) =>
 ∃ (s40 : Sl),
 v38 = Value.slice s40.1 s40.2 s40.3 ∧
 CX Try.prog (14 : Nat) #[Value.slice s26.1 s26.2 s26.3, Value.slice s40.1 s40.2 s40.3] w39 fun (v41 : Value) (w42 : World) =>
 ∃ (t43 : Bool),
 v41 = Value.bool t43 ∧
 IfB t43
 (CX Try.prog (15 : Nat) #[Value.slice t0.1 t0.2 t0.3] w42 fun (v44 : Value) (w45 : World) =>
 ∃ (s46 : Sl),
 v44 = Value.slice s46.1 s46.2 s46.3 ∧
 CX Try.prog (14 : Nat) #[Value.slice s22.1 s22.2 s22.3, Value.slice s46.1 s46.2 s46.3] w45 fun (v47 : Value) (w48 : World) =>
 ∃ (t49 : Bool), v47 = Value.bool t49 ∧ R (Value.bool t49) w48)
 (R (Value.bool false) w42)) ∧
 (1 : Nat) * (6 : Nat) ≤ (16777216 : Nat) ∧
 AllocP w29
 (Obj.cells
 #[Value.int IntKind.i64 x27.1, Value.int IntKind.i64 x27.snd.1, Value.int IntKind.i64 x27.snd.snd.1, Value.bool x27.snd.snd.snd.1,
 Value.slice x27.snd.snd.snd.snd.fst.1 x27.snd.snd.snd.snd.fst.2 x27.snd.snd.snd.snd.fst.3, Value.slice x27.snd.snd.snd.snd.snd.1 x27.snd.snd.snd.snd.snd.2 x27.snd.snd.snd.snd.snd.3]
 (27 : Nat))
 fun (b50 : Nat) (w51 : World) =>
 ∃ (l52 : List Value),
 ReadC w51 t0.1 (t0.2 * (6 : Nat)) l52 ∧
 AppendP tt27 (27 : Nat) w51 (some ({ block := b28, off := (0 : Nat) } : Addr)) (0 : Nat) (0 : Nat) t0.2 l52 fun (s53 : Sl) (w54 : World) =>
 ∃ (l55 : List Value),
 ReadC w54 (some ({ block := b50, off := (0 : Nat) } : Addr)) ((1 : Nat) * (6 : Nat)) l55 ∧
 AppendP tt27 (27 : Nat) w54 s53.1 s53.2 s53.3 (1 : Nat) l55 fun (s56 : Sl) (w57 : World) =>
 CX Try.prog (15 : Nat) #[Value.slice s56.1 s56.2 s56.3] w57 fun (v58 : Value) (w59 : World) =>
 ∃ (s60 : Sl),
 v58 = Value.slice s60.1 s60.2 s60.3 ∧
 CX Try.prog (14 : Nat) #[Value.slice s26.1 s26.2 s26.3, Value.slice s60.1 s60.2 s60.3] w59 fun (v61 : Value) (w62 : World) =>
 ∃ (t63 : Bool),
 v61 = Value.bool t63 ∧
 IfB t63
 (CX Try.prog (15 : Nat) #[Value.slice t0.1 t0.2 t0.3] w62 fun (v64 : Value) (w65 : World) =>
 ∃ (s66 : Sl),
 v64 = Value.slice s66.1 s66.2 s66.3 ∧
 CX Try.prog (14 : Nat) #[Value.slice s22.1 s22.2 s22.3, Value.slice s66.1 s66.2 s66.3] w65 fun (v67 : Value) (w68 : World) =>
 ∃ (t69 : Bool), v67 = Value.bool t69 ∧ R (Value.bool t69) w68)
 (R (Value.bool false) w62)) ∧
 (1 : Nat) * (6 : Nat) ≤ (16777216 : Nat) ∧
 AllocP w25.drew
 (Obj.cells
 #[Value.int IntKind.i64 x27.1, Value.int IntKind.i64 x27.snd.1, Value.int IntKind.i64 x27.snd.snd.1, Value.bool x27.snd.snd.snd.1,
 Value.slice x27.snd.snd.snd.snd.fst.1 x27.snd.snd.snd.snd.fst.2 x27.snd.snd.snd.snd.fst.3, Value.slice x27.snd.snd.snd.snd.snd.1 x27.snd.snd.snd.snd.snd.2 x27.snd.snd.snd.snd.snd.3]
 (27 : Nat))
 fun (b70 : Nat) (w71 : World) =>
 (0 : Nat) * (6 : Nat) ≤ (16777216 : Nat) ∧
 AllocP w71 (Obj.cells #[] (27 : Nat)) fun (b72 : Nat) (w73 : World) =>
 ∃ (l74 : List Value),
 ReadC w73 t0.1 (t0.2 * (6 : Nat)) l74 ∧
 AppendP tt27 (27 : Nat) w73 (some ({ block := b72, off := (0 : Nat) } : Addr)) (0 : Nat) (0 : Nat) t0.2 l74 fun (s75 : Sl) (w76 : World) =>
 ∃ (l77 : List Value),
 ReadC w76 (some ({ block := b70, off := (0 : Nat) } : Addr)) ((1 : Nat) * (6 : Nat)) l77 ∧
 AppendP tt27 (27 : Nat) w76 s75.1 s75.2 s75.3 (1 : Nat) l77 fun (s78 : Sl) (w79 : World) =>
 CX Try.prog (15 : Nat) #[Value.slice s78.1 s78.2 s78.3] w79 fun (v80 : Value) (w81 : World) =>
 ∃ (s82 : Sl),
 v80 = Value.slice s82.1 s82.2 s82.3 ∧
 CX Try.prog (14 : Nat) #[Value.slice s26.1 s26.2 s26.3, Value.slice s82.1 s82.2 s82.3] w81 fun (v83 : Value) (w84 : World) =>
 ∃ (t85 : Bool),
 v83 = Value.bool t85 ∧
 IfB t85
 (CX Try.prog (15 : Nat) #[Value.slice t0.1 t0.2 t0.3] w84 fun (v86 : Value) (w87 : World) =>
 ∃ (s88 : Sl),
 v86 = Value.slice s88.1 s88.2 s88.3 ∧
 CX Try.prog (14 : Nat) #[Value.slice s22.1 s22.2 s22.3, Value.slice s88.1 s88.2 s88.3] w87 fun (v89 : Value) (w90 : World) =>
 ∃ (t91 : Bool), v89 = Value.bool t91 ∧ R (Value.bool t91) w90)
 (R (Value.bool false) w84)
def F6k2 (w4 : World) (b1 : Nat) (t0 : Sl) (R : Value → World → Prop) : Prop :=
 ∃ (x6 : Int × Int × Int × Bool × Sl × Sl),
 CellsAt w4.drew b1 (0 : Nat)
 [Value.int IntKind.i64 x6.1, Value.int IntKind.i64 x6.snd.1, Value.int IntKind.i64 x6.snd.snd.1, Value.bool x6.snd.snd.snd.1,
 Value.slice x6.snd.snd.snd.snd.fst.1 x6.snd.snd.snd.snd.fst.2 x6.snd.snd.snd.snd.fst.3, Value.slice x6.snd.snd.snd.snd.snd.1 x6.snd.snd.snd.snd.snd.2 x6.snd.snd.snd.snd.snd.3] ∧
 ((0 : Nat) * (6 : Nat) ≤ (16777216 : Nat) ∧
 AllocP w4.drew (Obj.cells #[] (27 : Nat)) fun (b7 : Nat) (w8 : World) =>
 CellsAt w8 b1 (0 : Nat)
 [Value.int IntKind.i64 x6.1, Value.int IntKind.i64 x6.snd.1, Value.int IntKind.i64 x6.snd.snd.1, Value.bool x6.snd.snd.snd.1,
 Value.slice x6.snd.snd.snd.snd.fst.1 x6.snd.snd.snd.snd.fst.2 x6.snd.snd.snd.snd.fst.3, Value.slice x6.snd.snd.snd.snd.snd.1 x6.snd.snd.snd.snd.snd.2 x6.snd.snd.snd.snd.snd.3] ∧
 (∃ (l9 : List Value),
 ReadC w8 t0.1 (t0.2 * (6 : Nat)) l9 ∧
 AppendP tt27 (27 : Nat) w8 (some ({ block := b7, off := (0 : Nat) } : Addr)) (0 : Nat) (0 : Nat) t0.2 l9 fun (s10 : Sl) (w11 : World) =>
 CellsAt w11 b1 (0 : Nat)
 [Value.int IntKind.i64 x6.1, Value.int IntKind.i64 x6.snd.1, Value.int IntKind.i64 x6.snd.snd.1, Value.bool x6.snd.snd.snd.1,
 Value.slice x6.snd.snd.snd.snd.fst.1 x6.snd.snd.snd.snd.fst.2 x6.snd.snd.snd.snd.fst.3, Value.slice x6.snd.snd.snd.snd.snd.1 x6.snd.snd.snd.snd.snd.2 x6.snd.snd.snd.snd.snd.3] ∧
 (1 : Nat) * (6 : Nat) ≤ (16777216 : Nat) ∧
 AllocP w11
 (Obj.cells
 #[Value.int IntKind.i64 x6.1, Value.int IntKind.i64 x6.snd.1, Value.int IntKind.i64 x6.snd.snd.1, Value.bool x6.snd.snd.snd.1,
 Value.slice x6.snd.snd.snd.snd.fst.1 x6.snd.snd.snd.snd.fst.2 x6.snd.snd.snd.snd.fst.3, Value.slice x6.snd.snd.snd.snd.snd.1 x6.snd.snd.snd.snd.snd.2 x6.snd.snd.snd.snd.snd.3]
 (27 : Nat))
 fun (b12 : Nat) (w13 : World) =>
 ∃ (l14 : List Value),
 ReadC w13 (some ({ block := b12, off := (0 : Nat) } : Addr)) ((1 : Nat) * (6 : Nat)) l14 ∧
 AppendP tt27 (27 : Nat) w13 s10.1 s10.2 s10.3 (1 : Nat) l14 fun (s15 : Sl) (w16 : World) =>
 CX Try.prog (11 : Nat) #[Value.slice s15.1 s15.2 s15.3] w16 fun (v17 : Value) (w18 : World) =>
 ∃ (t19 : Bool),
 v17 = Value.bool t19 ∧
 IfB t19 (R (Value.bool true) w18)
 (F6k1 t0 w18 b1 R)) ∧
 (1 : Nat) * (6 : Nat) ≤ (16777216 : Nat) ∧
 AllocP w8
 (Obj.cells
 #[Value.int IntKind.i64 x6.1, Value.int IntKind.i64 x6.snd.1, Value.int IntKind.i64 x6.snd.snd.1, Value.bool x6.snd.snd.snd.1,
 Value.slice x6.snd.snd.snd.snd.fst.1 x6.snd.snd.snd.snd.fst.2 x6.snd.snd.snd.snd.fst.3, Value.slice x6.snd.snd.snd.snd.snd.1 x6.snd.snd.snd.snd.snd.2 x6.snd.snd.snd.snd.snd.3]
 (27 : Nat))
 fun (b92 : Nat) (w93 : World) =>
 ∃ (l94 : List Value),
 ReadC w93 t0.1 (t0.2 * (6 : Nat)) l94 ∧
 AppendP tt27 (27 : Nat) w93 (some ({ block := b7, off := (0 : Nat) } : Addr)) (0 : Nat) (0 : Nat) t0.2 l94 fun (s95 : Sl) (w96 : World) =>
 ∃ (l97 : List Value),
 ReadC w96 (some ({ block := b92, off := (0 : Nat) } : Addr)) ((1 : Nat) * (6 : Nat)) l97 ∧
 AppendP tt27 (27 : Nat) w96 s95.1 s95.2 s95.3 (1 : Nat) l97 fun (s98 : Sl) (w99 : World) =>
 CX Try.prog (11 : Nat) #[Value.slice s98.1 s98.2 s98.3] w99 fun (v100 : Value) (w101 : World) =>
 ∃ (t102 : Bool),
 v100 = Value.bool t102 ∧
 IfB t102 (R (Value.bool true) w101)
 (F6k1 t0 w101 b1 R)) ∧
 (1 : Nat) * (6 : Nat) ≤ (16777216 : Nat) ∧
 AllocP w4.drew
 (Obj.cells
 #[Value.int IntKind.i64 x6.1, Value.int IntKind.i64 x6.snd.1, Value.int IntKind.i64 x6.snd.snd.1, Value.bool x6.snd.snd.snd.1,
 Value.slice x6.snd.snd.snd.snd.fst.1 x6.snd.snd.snd.snd.fst.2 x6.snd.snd.snd.snd.fst.3, Value.slice x6.snd.snd.snd.snd.snd.1 x6.snd.snd.snd.snd.snd.2 x6.snd.snd.snd.snd.snd.3]
 (27 : Nat))
 fun (b175 : Nat) (w176 : World) =>
 (0 : Nat) * (6 : Nat) ≤ (16777216 : Nat) ∧
 AllocP w176 (Obj.cells #[] (27 : Nat)) fun (b177 : Nat) (w178 : World) =>
 ∃ (l179 : List Value),
 ReadC w178 t0.1 (t0.2 * (6 : Nat)) l179 ∧
 AppendP tt27 (27 : Nat) w178 (some ({ block := b177, off := (0 : Nat) } : Addr)) (0 : Nat) (0 : Nat) t0.2 l179 fun (s180 : Sl) (w181 : World) =>
 ∃ (l182 : List Value),
 ReadC w181 (some ({ block := b175, off := (0 : Nat) } : Addr)) ((1 : Nat) * (6 : Nat)) l182 ∧
 AppendP tt27 (27 : Nat) w181 s180.1 s180.2 s180.3 (1 : Nat) l182 fun (s183 : Sl) (w184 : World) =>
 CX Try.prog (11 : Nat) #[Value.slice s183.1 s183.2 s183.3] w184 fun (v185 : Value) (w186 : World) =>
 ∃ (t187 : Bool),
 v185 = Value.bool t187 ∧
 IfB t187 (R (Value.bool true) w186)
 (F6k1 t0 w186 b1 R)
def F6 (t0 : Sl) (t1 : (Leaf.int IntKind.i64).den × dens [Leaf.int IntKind.i64, Leaf.int IntKind.i64, Leaf.bool, Leaf.sl, Leaf.sl]) (w : World) (R : Value → World → Prop) : Prop :=
 AllocP w
 (Obj.cells
 #[Value.int IntKind.i64 t1.1, Value.int IntKind.i64 t1.snd.1, Value.int IntKind.i64 t1.snd.snd.1, Value.bool t1.snd.snd.snd.1,
 Value.slice t1.snd.snd.snd.snd.fst.1 t1.snd.snd.snd.snd.fst.2 t1.snd.snd.snd.snd.fst.3, Value.slice t1.snd.snd.snd.snd.snd.1 t1.snd.snd.snd.snd.snd.2 t1.snd.snd.snd.snd.snd.3]
 (27 : Nat))
 fun (b1 : Nat) (w2 : World) =>
 CX Try.prog (10 : Nat) #[] w2 fun (v3 : Value) (w4 : World) =>
 ∃ (t5 : Bool),
 v3 = Value.bool t5 ∧
 IfB (!t5) (R (Value.bool false) w4)
 (F6k2 w4 b1 t0 R)
theorem F6_ok (t0 : Sl) (t1 : (Leaf.int IntKind.i64).den × dens [Leaf.int IntKind.i64, Leaf.int IntKind.i64, Leaf.bool, Leaf.sl, Leaf.sl]) (w : World) (R : Value → World → Prop) (h : F6 t0 t1 w R) : CW Try.prog 6 #[Value.slice t0.1 t0.2 t0.3, Value.agg #[Value.int IntKind.i64 t1.1, Value.int IntKind.i64 t1.snd.1, Value.int IntKind.i64 t1.snd.snd.1, Value.bool t1.snd.snd.snd.1, Value.slice t1.snd.snd.snd.snd.fst.1 t1.snd.snd.snd.snd.fst.2 t1.snd.snd.snd.snd.fst.3, Value.slice t1.snd.snd.snd.snd.snd.1 t1.snd.snd.snd.snd.snd.2 t1.snd.snd.snd.snd.snd.3]] w R :=
  call_of tbOk mixed en6 Try.func6 rfl (.node (.nil) (.node (.nil) (.node (.node (.draw (.st 1 (.st 3 (.ac 0 [3, 1] (.ac 2 [3] (.ac 4 [] (.ac 5 [] (.ac 6 [] (.fin) (.non)) (.non)) (.non)) (.ac 4 [1] (.ac 2 [] (.ac 5 [] (.ac 6 [] (.fin) (.non)) (.non)) (.non)) (.non))) (.ac 4 [1] (.ac 0 [1] (.ac 2 [] (.ac 5 [] (.ac 6 [] (.fin) (.non)) (.non)) (.non)) (.non)) (.non)))))) (.nil)) (.node (.nil) (.node (.nil) (.node (.draw (.st 0 (.st 2 (.st 4 (.ac 1 [4, 2, 0] (.ac 3 [4, 0] (.ac 5 [0] (.ac 6 [0] (.ac 7 [0] (.ac 8 [] (.st 9 (.st 10 (.st 11 (.ac 12 [10] (.ac 13 [] (.st 14 (.st 15 (.fin))) (.non)) (.non))))) (.non)) (.non)) (.non)) (.non)) (.ac 5 [2, 0] (.ac 3 [0] (.ac 6 [0] (.ac 7 [0] (.ac 8 [] (.st 9 (.st 10 (.st 11 (.ac 12 [10] (.ac 13 [] (.st 14 (.st 15 (.fin))) (.non)) (.non))))) (.non)) (.non)) (.non)) (.non)) (.non))) (.ac 5 [2, 0] (.ac 1 [2, 0] (.ac 3 [0] (.ac 6 [0] (.ac 7 [0] (.ac 8 [] (.st 9 (.st 10 (.st 11 (.ac 12 [10] (.ac 13 [] (.st 14 (.st 15 (.fin))) (.non)) (.non))))) (.non)) (.non)) (.non)) (.non)) (.non)) (.non))))))) (.nil))))))) (by kernel_rfl) (Nat.le_of_ble_eq_true (by kernel_rfl)) (Eq.mp (α := F6 t0 t1 w R) (by kernel_rfl) h)

end Go.Proofs.Ytmmhbjbaallkfaa.Gx
