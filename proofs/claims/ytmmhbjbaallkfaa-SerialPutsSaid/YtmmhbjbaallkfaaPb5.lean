/- gimmallaw29.SerialPuts returns true for all arguments, and leaves what was there as it was. No condition beyond the statement. -/
/- Merged by pack.py: GxOA, SerN, SerO, GxB, SerP, SlPut. -/
import Derived.Test.YtmmhbjbaallkfaaPb1
import Derived.Test.YtmmhbjbaallkfaaPb2
import Derived.Test.YtmmhbjbaallkfaaPb3
import Derived.Test.YtmmhbjbaallkfaaPb4
import Derived.SizedLaws
import Derived.Test.YtmmhbjbaallkfaaRows
import Derived.WalkKit
import Derived.ProofKit
import Derived.OpenShut
import Derived.ShutString
import Derived.Below
import Derived.Carry

/- Written by mkf.py: what is to be shown of functions, as Gx reckons it from their code. -/
namespace Go.Proofs.Ytmmhbjbaallkfaa.Gx
open Go
set_option linter.unusedVariables false
set_option maxRecDepth 100000
def F29j3 (t0 : Sl) (t1 : Sl) (y1 : Nat → Sl × Int → World → Prop) (b3 : Nat) (x4 : Sl × Int) (x11 : Bool × Int) (y23 : Nat → Sl × Int → World → Prop) (b25 : Nat) (x26 : Sl × Int) (w27 : World) : Prop :=
 IfB (decide (x26.snd < (t0.n : Int)))
 (IfB (!x11.1)
 (∃ (b30 : Nat),
 ∃ (b31 : Nat),
 t0.1 = some ({ block := b30, off := b31 } : Addr) ∧
 ((0 : Int) ≤ x26.2 ∧ x26.2 < (t0.2 : Int)) ∧
 ∃ (n32 : Int),
 w27.drew.cell? ({ block := b30, off := b31 + x26.2.toNat * (6 : Nat) + (0 : Nat) } : Addr) = some (Value.int IntKind.i64 n32) ∧
 ∃ (b33 : Nat),
 ∃ (b34 : Nat),
 t1.1 = some ({ block := b33, off := b34 } : Addr) ∧
 ((0 : Int) ≤ x4.2 ∧ x4.2 < (t1.2 : Int)) ∧
 ∃ (n35 : Int),
 w27.drew.cell? ({ block := b33, off := b34 + x4.2.toNat } : Addr) = some (Value.int IntKind.i64 n35) ∧
 IfB (n32 == n35)
 (∃ (b36 : Nat),
 ∃ (b37 : Nat),
 t0.1 = some ({ block := b36, off := b37 } : Addr) ∧
 ((0 : Int) ≤ x26.2 ∧ x26.2 < (t0.2 : Int)) ∧
 ∃ (x38 : Int × Int × Int × Bool × Sl × Sl),
 CellsAt w27.drew b36 (b37 + x26.2.toNat * (6 : Nat))
 [Value.int IntKind.i64 x38.1, Value.int IntKind.i64 x38.snd.1, Value.int IntKind.i64 x38.snd.snd.1, Value.bool x38.snd.snd.snd.1,
 Value.slice x38.snd.snd.snd.snd.fst.1 x38.snd.snd.snd.snd.fst.2 x38.snd.snd.snd.snd.fst.3, Value.slice x38.snd.snd.snd.snd.snd.1 x38.snd.snd.snd.snd.snd.2 x38.snd.snd.snd.snd.snd.3] ∧
 (1 : Nat) * (6 : Nat) ≤ (16777216 : Nat) ∧
 AllocP w27.drew
 (Obj.cells
 #[Value.int IntKind.i64 x38.1, Value.int IntKind.i64 x38.snd.1, Value.int IntKind.i64 x38.snd.snd.1, Value.bool x38.snd.snd.snd.1,
 Value.slice x38.snd.snd.snd.snd.fst.1 x38.snd.snd.snd.snd.fst.2 x38.snd.snd.snd.snd.fst.3, Value.slice x38.snd.snd.snd.snd.snd.1 x38.snd.snd.snd.snd.snd.2 x38.snd.snd.snd.snd.snd.3]
 (27 : Nat))
 fun (b39 : Nat) (w40 : World) =>
 ∃ (l41 : List Value),
 ReadC w40 (some ({ block := b39, off := (0 : Nat) } : Addr)) ((1 : Nat) * (6 : Nat)) l41 ∧
 AppendP tt27 (27 : Nat) w40 x26.fst.1 x26.fst.2 x26.fst.3 (1 : Nat) l41 fun (s42 : Sl) (w43 : World) =>
 ([] : List Nat) = [] ∧ ∃ (b44 : Nat), b44 < b25 ∧ y23 b44 ({ p := s42.1, n := s42.2, c := s42.3 }, IntKind.i64.wrap (x26.2 + (1 : Int))) w43)
 (([] : List Nat) = [] ∧ ∃ (b45 : Nat), b45 < b25 ∧ y23 b45 ({ p := x26.fst.1, n := x26.fst.2, c := x26.fst.3 }, IntKind.i64.wrap (x26.2 + (1 : Int))) w27.drew))
 (([] : List Nat) = [] ∧ ∃ (b46 : Nat), b46 < b3 ∧ y1 b46 ({ p := x26.fst.1, n := x26.fst.2, c := x26.fst.3 }, IntKind.i64.wrap (x4.2 + (1 : Int))) w27))
 (([] : List Nat) = [] ∧ ∃ (b47 : Nat), b47 < b3 ∧ y1 b47 ({ p := x26.fst.1, n := x26.fst.2, c := x26.fst.3 }, IntKind.i64.wrap (x4.2 + (1 : Int))) w27)
def F29j2 (t0 : Sl) (t1 : Sl) (y1 : Nat → Sl × Int → World → Prop) (b3 : Nat) (x4 : Sl × Int) (y8 : Nat → Bool × Int → World → Prop) (b10 : Nat) (x11 : Bool × Int) (w12 : World) : Prop :=
 IfB (decide (x11.snd < x4.snd))
 (IfB x11.1 (([] : List Nat) = [] ∧ ∃ (b15 : Nat), b15 < b10 ∧ y8 b15 (true, IntKind.i64.wrap (x11.2 + (1 : Int))) w12.drew)
 (∃ (b16 : Nat),
 ∃ (b17 : Nat),
 t1.1 = some ({ block := b16, off := b17 } : Addr) ∧
 ((0 : Int) ≤ x11.2 ∧ x11.2 < (t1.2 : Int)) ∧
 ∃ (n18 : Int),
 w12.drew.cell? ({ block := b16, off := b17 + x11.2.toNat } : Addr) = some (Value.int IntKind.i64 n18) ∧
 ∃ (b19 : Nat),
 ∃ (b20 : Nat),
 t1.1 = some ({ block := b19, off := b20 } : Addr) ∧
 ((0 : Int) ≤ x4.2 ∧ x4.2 < (t1.2 : Int)) ∧
 ∃ (n21 : Int),
 w12.drew.cell? ({ block := b19, off := b20 + x4.2.toNat } : Addr) = some (Value.int IntKind.i64 n21) ∧ ([] : List Nat) = [] ∧ ∃ (b22 : Nat), b22 < b10 ∧ y8 b22 (n18 == n21, IntKind.i64.wrap (x11.2 + (1 : Int))) w12.drew))
 (∃ (y23 : Nat → Sl × Int → World → Prop),
 (∃ (b24 : Nat), y23 b24 ({ p := x4.fst.1, n := x4.fst.2, c := x4.fst.3 }, (0 : Int)) w12) ∧
 ∀ (b25 : Nat) (x26 : Sl × Int) (w27 : World) (y28 : Nat → Value),
 y23 b25 x26 w27 →
 (F29j3 t0 t1 y1 b3 x4 x11 y23 b25 x26 w27))
def F29 (t0 : Sl) (t1 : Sl) (w : World) (R : Value → World → Prop) : Prop :=
 ∃ (y1 : Nat → Sl × Int → World → Prop),
 (∃ (b2 : Nat), y1 b2 ({ p := none, n := (0 : Nat), c := (0 : Nat) }, (0 : Int)) w) ∧
 ∀ (b3 : Nat) (x4 : Sl × Int) (w5 : World) (y6 : Nat → Value),
 y1 b3 x4 w5 →
 IfB (decide (x4.snd < (t1.n : Int)))
 (∃ (y8 : Nat → Bool × Int → World → Prop),
 (∃ (b9 : Nat), y8 b9 (false, (0 : Int)) w5) ∧
 ∀ (b10 : Nat) (x11 : Bool × Int) (w12 : World) (y13 : Nat → Value),
 y8 b10 x11 w12 →
 (F29j2 t0 t1 y1 b3 x4 y8 b10 x11 w12))
 (R (Value.slice x4.fst.1 x4.fst.2 x4.fst.3) w5)
theorem F29_ok (t0 : Sl) (t1 : Sl) (w : World) (R : Value → World → Prop) (h : F29 t0 t1 w R) : CW Try.prog 29 #[Value.slice t0.1 t0.2 t0.3, Value.slice t1.1 t1.2 t1.3] w R :=
  call_of tbOk mixed en29 Try.func29 rfl (.node (.nil) (.node (.nil) (.node (.node (.nil) (.loop [(5, .one (.sl)), (6, .one (.int .i64))] [10, 11, 12, 13, 7, 8, 16, 17, 18, 21, 22, 23, 24, 25, 26, 27, 28, 29, 30, 31, 32, 19, 20, 9, 33, 34, 35, 36, 37, 38, 39, 40, 43, 44, 45, 46, 47, 48, 49, 50, 51, 52, 53, 54, 55, 56, 57, 58, 59, 5, 41, 42, 14, 15, 6] (.node (.nil) (.node (.node (.nil) (.node (.node (.nil) (.loop [(7, .one (.bool)), (8, .one (.int .i64))] [16, 17, 18, 21, 22, 23, 24, 25, 26, 27, 28, 29, 30, 31, 32, 7, 19, 20, 8] (.node (.nil) (.node (.draw (.st 0 (.st 1 (.st 2 (.st 3 (.st 4 (.st 5 (.st 6 (.st 7 (.st 8 (.st 9 (.st 10 (.st 11 (.st 12 (.fin))))))))))))))) (.nil))))) (.node (.nil) (.loop [(5, .one (.sl)), (9, .one (.int .i64))] [33, 34, 35, 36, 37, 38, 39, 40, 43, 44, 45, 46, 47, 48, 49, 50, 51, 52, 53, 54, 55, 56, 57, 58, 59, 5, 41, 42, 9] (.node (.nil) (.node (.node (.draw (.st 0 (.st 1 (.st 2 (.st 3 (.st 4 (.st 5 (.st 6 (.st 7 (.st 8 (.st 9 (.fin)))))))))))) (.nil)) (.nil))))))) (.nil))))) (.nil)))) (by kernel_rfl) (Nat.le_of_ble_eq_true (by kernel_rfl)) (Eq.mp (α := F29 t0 t1 w R) (by kernel_rfl) h)
def F27k1 (w19 : World) (b14 : Nat) (b16 : Nat) (R : Value → World → Prop) (b3 : Nat) (y1 : Nat → Int → World → Prop) (n4 : Int) : Prop :=
 ∃ (n22 : Int),
 w19.cell? ({ block := b14, off := (0 : Nat) + (1 : Nat) } : Addr) = some (Value.int IntKind.i64 n22) ∧
 ∃ (n23 : Int),
 w19.cell? ({ block := b16, off := (0 : Nat) + (1 : Nat) } : Addr) = some (Value.int IntKind.i64 n23) ∧
 IfB (n22 != n23) (R (Value.bool false) w19)
 (∃ (n24 : Int),
 w19.cell? ({ block := b14, off := (0 : Nat) + (2 : Nat) } : Addr) = some (Value.int IntKind.i64 n24) ∧
 ∃ (n25 : Int),
 w19.cell? ({ block := b16, off := (0 : Nat) + (2 : Nat) } : Addr) = some (Value.int IntKind.i64 n25) ∧
 IfB (n24 != n25) (R (Value.bool false) w19)
 (∃ (t26 : Bool),
 w19.cell? ({ block := b14, off := (0 : Nat) + (3 : Nat) } : Addr) = some (Value.bool t26) ∧
 ∃ (t27 : Bool),
 w19.cell? ({ block := b16, off := (0 : Nat) + (3 : Nat) } : Addr) = some (Value.bool t27) ∧
 IfB (!t26 == t27) (R (Value.bool false) w19)
 (∃ (s28 : Sl),
 w19.cell? ({ block := b14, off := (0 : Nat) + (4 : Nat) } : Addr) = some (Value.slice s28.1 s28.2 s28.3) ∧
 ∃ (s29 : Sl),
 w19.cell? ({ block := b16, off := (0 : Nat) + (4 : Nat) } : Addr) = some (Value.slice s29.1 s29.2 s29.3) ∧
 CX Try.prog (51 : Nat) #[Value.slice s28.1 s28.2 s28.3, Value.slice s29.1 s29.2 s29.3] w19 fun (v30 : Value) (w31 : World) =>
 ∃ (t32 : Bool),
 v30 = Value.bool t32 ∧
 IfB (!t32) (R (Value.bool false) w31)
 (∃ (s33 : Sl),
 w31.cell? ({ block := b14, off := (0 : Nat) + (5 : Nat) } : Addr) = some (Value.slice s33.1 s33.2 s33.3) ∧
 ∃ (s34 : Sl),
 w31.cell? ({ block := b16, off := (0 : Nat) + (5 : Nat) } : Addr) = some (Value.slice s34.1 s34.2 s34.3) ∧
 CX Try.prog (51 : Nat) #[Value.slice s33.1 s33.2 s33.3, Value.slice s34.1 s34.2 s34.3] w31 fun (v35 : Value) (w36 : World) =>
 ∃ (t37 : Bool), v35 = Value.bool t37 ∧ IfB (!t37) (R (Value.bool false) w36) (([] : List Nat) = [] ∧ ∃ (b38 : Nat), b38 < b3 ∧ y1 b38 (IntKind.i64.wrap (n4 + (1 : Int))) w36)))))
def F27k2 (t0 : Sl) (n4 : Int) (w5 : World) (t1 : Sl) (R : Value → World → Prop) (b3 : Nat) (y1 : Nat → Int → World → Prop) : Prop :=
 ∃ (b8 : Nat),
 ∃ (b9 : Nat),
 t0.1 = some ({ block := b8, off := b9 } : Addr) ∧
 ((0 : Int) ≤ n4 ∧ n4 < (t0.2 : Int)) ∧
 ∃ (x10 : Int × Int × Int × Bool × Sl × Sl),
 CellsAt w5.drew b8 (b9 + n4.toNat * (6 : Nat))
 [Value.int IntKind.i64 x10.1, Value.int IntKind.i64 x10.snd.1, Value.int IntKind.i64 x10.snd.snd.1, Value.bool x10.snd.snd.snd.1,
 Value.slice x10.snd.snd.snd.snd.fst.1 x10.snd.snd.snd.snd.fst.2 x10.snd.snd.snd.snd.fst.3, Value.slice x10.snd.snd.snd.snd.snd.1 x10.snd.snd.snd.snd.snd.2 x10.snd.snd.snd.snd.snd.3] ∧
 ∃ (b11 : Nat),
 ∃ (b12 : Nat),
 t1.1 = some ({ block := b11, off := b12 } : Addr) ∧
 ((0 : Int) ≤ n4 ∧ n4 < (t1.2 : Int)) ∧
 ∃ (x13 : Int × Int × Int × Bool × Sl × Sl),
 CellsAt w5.drew b11 (b12 + n4.toNat * (6 : Nat))
 [Value.int IntKind.i64 x13.1, Value.int IntKind.i64 x13.snd.1, Value.int IntKind.i64 x13.snd.snd.1, Value.bool x13.snd.snd.snd.1,
 Value.slice x13.snd.snd.snd.snd.fst.1 x13.snd.snd.snd.snd.fst.2 x13.snd.snd.snd.snd.fst.3, Value.slice x13.snd.snd.snd.snd.snd.1 x13.snd.snd.snd.snd.snd.2 x13.snd.snd.snd.snd.snd.3] ∧
 (AllocP w5.drew
 (Obj.cells
 #[Value.int IntKind.i64 (0 : Int), Value.int IntKind.i64 (0 : Int), Value.int IntKind.i64 (0 : Int), Value.bool false, Value.slice none (0 : Nat) (0 : Nat), Value.slice none (0 : Nat) (0 : Nat)]
 (27 : Nat))
 fun (b14 : Nat) (w15 : World) =>
 CellsAt w15 b11 (b12 + n4.toNat * (6 : Nat))
 [Value.int IntKind.i64 x13.1, Value.int IntKind.i64 x13.snd.1, Value.int IntKind.i64 x13.snd.snd.1, Value.bool x13.snd.snd.snd.1,
 Value.slice x13.snd.snd.snd.snd.fst.1 x13.snd.snd.snd.snd.fst.2 x13.snd.snd.snd.snd.fst.3, Value.slice x13.snd.snd.snd.snd.snd.1 x13.snd.snd.snd.snd.snd.2 x13.snd.snd.snd.snd.snd.3] ∧
 CellsAt w15 b8 (b9 + n4.toNat * (6 : Nat))
 [Value.int IntKind.i64 x10.1, Value.int IntKind.i64 x10.snd.1, Value.int IntKind.i64 x10.snd.snd.1, Value.bool x10.snd.snd.snd.1,
 Value.slice x10.snd.snd.snd.snd.fst.1 x10.snd.snd.snd.snd.fst.2 x10.snd.snd.snd.snd.fst.3, Value.slice x10.snd.snd.snd.snd.snd.1 x10.snd.snd.snd.snd.snd.2 x10.snd.snd.snd.snd.snd.3] ∧
 AllocP w15
 (Obj.cells
 #[Value.int IntKind.i64 (0 : Int), Value.int IntKind.i64 (0 : Int), Value.int IntKind.i64 (0 : Int), Value.bool false, Value.slice none (0 : Nat) (0 : Nat), Value.slice none (0 : Nat) (0 : Nat)]
 (27 : Nat))
 fun (b16 : Nat) (w17 : World) =>
 CellsAt w17 b11 (b12 + n4.toNat * (6 : Nat))
 [Value.int IntKind.i64 x13.1, Value.int IntKind.i64 x13.snd.1, Value.int IntKind.i64 x13.snd.snd.1, Value.bool x13.snd.snd.snd.1,
 Value.slice x13.snd.snd.snd.snd.fst.1 x13.snd.snd.snd.snd.fst.2 x13.snd.snd.snd.snd.fst.3, Value.slice x13.snd.snd.snd.snd.snd.1 x13.snd.snd.snd.snd.snd.2 x13.snd.snd.snd.snd.snd.3] ∧
 CellsAt w17 b8 (b9 + n4.toNat * (6 : Nat))
 [Value.int IntKind.i64 x10.1, Value.int IntKind.i64 x10.snd.1, Value.int IntKind.i64 x10.snd.snd.1, Value.bool x10.snd.snd.snd.1,
 Value.slice x10.snd.snd.snd.snd.fst.1 x10.snd.snd.snd.snd.fst.2 x10.snd.snd.snd.snd.fst.3, Value.slice x10.snd.snd.snd.snd.snd.1 x10.snd.snd.snd.snd.snd.2 x10.snd.snd.snd.snd.snd.3] ∧
 #[Value.int IntKind.i64 x10.1, Value.int IntKind.i64 x10.snd.1, Value.int IntKind.i64 x10.snd.snd.1, Value.bool x10.snd.snd.snd.1,
 Value.slice x10.snd.snd.snd.snd.fst.1 x10.snd.snd.snd.snd.fst.2 x10.snd.snd.snd.snd.fst.3, Value.slice x10.snd.snd.snd.snd.snd.1 x10.snd.snd.snd.snd.snd.2 x10.snd.snd.snd.snd.snd.3].size =
 (6 : Nat) ∧
 StoreP w17 b14 (0 : Nat)
 [Value.int IntKind.i64 x10.1, Value.int IntKind.i64 x10.snd.1, Value.int IntKind.i64 x10.snd.snd.1, Value.bool x10.snd.snd.snd.1,
 Value.slice x10.snd.snd.snd.snd.fst.1 x10.snd.snd.snd.snd.fst.2 x10.snd.snd.snd.snd.fst.3, Value.slice x10.snd.snd.snd.snd.snd.1 x10.snd.snd.snd.snd.snd.2 x10.snd.snd.snd.snd.snd.3]
 fun (w18 : World) =>
 CellsAt w18 b11 (b12 + n4.toNat * (6 : Nat))
 [Value.int IntKind.i64 x13.1, Value.int IntKind.i64 x13.snd.1, Value.int IntKind.i64 x13.snd.snd.1, Value.bool x13.snd.snd.snd.1,
 Value.slice x13.snd.snd.snd.snd.fst.1 x13.snd.snd.snd.snd.fst.2 x13.snd.snd.snd.snd.fst.3, Value.slice x13.snd.snd.snd.snd.snd.1 x13.snd.snd.snd.snd.snd.2 x13.snd.snd.snd.snd.snd.3] ∧
 #[Value.int IntKind.i64 x13.1, Value.int IntKind.i64 x13.snd.1, Value.int IntKind.i64 x13.snd.snd.1, Value.bool x13.snd.snd.snd.1,
 Value.slice x13.snd.snd.snd.snd.fst.1 x13.snd.snd.snd.snd.fst.2 x13.snd.snd.snd.snd.fst.3, Value.slice x13.snd.snd.snd.snd.snd.1 x13.snd.snd.snd.snd.snd.2 x13.snd.snd.snd.snd.snd.3].size =
 (6 : Nat) ∧
 StoreP w18 b16 (0 : Nat)
 [Value.int IntKind.i64 x13.1, Value.int IntKind.i64 x13.snd.1, Value.int IntKind.i64 x13.snd.snd.1, Value.bool x13.snd.snd.snd.1,
 Value.slice x13.snd.snd.snd.snd.fst.1 x13.snd.snd.snd.snd.fst.2 x13.snd.snd.snd.snd.fst.3, Value.slice x13.snd.snd.snd.snd.snd.1 x13.snd.snd.snd.snd.snd.2 x13.snd.snd.snd.snd.snd.3]
 fun (w19 : World) =>
 ∃ (n20 : Int),
 w19.cell? ({ block := b14, off := (0 : Nat) + (0 : Nat) } : Addr) = some (Value.int IntKind.i64 n20) ∧
 ∃ (n21 : Int),
 w19.cell? ({ block := b16, off := (0 : Nat) + (0 : Nat) } : Addr) = some (Value.int IntKind.i64 n21) ∧
 IfB (n20 != n21) (R (Value.bool false) w19)
 (F27k1 w19 b14 b16 R b3 y1 n4)) ∧
 AllocP w5.drew
 (Obj.cells
 #[Value.int IntKind.i64 (0 : Int), Value.int IntKind.i64 (0 : Int), Value.int IntKind.i64 (0 : Int), Value.bool false, Value.slice none (0 : Nat) (0 : Nat), Value.slice none (0 : Nat) (0 : Nat)]
 (27 : Nat))
 fun (b39 : Nat) (w40 : World) =>
 CellsAt w40 b11 (b12 + n4.toNat * (6 : Nat))
 [Value.int IntKind.i64 x13.1, Value.int IntKind.i64 x13.snd.1, Value.int IntKind.i64 x13.snd.snd.1, Value.bool x13.snd.snd.snd.1,
 Value.slice x13.snd.snd.snd.snd.fst.1 x13.snd.snd.snd.snd.fst.2 x13.snd.snd.snd.snd.fst.3, Value.slice x13.snd.snd.snd.snd.snd.1 x13.snd.snd.snd.snd.snd.2 x13.snd.snd.snd.snd.snd.3] ∧
 CellsAt w40 b8 (b9 + n4.toNat * (6 : Nat))
 [Value.int IntKind.i64 x10.1, Value.int IntKind.i64 x10.snd.1, Value.int IntKind.i64 x10.snd.snd.1, Value.bool x10.snd.snd.snd.1,
 Value.slice x10.snd.snd.snd.snd.fst.1 x10.snd.snd.snd.snd.fst.2 x10.snd.snd.snd.snd.fst.3, Value.slice x10.snd.snd.snd.snd.snd.1 x10.snd.snd.snd.snd.snd.2 x10.snd.snd.snd.snd.snd.3] ∧
 AllocP w40
 (Obj.cells
 #[Value.int IntKind.i64 (0 : Int), Value.int IntKind.i64 (0 : Int), Value.int IntKind.i64 (0 : Int), Value.bool false, Value.slice none (0 : Nat) (0 : Nat), Value.slice none (0 : Nat) (0 : Nat)]
 (27 : Nat))
 fun (b41 : Nat) (w42 : World) =>
 CellsAt w42 b11 (b12 + n4.toNat * (6 : Nat))
 [Value.int IntKind.i64 x13.1, Value.int IntKind.i64 x13.snd.1, Value.int IntKind.i64 x13.snd.snd.1, Value.bool x13.snd.snd.snd.1,
 Value.slice x13.snd.snd.snd.snd.fst.1 x13.snd.snd.snd.snd.fst.2 x13.snd.snd.snd.snd.fst.3, Value.slice x13.snd.snd.snd.snd.snd.1 x13.snd.snd.snd.snd.snd.2 x13.snd.snd.snd.snd.snd.3] ∧
 CellsAt w42 b8 (b9 + n4.toNat * (6 : Nat))
 [Value.int IntKind.i64 x10.1, Value.int IntKind.i64 x10.snd.1, Value.int IntKind.i64 x10.snd.snd.1, Value.bool x10.snd.snd.snd.1,
 Value.slice x10.snd.snd.snd.snd.fst.1 x10.snd.snd.snd.snd.fst.2 x10.snd.snd.snd.snd.fst.3, Value.slice x10.snd.snd.snd.snd.snd.1 x10.snd.snd.snd.snd.snd.2 x10.snd.snd.snd.snd.snd.3] ∧
 #[Value.int IntKind.i64 x10.1, Value.int IntKind.i64 x10.snd.1, Value.int IntKind.i64 x10.snd.snd.1, Value.bool x10.snd.snd.snd.1,
 Value.slice x10.snd.snd.snd.snd.fst.1 x10.snd.snd.snd.snd.fst.2 x10.snd.snd.snd.snd.fst.3, Value.slice x10.snd.snd.snd.snd.snd.1 x10.snd.snd.snd.snd.snd.2 x10.snd.snd.snd.snd.snd.3].size =
 (6 : Nat) ∧
 StoreP w42 b41 (0 : Nat)
 [Value.int IntKind.i64 x10.1, Value.int IntKind.i64 x10.snd.1, Value.int IntKind.i64 x10.snd.snd.1, Value.bool x10.snd.snd.snd.1,
 Value.slice x10.snd.snd.snd.snd.fst.1 x10.snd.snd.snd.snd.fst.2 x10.snd.snd.snd.snd.fst.3, Value.slice x10.snd.snd.snd.snd.snd.1 x10.snd.snd.snd.snd.snd.2 x10.snd.snd.snd.snd.snd.3]
 fun (w43 : World) =>
 CellsAt w43 b11 (b12 + n4.toNat * (6 : Nat))
 [Value.int IntKind.i64 x13.1, Value.int IntKind.i64 x13.snd.1, Value.int IntKind.i64 x13.snd.snd.1, Value.bool x13.snd.snd.snd.1,
 Value.slice x13.snd.snd.snd.snd.fst.1 x13.snd.snd.snd.snd.fst.2 x13.snd.snd.snd.snd.fst.3, Value.slice x13.snd.snd.snd.snd.snd.1 x13.snd.snd.snd.snd.snd.2 x13.snd.snd.snd.snd.snd.3] ∧
 #[Value.int IntKind.i64 x13.1, Value.int IntKind.i64 x13.snd.1, Value.int IntKind.i64 x13.snd.snd.1, Value.bool x13.snd.snd.snd.1,
 Value.slice x13.snd.snd.snd.snd.fst.1 x13.snd.snd.snd.snd.fst.2 x13.snd.snd.snd.snd.fst.3, Value.slice x13.snd.snd.snd.snd.snd.1 x13.snd.snd.snd.snd.snd.2 x13.snd.snd.snd.snd.snd.3].size =
 (6 : Nat) ∧
 StoreP w43 b39 (0 : Nat)
 [Value.int IntKind.i64 x13.1, Value.int IntKind.i64 x13.snd.1, Value.int IntKind.i64 x13.snd.snd.1, Value.bool x13.snd.snd.snd.1,
 Value.slice x13.snd.snd.snd.snd.fst.1 x13.snd.snd.snd.snd.fst.2 x13.snd.snd.snd.snd.fst.3, Value.slice x13.snd.snd.snd.snd.snd.1 x13.snd.snd.snd.snd.snd.2 x13.snd.snd.snd.snd.snd.3]
 fun (w44 : World) =>
 ∃ (n45 : Int),
 w44.cell? ({ block := b41, off := (0 : Nat) + (0 : Nat) } : Addr) = some (Value.int IntKind.i64 n45) ∧
 ∃ (n46 : Int),
 w44.cell? ({ block := b39, off := (0 : Nat) + (0 : Nat) } : Addr) = some (Value.int IntKind.i64 n46) ∧
 IfB (n45 != n46) (R (Value.bool false) w44)
 (F27k1 w44 b41 b39 R b3 y1 n4)
def F27j1 (t0 : Sl) (t1 : Sl) (R : Value → World → Prop) (y1 : Nat → Int → World → Prop) (b3 : Nat) (n4 : Int) (w5 : World) : Prop :=
 IfB (decide (n4 < (t0.n : Int)))
 (F27k2 t0 n4 w5 t1 R b3 y1)
 (R (Value.bool true) w5)
def F27 (t0 : Sl) (t1 : Sl) (w : World) (R : Value → World → Prop) : Prop :=
 IfB ((t0.2 : Int) != (t1.2 : Int)) (R (Value.bool false) w)
 (∃ (y1 : Nat → Int → World → Prop),
 (∃ (b2 : Nat), y1 b2 (0 : Int) w) ∧
 ∀ (b3 : Nat) (n4 : Int) (w5 : World) (y6 : Nat → Value),
 y1 b3 n4 w5 →
 (F27j1 t0 t1 R y1 b3 n4 w5))
theorem F27_ok (t0 : Sl) (t1 : Sl) (w : World) (R : Value → World → Prop) (h : F27 t0 t1 w R) : CW Try.prog 27 #[Value.slice t0.1 t0.2 t0.3, Value.slice t1.1 t1.2 t1.3] w R :=
  call_of tbOk mixed en27 Try.func27 rfl (.node (.nil) (.node (.nil) (.node (.node (.nil) (.loop [(5, .one (.int .i64))] [13, 14, 15, 16, 19, 20, 21, 22, 23, 24, 25, 26, 6, 7, 27, 28, 29, 30, 31, 32, 33, 34, 35, 36, 37, 38, 39, 40, 41, 42, 43, 44, 45, 46, 47, 48, 49, 50, 51, 52, 53, 54, 55, 56, 57, 58, 59, 60, 61, 62, 63, 64, 65, 66, 67, 68, 4, 17, 18, 5] (.node (.nil) (.node (.node (.draw (.st 0 (.st 1 (.st 2 (.st 3 (.st 4 (.st 5 (.st 6 (.st 7 (.ac 8 [7, 6, 5, 4, 3, 2, 1, 0] (.ac 9 [7, 6, 5, 4, 3, 2, 1, 0] (.ac 10 [7, 6, 5, 4] (.ac 11 [] (.fin) (.non)) (.non)) (.non)) (.ac 9 [7, 6, 5, 4, 3, 2, 1, 0] (.ac 8 [7, 6, 5, 4, 3, 2, 1, 0] (.ac 10 [7, 6, 5, 4] (.ac 11 [] (.fin) (.non)) (.non)) (.non)) (.non)))))))))))) (.nil)) (.nil))))) (.nil)))) (by kernel_rfl) (Nat.le_of_ble_eq_true (by kernel_rfl)) (Eq.mp (α := F27 t0 t1 w R) (by kernel_rfl) h)
def F51j1 (t0 : Sl) (t1 : Sl) (R : Value → World → Prop) (y1 : Nat → Int → World → Prop) (b3 : Nat) (n4 : Int) (w5 : World) : Prop :=
 IfB (decide (n4 < (t0.n : Int)))
 (∃ (b8 : Nat),
 ∃ (b9 : Nat),
 t0.1 = some ({ block := b8, off := b9 } : Addr) ∧
 ((0 : Int) ≤ n4 ∧ n4 < (t0.2 : Int)) ∧
 ∃ (x10 : Int × Int),
 CellsAt w5.drew b8 (b9 + n4.toNat * (2 : Nat)) [Value.int IntKind.i64 x10.1, Value.int IntKind.i64 x10.2] ∧
 ∃ (b11 : Nat),
 ∃ (b12 : Nat),
 t1.1 = some ({ block := b11, off := b12 } : Addr) ∧
 ((0 : Int) ≤ n4 ∧ n4 < (t1.2 : Int)) ∧
 ∃ (x13 : Int × Int),
 CellsAt w5.drew b11 (b12 + n4.toNat * (2 : Nat)) [Value.int IntKind.i64 x13.1, Value.int IntKind.i64 x13.2] ∧
 ∃ (t14 : Bool),
 EqAt Try.prog (51 : Nat) (Value.agg #[Value.int IntKind.i64 x10.1, Value.int IntKind.i64 x10.2]) (Value.agg #[Value.int IntKind.i64 x13.1, Value.int IntKind.i64 x13.2]) t14 ∧
 IfB (!t14) (R (Value.bool false) w5.drew) (([] : List Nat) = [] ∧ ∃ (b15 : Nat), b15 < b3 ∧ y1 b15 (IntKind.i64.wrap (n4 + (1 : Int))) w5.drew))
 (R (Value.bool true) w5)
def F51 (t0 : Sl) (t1 : Sl) (w : World) (R : Value → World → Prop) : Prop :=
 IfB ((t0.2 : Int) != (t1.2 : Int)) (R (Value.bool false) w)
 (∃ (y1 : Nat → Int → World → Prop),
 (∃ (b2 : Nat), y1 b2 (0 : Int) w) ∧
 ∀ (b3 : Nat) (n4 : Int) (w5 : World) (y6 : Nat → Value),
 y1 b3 n4 w5 →
 (F51j1 t0 t1 R y1 b3 n4 w5))
theorem F51_ok (t0 : Sl) (t1 : Sl) (w : World) (R : Value → World → Prop) (h : F51 t0 t1 w R) : CW Try.prog 51 #[Value.slice t0.1 t0.2 t0.3, Value.slice t1.1 t1.2 t1.3] w R :=
  call_of tbOk mixed en51 Try.func51 rfl (.node (.nil) (.node (.nil) (.node (.node (.nil) (.loop [(5, .one (.int .i64))] [11, 12, 13, 14, 17, 18, 19, 20, 21, 22, 23, 24, 25, 4, 15, 16, 5] (.node (.nil) (.node (.node (.draw (.st 0 (.st 1 (.st 2 (.st 3 (.st 4 (.st 5 (.st 6 (.st 7 (.st 8 (.fin))))))))))) (.nil)) (.nil))))) (.nil)))) (by kernel_rfl) (Nat.le_of_ble_eq_true (by kernel_rfl)) (Eq.mp (α := F51 t0 t1 w R) (by kernel_rfl) h)
def F8 (t0 : Sl) (t1 : Sl) (w : World) (R : Value → World → Prop) : Prop :=
 CX Try.prog (20 : Nat) #[] w fun (v1 : Value) (w2 : World) =>
 ∃ (t3 : Bool),
 v1 = Value.bool t3 ∧
 IfB (!t3) (R (Value.bool false) w2)
 (IfB (decide ((40 : Int) < (t0.n : Int))) (R (Value.bool true) w2)
 (IfB (decide ((40 : Int) < (t1.n : Int))) (R (Value.bool true) w2)
 (CX Try.prog (28 : Nat) #[Value.slice t0.1 t0.2 t0.3, Value.slice t1.1 t1.2 t1.3] w2 fun (v4 : Value) (w5 : World) =>
 ∃ (s6 : Sl),
 v4 = Value.slice s6.1 s6.2 s6.3 ∧
 CX Try.prog (29 : Nat) #[Value.slice t0.1 t0.2 t0.3, Value.slice t1.1 t1.2 t1.3] w5 fun (v7 : Value) (w8 : World) =>
 ∃ (s9 : Sl),
 v7 = Value.slice s9.1 s9.2 s9.3 ∧
 CX Try.prog (27 : Nat) #[Value.slice s6.1 s6.2 s6.3, Value.slice s9.1 s9.2 s9.3] w8 fun (v10 : Value) (w11 : World) => ∃ (t12 : Bool), v10 = Value.bool t12 ∧ R (Value.bool t12) w11)))
theorem F8_ok (t0 : Sl) (t1 : Sl) (w : World) (R : Value → World → Prop) (h : F8 t0 t1 w R) : CW Try.prog 8 #[Value.slice t0.1 t0.2 t0.3, Value.slice t1.1 t1.2 t1.3] w R :=
  call_of tbOk mixed en8 Try.func8 rfl (.nil) (by kernel_rfl) (Nat.le_of_ble_eq_true (by kernel_rfl)) (Eq.mp (α := F8 t0 t1 w R) (by kernel_rfl) h)
end Go.Proofs.Ytmmhbjbaallkfaa.Gx

/- Package serial: Put; the document's Put; two histories compared. -/
namespace Go.Proofs.Ytmmhbjbaallkfaa.Gx
open Go
set_option linter.unusedSimpArgs false
set_option linter.unusedVariables false
def putL (hs : List Nd) : List Int → List Int → List Nd
  | _, [] => []
  | seen, s :: r => (if s ∈ seen then [] else ownL hs s) ++ putL hs (seen ++ [s]) r
theorem putL_add (hs : List Nd) : ∀ (a seen : List Int) (s : Int), putL hs seen (a ++ [s]) = putL hs seen a ++ if s ∈ seen ++ a then [] else ownL hs s
  | [], seen, s => by simp [putL]
  | x :: a, seen, s => by
    simp only [List.cons_append, putL, putL_add hs a (seen ++ [x]) s, List.append_assoc, List.nil_append]
theorem putL_len {hs : List Nd} (hl : hs.length ≤ 1000) : ∀ (a seen : List Int), (putL hs seen a).length ≤ a.length * 1000
  | [], seen => by simp [putL]
  | x :: a, seen => by
    have h1 := putL_len hl a (seen ++ [x])
    have h2 := ownL_len hs x
    rw [putL, List.length_append, List.length_cons]
    split
    · rw [List.length_nil]; omega
    · omega
theorem ownL_succ {hs : List Nd} {k : Nat} {n : Nd} (hy : hs[k]? = some n) (s : Int) : ownL (hs.take (k + 1)) s = ownL (hs.take k) s ++ if n.v.1 == s then [n] else [] := by
  unfold ownL; rw [take_succ_get hy, List.filter_append]; congr 1; cases hh : n.v.1 == s <;> simp [hh]
theorem NdF.move {F : Nat → Prop} {w w' : World} {m m' : Nat} {bs bs' : List Nat} {n : Nd} (h : NdF w m bs n) (hc : Ch F w w') (hF : ∀ j, m ≤ j → j < w.heap.size → j ∉ bs → ¬ F j ∧ m' ≤ j ∧ j ∉ bs') : NdF w' m' bs' n :=
  ⟨h.rs.ch hc fun j hj => (hF j (h.rn j hj).1 (h.rs.lt j hj) (h.rn j hj).2).1, h.ws.ch hc fun j hj => (hF j (h.wn j hj).1 (h.ws.lt j hj) (h.wn j hj).2).1, fun j hj => (hF j (h.rn j hj).1 (h.rs.lt j hj) (h.rn j hj).2).2, fun j hj => (hF j (h.wn j hj).1 (h.ws.lt j hj) (h.wn j hj).2).2⟩
theorem c28 {w : World} {t u : Sl} {hs : List Nd} {ord : List Int} (hH : HsK w t hs) (hl : hs.length ≤ 1000) (ho : Rd w u 1 (ord.map iv)) (hol : ord.length ≤ 1000) (hcap : u.n ≤ u.c) :
    CW Try.prog 28 #[slV t, slV u] w fun v w' => ∃ t' ns, v = slV t' ∧ ns.map dOf = (putL hs [] ord).map dOf ∧ OwN w' w.heap.size t' ns ∧ Ext w w' := by
  have hun := rdI ho
  refine F28_ok t u w _ ⟨fun m x W => ∃ (i : Nat) (so : Sl) (ds : List Nd), i ≤ ord.length ∧ m + i = ord.length ∧ x = (so, (i : Int)) ∧ ds.map dOf = (putL hs [] (ord.take i)).map dOf ∧ OwN W w.heap.size so ds ∧ Ext w W, ⟨ord.length, 0, ⟨none, 0, 0⟩, [], Nat.zero_le _, rfl, rfl, rfl, ⟨.nil _ _, by simp, by simp [blk]⟩, Ch.refl _ _⟩, ?_⟩
  rintro m _ W g ⟨i, so, ds, hi, hmi, rfl, hds, hO, hE⟩
  have hdl : ds.length ≤ i * 1000 := by
    have h1 := congrArg List.length hds
    have h2 := putL_len hl (ord.take i) []
    rw [List.length_map, List.length_map] at h1
    rw [List.length_take, Nat.min_eq_left hi] at h2
    omega
  have hon := owsN nL_len (by omega) hO.own
  unfold F28j1
  refine IfB.dec (fun hlt => ?_) fun hge => ?_
  · have hi' : i < ord.length := by dsimp only at hlt; omega
    have hx : ord[i]? = some ord[i] := List.getElem?_eq_getElem hi'
    have htk := take_succ_get hx
    generalize ord[i] = s at hx htk
    obtain ⟨a, o, hp, hc⟩ := rdI_get (ho.ext hE) hx
    refine ⟨a, o, hp, (⟨by omega, by omega⟩ : (0 : Int) ≤ (i : Int) ∧ (i : Int) < (u.n : Int)), s, by dsimp only; rw [Int.toNat_natCast]; exact hc, (⟨by omega, by omega⟩ : (0 : Int) ≤ (i : Int) ∧ (i : Int) ≤ (u.c : Int)), ?_⟩
    show CX _ _ #[slV ⟨slAddr u.p u.c 0 1, ((i : Int)).toNat, u.c⟩, iv s] _ _
    rw [slAddr_zero, Int.toNat_natCast]
    have hcut := (ho.ext hE).cut (k := i) (by omega)
    rw [Nat.mul_one, ← List.map_take] at hcut
    refine (c39 hcut (by rw [List.length_take]; omega) s).use ?_
    rintro _ _ ⟨rfl, rfl⟩
    refine ⟨_, rfl, IfB.intro (fun h => ?_) fun h => ?_⟩
    · have hns' : s ∉ ord.take i := by simpa using h
      refine (c48 (hH.ext hE) s).use ?_
      rintro _ w15 ⟨s16, ns, rfl, hns, hN, e15⟩
      have hsn := owsN nL_len (by omega) hN.own
      have hnl : ns.length ≤ 1000 := by
        have h1 := congrArg List.length hns
        rw [List.length_map, List.length_map] at h1
        have h2 := ownL_len hs s
        omega
      refine ⟨s16, rfl, ns.flatMap nL, hN.own.readAll, (hO.own.ext e15).append rfl rfl (by rw [flatLen nL_len, hsn]) (flatOne nL_one _) ⟨by omega, ?_⟩ fun s18 w19 ho18 hn18 hC18 hbk _ => ⟨rfl, m - 1, by omega, i + 1, s18, ds ++ ns, hi', by omega, by rw [wrap_of (by omega) (by omega)]; rfl, ?_, ⟨?_, fun n hn => ?_, fun j hj => ?_⟩, ?_⟩⟩
      · show 2 * (so.n + s16.n) * 80 ≤ _
        omega
      · rw [htk, putL_add, List.map_append, List.map_append, hds, hns, List.nil_append, if_neg hns']
      · rw [List.flatMap_append]; exact ho18
      · have z15 := e15.size
        have hbl := hO.own.lt
        rcases List.mem_append.1 hn with h' | h'
        · exact ((hO.ok n h').ext e15).move hC18 fun j h1 h2 h3 => ⟨h3, h1, fun h4 => (hbk j h4).elim h3 fun h5 => by omega⟩
        · refine (hN.ok n h').move hC18 fun j h1 h2 h3 => ⟨fun h4 => by have := hbl j h4; omega, ?_, fun h4 => (hbk j h4).elim (fun h5 => by have := hbl j h5; omega) fun h5 => by omega⟩
          have := hE.size; omega
      · have := hE.size; have := e15.size
        rcases hbk j hj with h | h
        · exact hO.new j h
        · omega
      · exact (hE.trans e15).chN hC18 hO.new
    · have hns' : s ∈ ord.take i := by simpa using h
      refine ⟨rfl, m - 1, by omega, i + 1, so, ds, hi', by omega, by rw [wrap_of (by omega) (by omega)]; rfl, ?_, hO, hE⟩
      rw [htk, putL_add, List.nil_append, if_pos hns', List.append_nil, hds]
  · have hi' : i = ord.length := by dsimp only at hge; omega
    subst hi'
    rw [List.take_length] at hds
    exact ⟨so, ds, rfl, hds, hO, hE⟩
theorem c29 {w : World} {t u : Sl} {hs : List Nd} {ord : List Int} (hH : HsK w t hs) (hl : hs.length ≤ 500) (ho : Rd w u 1 (ord.map iv)) (hol : ord.length ≤ 500) :
    CW Try.prog 29 #[slV t, slV u] w fun v w' => ∃ t', v = slV t' ∧ OwS w' t' 6 ((putL hs [] ord).flatMap nL) ∧ Ext w w' ∧ ∀ j ∈ blk t', w.heap.size ≤ j := by
  have hun := rdI ho
  have htn := hH.n
  refine F29_ok t u w _ ⟨fun m x W => ∃ (i : Nat) (so : Sl), i ≤ ord.length ∧ m + i = ord.length ∧ x = (so, (i : Int)) ∧ OwS W so 6 ((putL hs [] (ord.take i)).flatMap nL) ∧ Ext w W ∧ ∀ j ∈ blk so, w.heap.size ≤ j, ⟨ord.length, 0, ⟨none, 0, 0⟩, Nat.zero_le _, rfl, rfl, .nil _ _, Ch.refl _ _, by simp [blk]⟩, ?_⟩
  rintro m _ W g ⟨i, so, hi, hmi, rfl, hO, hE, hb⟩
  have hpl := putL_len (show hs.length ≤ 1000 by omega) (ord.take i) []
  rw [List.length_take, Nat.min_eq_left hi] at hpl
  refine IfB.dec (fun hlt => ?_) fun hge => ?_
  · have hi' : i < ord.length := by dsimp only at hlt; omega
    have hx : ord[i]? = some ord[i] := List.getElem?_eq_getElem hi'
    have htk := take_succ_get hx
    generalize ord[i] = s at hx htk
    refine ⟨fun q x W' => ∃ k : Nat, k ≤ i ∧ q + k = i ∧ x = (decide (s ∈ ord.take k), (k : Int)) ∧ Ext W W', ⟨i, 0, Nat.zero_le _, rfl, by simp, Ch.refl _ _⟩, ?_⟩
    rintro q _ w12 g ⟨k, hk, hqk, rfl, e12⟩
    unfold F29j2
    refine IfB.dec (fun hlt2 => ?_) fun hge2 => ?_
    · have hk' : k < i := by dsimp only at hlt2; omega
      have hy : ord[k]? = some ord[k] := List.getElem?_eq_getElem (by omega)
      have htk2 := take_succ_get hy
      generalize ord[k] = s' at hy htk2
      have ed := e12.trans (extDrew w12)
      have w1 : IntKind.i64.wrap ((k : Int) + 1) = ((k + 1 : Nat) : Int) := by rw [wrap_of (by omega) (by omega)]; rfl
      refine IfB.intro (fun h => ⟨rfl, q - 1, by omega, k + 1, hk', by omega, ?_, ed⟩) fun h => ?_
      · have h : s ∈ ord.take k := by simpa using h
        rw [w1, htk2, decide_eq_true (List.mem_append_left _ h)]
      · have h : s ∉ ord.take k := by simpa using h
        obtain ⟨b1, o1, hp1, hc1⟩ := rdI_get (ho.ext (hE.trans ed)) hy
        obtain ⟨b2, o2, hp2, hc2⟩ := rdI_get (ho.ext (hE.trans ed)) hx
        refine ⟨b1, o1, hp1, (⟨by omega, by omega⟩ : (0 : Int) ≤ (k : Int) ∧ (k : Int) < (u.n : Int)), s', by dsimp only; rw [Int.toNat_natCast]; exact hc1, b2, o2, hp2, (⟨by omega, by omega⟩ : (0 : Int) ≤ (i : Int) ∧ (i : Int) < (u.n : Int)), s, by dsimp only; rw [Int.toNat_natCast]; exact hc2, rfl, q - 1, by omega, k + 1, hk', by omega, ?_, ed⟩
        rw [w1, htk2]
        congr 1
        rw [Bool.eq_iff_iff]
        simp only [decide_eq_true_eq, List.mem_append, List.mem_singleton, beq_iff_eq]
        exact ⟨fun e => .inr e.symm, fun e => e.elim (fun e => absurd e h) Eq.symm⟩
    · have hk' : k = i := by dsimp only at hge2; omega
      subst hk'
      refine ⟨fun q x W' => ∃ (j : Nat) (so' : Sl), j ≤ hs.length ∧ q + j = hs.length ∧ x = (so', (j : Int)) ∧ OwS W' so' 6 ((putL hs [] (ord.take k) ++ if s ∈ ord.take k then [] else ownL (hs.take j) s).flatMap nL) ∧ Ext w W' ∧ ∀ j ∈ blk so', w.heap.size ≤ j, ⟨hs.length, 0, so, Nat.zero_le _, rfl, rfl, ?_, hE.trans e12, hb⟩, ?_⟩
      · have : (if s ∈ ord.take k then [] else ownL (hs.take 0) s) = [] := by split <;> simp [ownL]
        rw [this, List.append_nil]
        exact hO.ext e12
      rintro q _ w27 g ⟨j, so', hj, hqj, rfl, hO', hE', hb'⟩
      have hson := owsN nL_len (by omega) hO'
      have hsl : so'.n ≤ 501000 := by
        rw [hson, List.length_append]
        have := ownL_len (hs.take j) s
        rw [List.length_take] at this
        split
        · simp; omega
        · omega
      unfold F29j3
      have hfin : ∀ (h : s ∈ ord.take k ∨ j = hs.length) {W : World}, Ext w27 W → OwS W so' 6 ((putL hs [] (ord.take (k + 1))).flatMap nL) := fun h W e => by
        rw [htk, putL_add, List.nil_append]
        rcases h with h | h
        · rw [if_pos h] at hO' ⊢; exact hO'.ext e
        · subst h; rw [List.take_length] at hO'; exact hO'.ext e
      refine IfB.dec (fun hlt3 => ?_) fun hge3 => ?_
      · have hj' : j < hs.length := by dsimp only at hlt3; omega
        refine IfB.intro (fun h => ?_) fun h => ?_
        · have h : s ∉ ord.take k := by simpa using h
          have hy : hs[j]? = some hs[j] := List.getElem?_eq_getElem hj'
          have hsu := ownL_succ hy s
          generalize hs[j] = n at hy hsu
          have ed := hE'.trans (extDrew w27)
          have w1 : IntKind.i64.wrap ((j : Int) + 1) = ((j + 1 : Nat) : Int) := by rw [wrap_of (by omega) (by omega)]; rfl
          obtain ⟨b1, o1, hp1, hc1⟩ := (hH.ext ed).at hy
          obtain ⟨b2, o2, hp2, hc2⟩ := rdI_get (ho.ext ed) hx
          have bj : (0 : Int) ≤ (j : Int) ∧ (j : Int) < (t.n : Int) := ⟨by omega, by omega⟩
          refine ⟨b1, o1, hp1, bj, n.v.1, ?_, b2, o2, hp2, (⟨by omega, by omega⟩ : (0 : Int) ≤ (k : Int) ∧ (k : Int) < (u.n : Int)), s, by dsimp only; rw [Int.toNat_natCast]; exact hc2, IfB.intro (fun hs' => ?_) fun hs' => ?_⟩
          · dsimp only; rw [Int.toNat_natCast]; exact hc1 0 _ rfl
          · refine ⟨b1, o1, hp1, bj, n.v, by dsimp only; rw [Int.toNat_natCast]; exact hc1, by decide, fun b39 w40 a40 => ?_⟩
            have e40 := ed.trans (a40.ch _)
            refine (hO'.ext ((extDrew w27).trans (a40.ch _))).lit (new := nL n) (T' := 27) a40.new rfl (nL_one n) rfl rfl (by omega) (by decide) fun s' w' ho' hn' hC' hbk => ⟨rfl, q - 1, by omega, j + 1, s', hj', by omega, by rw [w1], ?_, e40.chN hC' hb', fun i hi => ?_⟩
            · rw [if_neg h] at ho' ⊢
              rw [hsu, hs', if_pos rfl, ← List.append_assoc, List.flatMap_append, List.flatMap_singleton]; exact ho'
            · have := e40.size
              rcases hbk i hi with h | h
              · exact hb' i h
              · omega
          · refine ⟨rfl, q - 1, by omega, j + 1, so', hj', by omega, by rw [w1], ?_, ed, hb'⟩
            rw [if_neg h] at hO' ⊢
            rw [hsu, hs']; simp only [Bool.false_eq_true, if_false, List.append_nil]
            exact hO'.ext (extDrew w27)
        · have h : s ∈ ord.take k := by simpa using h
          exact ⟨rfl, m - 1, by omega, k + 1, so', hi', by omega, by rw [wrap_of (by omega) (by omega)]; rfl, hfin (.inl h) (Ch.refl _ _), hE', hb'⟩
      · have hj' : j = hs.length := by dsimp only at hge3; omega
        exact ⟨rfl, m - 1, by omega, k + 1, so', hi', by omega, by rw [wrap_of (by omega) (by omega)]; rfl, hfin (.inr hj') (Ch.refl _ _), hE', hb'⟩
  · have hi' : i = ord.length := by dsimp only at hge; omega
    subst hi'
    rw [List.take_length] at hO
    exact ⟨so, rfl, hO, hE, hb⟩
theorem eqSpn (x y : Spn) : EqAt Try.prog 51 (.agg #[.int .i64 x.1, .int .i64 x.2]) (.agg #[.int .i64 y.1, .int .i64 y.2]) (x == y) := by
  have h := eqAt_struct tbOk (d := 2) (by decide) (t := 51) (xs := #[.int .i64 x.1, .int .i64 x.2]) (ys := #[.int .i64 y.1, .int .i64 y.2]) (b := (x.1 == y.1) && ((x.2 == y.2) && true)) (by kernel_rfl) (by kernel_rfl)
  have e : (x == y) = ((x.1 == y.1) && ((x.2 == y.2) && true)) := by rw [Bool.and_true]; rfl
  rw [e]; exact h
theorem c51 {w : World} {t u : Sl} {xs ys : List Spn} (h1 : Rd w t 2 (xs.flatMap sv)) (h2 : Rd w u 2 (ys.flatMap sv)) (hl : xs.length * 16 ≤ 140737488355328) :
    CW Try.prog 51 #[slV t, slV u] w fun v w' => v = .bool (xs == ys) ∧ Ext w w' := by
  have htn := rdN sv_len (by omega) h1
  have hun := rdN sv_len (by omega) h2
  refine F51_ok t u w _ (IfB.intro (fun hne => ⟨?_, Ch.refl _ _⟩) fun heq => ?_)
  · have : xs.length ≠ ys.length := by
      have : (t.n : Int) ≠ (u.n : Int) := by simpa using hne
      omega
    have e : (xs == ys) = false := by rw [beq_eq_false_iff_ne]; intro e; exact this (by rw [e])
    rw [e]
  have hlen : xs.length = ys.length := by
    have : (t.n : Int) = (u.n : Int) := by simpa using heq
    omega
  refine ⟨fun m x W => ∃ i : Nat, i ≤ xs.length ∧ m + i = xs.length ∧ x = (i : Int) ∧ (∀ j, j < i → xs[j]? = ys[j]?) ∧ Ext w W, ⟨xs.length, 0, Nat.zero_le _, rfl, rfl, fun j hj => by omega, Ch.refl _ _⟩, ?_⟩
  rintro m _ W g ⟨i, hi, hmi, rfl, hsm, hE⟩
  unfold F51j1
  refine IfB.dec (fun hlt => ?_) fun hge => ?_
  · have hi' : i < xs.length := by omega
    have hx : xs[i]? = some xs[i] := List.getElem?_eq_getElem hi'
    have hy : ys[i]? = some (ys[i]'(by omega)) := List.getElem?_eq_getElem (by omega)
    generalize xs[i] = x at hx
    generalize ys[i]'_ = y at hy
    have ed := hE.trans (extDrew W)
    obtain ⟨b1, o1, hp1, hc1⟩ := (h1.ext ed).elem (i := i) (by omega) (by omega) (flatGet sv_len hx)
    obtain ⟨b2, o2, hp2, hc2⟩ := (h2.ext ed).elem (i := i) (by omega) (by omega) (flatGet sv_len hy)
    refine ⟨b1, o1, hp1, ⟨by omega, by omega⟩, x, by rw [Int.toNat_natCast]; exact hc1, b2, o2, hp2, ⟨by omega, by omega⟩, y, by rw [Int.toNat_natCast]; exact hc2, _, eqSpn x y, IfB.intro (fun h => ⟨?_, ed⟩) fun h => ⟨rfl, m - 1, by omega, i + 1, hi', by omega, by rw [wrap_of (by omega) (by omega)]; rfl, fun j hj => ?_, ed⟩⟩
    · have hne : x ≠ y := by simpa using h
      have e : (xs == ys) = false := by rw [beq_eq_false_iff_ne]; intro e; rw [e, hy] at hx; exact hne (Option.some.inj hx).symm
      rw [e]
    · have he : x = y := by simpa using h
      rcases Nat.lt_or_ge j i with h' | h'
      · exact hsm j h'
      · have : j = i := by omega
        subst this; rw [hx, hy, he]
  · have hi' : i = xs.length := by omega
    have : xs = ys := List.ext_getElem? fun j => by
      rcases Nat.lt_or_ge j i with h' | h'
      · exact hsm j h'
      · rw [List.getElem?_eq_none (by omega), List.getElem?_eq_none (by omega)]
    exact ⟨by rw [this]; simp, hE⟩
/-- Two boxes. -/
theorem twoBox {w : World} {b8 o8 b11 o11 n : Nat} {cx cy : List Value} {z : Array Value} {T T' : TypeId} (hx : CellsAt w b8 o8 cx) (hy : CellsAt w b11 o11 cy) (h1 : One cx) (h2 : One cy) (l1 : cx.length = n) (l2 : cy.length = n) (hz : z.size = n) {K K' : Nat → Nat → World → Prop}
    (hK : ∀ b b' w', (∃ T, w'.heap[b]? = some (.cells cx.toArray T (0, 0))) → (∃ T, w'.heap[b']? = some (.cells cy.toArray T (0, 0))) → Ext w w' → K b b' w') (hK' : ∀ b b' w', (∃ T, w'.heap[b]? = some (.cells cx.toArray T (0, 0))) → (∃ T, w'.heap[b']? = some (.cells cy.toArray T (0, 0))) → Ext w w' → K' b b' w') :
    (AllocP w (.cells z T (0, 0)) fun b w2 => CellsAt w2 b11 o11 cy ∧ CellsAt w2 b8 o8 cx ∧ AllocP w2 (.cells z T' (0, 0)) fun b' w4 => CellsAt w4 b11 o11 cy ∧ CellsAt w4 b8 o8 cx ∧ cx.toArray.size = n ∧ StoreP w4 b 0 cx fun w5 => CellsAt w5 b11 o11 cy ∧ cy.toArray.size = n ∧ StoreP w5 b' 0 cy (K b b')) ∧
    (AllocP w (.cells z T' (0, 0)) fun b' w2 => CellsAt w2 b11 o11 cy ∧ CellsAt w2 b8 o8 cx ∧ AllocP w2 (.cells z T (0, 0)) fun b w4 => CellsAt w4 b11 o11 cy ∧ CellsAt w4 b8 o8 cx ∧ cx.toArray.size = n ∧ StoreP w4 b 0 cx fun w5 => CellsAt w5 b11 o11 cy ∧ cy.toArray.size = n ∧ StoreP w5 b' 0 cy (K' b b')) := by
  have key : ∀ {wa wb : World} {b b' : Nat} {oa ob : Obj}, IsAlloc w oa b wa → IsAlloc wa ob b' wb → Ext w wb := fun a c => (a.ch _).trans (c.ch _)
  constructor
  · intro b wa ha
    have ea : Ext w wa := ha.ch _
    refine ⟨hy.ch ea id, hx.ch ea id, fun b' wb hb => ?_⟩
    have eb := key ha hb
    have pa := ha.here; have za := ha.size; have pb := hb.here
    refine ⟨hy.ch eb id, hx.ch eb id, by simpa using l1, store_all (vs := cx) (hb.at ha.new) (by rw [hz, l1]) h1 fun wc hc => ?_⟩
    have ec : Ext w wc := eb.chN hc.ch fun j e => by omega
    refine ⟨hy.ch ec id, by simpa using l2, store_all (vs := cy) (hc.at hb.new (by omega)) (by rw [hz, l2]) h2 fun wd hd => hK b b' wd ⟨_, hd.at hc.new (by omega)⟩ ⟨_, hd.new⟩ (ec.chN hd.ch fun j e => by omega)⟩
  · intro b' wa ha
    have ea : Ext w wa := ha.ch _
    refine ⟨hy.ch ea id, hx.ch ea id, fun b wb hb => ?_⟩
    have eb := key ha hb
    have pa := ha.here; have za := ha.size; have pb := hb.here
    refine ⟨hy.ch eb id, hx.ch eb id, by simpa using l1, store_all (vs := cx) hb.new (by rw [hz, l1]) h1 fun wc hc => ?_⟩
    have ec : Ext w wc := eb.chN hc.ch fun j e => by omega
    refine ⟨hy.ch ec id, by simpa using l2, store_all (vs := cy) (hc.at (hb.at ha.new) (by omega)) (by rw [hz, l2]) h2 fun wd hd => hK' b b' wd ⟨_, hd.at hc.new (by omega)⟩ ⟨_, hd.new⟩ (ec.chN hd.ch fun j e => by omega)⟩
/-- Spans of nodes, as they are. -/
structure NdR (w : World) (n : Nd) : Prop where
  rs : Rd w n.v.2.2.2.2.1 2 (n.rs.flatMap sv)
  ws : Rd w n.v.2.2.2.2.2 2 (n.ws.flatMap sv)
theorem NdR.ext {w w' : World} {n : Nd} (h : NdR w n) (e : Ext w w') : NdR w' n := ⟨h.rs.ext e, h.ws.ext e⟩
theorem NdF.r {w : World} {m : Nat} {bs : List Nat} {n : Nd} (h : NdF w m bs n) : NdR w n := ⟨h.rs.rd, h.ws.rd⟩
theorem c27 {w : World} {t u : Sl} {xs ys : List Nd} (h1 : Rd w t 6 (xs.flatMap nL)) (k1 : ∀ n ∈ xs, NdR w n) (h2 : Rd w u 6 (ys.flatMap nL)) (k2 : ∀ n ∈ ys, NdK w n) (hl : xs.length ≤ 1000000) (he : xs.map dOf = ys.map dOf) :
    CW Try.prog 27 #[slV t, slV u] w fun v w' => v = .bool true ∧ Ext w w' := by
  have htn := rdN nL_len (by omega) h1
  have hun := rdN nL_len (by omega) h2
  have hlen : xs.length = ys.length := by have := congrArg List.length he; simpa using this
  refine F27_ok t u w _ (IfB.no (by rw [htn, hun, hlen]; simp) ?_)
  refine ⟨fun m x W => ∃ i : Nat, i ≤ xs.length ∧ m + i = xs.length ∧ x = (i : Int) ∧ Ext w W, ⟨xs.length, 0, Nat.zero_le _, rfl, rfl, Ch.refl _ _⟩, ?_⟩
  rintro m _ W g ⟨i, hi, hmi, rfl, hE⟩
  unfold F27j1
  refine IfB.dec (fun hlt => ?_) fun hge => ⟨rfl, hE⟩
  have hi' : i < xs.length := by omega
  have hx : xs[i]? = some xs[i] := List.getElem?_eq_getElem hi'
  have hy : ys[i]? = some (ys[i]'(by omega)) := List.getElem?_eq_getElem (by omega)
  generalize xs[i] = x at hx
  generalize ys[i]'_ = y at hy
  have hd : dOf x = dOf y := by
    have h3 : (xs.map dOf)[i]? = some (dOf x) := by rw [List.getElem?_map, hx]; rfl
    rw [he, List.getElem?_map, hy] at h3
    exact (Option.some.inj h3).symm
  simp only [dOf, Prod.mk.injEq] at hd
  obtain ⟨d1, d2, d3, d4, d5, d6⟩ := hd
  have ed := hE.trans (extDrew W)
  obtain ⟨b1, o1, hp1, hc1⟩ := (h1.ext ed).elem (i := i) (by omega) (by omega) (flatGet nL_len hx)
  obtain ⟨b2, o2, hp2, hc2⟩ := (h2.ext ed).elem (i := i) (by omega) (by omega) (flatGet nL_len hy)
  unfold F27k2
  refine ⟨b1, o1, hp1, ⟨by omega, by omega⟩, x.v, by rw [Int.toNat_natCast]; exact hc1, b2, o2, hp2, ⟨by omega, by omega⟩, y.v, by rw [Int.toNat_natCast]; exact hc2, ?_⟩
  rw [Int.toNat_natCast]
  have main : ∀ (b b' : Nat) (w' : World), (∃ T, w'.heap[b]? = some (.cells (nC x.v).toArray T (0, 0))) → (∃ T, w'.heap[b']? = some (.cells (nC y.v).toArray T (0, 0))) → Ext W.drew w' → ∃ n20 : Int, w'.cell? ⟨b, 0 + 0, none⟩ = some (.int .i64 n20) ∧ ∃ n21 : Int, w'.cell? ⟨b', 0 + 0, none⟩ = some (.int .i64 n21) ∧ IfB (n20 != n21) ((fun (v : Value) (W : World) => v = .bool true ∧ Ext w W) (.bool false) w') (F27k1 w' b b' (fun (v : Value) (W : World) => v = .bool true ∧ Ext w W) m (fun m x W => ∃ i : Nat, i ≤ xs.length ∧ m + i = xs.length ∧ x = (i : Int) ∧ Ext w W) (i : Int)) := by
    rintro b b' w' ⟨T1, H1⟩ ⟨T2, H2⟩ e
    have e' := ed.trans e
    have q1 : ∀ {W : World} (o : Nat), Ext w' W → W.cell? ⟨b, 0 + o, none⟩ = (nC x.v)[o]? := fun o e => by rw [cell_of (e.at H1), Nat.zero_add]; exact List.getElem?_toArray ..
    have q2 : ∀ {W : World} (o : Nat), Ext w' W → W.cell? ⟨b', 0 + o, none⟩ = (nC y.v)[o]? := fun o e => by rw [cell_of (e.at H2), Nat.zero_add]; exact List.getElem?_toArray ..
    have r := Ch.refl (fun _ => False) w'
    have hbx := (k1 x (List.mem_of_getElem? hx)).ext e'
    have hby := (k2 y (List.mem_of_getElem? hy)).ext e'
    refine ⟨_, q1 0 r, _, q2 0 r, IfB.no (by simp [d1]) ?_⟩
    refine ⟨_, q1 1 r, _, q2 1 r, IfB.no (by simp [d2]) ⟨_, q1 2 r, _, q2 2 r, IfB.no (by simp [d3]) ⟨_, q1 3 r, _, q2 3 r, IfB.no (by simp [d4]) ⟨_, q1 4 r, _, q2 4 r, (c51 hbx.rs hby.rs (by rw [d5]; exact hby.rl)).use ?_⟩⟩⟩⟩
    rintro _ w31 ⟨rfl, e31⟩
    refine ⟨_, rfl, IfB.no (by simp [d5]) ⟨_, q1 5 e31, _, q2 5 e31, (c51 (hbx.ext e31).ws (hby.ext e31).ws (by rw [d6]; exact hby.wl)).use ?_⟩⟩
    rintro _ w36 ⟨rfl, e36⟩
    exact ⟨_, rfl, IfB.no (by simp [d6]) ⟨rfl, m - 1, by omega, i + 1, hi', by omega, by rw [wrap_of (by omega) (by omega)]; rfl, (e'.trans e31).trans e36⟩⟩
  refine twoBox (n := 6) hc1 hc2 (nC_one x.v) (nC_one y.v) rfl rfl (by rfl) main main
end Go.Proofs.Ytmmhbjbaallkfaa.Gx

/- The document's order of sagas. -/
namespace Go.Proofs.Ytmmhbjbaallkfaa.Gx
open Go
set_option linter.unusedSimpArgs false
set_option linter.unusedVariables false
end Go.Proofs.Ytmmhbjbaallkfaa.Gx

/- Arguments whose slices, nested ones too, have no more bytes than there may be. -/
namespace Go.Proofs.Ytmmhbjbaallkfaa.Gx
open Go
set_option linter.unusedSimpArgs false
set_option linter.unusedVariables false
def up8 (n : Nat) : Nat := (n + 7) / 8 * 8
/-- The bytes of a datum, at least. -/
def Ty.by : Ty → Nat
  | .int .i64 | .int .u64 => 8
  | .int _ => 1
  | .bool => 1
  | .str => 16
  | .pair a b => up8 a.by + up8 b.by
  | .sl _ => 24
  | .arr n e => n * e.by
/-- No slice in x has more bytes than there may be. -/
def wt : (t : Ty) → t.den → Prop
  | .int _, _ => True
  | .bool, _ => True
  | .str, _ => True
  | .pair a b, x => wt a x.1 ∧ wt b x.2
  | .sl e, l => l.length * e.by ≤ 140737488351232 ∧ ∀ x ∈ l, wt e x
  | .arr _ e, l => ∀ x ∈ l, wt e x
def ftW (B : TypeId → Ty → Bool) : List Field → Ty → Bool
  | [], _ => false
  | [f], ty => B f.type ty
  | f :: g :: fs, ty => match ty with
    | .pair a b => B f.type a && ftW B (g :: fs) b
    | _ => false
def wB (P : Program) : Nat → TypeId → Ty → Bool
  | 0, _, _ => false
  | d + 1, t, ty => match P.underlying t with
    | some (.struct fs) => ftW (wB P d) fs.toList ty
    | u => match u, ty with
      | some (.int k), .int k' => true
      | some .bool, .bool => true
      | some .string, .str => true
      | some (.slice e), .sl x => wB P d e x && Nat.ble x.by (P.bytesOf e)
      | some (.array n e), .arr m x => wB P d e x
      | _, _ => false
theorem wAll_mem {H : Type} {P : Program} {e : TypeId} : ∀ {l : List (DataW H)} {d : DataW H}, d ∈ l → ∀ n ∈ d.weights P e, n ∈ DataW.weightsAll P e l
  | a :: l, d, h, n, hn => by
    simp only [DataW.weightsAll, List.mem_append]
    rcases List.mem_cons.1 h with rfl | h
    · exact .inl hn
    · exact .inr (wAll_mem h n hn)
section
variable {H : Type} {enc : TypeId × Value → H} {P : Program} {w : World} {base : Nat} {sp : Nat → Bool} {held : Bool}
theorem ft_repW {B C : TypeId → Ty → Bool} {cs : List Value} (hB : ∀ (f : Field) (ty : Ty), B f.type ty = true → C f.type ty = true → (∃ r n, DataW.trod enc P w base sp held n f.type ((cs.drop f.offset).take (P.cellsOf f.type)) = some r ∧ ∀ k ∈ r.1.weights P f.type, k ≤ 140737488351232) → ∃ x : ty.den, rep (fun _ => True) w ty x ((cs.drop f.offset).take (P.cellsOf f.type)) ∧ wt ty x) :
    ∀ (fs : List Field) (off : Nat) (ty : Ty), ftB P B off fs ty = true → ftW C fs ty = true → (∀ f ∈ fs, ∃ r n, DataW.trod enc P w base sp held n f.type ((cs.drop f.offset).take (P.cellsOf f.type)) = some r ∧ ∀ k ∈ r.1.weights P f.type, k ≤ 140737488351232) → ∃ x : ty.den, rep (fun _ => True) w ty x ((cs.drop off).take ty.sz) ∧ wt ty x
  | [], _, _, h, _, _ => by cases h
  | [f], off, ty, h, hc, hf => by
    simp only [ftB, Bool.and_eq_true] at h
    obtain ⟨⟨h1, h2⟩, h3⟩ := h
    have e1 := Nat.eq_of_beq_eq_true h1
    have e3 := Nat.eq_of_beq_eq_true h3
    obtain ⟨x, hx, hw⟩ := hB f ty h2 hc (hf f (by simp))
    rw [e1, e3] at hx
    exact ⟨x, hx, hw⟩
  | f :: g :: fs, off, ty, h, hc, hf => by
    simp only [ftB] at h
    simp only [ftW] at hc
    split at h
    · rename_i a b
      simp only [Bool.and_eq_true] at h hc
      obtain ⟨⟨⟨h1, h2⟩, h3⟩, h4⟩ := h
      have e1 := Nat.eq_of_beq_eq_true h1
      have e3 := Nat.eq_of_beq_eq_true h3
      obtain ⟨x, hx, hwx⟩ := hB f a h2 hc.1 (hf f (by simp))
      rw [e1, e3] at hx
      obtain ⟨y, hy, hwy⟩ := ft_repW hB (g :: fs) (off + a.sz) b h4 hc.2 fun f' hf' => hf f' (List.mem_cons_of_mem _ hf')
      refine ⟨(x, y), ⟨_, _, ?_, hx, hy⟩, hwx, hwy⟩
      show (cs.drop off).take (a.sz + b.sz) = _
      rw [List.take_add, List.drop_drop]
    · cases h
theorem trod_repW : ∀ (d : Nat) (t : TypeId) (ty : Ty) (fuel : Nat) (cs : List Value) (r : DataW H × List MemPlace), tyB P d t ty = true → wB P d t ty = true → DataW.trod enc P w base sp held fuel t cs = some r → (∀ k ∈ r.1.weights P t, k ≤ 140737488351232) → ∃ x : ty.den, rep (fun _ => True) w ty x cs ∧ wt ty x
  | 0, _, _, _, _, _, h, _, _, _ => by cases h
  | d + 1, t, ty, fuel, cs, r, hty, hwb, h, hk => by
    unfold tyB at hty
    unfold wB at hwb
    split at hty
    · rename_i fs hu
      rw [hu] at hwb
      simp only [Bool.and_eq_true] at hty hwb
      obtain ⟨h1, h2⟩ := hty
      have htz := Nat.eq_of_beq_eq_true h2
      obtain ⟨xs, n, rfl, rfl, hl, hxl, hel⟩ := DataW.trod_struct hu h
      have hwk : ∀ (i : Nat) (f : Field) x, fs[i]? = some f → xs[i]? = some x → ∀ k ∈ x.1.weights P f.type, k ≤ 140737488351232 := fun i f x hf hx k hk' => hk k (by
        show k ∈ DataW.weights P t (DataW.agg _)
        simp only [DataW.weights, hu]
        exact DataW.weights_mem_each (j := i) (by rw [List.getElem?_map, Array.getElem?_toList, hf]; rfl) (by rw [List.getElem?_map, hx]; rfl) k hk')
      have := ft_repW (enc := enc) (P := P) (w := w) (base := base) (sp := sp) (held := held) (B := tyB P d) (C := wB P d) (cs := cs) (fun f ty hf hc ⟨r, m, hr, hk⟩ => trod_repW d f.type ty m _ r hf hc hr hk) fs.toList 0 ty h1 hwb fun f hf => by
        obtain ⟨i, hi, rfl⟩ := List.getElem_of_mem hf
        have hfi : fs[i]? = some (fs.toList[i]) := by rw [← Array.getElem?_toList, List.getElem?_eq_getElem hi]
        have hxi : xs[i]? = some (xs[i]'(by rw [hxl]; simpa using hi)) := List.getElem?_eq_getElem _
        have := hel i (fs.toList[i]) hfi
        rw [hxi] at this
        exact ⟨_, n, this, hwk i _ _ hfi hxi⟩
      obtain ⟨x, hx, hw⟩ := this
      rw [List.drop_zero, ← htz, ← hl, List.take_length] at hx
      exact ⟨x, hx, hw⟩
    · skip
      split at hty
      · rename_i k k' hu
        have := eqK_eq hty; subst this
        obtain ⟨n, rfl, _, hw⟩ := DataW.trod_int hu h
        simp only [Lit.wf, Bool.and_eq_true, decide_eq_true_eq] at hw
        exact ⟨n, ⟨rfl, hw⟩, trivial⟩
      · rename_i hu
        obtain ⟨b, rfl, _⟩ := DataW.trod_bool hu h
        exact ⟨b, rfl, trivial⟩
      · rename_i hu
        obtain ⟨s, rfl, _, hs⟩ := DataW.trod_string hu h
        exact ⟨s, ⟨rfl, hs⟩, trivial⟩
      · rename_i e x hu
        rw [hu] at hwb
        simp only [Bool.and_eq_true] at hty hwb
        obtain ⟨⟨h1, h2⟩, h3⟩ := hty
        obtain ⟨hb1, hb2⟩ := hwb
        have hby := Nat.le_of_ble_eq_true hb2
        have hsz := Nat.eq_of_beq_eq_true h2
        have hpos : 0 < x.sz := by simpa using h3
        rcases DataW.trod_slice hu h with ⟨rfl, _⟩ | ⟨a, len, cap, elems, rest, n, rfl, rfl, rfl, _, hl, hm, hlen, hel, _, _⟩
        · exact ⟨[], ⟨⟨none, 0, 0⟩, rfl, rfl, Nat.le_refl _, Nat.zero_le _, fun h => absurd h (Nat.lt_irrefl _), [], rfl, fun i c y hc => by simp at hc, by simp [Rd, ReadC]⟩, by simp, fun y hy => by simp at hy⟩
        · have hk0 : (elems.length + rest.length) * P.bytesOf e ≤ 140737488351232 := by
            refine hk ((elems.length + rest.length) * P.bytesOf e) ?_
            show _ ∈ DataW.weights P t (DataW.slice _ _)
            simp only [DataW.weights, hu, List.length_map]
            exact List.mem_cons_self
          obtain ⟨css, ys, g1, g2, g3⟩ := pick (Q := fun i (c : List Value) (y : x.den) => w.cells? base (a.add (i * x.sz)) x.sz = some c ∧ rep (fun _ => True) w x y c ∧ wt x y) len fun i hi => by
            have h4 := hel i hi
            have hei : elems[i]? = some (elems[i]'(by omega)) := List.getElem?_eq_getElem _
            rw [hsz, hei, Option.bind_eq_some_iff] at h4
            obtain ⟨c, hc, hy⟩ := h4
            obtain ⟨y, hr, hwy⟩ := trod_repW d e x n c _ h1 hb1 hy fun k hk' => hk k (by
              show k ∈ DataW.weights P t (DataW.slice _ _)
              simp only [DataW.weights, hu]
              refine List.mem_cons_of_mem _ (List.mem_append_left _ (wAll_mem (d := (elems[i]'(by omega)).1) ?_ k hk'))
              exact List.mem_map.2 ⟨_, List.getElem_mem _, rfl⟩)
            exact ⟨c, y, hc, hr, hwy⟩
          refine ⟨ys, ⟨⟨some a, len, cap⟩, rfl, g2.symm, hl, hm, fun _ _ _ => trivial, css, by omega, fun i c y hc hy => (g3 i c y hc hy).2.1, ?_⟩, ?_, fun y hy => ?_⟩
          · have hlens : ∀ c ∈ css, c.length = x.sz := rep_lens (by omega) fun i c y hc hy => (g3 i c y hc hy).2.1
            have hfl := flatten_len hlens
            refine ⟨by rw [hfl, g1], ?_⟩
            dsimp only
            by_cases h0 : len = 0
            · subst h0
              have : css = [] := List.eq_nil_of_length_eq_zero g1
              subst this
              unfold ReadC
              split
              · exact ⟨by simp, fun i v hv => by simp at hv⟩
              · exact ⟨by simp, rfl⟩
              · rfl
            · have cell0 := (g3 0 _ _ (List.getElem?_eq_getElem (show 0 < css.length by omega)) (List.getElem?_eq_getElem (show 0 < ys.length by omega))).1
              rw [Nat.zero_mul] at cell0
              have hspot := (cells_at cell0 hpos).1
              obtain ⟨b, o, s⟩ := a
              have hs : s = none := hspot
              subst hs
              refine ⟨by rw [hfl, g1], cellsAt_flatten (m := x.sz) (fun i c hc => ?_) hlens⟩
              have hi : i < css.length := (List.getElem?_eq_some_iff.1 hc).1
              have := (cells_at (g3 i c _ hc (List.getElem?_eq_getElem (show i < ys.length by omega))).1 hpos).2
              rw [addr_add] at this
              exact this
          · refine Nat.le_trans (Nat.mul_le_mul (show ys.length ≤ elems.length + rest.length by omega) hby) hk0
          · obtain ⟨i, hi, rfl⟩ := List.getElem_of_mem hy
            exact (g3 i _ _ (List.getElem?_eq_getElem (show i < css.length by omega)) (List.getElem?_eq_getElem hi)).2.2
      · rename_i n e m x hu
        rw [hu] at hwb
        simp only [Bool.and_eq_true] at hty
        obtain ⟨⟨⟨h0, h1⟩, h2⟩, h3⟩ := hty
        have hnm := Nat.eq_of_beq_eq_true h0
        have hsz := Nat.eq_of_beq_eq_true h2
        have htz := Nat.eq_of_beq_eq_true h3
        subst hnm
        obtain ⟨xs, k, rfl, rfl, hl, hxl, hel⟩ := DataW.trod_array hu h
        rw [htz] at hl
        obtain ⟨css, ys, g1, g2, g3⟩ := pick (Q := fun i (c : List Value) (y : x.den) => c = (cs.drop (i * x.sz)).take x.sz ∧ rep (fun _ => True) w x y c ∧ wt x y) n fun i hi => by
          have h4 := hel i hi
          have hei : xs[i]? = some (xs[i]'(by omega)) := List.getElem?_eq_getElem _
          rw [hsz, hei] at h4
          obtain ⟨y, hr, hwy⟩ := trod_repW d e x k _ _ h1 hwb h4 fun k' hk' => hk k' (by
            show k' ∈ DataW.weights P t (DataW.agg _)
            simp only [DataW.weights, hu]
            exact wAll_mem (d := (xs[i]'(by omega)).1) (List.mem_map.2 ⟨_, List.getElem_mem _, rfl⟩) k' hk')
          exact ⟨_, y, rfl, hr, hwy⟩
        refine ⟨ys, ⟨g2, css, by omega, fun i c y hc hy => (g3 i c y hc hy).2.1, ?_⟩, fun y hy => ?_⟩
        · have e1 : css = (List.range n).map fun i => (cs.drop (i * x.sz)).take x.sz := by
            apply List.ext_getElem?
            intro i
            by_cases hi : i < n
            · rw [List.getElem?_map, List.getElem?_range hi, List.getElem?_eq_getElem (by omega)]
              have := (g3 i _ _ (List.getElem?_eq_getElem (show i < css.length by omega)) (List.getElem?_eq_getElem (show i < ys.length by omega))).1
              rw [this]; rfl
            · rw [List.getElem?_eq_none (by omega), List.getElem?_eq_none (by simp; omega)]
          rw [e1]
          exact chunks n cs hl
        · obtain ⟨i, hi, rfl⟩ := List.getElem_of_mem hy
          exact (g3 i _ _ (List.getElem?_eq_getElem (show i < css.length by omega)) (List.getElem?_eq_getElem hi)).2.2
      · cases hty
/-- An argument of the row. -/
theorem open_argW {d : Nat} {t : TypeId} {ty : Ty} {v : Value} {x : DataW H} {ps : List MemPlace} {ts : List TypeId} {ds : List (DataW H)} {j : Nat} (hty : tyB P d t ty = true) (hwb : wB P d t ty = true) (h : DataW.Trod enc P w base sp held t v x ps)
    (hz : (DataW.weightsEach P ts ds).all (· ≤ reachBytes) = true) (ht : ts[j]? = some t) (hd : ds[j]? = some x) : ∃ y : ty.den, rep (fun _ => True) w ty y v.cells.toList ∧ wt ty y := by
  obtain ⟨fuel, h⟩ := h
  refine trod_repW d t ty fuel _ _ hty hwb h fun k hk => ?_
  have := List.all_eq_true.1 hz _ (DataW.weights_mem_each ht hd k hk)
  exact of_decide_eq_true this
end
end Go.Proofs.Ytmmhbjbaallkfaa.Gx

/- Package gimmallaw29: SerialPuts, SerialOrders. -/
namespace Go.Proofs.Ytmmhbjbaallkfaa.Gx
open Go
set_option linter.unusedSimpArgs false
set_option linter.unusedVariables false
theorem pickL {α β : Type} {Q : α → β → Prop} : ∀ {l : List α}, (∀ x ∈ l, ∃ n, Q x n) → ∃ ns : List β, ns.length = l.length ∧ ∀ (i : Nat) x n, l[i]? = some x → ns[i]? = some n → Q x n
  | [], _ => ⟨[], rfl, by simp⟩
  | x :: l, h => by
    obtain ⟨n, hn⟩ := h x (by simp)
    obtain ⟨ns, h1, h2⟩ := pickL (l := l) fun y hy => h y (List.mem_cons_of_mem _ hy)
    refine ⟨n :: ns, by simp [h1], fun i y m hy hm => ?_⟩
    cases i with
    | zero => cases hy; cases hm; exact hn
    | succ i => exact h2 i y m hy hm
theorem rep_list {A : Nat → Prop} {w : World} {e : Ty} {δ : Type} {f : δ → List Value} {Q : e.den → δ → Prop} {l : List e.den} {cs : List Value} (h : rep A w (.sl e) l cs) (hp : ∀ x ∈ l, ∀ c, rep A w e x c → ∃ n, c = f n ∧ Q x n) :
    ∃ (s : Sl) (ns : List δ), cs = [slV s] ∧ Rd w s e.sz (ns.flatMap f) ∧ ns.length = l.length ∧ s.n = l.length ∧ s.n ≤ s.c ∧ s.c ≤ maxLen ∧ ∀ (i : Nat) x n, l[i]? = some x → ns[i]? = some n → Q x n := by
  obtain ⟨s, rfl, h1, h2, h3, h4, css, h5, h6, h7⟩ := h
  have hz : ∀ i (hi : i < l.length), ∃ n, css[i]? = some (f n) ∧ Q l[i] n := fun i hi => by
    have hc : css[i]? = some (css[i]'(by omega)) := List.getElem?_eq_getElem _
    obtain ⟨n, hn, hq⟩ := hp l[i] (List.getElem_mem _) _ (h6 i _ _ hc (List.getElem?_eq_getElem hi))
    exact ⟨n, by rw [hc, hn], hq⟩
  obtain ⟨ns, hl, hq⟩ := pickL (l := List.range l.length) (Q := fun i n => css[i]? = some (f n) ∧ ∀ x, l[i]? = some x → Q x n) fun i hi => by
    have hi := List.mem_range.1 hi
    obtain ⟨n, a, b⟩ := hz i hi
    exact ⟨n, a, fun x hx => by rw [List.getElem?_eq_getElem hi] at hx; cases hx; exact b⟩
  rw [List.length_range] at hl
  refine ⟨s, ns, rfl, ?_, hl, h1, h2, h3, fun i x n hx hn => ?_⟩
  · have : css = ns.map f := by
      apply List.ext_getElem?
      intro i
      by_cases hi : i < l.length
      · rw [List.getElem?_map, List.getElem?_eq_getElem (show i < ns.length by omega)]
        exact (hq i i _ (List.getElem?_range hi) (List.getElem?_eq_getElem (by omega))).1
      · rw [List.getElem?_eq_none (by omega), List.getElem?_eq_none (by simp; omega)]
    rw [List.flatMap_def, ← this]; exact h7
  · have hi := (List.getElem?_eq_some_iff.1 hx).1
    exact (hq i i n (List.getElem?_range hi) hn).2 x hx
theorem ext_eq {α : Type} {l m : List α} (hl : m.length = l.length) (h : ∀ (i : Nat) x n, l[i]? = some x → m[i]? = some n → n = x) : m = l := by
  apply List.ext_getElem?
  intro i
  by_cases hi : i < l.length
  · have := h i _ _ (List.getElem?_eq_getElem hi) (List.getElem?_eq_getElem (show i < m.length by omega))
    rw [List.getElem?_eq_getElem hi, List.getElem?_eq_getElem (show i < m.length by omega), this]
  · rw [List.getElem?_eq_none (by omega), List.getElem?_eq_none (by omega)]
/-- A list of ints. -/
theorem rep_ints {A : Nat → Prop} {w : World} {l : List (Ty.int .i64).den} {cs : List Value} (h : rep A w (.sl (.int .i64)) l cs) :
    ∃ s : Sl, cs = [slV s] ∧ Rd w s 1 (l.map iv) ∧ s.n ≤ s.c ∧ s.c ≤ maxLen ∧ ∀ x ∈ l, -9223372036854775808 ≤ x ∧ x ≤ 9223372036854775807 := by
  have hr : ∀ x ∈ l, -9223372036854775808 ≤ x ∧ x ≤ 9223372036854775807 := by
    obtain ⟨s, rfl, h1, h2, h3, h4, css, h5, h6, h7⟩ := h
    intro x hx
    obtain ⟨i, hi, rfl⟩ := List.getElem_of_mem hx
    exact (h6 i _ _ (List.getElem?_eq_getElem (by omega)) (List.getElem?_eq_getElem hi)).2
  obtain ⟨s, ns, h1, h2, h3, h4, h5, h6, h7⟩ := rep_list (f := fun x : Int => [iv x]) (Q := fun x n => n = x) h fun x hx c hc => ⟨x, hc.1, rfl⟩
  have := ext_eq h3 h7
  subst this
  refine ⟨s, h1, ?_, h5, h6, hr⟩
  rw [show ns.map iv = ns.flatMap fun x : Int => [iv x] from List.map_eq_flatMap]; exact h2
theorem rep_spansW {A : Nat → Prop} {w : World} {l : List tySp.den} {cs : List Value} (h : rep A w (.sl tySp) l cs) (g : wt (.sl tySp) l) : ∃ (s : Sl) (xs : List Spn), cs = [slV s] ∧ Rd w s 2 (xs.flatMap sv) ∧ s.n ≤ s.c ∧ s.c ≤ maxLen ∧ xs.length * 16 ≤ 140737488355328 := by
  obtain ⟨s, ns, h1, h2, h3, h4, h5, h6, h7⟩ := rep_list (f := sv) (Q := fun _ _ => True) h fun x hx c hc => by
    obtain ⟨c1, c2, rfl, ⟨rfl, _⟩, ⟨rfl, _⟩⟩ := hc
    exact ⟨x, rfl, trivial⟩
  refine ⟨s, ns, h1, h2, h5, h6, ?_⟩
  have g1 : l.length * 16 ≤ 140737488351232 := g.1
  omega
theorem rep_ndK {A : Nat → Prop} {w : World} {x : tyNd.den} {cs : List Value} (h : rep A w tyNd x cs) (g : wt tyNd x) : ∃ n : Nd, cs = nL n ∧ NdK w n := by
  obtain ⟨c1, d1, rfl, ⟨rfl, _⟩, c2, d2, rfl, ⟨rfl, _⟩, c3, d3, rfl, ⟨rfl, _⟩, c4, d4, rfl, h4, c5, d5, rfl, h5, h6⟩ := h
  obtain ⟨_, _, _, _, g5, g6⟩ := g
  obtain ⟨s, xs, rfl, hxs, _, _, l1⟩ := rep_spansW h5 g5
  obtain ⟨t, ys, rfl, hys, _, _, l2⟩ := rep_spansW h6 g6
  have h4 : c4 = [.bool x.2.2.2.1] := h4
  subst h4
  exact ⟨⟨(x.1, x.2.1, x.2.2.1, x.2.2.2.1, s, t), xs, ys⟩, rfl, hxs, hys, l1, l2⟩
theorem serialPuts (w : World) {l : List tyNd.den} {c0 : Value} (h0 : rep (fun _ => True) w (.sl tyNd) l [c0]) {ord : List (Ty.int .i64).den} {c1 : Value} (h1 : rep (fun _ => True) w (.sl (.int .i64)) ord [c1]) (g0 : wt (.sl tyNd) l) (g1 : wt (.sl (.int .i64)) ord) :
    CW Try.prog 8 #[c0, c1] w fun v w' => v = .bool true ∧ Ext w w' := by
  obtain ⟨t, hs, e0, hrd, hsl, htn, _, _, hq⟩ := rep_list (f := nL) (Q := fun _ n => NdK w n) h0 fun x hx c hc => rep_ndK hc (g0.2 x hx)
  obtain ⟨u, e1, hru, hcap, _, _⟩ := rep_ints h1
  simp only [List.cons.injEq, and_true] at e0 e1
  subst e0; subst e1
  have hun := rdI hru
  refine F8_ok t u w _ ((c20 w).use ?_)
  rintro _ w2 ⟨rfl, e2⟩
  refine ⟨true, rfl, IfB.no rfl (IfB.dec (fun _ => ⟨rfl, e2⟩) fun ha => IfB.dec (fun _ => ⟨rfl, e2⟩) fun hb => ?_)⟩
  have hK : HsK w t hs := ⟨hrd, fun n hn => by
    obtain ⟨i, hi, rfl⟩ := List.getElem_of_mem hn
    exact hq i _ _ (List.getElem?_eq_getElem (by omega)) (List.getElem?_eq_getElem hi), by omega⟩
  refine (c28 (hK.ext e2) (by omega) (hru.ext e2) (by omega) hcap).use ?_
  rintro _ w5 ⟨s6, ns, rfl, hns, hN, e5⟩
  refine ⟨s6, rfl, (c29 ((hK.ext e2).ext e5) (by omega) ((hru.ext e2).ext e5) (by omega)).use ?_⟩
  rintro _ w8 ⟨s9, rfl, hO9, e8, _⟩
  have hpm : ∀ (o seen : List Int), ∀ n ∈ putL hs seen o, n ∈ hs := by
    intro o
    induction o with
    | nil => intro seen n hn; simp [putL] at hn
    | cons x o ih =>
      intro seen n hn
      rw [putL] at hn
      rcases List.mem_append.1 hn with h | h
      · split at h
        · cases h
        · exact (List.mem_filter.1 h).1
      · exact ih _ n h
  have hnl : ns.length ≤ 1000000 := by
    have h1 := congrArg List.length hns
    rw [List.length_map, List.length_map] at h1
    have h2 := putL_len (show hs.length ≤ 1000 by omega) ord []
    omega
  refine ⟨s9, rfl, (c27 (hN.own.ext e8).rd (fun n hn => ((hN.ok n hn).ext e8).r) hO9.rd (fun n hn => (hK.ok n (hpm _ _ n hn)).ext ((e2.trans e5).trans e8)) hnl hns).use ?_⟩
  rintro _ w11 ⟨rfl, e11⟩
  exact ⟨true, rfl, rfl, ((e2.trans e5).trans e8).trans e11⟩
end Go.Proofs.Ytmmhbjbaallkfaa.Gx

/- gimmallaw29.SerialPuts returns true for all arguments, and leaves what was there as it was. No condition beyond the statement. -/
namespace Go.Proofs.Ytmmhbjbaallkfaa.serialPuts
open Go.ChangeShapes Go.WideShapes Go.ChangeAt Go.RowKit
open Go.ChangeMaps (open_string shut_string)
set_option linter.unusedVariables false
theorem own : ownKnob Try.prog.godebug = none := by kernel_rfl
set_option maxRecDepth 100000 in
theorem lifted (os : Os) (started : os.Started) (H : Type) (enc : TypeId × Value → H) :
    ReturnsInHanded {} Try.checked os 8 .any (Rows.serialPutsSpec.pre6 enc Try.prog Try.f8 Rows.serialPutsRow.domain false) (Rows.serialPutsSpec.post enc Try.prog Try.f8 false true false false) := by
  refine returnsInHanded_of_change_sized (C := Try.checked) own started (by kernel_rfl) Try.func8
    (ChangeSpec.witness6 (enc := enc) (C := Try.checked) false ⟨#[], #[.slice none 0 0, .slice none 0 0], []⟩ 8 (by kernel_rfl) (by kernel_rfl) (by kernel_rfl) (by kernel_rfl)) ?_
  intro W base args ds gs before hval0 hW hcnd hsz _
  have hval : ∀ (j : Nat) t v, Try.f8.params[j]? = some t → args[j]? = some v → Value.okWide Try.prog W .any base t v := hval0
  have hW' := hW
  have hlt := hW.lt
  obtain ⟨p, q, hA0, hV, rfl, hfz, hnd⟩ := hW
  have hA : DataW.TrodAll enc Try.prog W 0 (fun _ => true) true Try.f8.params.toList args.toList ds p := hA0
  have hpar : Try.f8.params = #[22, 31] := rfl
  rw [hpar] at hA hval
  obtain ⟨v0, vs0, d0, ds0, p0, q0, hargs, rfl, rfl, h0, r0⟩ := trodAll_cons hA
  obtain ⟨v1, vs1, d1, ds1, p1, q1, rfl, rfl, rfl, h1, r1⟩ := trodAll_cons r0
  obtain ⟨rfl, rfl, rfl⟩ := trodAll_nil r1
  obtain rfl : args = #[v0, v1] := by cases args; simp_all
  obtain ⟨rfl, rfl⟩ := trodVars_none hV
  clear hA0 hval0
  obtain ⟨x0, e0, u0⟩ := Gx.open_argW (d := 12) (ty := (.sl (.pair (.int .i64) (.pair (.int .i64) (.pair (.int .i64) (.pair .bool (.pair (.sl (.pair (.int .i64) (.int .i64))) (.sl (.pair (.int .i64) (.int .i64)))))))))) (by kernel_rfl) (by kernel_rfl) h0 hsz (j := 0) rfl rfl
  obtain ⟨c0, g0⟩ : ∃ c, v0.cells.toList = [c] := List.length_eq_one_iff.1 (Gx.rep_len e0)
  have f0 : v0 = c0 := Gx.val_of_cells (hval 0 22 v0 rfl rfl) (fun fs n e => by rw [Try.underlying22]; exact ⟨by simp, by simp⟩) g0
  rw [g0] at e0
  obtain ⟨x1, e1, u1⟩ := Gx.open_argW (d := 12) (ty := (.sl (.int .i64))) (by kernel_rfl) (by kernel_rfl) h1 hsz (j := 1) rfl rfl
  obtain ⟨c1, g1⟩ : ∃ c, v1.cells.toList = [c] := List.length_eq_one_iff.1 (Gx.rep_len e1)
  have f1 : v1 = c1 := Gx.val_of_cells (hval 1 31 v1 rfl rfl) (fun fs n e => by rw [Try.underlying31]; exact ⟨by simp, by simp⟩) g1
  rw [g1] at e1
  have call : Calls Try.prog 8 #[v0, v1] W fun e w' => e = .returned (.bool true) ∧ Below W.heap.size W w' := by
    rw [f0, f1]
    refine (Gx.serialPuts W e0 e1 u0 u1).calls.mono ?_
    rintro e w' ⟨v, rfl, rfl, hx⟩
    exact ⟨rfl, hx.below⟩
  refine call.mono fun e W' ⟨he, hg⟩ => ?_
  subst he
  have b1 : ∀ sp : Nat → Bool, (∀ x ∈ p1, sp x.block = true) → DataW.Trod enc Try.prog W' 0 sp true 31 v1 d1 p1 := fun sp hsp => Gx.trod_keep (by kernel_rfl) (by kernel_rfl) (by decide +kernel) h1 hg (fun x hx => hlt x (by simp [hx])) hsp
  have b0 : ∀ sp : Nat → Bool, (∀ x ∈ p0, sp x.block = true) → DataW.Trod enc Try.prog W' 0 sp true 22 v0 d0 p0 := fun sp hsp => Gx.trod_keep (by kernel_rfl) (by kernel_rfl) (by decide +kernel) h0 hg (fun x hx => hlt x (by simp [hx])) hsp
  exact ⟨_, rfl, Gx.post_of_below (pa := (p0 ++ (p1 ++ []))) (pv := []) hW' hg (fun _ _ _ => (trodAll_cons_mk (shut_bool Try.underlying4 _) trodAll_mk0)) (fun sp hsp => by rw [hpar]; exact (trodAll_cons_mk (b0 sp fun x hx => hsp x (by simp [hx])) (trodAll_cons_mk (b1 sp fun x hx => hsp x (by simp [hx])) trodAll_mk0))) (fun _ _ => rfl) (by simp)
    (ok_one (by kernel_rfl) rfl (okWide_bool_mk Try.underlying4 _))⟩
theorem over : Rows.serialPutsRow.holds Try.pinned (OpenSpec.ofChange Rows.serialPutsSpec) :=
  OpenClaim.holds_of_wide 8 Try.f8 rfl rfl rfl rfl rfl rfl rfl ⟨rfl, rfl, rfl, rfl, rfl⟩ rfl rfl rfl rfl rfl (by kernel_rfl) Try.func8 (by kernel_rfl)
    (of_decide_eq_true (by kernel_rfl)) (by unfold Func.isWrapper; first | (rw [if_pos (by decide +kernel)]; kernel_rfl) | (rw [if_neg (by decide +kernel)]; exact ⟨rfl, rfl⟩))
    (fun os started H enc _ => lifted os started H enc)
/-- The statement. -/
theorem proved : Rows.SerialPutsSaid :=
  over
#print axioms proved
end Go.Proofs.Ytmmhbjbaallkfaa.serialPuts
