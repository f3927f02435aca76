/- Written by mkf.py: what is to be shown of functions, as Gx reckons it from their code. -/
import Derived.Test.YtmmhbjbaallkfaaGxT
namespace Go.Proofs.Ytmmhbjbaallkfaa.Gx
open Go
set_option linter.unusedVariables false
set_option maxRecDepth 100000

def F59j1 (t0 : Sl) (t1 : Int) (R : Value → World → Prop) (y1 : Nat → Int → World → Prop) (b3 : Nat) (n4 : Int) (w5 : World) : Prop :=
 IfB (decide (n4 < (t0.n : Int)))
 (∃ (b8 : Nat),
 ∃ (b9 : Nat),
 t0.1 = some ({ block := b8, off := b9 } : Addr) ∧
 ((0 : Int) ≤ n4 ∧ n4 < (t0.2 : Int)) ∧
 ∃ (n10 : Int),
 w5.cell? ({ block := b8, off := b9 + n4.toNat } : Addr) = some (Value.int IntKind.i64 n10) ∧
 IfB (t1 == n10) (R (Value.int IntKind.i64 n4) w5) (([] : List Nat) = [] ∧ ∃ (b11 : Nat), b11 < b3 ∧ y1 b11 (IntKind.i64.wrap (n4 + (1 : Int))) w5))
 (R (Value.int IntKind.i64 (-1 : Int)) w5)
def F59 (t0 : Sl) (t1 : Int) (w : World) (R : Value → World → Prop) : Prop :=
 ∃ (y1 : Nat → Int → World → Prop),
 (∃ (b2 : Nat), y1 b2 (0 : Int) w) ∧
 ∀ (b3 : Nat) (n4 : Int) (w5 : World) (y6 : Nat → Value),
 y1 b3 n4 w5 →
 (F59j1 t0 t1 R y1 b3 n4 w5)
theorem F59_ok (t0 : Sl) (t1 : Int) (w : World) (R : Value → World → Prop) (h : F59 t0 t1 w R) : CW Try.prog 59 #[Value.slice t0.1 t0.2 t0.3, Value.int IntKind.i64 t1] w R :=
  call_of tbOk mixed en59 Try.func59 rfl (.node (.nil) (.node (.node (.nil) (.loop [(8, .one (.int .i64))] [9, 10, 5, 11, 12, 13, 14, 15, 16, 17, 4, 18, 8] (.nil))) (.nil))) (by kernel_rfl) (Nat.le_of_ble_eq_true (by kernel_rfl)) (Eq.mp (α := F59 t0 t1 w R) (by kernel_rfl) h)

def F39 (t0 : Sl) (t1 : Int) (w : World) (R : Value → World → Prop) : Prop :=
 CX Try.prog (59 : Nat) #[Value.slice t0.1 t0.2 t0.3, Value.int IntKind.i64 t1] w fun (v1 : Value) (w2 : World) =>
 ∃ (n3 : Int), v1 = Value.int IntKind.i64 n3 ∧ R (Value.bool (decide ((0 : Int) ≤ n3))) w2
theorem F39_ok (t0 : Sl) (t1 : Int) (w : World) (R : Value → World → Prop) (h : F39 t0 t1 w R) : CW Try.prog 39 #[Value.slice t0.1 t0.2 t0.3, Value.int IntKind.i64 t1] w R :=
  call_of tbOk mixed en39 Try.func39 rfl (.nil) (by kernel_rfl) (Nat.le_of_ble_eq_true (by kernel_rfl)) (Eq.mp (α := F39 t0 t1 w R) (by kernel_rfl) h)

end Go.Proofs.Ytmmhbjbaallkfaa.Gx
