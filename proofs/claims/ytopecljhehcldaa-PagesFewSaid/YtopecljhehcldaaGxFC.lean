/- Written by mkf.py: what is to be shown of functions, as Gx reckons it from their code. -/
import Derived.Test.YtopecljhehcldaaGxT
namespace Go.Proofs.Ytopecljhehcldaa.Gx
open Go
set_option linter.unusedVariables false
set_option maxRecDepth 100000

def F116 (t0 : Sl) (t1 : Int) (w : World) (R : Value → World → Prop) : Prop :=
 IfB (decide (t1 < (0 : Int))) False
 (IfB (decide ((0 : Int) < IntKind.i64.wrap (t1 - IntKind.i64.wrap ((t0.c : Int) - (t0.n : Int)))))
 (((0 : Int) ≤ (t0.3 : Int) ∧ (t0.3 : Int) ≤ (t0.3 : Int)) ∧
 ((0 : Int) ≤ IntKind.i64.wrap (t1 - IntKind.i64.wrap ((t0.3 : Int) - (t0.2 : Int))) ∧
 IntKind.i64.wrap (t1 - IntKind.i64.wrap ((t0.3 : Int) - (t0.2 : Int))) ≤ (281474976710656 : Int) ∧ IntKind.i64.wrap (t1 - IntKind.i64.wrap ((t0.3 : Int) - (t0.2 : Int))) * ((16 : Nat) : Int) ≤ (281474976710656 : Int)) ∧
 AppendP
 { kd := Kd.struct [((3 : Nat), (0 : Nat)), ((2 : Nat), (1 : Nat))], size := (2 : Nat), bytes := (16 : Nat), zero := Value.agg #[Value.int IntKind.i64 (0 : Int), Value.int IntKind.i64 (0 : Int)], sh := Sh.agg [Leaf.int IntKind.i64, Leaf.int IntKind.i64] }
 (37 : Nat) w (slAddr t0.1 t0.3 (0 : Nat) (2 : Nat)) ((t0.3 : Int)).toNat t0.3 (IntKind.i64.wrap (t1 - IntKind.i64.wrap ((t0.3 : Int) - (t0.2 : Int)))).toNat
 (zc #[Value.int IntKind.i64 (0 : Int), Value.int IntKind.i64 (0 : Int)] (IntKind.i64.wrap (t1 - IntKind.i64.wrap ((t0.3 : Int) - (t0.2 : Int)))).toNat) fun (s1 : Sl) (w2 : World) =>
 ((0 : Int) ≤ (t0.2 : Int) ∧ (t0.2 : Int) ≤ (s1.3 : Int)) ∧ R (Value.slice (slAddr s1.1 s1.3 (0 : Nat) (2 : Nat)) ((t0.2 : Int)).toNat s1.3) w2)
 (R (Value.slice t0.1 t0.2 t0.3) w))
theorem F116_ok (t0 : Sl) (t1 : Int) (w : World) (R : Value → World → Prop) (h : F116 t0 t1 w R) : CW Try.prog 116 #[Value.slice t0.1 t0.2 t0.3, Value.int IntKind.i64 t1] w R :=
  call_of tbOk mixed en116 Try.func116 rfl (.nil) (by kernel_rfl) (Nat.le_of_ble_eq_true (by kernel_rfl)) (Eq.mp (α := F116 t0 t1 w R) (by kernel_rfl) h)

end Go.Proofs.Ytopecljhehcldaa.Gx
