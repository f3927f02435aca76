/- Written by mkf.py: what is to be shown of functions, as Gx reckons it from their code. -/
import Derived.Test.YtmmhbjbaallkfaaGxT
namespace Go.Proofs.Ytmmhbjbaallkfaa.Gx
open Go
set_option linter.unusedVariables false
set_option maxRecDepth 100000

def F58 (t0 : Option Nat) (w : World) (R : Value → World → Prop) : Prop :=
 AllocP w (Obj.cells #[Value.map t0] (70 : Nat)) fun (b1 : Nat) (w2 : World) =>
 R (Value.func (Fn.func (72 : Nat)) #[] #[Value.pointer (some ({ block := b1, off := (0 : Nat) } : Addr))]) w2
theorem F58_ok (t0 : Option Nat) (w : World) (R : Value → World → Prop) (h : F58 t0 w R) : CW Try.prog 58 #[Value.map t0] w R :=
  call_of tbOk mixed en58 Try.func58 rfl (.nil) (by kernel_rfl) (Nat.le_of_ble_eq_true (by kernel_rfl)) (Eq.mp (α := F58 t0 w R) (by kernel_rfl) h)

def F72 (t0 : Nat) (t1 : Nat) (w : World) (R : Value → World → Prop) : Prop :=
 ∃ (p1 : Option Nat),
 w.cell? ({ block := t1, off := (0 : Nat) } : Addr) = some (Value.map p1) ∧
 MapItP w (Value.map p1) fun (b2 : Nat) (w3 : World) =>
 ∃ (y4 : Nat → Unit → World → Prop),
 (∃ (b5 : Nat), y4 b5 PUnit.unit w3) ∧
 ∀ (b6 : Nat) (y7 : Unit) (w8 : World) (y9 : Nat → Value),
 y4 b6 y7 w8 →
 NextP w8 b2 (fun (w11 : World) => R (Value.tuple #[]) w11) fun (v12 v13 : Value) (w14 : World) =>
 EntryP w14 b2 fun (v15 v16 : Value) =>
 YW Try.prog t0 #[v15] w14 fun (t17 : Bool) (w18 : World) => IfB (!t17) (R (Value.tuple #[]) w18) (([] : List Nat) = [] ∧ ∃ (b19 : Nat), b19 < b6 ∧ y4 b19 PUnit.unit w18)
theorem F72_ok (t0 : Nat) (t1 : Nat) (w : World) (R : Value → World → Prop) (h : F72 t0 t1 w R) : CW Try.prog 72 #[Value.func (Fn.yield t0) #[] #[], Value.pointer (some ({ block := t1, off := 0 } : Addr))] w R :=
  call_of tbOk mixed en72 Try.func72 rfl (.node (.nil) (.loop [] [6, 7, 8, 9, 3, 10, 11, 12, 13] (.nil))) (by kernel_rfl) (Nat.le_of_ble_eq_true (by kernel_rfl)) (Eq.mp (α := F72 t0 t1 w R) (by kernel_rfl) h)

end Go.Proofs.Ytmmhbjbaallkfaa.Gx
