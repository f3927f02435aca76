/- Written by mkf.py: what is to be shown of functions, as Gx reckons it from their code. -/
import Derived.Test.YtmmhbjbaallkfaaGxT
namespace Go.Proofs.Ytmmhbjbaallkfaa.Gx
open Go
set_option linter.unusedVariables false
set_option maxRecDepth 100000

noncomputable def R95_0 : Code := codeAt [1, 0, 1, 0] (bodyOf Try.f95)
def R95_0a : An := .nil
theorem R95_0ok1 : okC tb Try.f95.ntmps (rA R95_0) .nil = true := by kernel_rfl
theorem R95_0ok2 : okC tb Try.f95.ntmps (rB R95_0) R95_0a = true := by kernel_rfl
theorem R95_0okp : (rP R95_0).toList.all (fun p => Nat.blt p Try.f95.ntmps) = true := by kernel_rfl
def F95 (t0 : Sl) (t1 : Nat × Array Value) (w : World) (R : Value → World → Prop) : Prop :=
 AllocP w (Obj.cells #[Value.slice t0.1 t0.2 t0.3] (31 : Nat)) fun (b1 : Nat) (w2 : World) =>
 ∀ (y3 : Nat → Value),
 RangeP Try.prog tb (nat_lit 13) none R95_0a (rG R95_0) (rP R95_0) (rA R95_0) (rB R95_0)
 (frC y3 [((2 : Nat), Value.pointer (some ({ block := b1, off := (0 : Nat) } : Addr))), ((4 : Nat), Value.slice none (0 : Nat) (0 : Nat)), ((6 : Nat), Value.func (Fn.func t1.1) #[] t1.2)]) [] w2
 (fun (l4 : List Nat) (w5 : World) => ∃ (s6 : Sl), w5.cell? ({ block := b1, off := (0 : Nat) } : Addr) = some (Value.slice s6.1 s6.2 s6.3) ∧ marksP w5 l4 fun (w7 : World) => R (Value.slice s6.1 s6.2 s6.3) w7)
 (fun (l8 : List Nat) (w9 : World) => marksP w9 l8 fun (w10 : World) => R (Value.slice none (0 : Nat) (0 : Nat)) w10) fun (b11 : Nat) (l12 : List Nat) (w13 : World) =>
 match b11.beq (0 : Nat) with
 | true => ∃ (s15 : Sl), w13.cell? ({ block := b1, off := (0 : Nat) } : Addr) = some (Value.slice s15.1 s15.2 s15.3) ∧ marksP w13 l12 fun (w16 : World) => R (Value.slice s15.1 s15.2 s15.3) w16
 | false => False
theorem F95_ok (t0 : Sl) (t1 : Nat × Array Value) (w : World) (R : Value → World → Prop) (h : F95 t0 t1 w R) : CW Try.prog 95 #[Value.slice t0.1 t0.2 t0.3, Value.func (Fn.func t1.1) #[] t1.2] w R :=
  call_of tbOk mixed en95 Try.func95 rfl (.node (.nil) (.node (.node (.nil) (.rng [(2, .one (.box)), (4, .one (.sl)), (6, .one (.clo))] (.nil))) (.nil))) (by kernel_rfl) (Nat.le_of_ble_eq_true (by kernel_rfl)) (Eq.mp (α := F95 t0 t1 w R) (by kernel_rfl) h)

def F95b0 (t2 : Nat) (t4 : Sl) (t6 : Nat × Array Value) (x7 : Int) (l D n₀ : Nat) (Jn : World → Prop) (Jx : Code → World → Prop) (W : World) : Prop :=
  ([] : List Nat) = [] ∧
 (W.1[l]? = W.1[l]? ∧ W.1[D]? = W.1[D]?) ∧
 ∀ (w9 : World),
 Stb n₀ W w9 →
 Its W w9 →
 (∃ (y12 : Loop), w9.1[l]? = some (Obj.loop y12)) →
 ∃ (s16 : Sl),
 w9.cell? ({ block := t2, off := (0 : Nat) } : Addr) = some (Value.slice s16.1 s16.2 s16.3) ∧
 (1 : Nat) * (1 : Nat) ≤ (16777216 : Nat) ∧
 AllocP w9 (Obj.cells #[Value.int IntKind.i64 x7] (3 : Nat)) fun (b17 : Nat) (w18 : World) =>
 ∃ (l19 : List Value),
 ReadC w18 (some ({ block := b17, off := (0 : Nat) } : Addr)) ((1 : Nat) * (1 : Nat)) l19 ∧
 AppendP tt3 (3 : Nat) w18 s16.1 s16.2 s16.3 (1 : Nat) l19
 fun (s20 : Sl) (w21 : World) =>
 #[Value.slice s20.1 s20.2 s20.3].size = (1 : Nat) ∧ StoreP w21 t2 (0 : Nat) [Value.slice s20.1 s20.2 s20.3] fun (w22 : World) => (w22.1[l]? = w9.1[l]? ∧ w22.1[D]? = w9.1[D]?) ∧ Jn w22
theorem F95b0_ok (t2 : Nat) (t4 : Sl) (t6 : Nat × Array Value) (x7 : Int) (l D n₀ : Nat) (Jn : World → Prop) (Jx : Code → World → Prop) (W : World) {g : Nat → Value} (h : F95b0 t2 t4 t6 x7 l D n₀ Jn Jx W) :
    BodyP Try.prog tb Try.f95.ntmps l D n₀ R95_0a (rP R95_0) (rA R95_0) (rB R95_0) (frC g [(2, Value.pointer (some ({ block := t2, off := 0 } : Addr))), (4, Value.slice t4.1 t4.2 t4.3), (6, Value.func (Fn.func t6.1) #[] t6.2)]) Jn Jx [Value.int IntKind.i64 x7] W :=
  Eq.mp (α := F95b0 t2 t4 t6 x7 l D n₀ Jn Jx W) (by kernel_rfl) h

def F71 (t0 : Nat × Array Value) (w : World) (R : Value → World → Prop) : Prop :=
 CX Try.prog (95 : Nat) #[Value.slice none (0 : Nat) (0 : Nat), Value.func (Fn.func t0.1) #[] t0.2] w fun (v1 : Value) (w2 : World) =>
 ∃ (s3 : Sl), v1 = Value.slice s3.1 s3.2 s3.3 ∧ R (Value.slice s3.1 s3.2 s3.3) w2
theorem F71_ok (t0 : Nat × Array Value) (w : World) (R : Value → World → Prop) (h : F71 t0 w R) : CW Try.prog 71 #[Value.func (Fn.func t0.1) #[] t0.2] w R :=
  call_of tbOk mixed en71 Try.func71 rfl (.nil) (by kernel_rfl) (Nat.le_of_ble_eq_true (by kernel_rfl)) (Eq.mp (α := F71 t0 w R) (by kernel_rfl) h)

def F57 (t0 : Nat × Array Value) (w : World) (R : Value → World → Prop) : Prop :=
 CX Try.prog (71 : Nat) #[Value.func (Fn.func t0.1) #[] t0.2] w fun (v1 : Value) (w2 : World) =>
 ∃ (s3 : Sl),
 v1 = Value.slice s3.1 s3.2 s3.3 ∧
 CX Try.prog (49 : Nat) #[Value.slice s3.1 s3.2 s3.3] w2 fun (v4 : Value) (w5 : World) => ∃ (y6 : Unit), v4 = Value.tuple #[] ∧ R (Value.slice s3.1 s3.2 s3.3) w5
theorem F57_ok (t0 : Nat × Array Value) (w : World) (R : Value → World → Prop) (h : F57 t0 w R) : CW Try.prog 57 #[Value.func (Fn.func t0.1) #[] t0.2] w R :=
  call_of tbOk mixed en57 Try.func57 rfl (.nil) (by kernel_rfl) (Nat.le_of_ble_eq_true (by kernel_rfl)) (Eq.mp (α := F57 t0 w R) (by kernel_rfl) h)

end Go.Proofs.Ytmmhbjbaallkfaa.Gx
