/- Written by mkf.py: what is to be shown of functions, as Gx reckons it from their code. -/
import Derived.Test.YtmmhbjbaallkfaaGxT
namespace Go.Proofs.Ytmmhbjbaallkfaa.Gx
open Go
set_option linter.unusedVariables false
set_option maxRecDepth 100000

def F42 (t0 : (Leaf.int IntKind.i64).den × dens [Leaf.int IntKind.i64, Leaf.int IntKind.i64, Leaf.bool, Leaf.sl, Leaf.sl]) (t1 : (Leaf.int IntKind.i64).den × dens [Leaf.int IntKind.i64, Leaf.int IntKind.i64, Leaf.bool, Leaf.sl, Leaf.sl]) (w : World) (R : Value → World → Prop) : Prop :=
 AllocP w
 (Obj.cells
 #[Value.int IntKind.i64 t0.1, Value.int IntKind.i64 t0.snd.1, Value.int IntKind.i64 t0.snd.snd.1, Value.bool t0.snd.snd.snd.1,
 Value.slice t0.snd.snd.snd.snd.fst.1 t0.snd.snd.snd.snd.fst.2 t0.snd.snd.snd.snd.fst.3, Value.slice t0.snd.snd.snd.snd.snd.1 t0.snd.snd.snd.snd.snd.2 t0.snd.snd.snd.snd.snd.3]
 (27 : Nat))
 fun (b1 : Nat) (w2 : World) =>
 AllocP w2
 (Obj.cells
 #[Value.int IntKind.i64 t1.1, Value.int IntKind.i64 t1.snd.1, Value.int IntKind.i64 t1.snd.snd.1, Value.bool t1.snd.snd.snd.1,
 Value.slice t1.snd.snd.snd.snd.fst.1 t1.snd.snd.snd.snd.fst.2 t1.snd.snd.snd.snd.fst.3, Value.slice t1.snd.snd.snd.snd.snd.1 t1.snd.snd.snd.snd.snd.2 t1.snd.snd.snd.snd.snd.3]
 (27 : Nat))
 fun (b3 : Nat) (w4 : World) =>
 ∃ (n5 : Int),
 w4.cell? ({ block := b1, off := (0 : Nat) + (0 : Nat) } : Addr) = some (Value.int IntKind.i64 n5) ∧
 ∃ (n6 : Int),
 w4.cell? ({ block := b3, off := (0 : Nat) + (0 : Nat) } : Addr) = some (Value.int IntKind.i64 n6) ∧
 IfB (n5 != n6)
 (∃ (s7 : Sl),
 w4.cell? ({ block := b1, off := (0 : Nat) + (5 : Nat) } : Addr) = some (Value.slice s7.1 s7.2 s7.3) ∧
 ∃ (s8 : Sl),
 w4.cell? ({ block := b3, off := (0 : Nat) + (4 : Nat) } : Addr) = some (Value.slice s8.1 s8.2 s8.3) ∧
 CX Try.prog (60 : Nat) #[Value.slice s7.1 s7.2 s7.3, Value.slice s8.1 s8.2 s8.3] w4 fun (v9 : Value) (w10 : World) =>
 ∃ (t11 : Bool),
 v9 = Value.bool t11 ∧
 IfB t11 (R (Value.bool true) w10)
 (∃ (s12 : Sl),
 w10.cell? ({ block := b1, off := (0 : Nat) + (5 : Nat) } : Addr) = some (Value.slice s12.1 s12.2 s12.3) ∧
 ∃ (s13 : Sl),
 w10.cell? ({ block := b3, off := (0 : Nat) + (5 : Nat) } : Addr) = some (Value.slice s13.1 s13.2 s13.3) ∧
 CX Try.prog (60 : Nat) #[Value.slice s12.1 s12.2 s12.3, Value.slice s13.1 s13.2 s13.3] w10 fun (v14 : Value) (w15 : World) =>
 ∃ (t16 : Bool),
 v14 = Value.bool t16 ∧
 IfB t16 (R (Value.bool true) w15)
 (∃ (s17 : Sl),
 w15.cell? ({ block := b1, off := (0 : Nat) + (4 : Nat) } : Addr) = some (Value.slice s17.1 s17.2 s17.3) ∧
 ∃ (s18 : Sl),
 w15.cell? ({ block := b3, off := (0 : Nat) + (5 : Nat) } : Addr) = some (Value.slice s18.1 s18.2 s18.3) ∧
 CX Try.prog (60 : Nat) #[Value.slice s17.1 s17.2 s17.3, Value.slice s18.1 s18.2 s18.3] w15 fun (v19 : Value) (w20 : World) =>
 ∃ (t21 : Bool), v19 = Value.bool t21 ∧ R (Value.bool t21) w20)))
 (R (Value.bool false) w4)
theorem F42_ok (t0 : (Leaf.int IntKind.i64).den × dens [Leaf.int IntKind.i64, Leaf.int IntKind.i64, Leaf.bool, Leaf.sl, Leaf.sl]) (t1 : (Leaf.int IntKind.i64).den × dens [Leaf.int IntKind.i64, Leaf.int IntKind.i64, Leaf.bool, Leaf.sl, Leaf.sl]) (w : World) (R : Value → World → Prop) (h : F42 t0 t1 w R) : CW Try.prog 42 #[Value.agg #[Value.int IntKind.i64 t0.1, Value.int IntKind.i64 t0.snd.1, Value.int IntKind.i64 t0.snd.snd.1, Value.bool t0.snd.snd.snd.1, Value.slice t0.snd.snd.snd.snd.fst.1 t0.snd.snd.snd.snd.fst.2 t0.snd.snd.snd.snd.fst.3, Value.slice t0.snd.snd.snd.snd.snd.1 t0.snd.snd.snd.snd.snd.2 t0.snd.snd.snd.snd.snd.3], Value.agg #[Value.int IntKind.i64 t1.1, Value.int IntKind.i64 t1.snd.1, Value.int IntKind.i64 t1.snd.snd.1, Value.bool t1.snd.snd.snd.1, Value.slice t1.snd.snd.snd.snd.fst.1 t1.snd.snd.snd.snd.fst.2 t1.snd.snd.snd.snd.fst.3, Value.slice t1.snd.snd.snd.snd.snd.1 t1.snd.snd.snd.snd.snd.2 t1.snd.snd.snd.snd.snd.3]] w R :=
  call_of tbOk mixed en42 Try.func42 rfl (.nil) (by kernel_rfl) (Nat.le_of_ble_eq_true (by kernel_rfl)) (Eq.mp (α := F42 t0 t1 w R) (by kernel_rfl) h)

def F38 (t0 : (Leaf.int IntKind.i64).den × dens [Leaf.int IntKind.i64, Leaf.int IntKind.i64, Leaf.bool, Leaf.sl, Leaf.sl]) (t1 : (Leaf.int IntKind.i64).den × dens [Leaf.int IntKind.i64, Leaf.int IntKind.i64, Leaf.bool, Leaf.sl, Leaf.sl]) (w : World) (R : Value → World → Prop) : Prop :=
 AllocP w
 (Obj.cells
 #[Value.int IntKind.i64 t0.1, Value.int IntKind.i64 t0.snd.1, Value.int IntKind.i64 t0.snd.snd.1, Value.bool t0.snd.snd.snd.1,
 Value.slice t0.snd.snd.snd.snd.fst.1 t0.snd.snd.snd.snd.fst.2 t0.snd.snd.snd.snd.fst.3, Value.slice t0.snd.snd.snd.snd.snd.1 t0.snd.snd.snd.snd.snd.2 t0.snd.snd.snd.snd.snd.3]
 (27 : Nat))
 fun (b1 : Nat) (w2 : World) =>
 AllocP w2
 (Obj.cells
 #[Value.int IntKind.i64 t1.1, Value.int IntKind.i64 t1.snd.1, Value.int IntKind.i64 t1.snd.snd.1, Value.bool t1.snd.snd.snd.1,
 Value.slice t1.snd.snd.snd.snd.fst.1 t1.snd.snd.snd.snd.fst.2 t1.snd.snd.snd.snd.fst.3, Value.slice t1.snd.snd.snd.snd.snd.1 t1.snd.snd.snd.snd.snd.2 t1.snd.snd.snd.snd.snd.3]
 (27 : Nat))
 fun (b3 : Nat) (w4 : World) =>
 ∃ (n5 : Int),
 w4.cell? ({ block := b1, off := (0 : Nat) + (0 : Nat) } : Addr) = some (Value.int IntKind.i64 n5) ∧
 ∃ (n6 : Int),
 w4.cell? ({ block := b3, off := (0 : Nat) + (0 : Nat) } : Addr) = some (Value.int IntKind.i64 n6) ∧
 IfB (n5 == n6) (R (Value.bool true) w4)
 (∃ (x7 : Int × Int × Int × Bool × Sl × Sl),
 CellsAt w4 b1 (0 : Nat)
 [Value.int IntKind.i64 x7.1, Value.int IntKind.i64 x7.snd.1, Value.int IntKind.i64 x7.snd.snd.1, Value.bool x7.snd.snd.snd.1,
 Value.slice x7.snd.snd.snd.snd.fst.1 x7.snd.snd.snd.snd.fst.2 x7.snd.snd.snd.snd.fst.3, Value.slice x7.snd.snd.snd.snd.snd.1 x7.snd.snd.snd.snd.snd.2 x7.snd.snd.snd.snd.snd.3] ∧
 ∃ (x8 : Int × Int × Int × Bool × Sl × Sl),
 CellsAt w4 b3 (0 : Nat)
 [Value.int IntKind.i64 x8.1, Value.int IntKind.i64 x8.snd.1, Value.int IntKind.i64 x8.snd.snd.1, Value.bool x8.snd.snd.snd.1,
 Value.slice x8.snd.snd.snd.snd.fst.1 x8.snd.snd.snd.snd.fst.2 x8.snd.snd.snd.snd.fst.3, Value.slice x8.snd.snd.snd.snd.snd.1 x8.snd.snd.snd.snd.snd.2 x8.snd.snd.snd.snd.snd.3] ∧
 CX Try.prog (42 : Nat)
 #[Value.agg
 #[Value.int IntKind.i64 x7.1, Value.int IntKind.i64 x7.snd.1, Value.int IntKind.i64 x7.snd.snd.1, Value.bool x7.snd.snd.snd.1,
 Value.slice x7.snd.snd.snd.snd.fst.1 x7.snd.snd.snd.snd.fst.2 x7.snd.snd.snd.snd.fst.3, Value.slice x7.snd.snd.snd.snd.snd.1 x7.snd.snd.snd.snd.snd.2 x7.snd.snd.snd.snd.snd.3],
 Value.agg
 #[Value.int IntKind.i64 x8.1, Value.int IntKind.i64 x8.snd.1, Value.int IntKind.i64 x8.snd.snd.1, Value.bool x8.snd.snd.snd.1,
 Value.slice x8.snd.snd.snd.snd.fst.1 x8.snd.snd.snd.snd.fst.2 x8.snd.snd.snd.snd.fst.3, Value.slice x8.snd.snd.snd.snd.snd.1 x8.snd.snd.snd.snd.snd.2 x8.snd.snd.snd.snd.snd.3]]
 w4 fun (v9 : Value) (w10 : World) => ∃ (t11 : Bool), v9 = Value.bool t11 ∧ R (Value.bool t11) w10)
theorem F38_ok (t0 : (Leaf.int IntKind.i64).den × dens [Leaf.int IntKind.i64, Leaf.int IntKind.i64, Leaf.bool, Leaf.sl, Leaf.sl]) (t1 : (Leaf.int IntKind.i64).den × dens [Leaf.int IntKind.i64, Leaf.int IntKind.i64, Leaf.bool, Leaf.sl, Leaf.sl]) (w : World) (R : Value → World → Prop) (h : F38 t0 t1 w R) : CW Try.prog 38 #[Value.agg #[Value.int IntKind.i64 t0.1, Value.int IntKind.i64 t0.snd.1, Value.int IntKind.i64 t0.snd.snd.1, Value.bool t0.snd.snd.snd.1, Value.slice t0.snd.snd.snd.snd.fst.1 t0.snd.snd.snd.snd.fst.2 t0.snd.snd.snd.snd.fst.3, Value.slice t0.snd.snd.snd.snd.snd.1 t0.snd.snd.snd.snd.snd.2 t0.snd.snd.snd.snd.snd.3], Value.agg #[Value.int IntKind.i64 t1.1, Value.int IntKind.i64 t1.snd.1, Value.int IntKind.i64 t1.snd.snd.1, Value.bool t1.snd.snd.snd.1, Value.slice t1.snd.snd.snd.snd.fst.1 t1.snd.snd.snd.snd.fst.2 t1.snd.snd.snd.snd.fst.3, Value.slice t1.snd.snd.snd.snd.snd.1 t1.snd.snd.snd.snd.snd.2 t1.snd.snd.snd.snd.snd.3]] w R :=
  call_of tbOk mixed en38 Try.func38 rfl (.nil) (by kernel_rfl) (Nat.le_of_ble_eq_true (by kernel_rfl)) (Eq.mp (α := F38 t0 t1 w R) (by kernel_rfl) h)

def F16 (t0 : Sl) (t1 : Int) (t2 : Int) (w : World) (R : Value → World → Prop) : Prop :=
 IfB (decide ((0 : Int) ≤ t2))
 (IfB (decide (t2 < t1))
 (IfB (decide (t1 < (t0.n : Int)))
 (∃ (b1 : Nat),
 ∃ (b2 : Nat),
 t0.1 = some ({ block := b1, off := b2 } : Addr) ∧
 ((0 : Int) ≤ t1 ∧ t1 < (t0.2 : Int)) ∧
 ∃ (x3 : Int × Int × Int × Bool × Sl × Sl),
 CellsAt w.drew b1 (b2 + t1.toNat * (6 : Nat))
 [Value.int IntKind.i64 x3.1, Value.int IntKind.i64 x3.snd.1, Value.int IntKind.i64 x3.snd.snd.1, Value.bool x3.snd.snd.snd.1,
 Value.slice x3.snd.snd.snd.snd.fst.1 x3.snd.snd.snd.snd.fst.2 x3.snd.snd.snd.snd.fst.3, Value.slice x3.snd.snd.snd.snd.snd.1 x3.snd.snd.snd.snd.snd.2 x3.snd.snd.snd.snd.snd.3] ∧
 ∃ (b4 : Nat),
 ∃ (b5 : Nat),
 t0.1 = some ({ block := b4, off := b5 } : Addr) ∧
 ((0 : Int) ≤ t2 ∧ t2 < (t0.2 : Int)) ∧
 ∃ (x6 : Int × Int × Int × Bool × Sl × Sl),
 CellsAt w.drew b4 (b5 + t2.toNat * (6 : Nat))
 [Value.int IntKind.i64 x6.1, Value.int IntKind.i64 x6.snd.1, Value.int IntKind.i64 x6.snd.snd.1, Value.bool x6.snd.snd.snd.1,
 Value.slice x6.snd.snd.snd.snd.fst.1 x6.snd.snd.snd.snd.fst.2 x6.snd.snd.snd.snd.fst.3, Value.slice x6.snd.snd.snd.snd.snd.1 x6.snd.snd.snd.snd.snd.2 x6.snd.snd.snd.snd.snd.3] ∧
 CX Try.prog (38 : Nat)
 #[Value.agg
 #[Value.int IntKind.i64 x3.1, Value.int IntKind.i64 x3.snd.1, Value.int IntKind.i64 x3.snd.snd.1, Value.bool x3.snd.snd.snd.1,
 Value.slice x3.snd.snd.snd.snd.fst.1 x3.snd.snd.snd.snd.fst.2 x3.snd.snd.snd.snd.fst.3, Value.slice x3.snd.snd.snd.snd.snd.1 x3.snd.snd.snd.snd.snd.2 x3.snd.snd.snd.snd.snd.3],
 Value.agg
 #[Value.int IntKind.i64 x6.1, Value.int IntKind.i64 x6.snd.1, Value.int IntKind.i64 x6.snd.snd.1, Value.bool x6.snd.snd.snd.1,
 Value.slice x6.snd.snd.snd.snd.fst.1 x6.snd.snd.snd.snd.fst.2 x6.snd.snd.snd.snd.fst.3, Value.slice x6.snd.snd.snd.snd.snd.1 x6.snd.snd.snd.snd.snd.2 x6.snd.snd.snd.snd.snd.3]]
 w.drew fun (v7 : Value) (w8 : World) => ∃ (t9 : Bool), v7 = Value.bool t9 ∧ R (Value.bool t9) w8)
 (R (Value.bool false) w.drew))
 (R (Value.bool false) w.drew))
 (R (Value.bool false) w.drew)
theorem F16_ok (t0 : Sl) (t1 : Int) (t2 : Int) (w : World) (R : Value → World → Prop) (h : F16 t0 t1 t2 w R) : CW Try.prog 16 #[Value.slice t0.1 t0.2 t0.3, Value.int IntKind.i64 t1, Value.int IntKind.i64 t2] w R :=
  call_of tbOk mixed en16 Try.func16 rfl (.node (.nil) (.node (.draw (.st 0 (.st 1 (.st 2 (.st 3 (.st 4 (.st 5 (.st 6 (.st 7 (.st 8 (.st 9 (.st 10 (.st 11 (.st 12 (.st 13 (.st 14 (.st 15 (.st 16 (.st 17 (.st 18 (.st 19 (.st 20 (.st 21 (.ac 22 [] (.st 23 (.st 24 (.fin))) (.non))))))))))))))))))))))))) (.nil))) (by kernel_rfl) (Nat.le_of_ble_eq_true (by kernel_rfl)) (Eq.mp (α := F16 t0 t1 t2 w R) (by kernel_rfl) h)

noncomputable def R37_0 : Code := codeAt [1, 1, 1, 0, 1, 0] (bodyOf Try.f37)
def R37_0a : An := .node (.join [(27, .one (.bool))] [19, 20, 21, 22, 23, 24, 25, 26, 27] (.nil) (.nil)) (.node (.nil) (.node (.nil) (.loop [(36, .one (.int .i64))] [37, 38, 39, 12, 40, 41, 42, 43, 36] (.nil))))
theorem R37_0ok1 : okC tb Try.f37.ntmps (rA R37_0) .nil = true := by kernel_rfl
theorem R37_0ok2 : okC tb Try.f37.ntmps (rB R37_0) R37_0a = true := by kernel_rfl
theorem R37_0okp : (rP R37_0).toList.all (fun p => Nat.blt p Try.f37.ntmps) = true := by kernel_rfl
def F37 (t0 : Sl) (t1 : Sl) (t2 : (Leaf.int IntKind.i64).den × dens [Leaf.int IntKind.i64, Leaf.int IntKind.i64, Leaf.bool, Leaf.sl, Leaf.sl]) (w : World) (R : Value → World → Prop) : Prop :=
 AllocP w (Obj.cells #[Value.slice t0.1 t0.2 t0.3] (29 : Nat)) fun (b1 : Nat) (w2 : World) =>
 AllocP w2
 (Obj.cells
 #[Value.int IntKind.i64 t2.1, Value.int IntKind.i64 t2.snd.1, Value.int IntKind.i64 t2.snd.snd.1, Value.bool t2.snd.snd.snd.1,
 Value.slice t2.snd.snd.snd.snd.fst.1 t2.snd.snd.snd.snd.fst.2 t2.snd.snd.snd.snd.fst.3, Value.slice t2.snd.snd.snd.snd.snd.1 t2.snd.snd.snd.snd.snd.2 t2.snd.snd.snd.snd.snd.3]
 (27 : Nat))
 fun (b3 : Nat) (w4 : World) =>
 AllocP w4 (Obj.map #[] (0 : Nat)) fun (b5 : Nat) (w6 : World) =>
 AllocP w6 (Obj.cells #[Value.map none] (70 : Nat)) fun (b7 : Nat) (w8 : World) =>
 #[Value.map (some b5)].size = (1 : Nat) ∧
 StoreP w8 b7 (0 : Nat) [Value.map (some b5)] fun (w9 : World) =>
 AllocP w9 (Obj.cells #[Value.nilFunc] (73 : Nat)) fun (b10 : Nat) (w11 : World) =>
 #[Value.func (Fn.func (55 : Nat)) #[] #[Value.pointer (some ({ block := b7, off := (0 : Nat) } : Addr))]].size = (1 : Nat) ∧
 StoreP w11 b10 (0 : Nat) [Value.func (Fn.func (55 : Nat)) #[] #[Value.pointer (some ({ block := b7, off := (0 : Nat) } : Addr))]] fun (w12 : World) =>
 CX Try.prog (56 : Nat) #[Value.slice t1.1 t1.2 t1.3] w12 fun (v13 : Value) (w14 : World) =>
 ∃ (x15 : Nat × Array Value),
 v13 = Value.func (Fn.func x15.1) #[] x15.2 ∧
 ∀ (y16 : Nat → Value),
 RangeP Try.prog tb (nat_lit 47) none R37_0a (rG R37_0) (rP R37_0) (rA R37_0) (rB R37_0)
 (frC y16
 [((3 : Nat), Value.pointer (some ({ block := b1, off := (0 : Nat) } : Addr))), ((5 : Nat), Value.pointer (some ({ block := b3, off := (0 : Nat) } : Addr))), ((6 : Nat), Value.slice none (0 : Nat) (0 : Nat)),
 ((7 : Nat), Value.pointer (some ({ block := b7, off := (0 : Nat) } : Addr))), ((8 : Nat), Value.pointer (some ({ block := b10, off := (0 : Nat) } : Addr))),
 ((16 : Nat), Value.func (Fn.func x15.1) #[] x15.2)])
 [] w14
 (fun (l17 : List Nat) (w18 : World) =>
 ∃ (p19 : Option Nat),
 w18.cell? ({ block := b7, off := (0 : Nat) } : Addr) = some (Value.map p19) ∧
 CX Try.prog (58 : Nat) #[Value.map p19] w18 fun (v20 : Value) (w21 : World) =>
 ∃ (x22 : Nat × Array Value),
 v20 = Value.func (Fn.func x22.1) #[] x22.2 ∧
 CX Try.prog (57 : Nat) #[Value.func (Fn.func x22.1) #[] x22.2] w21 fun (v23 : Value) (w24 : World) =>
 ∃ (s25 : Sl), v23 = Value.slice s25.1 s25.2 s25.3 ∧ marksP w24 l17 fun (w26 : World) => R (Value.slice s25.1 s25.2 s25.3) w26)
 (fun (l27 : List Nat) (w28 : World) => marksP w28 l27 fun (w29 : World) => R (Value.slice none (0 : Nat) (0 : Nat)) w29) fun (b30 : Nat) (l31 : List Nat) (w32 : World) =>
 match b30.beq (0 : Nat) with
 | true =>
 ∃ (p34 : Option Nat),
 w32.cell? ({ block := b7, off := (0 : Nat) } : Addr) = some (Value.map p34) ∧
 CX Try.prog (58 : Nat) #[Value.map p34] w32 fun (v35 : Value) (w36 : World) =>
 ∃ (x37 : Nat × Array Value),
 v35 = Value.func (Fn.func x37.1) #[] x37.2 ∧
 CX Try.prog (57 : Nat) #[Value.func (Fn.func x37.1) #[] x37.2] w36 fun (v38 : Value) (w39 : World) =>
 ∃ (s40 : Sl), v38 = Value.slice s40.1 s40.2 s40.3 ∧ marksP w39 l31 fun (w41 : World) => R (Value.slice s40.1 s40.2 s40.3) w41
 | false => False
theorem F37_ok (t0 : Sl) (t1 : Sl) (t2 : (Leaf.int IntKind.i64).den × dens [Leaf.int IntKind.i64, Leaf.int IntKind.i64, Leaf.bool, Leaf.sl, Leaf.sl]) (w : World) (R : Value → World → Prop) (h : F37 t0 t1 t2 w R) : CW Try.prog 37 #[Value.slice t0.1 t0.2 t0.3, Value.slice t1.1 t1.2 t1.3, Value.agg #[Value.int IntKind.i64 t2.1, Value.int IntKind.i64 t2.snd.1, Value.int IntKind.i64 t2.snd.snd.1, Value.bool t2.snd.snd.snd.1, Value.slice t2.snd.snd.snd.snd.fst.1 t2.snd.snd.snd.snd.fst.2 t2.snd.snd.snd.snd.fst.3, Value.slice t2.snd.snd.snd.snd.snd.1 t2.snd.snd.snd.snd.snd.2 t2.snd.snd.snd.snd.snd.3]] w R :=
  call_of tbOk mixed en37 Try.func37 rfl (.node (.nil) (.node (.nil) (.node (.nil) (.node (.node (.nil) (.rng [(3, .one (.box)), (5, .one (.box)), (6, .one (.sl)), (7, .one (.box)), (8, .one (.box)), (16, .one (.clo))] (.node (.join [(27, .one (.bool))] [19, 20, 21, 22, 23, 24, 25, 26, 27] (.nil) (.nil)) (.node (.nil) (.node (.nil) (.loop [(36, .one (.int .i64))] [37, 38, 39, 12, 40, 41, 42, 43, 36] (.nil))))))) (.nil))))) (by kernel_rfl) (Nat.le_of_ble_eq_true (by kernel_rfl)) (Eq.mp (α := F37 t0 t1 t2 w R) (by kernel_rfl) h)

def F37b0j2 (t8 : Nat) (Jn : World → Prop) (w12 : World) (s48 : Sl) (y49 : Nat → Int → World → Prop) (b51 : Nat) (n52 : Int) (w53 : World) (l : Nat) (D : Nat) : Prop :=
 IfB (decide (n52 < (s48.n : Int)))
 (∃ (b56 : Nat),
 ∃ (b57 : Nat),
 s48.1 = some ({ block := b56, off := b57 } : Addr) ∧
 ((0 : Int) ≤ n52 ∧ n52 < (s48.2 : Int)) ∧
 ∃ (n58 : Int),
 w53.cell? ({ block := b56, off := b57 + n52.toNat } : Addr) = some (Value.int IntKind.i64 n58) ∧
 ∃ (x59 : Nat × Array Value),
 w53.cell? ({ block := t8, off := (0 : Nat) } : Addr) = some (Value.func (Fn.func x59.1) #[] x59.2) ∧
 CX Try.prog x59.1 { toList := Value.int IntKind.i64 n58 :: x59.snd.1 } w53 fun (v60 : Value) (w61 : World) =>
 ∃ (y62 : Unit), v60 = Value.tuple #[] ∧ ([] : List Nat) = [] ∧ ∃ (b63 : Nat), b63 < b51 ∧ y49 b63 (IntKind.i64.wrap (n52 + (1 : Int))) w61)
 ((w53.1[l]? = w12.1[l]? ∧ w53.1[D]? = w12.1[D]?) ∧ Jn w53)
def F37b0j1 (t3 : Nat) (t8 : Nat) (x17 : Int) (Jn : World → Prop) (w12 : World) (t29 : Bool) (w30 : World) (l : Nat) (D : Nat) : Prop :=
 IfB t29 ((w30.1[l]? = w12.1[l]? ∧ w30.1[D]? = w12.1[D]?) ∧ Jn w30)
 (∃ (x41 : Nat × Array Value),
 w30.cell? ({ block := t8, off := (0 : Nat) } : Addr) = some (Value.func (Fn.func x41.1) #[] x41.2) ∧
 CX Try.prog x41.1 { toList := Value.int IntKind.i64 x17 :: x41.snd.1 } w30 fun (v42 : Value) (w43 : World) =>
 ∃ (y44 : Unit),
 v42 = Value.tuple #[] ∧
 ∃ (s45 : Sl),
 w43.cell? ({ block := t3, off := (0 : Nat) } : Addr) = some (Value.slice s45.1 s45.2 s45.3) ∧
 ∃ (b46 : Nat),
 ∃ (b47 : Nat),
 s45.1 = some ({ block := b46, off := b47 } : Addr) ∧
 ((0 : Int) ≤ x17 ∧ x17 < (s45.2 : Int)) ∧
 ∃ (s48 : Sl),
 w43.cell? ({ block := b46, off := b47 + x17.toNat } : Addr) = some (Value.slice s48.1 s48.2 s48.3) ∧
 ∃ (y49 : Nat → Int → World → Prop),
 (∃ (b50 : Nat), y49 b50 (0 : Int) w43) ∧
 ∀ (b51 : Nat) (n52 : Int) (w53 : World) (y54 : Nat → Value),
 y49 b51 n52 w53 →
 (F37b0j2 t8 Jn w12 s48 y49 b51 n52 w53 l D))
def F37b0 (t3 : Nat) (t5 : Nat) (t6 : Sl) (t7 : Nat) (t8 : Nat) (t16 : Nat × Array Value) (x17 : Int) (x18 : (Leaf.int IntKind.i64).den × dens [Leaf.int IntKind.i64, Leaf.int IntKind.i64, Leaf.bool, Leaf.sl, Leaf.sl]) (l D n₀ : Nat) (Jn : World → Prop) (Jx : Code → World → Prop) (W : World) : Prop :=
  AllocP W
 (Obj.cells
 #[Value.int IntKind.i64 (0 : Int), Value.int IntKind.i64 (0 : Int), Value.int IntKind.i64 (0 : Int), Value.bool false, Value.slice none (0 : Nat) (0 : Nat), Value.slice none (0 : Nat) (0 : Nat)]
 (27 : Nat))
 fun (b1 : Nat) (w2 : World) =>
 #[Value.int IntKind.i64 x18.1, Value.int IntKind.i64 x18.snd.1, Value.int IntKind.i64 x18.snd.snd.1, Value.bool x18.snd.snd.snd.1,
 Value.slice x18.snd.snd.snd.snd.fst.1 x18.snd.snd.snd.snd.fst.2 x18.snd.snd.snd.snd.fst.3, Value.slice x18.snd.snd.snd.snd.snd.1 x18.snd.snd.snd.snd.snd.2 x18.snd.snd.snd.snd.snd.3].size =
 (6 : Nat) ∧
 StoreP w2 b1 (0 : Nat)
 [Value.int IntKind.i64 x18.1, Value.int IntKind.i64 x18.snd.1, Value.int IntKind.i64 x18.snd.snd.1, Value.bool x18.snd.snd.snd.1,
 Value.slice x18.snd.snd.snd.snd.fst.1 x18.snd.snd.snd.snd.fst.2 x18.snd.snd.snd.snd.fst.3, Value.slice x18.snd.snd.snd.snd.snd.1 x18.snd.snd.snd.snd.snd.2 x18.snd.snd.snd.snd.snd.3]
 fun (w3 : World) =>
 ([] : List Nat) = [] ∧
 (w3.1[l]? = W.1[l]? ∧ w3.1[D]? = W.1[D]?) ∧
 ∀ (w12 : World),
 Stb n₀ w3 w12 →
 Its w3 w12 →
 (∃ (y15 : Loop), w12.1[l]? = some (Obj.loop y15)) →
 ∃ (y19 : Bool → World → Prop),
 (∃ (p20 : Option Nat),
 w12.cell? ({ block := t7, off := (0 : Nat) } : Addr) = some (Value.map p20) ∧
 MapGetP (TypeDesc.int IntKind.i64) w12 (Value.map p20) (Value.int IntKind.i64 x17) (Value.bool false) fun (v21 : Value) (t22 : Bool) =>
 ∃ (t23 : Bool),
 v21 = Value.bool t23 ∧
 IfB t23 (([] : List Nat) = [] ∧ y19 true w12)
 (∃ (x24 : Int × Int × Int × Bool × Sl × Sl),
 CellsAt w12 t5 (0 : Nat)
 [Value.int IntKind.i64 x24.1, Value.int IntKind.i64 x24.snd.1, Value.int IntKind.i64 x24.snd.snd.1, Value.bool x24.snd.snd.snd.1,
 Value.slice x24.snd.snd.snd.snd.fst.1 x24.snd.snd.snd.snd.fst.2 x24.snd.snd.snd.snd.fst.3, Value.slice x24.snd.snd.snd.snd.snd.1 x24.snd.snd.snd.snd.snd.2 x24.snd.snd.snd.snd.snd.3] ∧
 ∃ (x25 : Int × Int × Int × Bool × Sl × Sl),
 CellsAt w12 b1 (0 : Nat)
 [Value.int IntKind.i64 x25.1, Value.int IntKind.i64 x25.snd.1, Value.int IntKind.i64 x25.snd.snd.1, Value.bool x25.snd.snd.snd.1,
 Value.slice x25.snd.snd.snd.snd.fst.1 x25.snd.snd.snd.snd.fst.2 x25.snd.snd.snd.snd.fst.3, Value.slice x25.snd.snd.snd.snd.snd.1 x25.snd.snd.snd.snd.snd.2 x25.snd.snd.snd.snd.snd.3] ∧
 CX Try.prog (38 : Nat)
 #[Value.agg
 #[Value.int IntKind.i64 x24.1, Value.int IntKind.i64 x24.snd.1, Value.int IntKind.i64 x24.snd.snd.1, Value.bool x24.snd.snd.snd.1,
 Value.slice x24.snd.snd.snd.snd.fst.1 x24.snd.snd.snd.snd.fst.2 x24.snd.snd.snd.snd.fst.3, Value.slice x24.snd.snd.snd.snd.snd.1 x24.snd.snd.snd.snd.snd.2 x24.snd.snd.snd.snd.snd.3],
 Value.agg
 #[Value.int IntKind.i64 x25.1, Value.int IntKind.i64 x25.snd.1, Value.int IntKind.i64 x25.snd.snd.1, Value.bool x25.snd.snd.snd.1,
 Value.slice x25.snd.snd.snd.snd.fst.1 x25.snd.snd.snd.snd.fst.2 x25.snd.snd.snd.snd.fst.3, Value.slice x25.snd.snd.snd.snd.snd.1 x25.snd.snd.snd.snd.snd.2 x25.snd.snd.snd.snd.snd.3]]
 w12 fun (v26 : Value) (w27 : World) => ∃ (t28 : Bool), v26 = Value.bool t28 ∧ ([] : List Nat) = [] ∧ y19 (!t28) w27)) ∧
 ∀ (t29 : Bool) (w30 : World) (y31 : Nat → Value),
 y19 t29 w30 →
 (F37b0j1 t3 t8 x17 Jn w12 t29 w30 l D)
theorem F37b0_ok (t3 : Nat) (t5 : Nat) (t6 : Sl) (t7 : Nat) (t8 : Nat) (t16 : Nat × Array Value) (x17 : Int) (x18 : (Leaf.int IntKind.i64).den × dens [Leaf.int IntKind.i64, Leaf.int IntKind.i64, Leaf.bool, Leaf.sl, Leaf.sl]) (l D n₀ : Nat) (Jn : World → Prop) (Jx : Code → World → Prop) (W : World) {g : Nat → Value} (h : F37b0 t3 t5 t6 t7 t8 t16 x17 x18 l D n₀ Jn Jx W) :
    BodyP Try.prog tb Try.f37.ntmps l D n₀ R37_0a (rP R37_0) (rA R37_0) (rB R37_0) (frC g [(3, Value.pointer (some ({ block := t3, off := 0 } : Addr))), (5, Value.pointer (some ({ block := t5, off := 0 } : Addr))), (6, Value.slice t6.1 t6.2 t6.3), (7, Value.pointer (some ({ block := t7, off := 0 } : Addr))), (8, Value.pointer (some ({ block := t8, off := 0 } : Addr))), (16, Value.func (Fn.func t16.1) #[] t16.2)]) Jn Jx [Value.int IntKind.i64 x17, Value.agg #[Value.int IntKind.i64 x18.1, Value.int IntKind.i64 x18.snd.1, Value.int IntKind.i64 x18.snd.snd.1, Value.bool x18.snd.snd.snd.1, Value.slice x18.snd.snd.snd.snd.fst.1 x18.snd.snd.snd.snd.fst.2 x18.snd.snd.snd.snd.fst.3, Value.slice x18.snd.snd.snd.snd.snd.1 x18.snd.snd.snd.snd.snd.2 x18.snd.snd.snd.snd.snd.3]] W :=
  Eq.mp (α := F37b0 t3 t5 t6 t7 t8 t16 x17 x18 l D n₀ Jn Jx W) (by kernel_rfl) h

def F55 (t0 : Int) (t1 : Nat) (w : World) (R : Value → World → Prop) : Prop :=
 ∃ (p1 : Option Nat),
 w.cell? ({ block := t1, off := (0 : Nat) } : Addr) = some (Value.map p1) ∧
 MapSetP (TypeDesc.int IntKind.i64) w (Value.map p1) (Value.int IntKind.i64 t0) (Value.bool true) fun (w2 : World) => R (Value.tuple #[]) w2
theorem F55_ok (t0 : Int) (t1 : Nat) (w : World) (R : Value → World → Prop) (h : F55 t0 t1 w R) : CW Try.prog 55 #[Value.int IntKind.i64 t0, Value.pointer (some ({ block := t1, off := 0 } : Addr))] w R :=
  call_of tbOk mixed en55 Try.func55 rfl (.nil) (by kernel_rfl) (Nat.le_of_ble_eq_true (by kernel_rfl)) (Eq.mp (α := F55 t0 t1 w R) (by kernel_rfl) h)

def F56 (t0 : Sl) (w : World) (R : Value → World → Prop) : Prop :=
 AllocP w (Obj.cells #[Value.slice t0.1 t0.2 t0.3] (22 : Nat)) fun (b1 : Nat) (w2 : World) =>
 R (Value.func (Fn.func (70 : Nat)) #[] #[Value.pointer (some ({ block := b1, off := (0 : Nat) } : Addr))]) w2
theorem F56_ok (t0 : Sl) (w : World) (R : Value → World → Prop) (h : F56 t0 w R) : CW Try.prog 56 #[Value.slice t0.1 t0.2 t0.3] w R :=
  call_of tbOk mixed en56 Try.func56 rfl (.nil) (by kernel_rfl) (Nat.le_of_ble_eq_true (by kernel_rfl)) (Eq.mp (α := F56 t0 w R) (by kernel_rfl) h)

def F70j1 (t0 : Nat) (t1 : Nat) (R : Value → World → Prop) (y2 : Nat → Int → World → Prop) (b4 : Nat) (n5 : Int) (w6 : World) : Prop :=
 IfB (decide ((0 : Int) ≤ n5))
 (∃ (s9 : Sl),
 w6.cell? ({ block := t1, off := (0 : Nat) } : Addr) = some (Value.slice s9.1 s9.2 s9.3) ∧
 ∃ (b10 : Nat),
 ∃ (b11 : Nat),
 s9.1 = some ({ block := b10, off := b11 } : Addr) ∧
 ((0 : Int) ≤ n5 ∧ n5 < (s9.2 : Int)) ∧
 ∃ (x12 : Int × Int × Int × Bool × Sl × Sl),
 CellsAt w6 b10 (b11 + n5.toNat * (6 : Nat))
 [Value.int IntKind.i64 x12.1, Value.int IntKind.i64 x12.snd.1, Value.int IntKind.i64 x12.snd.snd.1, Value.bool x12.snd.snd.snd.1,
 Value.slice x12.snd.snd.snd.snd.fst.1 x12.snd.snd.snd.snd.fst.2 x12.snd.snd.snd.snd.fst.3, Value.slice x12.snd.snd.snd.snd.snd.1 x12.snd.snd.snd.snd.snd.2 x12.snd.snd.snd.snd.snd.3] ∧
 YW Try.prog t0
 #[Value.int IntKind.i64 n5,
 Value.agg
 #[Value.int IntKind.i64 x12.1, Value.int IntKind.i64 x12.snd.1, Value.int IntKind.i64 x12.snd.snd.1, Value.bool x12.snd.snd.snd.1,
 Value.slice x12.snd.snd.snd.snd.fst.1 x12.snd.snd.snd.snd.fst.2 x12.snd.snd.snd.snd.fst.3, Value.slice x12.snd.snd.snd.snd.snd.1 x12.snd.snd.snd.snd.snd.2 x12.snd.snd.snd.snd.snd.3]]
 w6 fun (t13 : Bool) (w14 : World) => IfB (!t13) (R (Value.tuple #[]) w14) (([] : List Nat) = [] ∧ ∃ (b15 : Nat), b15 < b4 ∧ y2 b15 (IntKind.i64.wrap (n5 - (1 : Int))) w14))
 (R (Value.tuple #[]) w6)
def F70 (t0 : Nat) (t1 : Nat) (w : World) (R : Value → World → Prop) : Prop :=
 ∃ (s1 : Sl),
 w.cell? ({ block := t1, off := (0 : Nat) } : Addr) = some (Value.slice s1.1 s1.2 s1.3) ∧
 ∃ (y2 : Nat → Int → World → Prop),
 (∃ (b3 : Nat), y2 b3 (IntKind.i64.wrap ((s1.2 : Int) - (1 : Int))) w) ∧
 ∀ (b4 : Nat) (n5 : Int) (w6 : World) (y7 : Nat → Value),
 y2 b4 n5 w6 →
 (F70j1 t0 t1 R y2 b4 n5 w6)
theorem F70_ok (t0 : Nat) (t1 : Nat) (w : World) (R : Value → World → Prop) (h : F70 t0 t1 w R) : CW Try.prog 70 #[Value.func (Fn.yield t0) #[] #[], Value.pointer (some ({ block := t1, off := 0 } : Addr))] w R :=
  call_of tbOk mixed en70 Try.func70 rfl (.node (.nil) (.loop [(3, .one (.int .i64))] [7, 8, 11, 12, 13, 14, 15, 16, 17, 18, 9, 10, 3] (.nil))) (by kernel_rfl) (Nat.le_of_ble_eq_true (by kernel_rfl)) (Eq.mp (α := F70 t0 t1 w R) (by kernel_rfl) h)

def F13j1 (t0 : Sl) (R : Value → World → Prop) (y1 : Nat → Sl × Int → World → Prop) (b3 : Nat) (x4 : Sl × Int) (w5 : World) : Prop :=
 IfB (decide (x4.snd < (t0.n : Int)))
 (∃ (b8 : Nat),
 ∃ (b9 : Nat),
 t0.1 = some ({ block := b8, off := b9 } : Addr) ∧
 ((0 : Int) ≤ x4.2 ∧ x4.2 < (t0.2 : Int)) ∧
 ∃ (x10 : Int × Int × Int × Bool × Sl × Sl),
 CellsAt w5 b8 (b9 + x4.2.toNat * (6 : Nat))
 [Value.int IntKind.i64 x10.1, Value.int IntKind.i64 x10.snd.1, Value.int IntKind.i64 x10.snd.snd.1, Value.bool x10.snd.snd.snd.1,
 Value.slice x10.snd.snd.snd.snd.fst.1 x10.snd.snd.snd.snd.fst.2 x10.snd.snd.snd.snd.fst.3, Value.slice x10.snd.snd.snd.snd.snd.1 x10.snd.snd.snd.snd.snd.2 x10.snd.snd.snd.snd.snd.3] ∧
 AllocP w5
 (Obj.cells
 #[Value.int IntKind.i64 (0 : Int), Value.int IntKind.i64 (0 : Int), Value.int IntKind.i64 (0 : Int), Value.bool false, Value.slice none (0 : Nat) (0 : Nat), Value.slice none (0 : Nat) (0 : Nat)]
 (27 : Nat))
 fun (b11 : Nat) (w12 : World) =>
 #[Value.int IntKind.i64 x10.1, Value.int IntKind.i64 x10.snd.1, Value.int IntKind.i64 x10.snd.snd.1, Value.bool x10.snd.snd.snd.1,
 Value.slice x10.snd.snd.snd.snd.fst.1 x10.snd.snd.snd.snd.fst.2 x10.snd.snd.snd.snd.fst.3, Value.slice x10.snd.snd.snd.snd.snd.1 x10.snd.snd.snd.snd.snd.2 x10.snd.snd.snd.snd.snd.3].size =
 (6 : Nat) ∧
 StoreP w12 b11 (0 : Nat)
 [Value.int IntKind.i64 x10.1, Value.int IntKind.i64 x10.snd.1, Value.int IntKind.i64 x10.snd.snd.1, Value.bool x10.snd.snd.snd.1,
 Value.slice x10.snd.snd.snd.snd.fst.1 x10.snd.snd.snd.snd.fst.2 x10.snd.snd.snd.snd.fst.3, Value.slice x10.snd.snd.snd.snd.snd.1 x10.snd.snd.snd.snd.snd.2 x10.snd.snd.snd.snd.snd.3]
 fun (w13 : World) =>
 ((0 : Int) ≤ x4.2 ∧ x4.2 ≤ (t0.3 : Int)) ∧
 ∃ (x14 : Int × Int × Int × Bool × Sl × Sl),
 CellsAt w13.drew b11 (0 : Nat)
 [Value.int IntKind.i64 x14.1, Value.int IntKind.i64 x14.snd.1, Value.int IntKind.i64 x14.snd.snd.1, Value.bool x14.snd.snd.snd.1,
 Value.slice x14.snd.snd.snd.snd.fst.1 x14.snd.snd.snd.snd.fst.2 x14.snd.snd.snd.snd.fst.3, Value.slice x14.snd.snd.snd.snd.snd.1 x14.snd.snd.snd.snd.snd.2 x14.snd.snd.snd.snd.snd.3] ∧
 CX Try.prog (37 : Nat)
 #[Value.slice x4.fst.1 x4.fst.2 x4.fst.3, Value.slice (slAddr t0.1 t0.3 (0 : Nat) (6 : Nat)) x4.2.toNat t0.3,
 Value.agg
 #[Value.int IntKind.i64 x14.1, Value.int IntKind.i64 x14.snd.1, Value.int IntKind.i64 x14.snd.snd.1, Value.bool x14.snd.snd.snd.1,
 Value.slice x14.snd.snd.snd.snd.fst.1 x14.snd.snd.snd.snd.fst.2 x14.snd.snd.snd.snd.fst.3, Value.slice x14.snd.snd.snd.snd.snd.1 x14.snd.snd.snd.snd.snd.2 x14.snd.snd.snd.snd.snd.3]]
 w13.drew fun (v15 : Value) (w16 : World) =>
 ∃ (s17 : Sl),
 v15 = Value.slice s17.1 s17.2 s17.3 ∧
 (1 : Nat) * (1 : Nat) ≤ (16777216 : Nat) ∧
 AllocP w16 (Obj.cells #[Value.slice s17.1 s17.2 s17.3] (31 : Nat)) fun (b18 : Nat) (w19 : World) =>
 ∃ (l20 : List Value),
 ReadC w19 (some ({ block := b18, off := (0 : Nat) } : Addr)) ((1 : Nat) * (1 : Nat)) l20 ∧
 AppendP tt31 (31 : Nat) w19 x4.fst.1 x4.fst.2 x4.fst.3 (1 : Nat) l20
 fun (s21 : Sl) (w22 : World) => ([] : List Nat) = [] ∧ ∃ (b23 : Nat), b23 < b3 ∧ y1 b23 ({ p := s21.1, n := s21.2, c := s21.3 }, IntKind.i64.wrap (x4.2 + (1 : Int))) w22)
 (R (Value.slice x4.fst.1 x4.fst.2 x4.fst.3) w5)
def F13 (t0 : Sl) (w : World) (R : Value → World → Prop) : Prop :=
 ∃ (y1 : Nat → Sl × Int → World → Prop),
 (∃ (b2 : Nat), y1 b2 ({ p := none, n := (0 : Nat), c := (0 : Nat) }, (0 : Int)) w) ∧
 ∀ (b3 : Nat) (x4 : Sl × Int) (w5 : World) (y6 : Nat → Value),
 y1 b3 x4 w5 →
 (F13j1 t0 R y1 b3 x4 w5)
theorem F13_ok (t0 : Sl) (w : World) (R : Value → World → Prop) (h : F13 t0 w R) : CW Try.prog 13 #[Value.slice t0.1 t0.2 t0.3] w R :=
  call_of tbOk mixed en13 Try.func13 rfl (.node (.nil) (.node (.nil) (.node (.node (.nil) (.loop [(3, .one (.sl)), (8, .one (.int .i64))] [9, 10, 11, 12, 5, 4, 13, 14, 15, 16, 17, 18, 19, 20, 21, 3, 22, 8] (.node (.nil) (.node (.nil) (.node (.node (.nil) (.draw (.st 0 (.st 1 (.st 2 (.st 3 (.st 4 (.st 5 (.ac 6 [0] (.ac 7 [0] (.ac 8 [] (.st 9 (.fin)) (.non)) (.non)) (.non)))))))))) (.nil)))))) (.nil)))) (by kernel_rfl) (Nat.le_of_ble_eq_true (by kernel_rfl)) (Eq.mp (α := F13 t0 w R) (by kernel_rfl) h)

def F17 (t0 : Sl) (t1 : Int) (t2 : Int) (w : World) (R : Value → World → Prop) : Prop :=
 IfB (decide ((0 : Int) ≤ t1))
 (IfB (decide (t1 < (t0.n : Int)))
 (CX Try.prog (13 : Nat) #[Value.slice t0.1 t0.2 t0.3] w fun (v1 : Value) (w2 : World) =>
 ∃ (s3 : Sl),
 v1 = Value.slice s3.1 s3.2 s3.3 ∧
 ∃ (b4 : Nat),
 ∃ (b5 : Nat),
 s3.1 = some ({ block := b4, off := b5 } : Addr) ∧
 ((0 : Int) ≤ t1 ∧ t1 < (s3.2 : Int)) ∧
 ∃ (s6 : Sl),
 w2.cell? ({ block := b4, off := b5 + t1.toNat } : Addr) = some (Value.slice s6.1 s6.2 s6.3) ∧
 CX Try.prog (39 : Nat) #[Value.slice s6.1 s6.2 s6.3, Value.int IntKind.i64 t2] w2 fun (v7 : Value) (w8 : World) => ∃ (t9 : Bool), v7 = Value.bool t9 ∧ R (Value.bool t9) w8)
 (R (Value.bool false) w))
 (R (Value.bool false) w)
theorem F17_ok (t0 : Sl) (t1 : Int) (t2 : Int) (w : World) (R : Value → World → Prop) (h : F17 t0 t1 t2 w R) : CW Try.prog 17 #[Value.slice t0.1 t0.2 t0.3, Value.int IntKind.i64 t1, Value.int IntKind.i64 t2] w R :=
  call_of tbOk mixed en17 Try.func17 rfl (.nil) (by kernel_rfl) (Nat.le_of_ble_eq_true (by kernel_rfl)) (Eq.mp (α := F17 t0 t1 t2 w R) (by kernel_rfl) h)

def F18 (t0 : Sl) (t1 : Int) (t2 : Int) (w : World) (R : Value → World → Prop) : Prop :=
 AllocP w (Obj.cells #[Value.slice t0.1 t0.2 t0.3] (22 : Nat)) fun (b1 : Nat) (w2 : World) =>
 CX Try.prog (40 : Nat) #[Value.int IntKind.i64 t1, Value.pointer (some ({ block := b1, off := (0 : Nat) } : Addr))] w2 fun (v3 : Value) (w4 : World) =>
 ∃ (t5 : Bool),
 v3 = Value.bool t5 ∧
 IfB t5
 (CX Try.prog (40 : Nat) #[Value.int IntKind.i64 t2, Value.pointer (some ({ block := b1, off := (0 : Nat) } : Addr))] w4 fun (v6 : Value) (w7 : World) =>
 ∃ (t8 : Bool),
 v6 = Value.bool t8 ∧
 IfB t8
 (∃ (s9 : Sl),
 w7.cell? ({ block := b1, off := (0 : Nat) } : Addr) = some (Value.slice s9.1 s9.2 s9.3) ∧
 CX Try.prog (17 : Nat) #[Value.slice s9.1 s9.2 s9.3, Value.int IntKind.i64 t1, Value.int IntKind.i64 t2] w7 fun (v10 : Value) (w11 : World) =>
 ∃ (t12 : Bool),
 v10 = Value.bool t12 ∧
 IfB (!t12)
 (∃ (s13 : Sl),
 w11.cell? ({ block := b1, off := (0 : Nat) } : Addr) = some (Value.slice s13.1 s13.2 s13.3) ∧
 CX Try.prog (17 : Nat) #[Value.slice s13.1 s13.2 s13.3, Value.int IntKind.i64 t2, Value.int IntKind.i64 t1] w11 fun (v14 : Value) (w15 : World) =>
 ∃ (t16 : Bool), v14 = Value.bool t16 ∧ R (Value.bool !t16) w15)
 (R (Value.bool false) w11))
 (R (Value.bool false) w7))
 (R (Value.bool false) w4)
theorem F18_ok (t0 : Sl) (t1 : Int) (t2 : Int) (w : World) (R : Value → World → Prop) (h : F18 t0 t1 t2 w R) : CW Try.prog 18 #[Value.slice t0.1 t0.2 t0.3, Value.int IntKind.i64 t1, Value.int IntKind.i64 t2] w R :=
  call_of tbOk mixed en18 Try.func18 rfl (.nil) (by kernel_rfl) (Nat.le_of_ble_eq_true (by kernel_rfl)) (Eq.mp (α := F18 t0 t1 t2 w R) (by kernel_rfl) h)

def F40 (t0 : Int) (t1 : Nat) (w : World) (R : Value → World → Prop) : Prop :=
 IfB (decide ((0 : Int) ≤ t0)) (∃ (s1 : Sl), w.cell? ({ block := t1, off := (0 : Nat) } : Addr) = some (Value.slice s1.1 s1.2 s1.3) ∧ R (Value.bool (decide (t0 < (s1.n : Int)))) w) (R (Value.bool false) w)
theorem F40_ok (t0 : Int) (t1 : Nat) (w : World) (R : Value → World → Prop) (h : F40 t0 t1 w R) : CW Try.prog 40 #[Value.int IntKind.i64 t0, Value.pointer (some ({ block := t1, off := 0 } : Addr))] w R :=
  call_of tbOk mixed en40 Try.func40 rfl (.nil) (by kernel_rfl) (Nat.le_of_ble_eq_true (by kernel_rfl)) (Eq.mp (α := F40 t0 t1 w R) (by kernel_rfl) h)

def F19j1 (t1 : Sl) (R : Value → World → Prop) (b1 : Nat) (s5 : Sl) (y6 : Nat → Sl × Int → World → Prop) (b8 : Nat) (x9 : Sl × Int) (w10 : World) : Prop :=
 IfB (decide (x9.snd < (s5.n : Int)))
 (∃ (b13 : Nat),
 ∃ (b14 : Nat),
 s5.1 = some ({ block := b13, off := b14 } : Addr) ∧
 ((0 : Int) ≤ x9.2 ∧ x9.2 < (s5.2 : Int)) ∧
 ∃ (s15 : Sl),
 w10.cell? ({ block := b13, off := b14 + x9.2.toNat } : Addr) = some (Value.slice s15.1 s15.2 s15.3) ∧
 CX Try.prog (41 : Nat) #[Value.slice s15.1 s15.2 s15.3] w10 fun (v16 : Value) (w17 : World) =>
 ∃ (s18 : Sl),
 v16 = Value.slice s18.1 s18.2 s18.3 ∧
 (1 : Nat) * (1 : Nat) ≤ (16777216 : Nat) ∧
 AllocP w17 (Obj.cells #[Value.slice s18.1 s18.2 s18.3] (31 : Nat)) fun (b19 : Nat) (w20 : World) =>
 ∃ (l21 : List Value),
 ReadC w20 (some ({ block := b19, off := (0 : Nat) } : Addr)) ((1 : Nat) * (1 : Nat)) l21 ∧
 AppendP tt31 (31 : Nat) w20 x9.fst.1 x9.fst.2 x9.fst.3 (1 : Nat) l21
 fun (s22 : Sl) (w23 : World) => ([] : List Nat) = [] ∧ ∃ (b24 : Nat), b24 < b8 ∧ y6 b24 ({ p := s22.1, n := s22.2, c := s22.3 }, IntKind.i64.wrap (x9.2 + (1 : Int))) w23)
 (∃ (x25 : Int × Int × Int × Bool × Sl × Sl),
 CellsAt w10 b1 (0 : Nat)
 [Value.int IntKind.i64 x25.1, Value.int IntKind.i64 x25.snd.1, Value.int IntKind.i64 x25.snd.snd.1, Value.bool x25.snd.snd.snd.1,
 Value.slice x25.snd.snd.snd.snd.fst.1 x25.snd.snd.snd.snd.fst.2 x25.snd.snd.snd.snd.fst.3, Value.slice x25.snd.snd.snd.snd.snd.1 x25.snd.snd.snd.snd.snd.2 x25.snd.snd.snd.snd.snd.3] ∧
 CX Try.prog (37 : Nat)
 #[Value.slice s5.1 s5.2 s5.3, Value.slice t1.1 t1.2 t1.3,
 Value.agg
 #[Value.int IntKind.i64 x25.1, Value.int IntKind.i64 x25.snd.1, Value.int IntKind.i64 x25.snd.snd.1, Value.bool x25.snd.snd.snd.1,
 Value.slice x25.snd.snd.snd.snd.fst.1 x25.snd.snd.snd.snd.fst.2 x25.snd.snd.snd.snd.fst.3, Value.slice x25.snd.snd.snd.snd.snd.1 x25.snd.snd.snd.snd.snd.2 x25.snd.snd.snd.snd.snd.3]]
 w10 fun (v26 : Value) (w27 : World) =>
 ∃ (s28 : Sl),
 v26 = Value.slice s28.1 s28.2 s28.3 ∧
 (1 : Nat) * (1 : Nat) ≤ (16777216 : Nat) ∧
 AllocP w27 (Obj.cells #[Value.slice s28.1 s28.2 s28.3] (31 : Nat)) fun (b29 : Nat) (w30 : World) =>
 ∃ (l31 : List Value),
 ReadC w30 (some ({ block := b29, off := (0 : Nat) } : Addr)) ((1 : Nat) * (1 : Nat)) l31 ∧
 AppendP tt31 (31 : Nat) w30 x9.fst.1 x9.fst.2 x9.fst.3 (1 : Nat) l31
 fun (s32 : Sl) (w33 : World) => R (Value.slice s32.1 s32.2 s32.3) w33)
def F19j2 (t0 : Sl) (t1 : Sl) (R : Value → World → Prop) (b1 : Nat) (y34 : Nat → Sl × Int → World → Prop) (b36 : Nat) (x37 : Sl × Int) (w38 : World) : Prop :=
 IfB (decide (x37.snd < (t0.n : Int)))
 (∃ (b41 : Nat),
 ∃ (b42 : Nat),
 t0.1 = some ({ block := b41, off := b42 } : Addr) ∧
 ((0 : Int) ≤ x37.2 ∧ x37.2 < (t0.2 : Int)) ∧
 ∃ (s43 : Sl),
 w38.cell? ({ block := b41, off := b42 + x37.2.toNat } : Addr) = some (Value.slice s43.1 s43.2 s43.3) ∧
 CX Try.prog (41 : Nat) #[Value.slice s43.1 s43.2 s43.3] w38 fun (v44 : Value) (w45 : World) =>
 ∃ (s46 : Sl),
 v44 = Value.slice s46.1 s46.2 s46.3 ∧
 (1 : Nat) * (1 : Nat) ≤ (16777216 : Nat) ∧
 AllocP w45 (Obj.cells #[Value.slice s46.1 s46.2 s46.3] (31 : Nat)) fun (b47 : Nat) (w48 : World) =>
 ∃ (l49 : List Value),
 ReadC w48 (some ({ block := b47, off := (0 : Nat) } : Addr)) ((1 : Nat) * (1 : Nat)) l49 ∧
 AppendP tt31 (31 : Nat) w48 x37.fst.1 x37.fst.2 x37.fst.3 (1 : Nat)
 l49 fun (s50 : Sl) (w51 : World) => ([] : List Nat) = [] ∧ ∃ (b52 : Nat), b52 < b36 ∧ y34 b52 ({ p := s50.1, n := s50.2, c := s50.3 }, IntKind.i64.wrap (x37.2 + (1 : Int))) w51)
 (∃ (x53 : Int × Int × Int × Bool × Sl × Sl),
 CellsAt w38 b1 (0 : Nat)
 [Value.int IntKind.i64 x53.1, Value.int IntKind.i64 x53.snd.1, Value.int IntKind.i64 x53.snd.snd.1, Value.bool x53.snd.snd.snd.1,
 Value.slice x53.snd.snd.snd.snd.fst.1 x53.snd.snd.snd.snd.fst.2 x53.snd.snd.snd.snd.fst.3, Value.slice x53.snd.snd.snd.snd.snd.1 x53.snd.snd.snd.snd.snd.2 x53.snd.snd.snd.snd.snd.3] ∧
 CX Try.prog (37 : Nat)
 #[Value.slice t0.1 t0.2 t0.3, Value.slice t1.1 t1.2 t1.3,
 Value.agg
 #[Value.int IntKind.i64 x53.1, Value.int IntKind.i64 x53.snd.1, Value.int IntKind.i64 x53.snd.snd.1, Value.bool x53.snd.snd.snd.1,
 Value.slice x53.snd.snd.snd.snd.fst.1 x53.snd.snd.snd.snd.fst.2 x53.snd.snd.snd.snd.fst.3, Value.slice x53.snd.snd.snd.snd.snd.1 x53.snd.snd.snd.snd.snd.2 x53.snd.snd.snd.snd.snd.3]]
 w38 fun (v54 : Value) (w55 : World) =>
 ∃ (s56 : Sl),
 v54 = Value.slice s56.1 s56.2 s56.3 ∧
 (1 : Nat) * (1 : Nat) ≤ (16777216 : Nat) ∧
 AllocP w55 (Obj.cells #[Value.slice s56.1 s56.2 s56.3] (31 : Nat)) fun (b57 : Nat) (w58 : World) =>
 ∃ (l59 : List Value),
 ReadC w58 (some ({ block := b57, off := (0 : Nat) } : Addr)) ((1 : Nat) * (1 : Nat)) l59 ∧
 AppendP tt31 (31 : Nat) w58 x37.fst.1 x37.fst.2 x37.fst.3 (1 : Nat)
 l59 fun (s60 : Sl) (w61 : World) => R (Value.slice s60.1 s60.2 s60.3) w61)
def F19 (t0 : Sl) (t1 : Sl) (t2 : (Leaf.int IntKind.i64).den × dens [Leaf.int IntKind.i64, Leaf.int IntKind.i64, Leaf.bool, Leaf.sl, Leaf.sl]) (w : World) (R : Value → World → Prop) : Prop :=
 AllocP w
 (Obj.cells
 #[Value.int IntKind.i64 t2.1, Value.int IntKind.i64 t2.snd.1, Value.int IntKind.i64 t2.snd.snd.1, Value.bool t2.snd.snd.snd.1,
 Value.slice t2.snd.snd.snd.snd.fst.1 t2.snd.snd.snd.snd.fst.2 t2.snd.snd.snd.snd.fst.3, Value.slice t2.snd.snd.snd.snd.snd.1 t2.snd.snd.snd.snd.snd.2 t2.snd.snd.snd.snd.snd.3]
 (27 : Nat))
 fun (b1 : Nat) (w2 : World) =>
 IfB ((t0.2 : Int) != (t1.2 : Int))
 (CX Try.prog (13 : Nat) #[Value.slice t1.1 t1.2 t1.3] w2 fun (v3 : Value) (w4 : World) =>
 ∃ (s5 : Sl),
 v3 = Value.slice s5.1 s5.2 s5.3 ∧
 ∃ (y6 : Nat → Sl × Int → World → Prop),
 (∃ (b7 : Nat), y6 b7 ({ p := none, n := (0 : Nat), c := (0 : Nat) }, (0 : Int)) w4) ∧
 ∀ (b8 : Nat) (x9 : Sl × Int) (w10 : World) (y11 : Nat → Value),
 y6 b8 x9 w10 →
 (F19j1 t1 R b1 s5 y6 b8 x9 w10))
 (∃ (y34 : Nat → Sl × Int → World → Prop),
 (∃ (b35 : Nat), y34 b35 ({ p := none, n := (0 : Nat), c := (0 : Nat) }, (0 : Int)) w2) ∧
 ∀ (b36 : Nat) (x37 : Sl × Int) (w38 : World) (y39 : Nat → Value),
 y34 b36 x37 w38 →
 (F19j2 t0 t1 R b1 y34 b36 x37 w38))
theorem F19_ok (t0 : Sl) (t1 : Sl) (t2 : (Leaf.int IntKind.i64).den × dens [Leaf.int IntKind.i64, Leaf.int IntKind.i64, Leaf.bool, Leaf.sl, Leaf.sl]) (w : World) (R : Value → World → Prop) (h : F19 t0 t1 t2 w R) : CW Try.prog 19 #[Value.slice t0.1 t0.2 t0.3, Value.slice t1.1 t1.2 t1.3, Value.agg #[Value.int IntKind.i64 t2.1, Value.int IntKind.i64 t2.snd.1, Value.int IntKind.i64 t2.snd.snd.1, Value.bool t2.snd.snd.snd.1, Value.slice t2.snd.snd.snd.snd.fst.1 t2.snd.snd.snd.snd.fst.2 t2.snd.snd.snd.snd.fst.3, Value.slice t2.snd.snd.snd.snd.snd.1 t2.snd.snd.snd.snd.snd.2 t2.snd.snd.snd.snd.snd.3]] w R :=
  call_of tbOk mixed en19 Try.func19 rfl (.node (.nil) (.node (.nil) (.node (.nil) (.node (.node (.nil) (.loop [(7, .one (.sl)), (19, .one (.int .i64))] [20, 21, 22, 9, 23, 24, 25, 26, 27, 7, 28, 19] (.nil))) (.nil))))) (by kernel_rfl) (Nat.le_of_ble_eq_true (by kernel_rfl)) (Eq.mp (α := F19 t0 t1 t2 w R) (by kernel_rfl) h)

end Go.Proofs.Ytmmhbjbaallkfaa.Gx
