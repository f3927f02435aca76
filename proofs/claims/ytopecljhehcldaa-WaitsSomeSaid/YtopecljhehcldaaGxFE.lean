/- Written by mkf.py: what is to be shown of functions, as Gx reckons it from their code. -/
import Derived.Test.YtopecljhehcldaaGxT
namespace Go.Proofs.Ytopecljhehcldaa.Gx
open Go
set_option linter.unusedVariables false
set_option maxRecDepth 100000

def F35k1 (w2 : World) (p3 : Option Addr) (R : Value → World → Prop) : Prop :=
 AllocP w2
 (Obj.cells
 #[Value.int IntKind.u64 (0 : Int), Value.int IntKind.u64 (0 : Int), Value.int IntKind.u64 (0 : Int), Value.int IntKind.u64 (0 : Int), Value.int IntKind.u64 (0 : Int), Value.int IntKind.u64 (0 : Int),
 Value.int IntKind.u64 (0 : Int), Value.int IntKind.u64 (0 : Int)]
 (67 : Nat))
 fun (b4 : Nat) (w5 : World) =>
 #[Value.int IntKind.u64 (7 : Int), Value.int IntKind.u64 (0 : Int), Value.int IntKind.u64 (0 : Int), Value.int IntKind.u64 (0 : Int), Value.int IntKind.u64 (0 : Int), Value.int IntKind.u64 (0 : Int),
 Value.int IntKind.u64 (0 : Int), Value.int IntKind.u64 (0 : Int)].size =
 (8 : Nat) ∧
 StoreP w5 b4 (0 : Nat)
 [Value.int IntKind.u64 (7 : Int), Value.int IntKind.u64 (0 : Int), Value.int IntKind.u64 (0 : Int), Value.int IntKind.u64 (0 : Int), Value.int IntKind.u64 (0 : Int), Value.int IntKind.u64 (0 : Int),
 Value.int IntKind.u64 (0 : Int), Value.int IntKind.u64 (0 : Int)]
 fun (w6 : World) =>
 ∃ (x7 : Int × Int × Int × Int × Int × Int × Int × Int),
 CellsAt w6 b4 (0 : Nat)
 [Value.int IntKind.u64 x7.1, Value.int IntKind.u64 x7.snd.1, Value.int IntKind.u64 x7.snd.snd.1, Value.int IntKind.u64 x7.snd.snd.snd.1, Value.int IntKind.u64 x7.snd.snd.snd.snd.1,
 Value.int IntKind.u64 x7.snd.snd.snd.snd.snd.1, Value.int IntKind.u64 x7.snd.snd.snd.snd.snd.snd.1, Value.int IntKind.u64 x7.snd.snd.snd.snd.snd.snd.2] ∧
 CX Try.prog (37 : Nat)
 #[Value.pointer p3, Value.int IntKind.i64 (0 : Int),
 Value.agg
 #[Value.int IntKind.u64 x7.1, Value.int IntKind.u64 x7.snd.1, Value.int IntKind.u64 x7.snd.snd.1, Value.int IntKind.u64 x7.snd.snd.snd.1, Value.int IntKind.u64 x7.snd.snd.snd.snd.1,
 Value.int IntKind.u64 x7.snd.snd.snd.snd.snd.1, Value.int IntKind.u64 x7.snd.snd.snd.snd.snd.snd.1, Value.int IntKind.u64 x7.snd.snd.snd.snd.snd.snd.2]]
 w6 fun (v8 : Value) (w9 : World) =>
 ∃ (n10 : Int),
 v8 = Value.int IntKind.i64 n10 ∧
 CX Try.prog (40 : Nat) #[Value.slice none (0 : Nat) (0 : Nat)] w9 fun (v11 : Value) (w12 : World) =>
 ∃ (x13 : Nat × Array Value),
 v11 = Value.func (Fn.func x13.1) #[] x13.2 ∧
 CX Try.prog (39 : Nat) #[Value.pointer p3, Value.func (Fn.func x13.1) #[] x13.2] w12 fun (v14 : Value) (w15 : World) =>
 ∃ (y16 : Unit),
 v14 = Value.tuple #[] ∧
 CX Try.prog (41 : Nat) #[Value.pointer p3, Value.int IntKind.i64 (0 : Int)] w15 fun (v17 : Value) (w18 : World) =>
 ∃ (x19 : (Int × Int × Int × Int × Int × Int × Int × Int) × Int),
 v17 =
 Value.tuple
 #[Value.agg
 #[Value.int IntKind.u64 x19.fst.1, Value.int IntKind.u64 x19.fst.snd.1, Value.int IntKind.u64 x19.fst.snd.snd.1, Value.int IntKind.u64 x19.fst.snd.snd.snd.1,
 Value.int IntKind.u64 x19.fst.snd.snd.snd.snd.1, Value.int IntKind.u64 x19.fst.snd.snd.snd.snd.snd.1, Value.int IntKind.u64 x19.fst.snd.snd.snd.snd.snd.snd.1,
 Value.int IntKind.u64 x19.fst.snd.snd.snd.snd.snd.snd.2],
 Value.int IntKind.i64 x19.2] ∧
 AllocP w18
 (Obj.cells
 #[Value.int IntKind.u64 (0 : Int), Value.int IntKind.u64 (0 : Int), Value.int IntKind.u64 (0 : Int), Value.int IntKind.u64 (0 : Int), Value.int IntKind.u64 (0 : Int), Value.int IntKind.u64 (0 : Int),
 Value.int IntKind.u64 (0 : Int), Value.int IntKind.u64 (0 : Int)]
 (67 : Nat))
 fun (b20 : Nat) (w21 : World) =>
 #[Value.int IntKind.u64 x19.fst.1, Value.int IntKind.u64 x19.fst.snd.1, Value.int IntKind.u64 x19.fst.snd.snd.1, Value.int IntKind.u64 x19.fst.snd.snd.snd.1,
 Value.int IntKind.u64 x19.fst.snd.snd.snd.snd.1, Value.int IntKind.u64 x19.fst.snd.snd.snd.snd.snd.1, Value.int IntKind.u64 x19.fst.snd.snd.snd.snd.snd.snd.1,
 Value.int IntKind.u64 x19.fst.snd.snd.snd.snd.snd.snd.2].size =
 (8 : Nat) ∧
 StoreP w21 b20 (0 : Nat)
 [Value.int IntKind.u64 x19.fst.1, Value.int IntKind.u64 x19.fst.snd.1, Value.int IntKind.u64 x19.fst.snd.snd.1, Value.int IntKind.u64 x19.fst.snd.snd.snd.1,
 Value.int IntKind.u64 x19.fst.snd.snd.snd.snd.1, Value.int IntKind.u64 x19.fst.snd.snd.snd.snd.snd.1, Value.int IntKind.u64 x19.fst.snd.snd.snd.snd.snd.snd.1,
 Value.int IntKind.u64 x19.fst.snd.snd.snd.snd.snd.snd.2]
 fun (w22 : World) =>
 ∃ (x23 : Int × Int × Int × Int × Int × Int × Int × Int),
 CellsAt w22 b4 (0 : Nat)
 [Value.int IntKind.u64 x23.1, Value.int IntKind.u64 x23.snd.1, Value.int IntKind.u64 x23.snd.snd.1, Value.int IntKind.u64 x23.snd.snd.snd.1, Value.int IntKind.u64 x23.snd.snd.snd.snd.1,
 Value.int IntKind.u64 x23.snd.snd.snd.snd.snd.1, Value.int IntKind.u64 x23.snd.snd.snd.snd.snd.snd.1, Value.int IntKind.u64 x23.snd.snd.snd.snd.snd.snd.2] ∧
 CX Try.prog (37 : Nat)
 #[Value.pointer p3, Value.int IntKind.i64 (0 : Int),
 Value.agg
 #[Value.int IntKind.u64 x23.1, Value.int IntKind.u64 x23.snd.1, Value.int IntKind.u64 x23.snd.snd.1, Value.int IntKind.u64 x23.snd.snd.snd.1, Value.int IntKind.u64 x23.snd.snd.snd.snd.1,
 Value.int IntKind.u64 x23.snd.snd.snd.snd.snd.1, Value.int IntKind.u64 x23.snd.snd.snd.snd.snd.snd.1, Value.int IntKind.u64 x23.snd.snd.snd.snd.snd.snd.2]]
 w22 fun (v24 : Value) (w25 : World) =>
 ∃ (n26 : Int),
 v24 = Value.int IntKind.i64 n26 ∧
 CX Try.prog (38 : Nat) #[Value.pointer p3] w25 fun (v27 : Value) (w28 : World) =>
 ∃ (y29 : Unit),
 v27 = Value.tuple #[] ∧
 CX Try.prog (40 : Nat) #[Value.slice none (0 : Nat) (0 : Nat)] w28 fun (v30 : Value) (w31 : World) =>
 ∃ (x32 : Nat × Array Value),
 v30 = Value.func (Fn.func x32.1) #[] x32.2 ∧
 CX Try.prog (39 : Nat) #[Value.pointer p3, Value.func (Fn.func x32.1) #[] x32.2] w31 fun (v33 : Value) (w34 : World) =>
 ∃ (y35 : Unit),
 v33 = Value.tuple #[] ∧
 CX Try.prog (41 : Nat) #[Value.pointer p3, Value.int IntKind.i64 (0 : Int)] w34 fun (v36 : Value) (w37 : World) =>
 ∃ (x38 : (Int × Int × Int × Int × Int × Int × Int × Int) × Int),
 v36 =
 Value.tuple
 #[Value.agg
 #[Value.int IntKind.u64 x38.fst.1, Value.int IntKind.u64 x38.fst.snd.1, Value.int IntKind.u64 x38.fst.snd.snd.1, Value.int IntKind.u64 x38.fst.snd.snd.snd.1,
 Value.int IntKind.u64 x38.fst.snd.snd.snd.snd.1, Value.int IntKind.u64 x38.fst.snd.snd.snd.snd.snd.1, Value.int IntKind.u64 x38.fst.snd.snd.snd.snd.snd.snd.1,
 Value.int IntKind.u64 x38.fst.snd.snd.snd.snd.snd.snd.2],
 Value.int IntKind.i64 x38.2] ∧
 AllocP w37
 (Obj.cells
 #[Value.int IntKind.u64 (0 : Int), Value.int IntKind.u64 (0 : Int), Value.int IntKind.u64 (0 : Int), Value.int IntKind.u64 (0 : Int), Value.int IntKind.u64 (0 : Int), Value.int IntKind.u64 (0 : Int),
 Value.int IntKind.u64 (0 : Int), Value.int IntKind.u64 (0 : Int)]
 (67 : Nat))
 fun (b39 : Nat) (w40 : World) =>
 #[Value.int IntKind.u64 x38.fst.1, Value.int IntKind.u64 x38.fst.snd.1, Value.int IntKind.u64 x38.fst.snd.snd.1, Value.int IntKind.u64 x38.fst.snd.snd.snd.1,
 Value.int IntKind.u64 x38.fst.snd.snd.snd.snd.1, Value.int IntKind.u64 x38.fst.snd.snd.snd.snd.snd.1, Value.int IntKind.u64 x38.fst.snd.snd.snd.snd.snd.snd.1,
 Value.int IntKind.u64 x38.fst.snd.snd.snd.snd.snd.snd.2].size =
 (8 : Nat) ∧
 StoreP w40 b39 (0 : Nat)
 [Value.int IntKind.u64 x38.fst.1, Value.int IntKind.u64 x38.fst.snd.1, Value.int IntKind.u64 x38.fst.snd.snd.1, Value.int IntKind.u64 x38.fst.snd.snd.snd.1,
 Value.int IntKind.u64 x38.fst.snd.snd.snd.snd.1, Value.int IntKind.u64 x38.fst.snd.snd.snd.snd.snd.1, Value.int IntKind.u64 x38.fst.snd.snd.snd.snd.snd.snd.1,
 Value.int IntKind.u64 x38.fst.snd.snd.snd.snd.snd.snd.2]
 fun (w41 : World) =>
 IfB (x19.2 == (0 : Int))
 (IfB (x38.2 == (0 : Int))
 (∃ (x42 : Int × Int × Int × Int × Int × Int × Int × Int),
 CellsAt w41 b20 (0 : Nat)
 [Value.int IntKind.u64 x42.1, Value.int IntKind.u64 x42.snd.1, Value.int IntKind.u64 x42.snd.snd.1, Value.int IntKind.u64 x42.snd.snd.snd.1, Value.int IntKind.u64 x42.snd.snd.snd.snd.1,
 Value.int IntKind.u64 x42.snd.snd.snd.snd.snd.1, Value.int IntKind.u64 x42.snd.snd.snd.snd.snd.snd.1, Value.int IntKind.u64 x42.snd.snd.snd.snd.snd.snd.2] ∧
 ∃ (t43 : Bool),
 EqAt Try.prog (67 : Nat)
 (Value.agg
 #[Value.int IntKind.u64 x42.1, Value.int IntKind.u64 x42.snd.1, Value.int IntKind.u64 x42.snd.snd.1, Value.int IntKind.u64 x42.snd.snd.snd.1, Value.int IntKind.u64 x42.snd.snd.snd.snd.1,
 Value.int IntKind.u64 x42.snd.snd.snd.snd.snd.1, Value.int IntKind.u64 x42.snd.snd.snd.snd.snd.snd.1, Value.int IntKind.u64 x42.snd.snd.snd.snd.snd.snd.2])
 (Value.agg
 #[Value.int IntKind.u64 (0 : Int), Value.int IntKind.u64 (0 : Int), Value.int IntKind.u64 (0 : Int), Value.int IntKind.u64 (0 : Int), Value.int IntKind.u64 (0 : Int), Value.int IntKind.u64 (0 : Int),
 Value.int IntKind.u64 (0 : Int), Value.int IntKind.u64 (0 : Int)])
 t43 ∧
 IfB t43
 (∃ (x44 : Int × Int × Int × Int × Int × Int × Int × Int),
 CellsAt w41 b39 (0 : Nat)
 [Value.int IntKind.u64 x44.1, Value.int IntKind.u64 x44.snd.1, Value.int IntKind.u64 x44.snd.snd.1, Value.int IntKind.u64 x44.snd.snd.snd.1, Value.int IntKind.u64 x44.snd.snd.snd.snd.1,
 Value.int IntKind.u64 x44.snd.snd.snd.snd.snd.1, Value.int IntKind.u64 x44.snd.snd.snd.snd.snd.snd.1, Value.int IntKind.u64 x44.snd.snd.snd.snd.snd.snd.2] ∧
 ∃ (x45 : Int × Int × Int × Int × Int × Int × Int × Int),
 CellsAt w41 b4 (0 : Nat)
 [Value.int IntKind.u64 x45.1, Value.int IntKind.u64 x45.snd.1, Value.int IntKind.u64 x45.snd.snd.1, Value.int IntKind.u64 x45.snd.snd.snd.1, Value.int IntKind.u64 x45.snd.snd.snd.snd.1,
 Value.int IntKind.u64 x45.snd.snd.snd.snd.snd.1, Value.int IntKind.u64 x45.snd.snd.snd.snd.snd.snd.1, Value.int IntKind.u64 x45.snd.snd.snd.snd.snd.snd.2] ∧
 ∃ (t46 : Bool),
 EqAt Try.prog (67 : Nat)
 (Value.agg
 #[Value.int IntKind.u64 x44.1, Value.int IntKind.u64 x44.snd.1, Value.int IntKind.u64 x44.snd.snd.1, Value.int IntKind.u64 x44.snd.snd.snd.1, Value.int IntKind.u64 x44.snd.snd.snd.snd.1,
 Value.int IntKind.u64 x44.snd.snd.snd.snd.snd.1, Value.int IntKind.u64 x44.snd.snd.snd.snd.snd.snd.1, Value.int IntKind.u64 x44.snd.snd.snd.snd.snd.snd.2])
 (Value.agg
 #[Value.int IntKind.u64 x45.1, Value.int IntKind.u64 x45.snd.1, Value.int IntKind.u64 x45.snd.snd.1, Value.int IntKind.u64 x45.snd.snd.snd.1, Value.int IntKind.u64 x45.snd.snd.snd.snd.1,
 Value.int IntKind.u64 x45.snd.snd.snd.snd.snd.1, Value.int IntKind.u64 x45.snd.snd.snd.snd.snd.snd.1, Value.int IntKind.u64 x45.snd.snd.snd.snd.snd.snd.2])
 t46 ∧
 IfB t46 (R (Value.bool true) w41) (R (Value.bool false) w41))
 (R (Value.bool false) w41))
 (R (Value.bool false) w41))
 (R (Value.bool false) w41)
def F35 (w : World) (R : Value → World → Prop) : Prop :=
 CX Try.prog (36 : Nat) #[Value.int IntKind.i64 (2 : Int)] w fun (v1 : Value) (w2 : World) =>
 ∃ (p3 : Option Addr),
 v1 = Value.pointer p3 ∧
 IfB p3.isNone (R (Value.bool false) w2)
 (F35k1 w2 p3 R)
theorem F35_ok (w : World) (R : Value → World → Prop) (h : F35  w R) : CW Try.prog 35 #[] w R :=
  call_of tbOk mixed en35 Try.func35 rfl (.nil) (by kernel_rfl) (Nat.le_of_ble_eq_true (by kernel_rfl)) (Eq.mp (α := F35  w R) (by kernel_rfl) h)

def F36 (t0 : Int) (w : World) (R : Value → World → Prop) : Prop :=
 IfB (decide (t0 < (1 : Int))) (R (Value.pointer none) w)
 (IfB (decide ((4096 : Int) < t0)) (R (Value.pointer none) w)
 (((0 : Int) ≤ t0 ∧ t0 ≤ t0 ∧ t0 ≤ (281474976710656 : Int) ∧ ((64 : Nat) : Int) * t0 ≤ (281474976710656 : Int)) ∧
 AllocP w
 (Obj.cells
 { toList := zc #[Value.int IntKind.u64 (0 : Int), Value.int IntKind.u64 (0 : Int), Value.int IntKind.u64 (0 : Int), Value.int IntKind.u64 (0 : Int), Value.int IntKind.u64 (0 : Int), Value.int IntKind.u64 (0 : Int), Value.int IntKind.u64 (0 : Int), Value.int IntKind.u64 (0 : Int)] t0.toNat }
 (67 : Nat))
 fun (b1 : Nat) (w2 : World) =>
 AllocP w2 (Obj.map #[] (0 : Nat)) fun (b3 : Nat) (w4 : World) =>
 AllocP w4
 (Obj.cells #[Value.slice (some ({ block := b1, off := (0 : Nat) } : Addr)) t0.toNat t0.toNat, Value.map (some b3), Value.int IntKind.i64 (0 : Int), Value.int IntKind.i64 (0 : Int)] (130 : Nat))
 fun (b5 : Nat) (w6 : World) => R (Value.pointer (some ({ block := b5, off := (0 : Nat) } : Addr))) w6))
theorem F36_ok (t0 : Int) (w : World) (R : Value → World → Prop) (h : F36 t0 w R) : CW Try.prog 36 #[Value.int IntKind.i64 t0] w R :=
  call_of tbOk mixed en36 Try.func36 rfl (.nil) (by kernel_rfl) (Nat.le_of_ble_eq_true (by kernel_rfl)) (Eq.mp (α := F36 t0 w R) (by kernel_rfl) h)

def F37 (t0 : Option Addr) (t1 : Int) (t2 : (Leaf.int IntKind.u64).den ×
 dens
 [Leaf.int IntKind.u64, Leaf.int IntKind.u64, Leaf.int IntKind.u64, Leaf.int IntKind.u64, Leaf.int IntKind.u64,
 Leaf.int IntKind.u64, Leaf.int IntKind.u64]) (w : World) (R : Value → World → Prop) : Prop :=
 AllocP w
 (Obj.cells
 #[Value.int IntKind.u64 t2.1, Value.int IntKind.u64 t2.snd.1, Value.int IntKind.u64 t2.snd.snd.1, Value.int IntKind.u64 t2.snd.snd.snd.1, Value.int IntKind.u64 t2.snd.snd.snd.snd.1,
 Value.int IntKind.u64 t2.snd.snd.snd.snd.snd.1, Value.int IntKind.u64 t2.snd.snd.snd.snd.snd.snd.1, Value.int IntKind.u64 t2.snd.snd.snd.snd.snd.snd.2]
 (67 : Nat))
 fun (b1 : Nat) (w2 : World) =>
 CX Try.prog (76 : Nat) #[Value.pointer t0, Value.int IntKind.i64 t1] w2 fun (v3 : Value) (w4 : World) =>
 ∃ (t5 : Bool),
 v3 = Value.bool t5 ∧
 IfB (!t5) (R (Value.int IntKind.i64 (3 : Int)) w4)
 (∃ (b6 : Nat),
 ∃ (b7 : Nat),
 t0 = some ({ block := b6, off := b7 } : Addr) ∧
 ∃ (p8 : Option Nat),
 w4.drew.cell? ({ block := b6, off := b7 + (1 : Nat) } : Addr) = some (Value.map p8) ∧
 ∃ (x9 : Int × Int × Int × Int × Int × Int × Int × Int),
 CellsAt w4.drew b1 (0 : Nat)
 [Value.int IntKind.u64 x9.1, Value.int IntKind.u64 x9.snd.1, Value.int IntKind.u64 x9.snd.snd.1, Value.int IntKind.u64 x9.snd.snd.snd.1, Value.int IntKind.u64 x9.snd.snd.snd.snd.1,
 Value.int IntKind.u64 x9.snd.snd.snd.snd.snd.1, Value.int IntKind.u64 x9.snd.snd.snd.snd.snd.snd.1, Value.int IntKind.u64 x9.snd.snd.snd.snd.snd.snd.2] ∧
 MapSetP (TypeDesc.int IntKind.i64) w4.drew (Value.map p8) (Value.int IntKind.i64 t1)
 (Value.agg
 #[Value.int IntKind.u64 x9.1, Value.int IntKind.u64 x9.snd.1, Value.int IntKind.u64 x9.snd.snd.1, Value.int IntKind.u64 x9.snd.snd.snd.1, Value.int IntKind.u64 x9.snd.snd.snd.snd.1,
 Value.int IntKind.u64 x9.snd.snd.snd.snd.snd.1, Value.int IntKind.u64 x9.snd.snd.snd.snd.snd.snd.1, Value.int IntKind.u64 x9.snd.snd.snd.snd.snd.snd.2])
 fun (w10 : World) =>
 ∃ (b11 : Nat),
 ∃ (b12 : Nat),
 t0 = some ({ block := b11, off := b12 } : Addr) ∧
 ∃ (n13 : Int),
 w10.cell? ({ block := b11, off := b12 + (2 : Nat) } : Addr) = some (Value.int IntKind.i64 n13) ∧
 ∃ (b14 : Nat),
 ∃ (b15 : Nat),
 t0 = some ({ block := b14, off := b15 } : Addr) ∧
 #[Value.int IntKind.i64 (IntKind.i64.wrap (n13 + (1 : Int)))].size = (1 : Nat) ∧
 StoreP w10 b14 (b15 + (2 : Nat)) [Value.int IntKind.i64 (IntKind.i64.wrap (n13 + (1 : Int)))] fun (w16 : World) => R (Value.int IntKind.i64 (0 : Int)) w16)
theorem F37_ok (t0 : Option Addr) (t1 : Int) (t2 : (Leaf.int IntKind.u64).den ×
 dens
 [Leaf.int IntKind.u64, Leaf.int IntKind.u64, Leaf.int IntKind.u64, Leaf.int IntKind.u64, Leaf.int IntKind.u64,
 Leaf.int IntKind.u64, Leaf.int IntKind.u64]) (w : World) (R : Value → World → Prop) (h : F37 t0 t1 t2 w R) : CW Try.prog 37 #[Value.pointer t0, Value.int IntKind.i64 t1, Value.agg #[Value.int IntKind.u64 t2.1, Value.int IntKind.u64 t2.snd.1, Value.int IntKind.u64 t2.snd.snd.1, Value.int IntKind.u64 t2.snd.snd.snd.1, Value.int IntKind.u64 t2.snd.snd.snd.snd.1, Value.int IntKind.u64 t2.snd.snd.snd.snd.snd.1, Value.int IntKind.u64 t2.snd.snd.snd.snd.snd.snd.1, Value.int IntKind.u64 t2.snd.snd.snd.snd.snd.snd.2]] w R :=
  call_of tbOk mixed en37 Try.func37 rfl (.node (.nil) (.node (.nil) (.node (.draw (.st 0 (.st 1 (.st 2 (.st 3 (.st 4 (.st 5 (.ac 6 [] (.fin) (.non))))))))) (.nil)))) (by kernel_rfl) (Nat.le_of_ble_eq_true (by kernel_rfl)) (Eq.mp (α := F37 t0 t1 t2 w R) (by kernel_rfl) h)

def F38 (t0 : Option Addr) (w : World) (R : Value → World → Prop) : Prop :=
 IfB t0.isNone (R (Value.tuple #[]) w)
 (CX Try.prog (77 : Nat) #[Value.pointer t0, Value.func (Fn.func (78 : Nat)) #[] #[]] w fun (v1 : Value) (w2 : World) =>
 ∃ (y3 : Unit),
 v1 = Value.tuple #[] ∧
 ∃ (b4 : Nat),
 ∃ (b5 : Nat),
 t0 = some ({ block := b4, off := b5 } : Addr) ∧
 ∃ (n6 : Int),
 w2.cell? ({ block := b4, off := b5 + (3 : Nat) } : Addr) = some (Value.int IntKind.i64 n6) ∧
 ∃ (b7 : Nat),
 ∃ (b8 : Nat),
 t0 = some ({ block := b7, off := b8 } : Addr) ∧
 #[Value.int IntKind.i64 (IntKind.i64.wrap (n6 + (1 : Int)))].size = (1 : Nat) ∧
 StoreP w2 b7 (b8 + (3 : Nat)) [Value.int IntKind.i64 (IntKind.i64.wrap (n6 + (1 : Int)))] fun (w9 : World) => R (Value.tuple #[]) w9)
theorem F38_ok (t0 : Option Addr) (w : World) (R : Value → World → Prop) (h : F38 t0 w R) : CW Try.prog 38 #[Value.pointer t0] w R :=
  call_of tbOk mixed en38 Try.func38 rfl (.nil) (by kernel_rfl) (Nat.le_of_ble_eq_true (by kernel_rfl)) (Eq.mp (α := F38 t0 w R) (by kernel_rfl) h)

def F39 (t0 : Option Addr) (t1 : Nat × Array Value) (w : World) (R : Value → World → Prop) : Prop :=
 IfB (!t0.isNone)
 (CX Try.prog (77 : Nat) #[Value.pointer t0, Value.func (Fn.func t1.1) #[] t1.2] w fun (v1 : Value) (w2 : World) =>
 ∃ (y3 : Unit), v1 = Value.tuple #[] ∧ R (Value.tuple #[]) w2)
 (R (Value.tuple #[]) w)
theorem F39_ok (t0 : Option Addr) (t1 : Nat × Array Value) (w : World) (R : Value → World → Prop) (h : F39 t0 t1 w R) : CW Try.prog 39 #[Value.pointer t0, Value.func (Fn.func t1.1) #[] t1.2] w R :=
  call_of tbOk mixed en39 Try.func39 rfl (.nil) (by kernel_rfl) (Nat.le_of_ble_eq_true (by kernel_rfl)) (Eq.mp (α := F39 t0 t1 w R) (by kernel_rfl) h)

def F40 (t0 : Sl) (w : World) (R : Value → World → Prop) : Prop :=
 AllocP w (Obj.cells #[Value.slice t0.1 t0.2 t0.3] (68 : Nat)) fun (b1 : Nat) (w2 : World) =>
 AllocP w2 (Obj.cells #[Value.int IntKind.i64 (0 : Int)] (3 : Nat)) fun (b3 : Nat) (w4 : World) =>
 #[Value.int IntKind.i64 (0 : Int)].size = (1 : Nat) ∧
 StoreP w4 b3 (0 : Nat) [Value.int IntKind.i64 (0 : Int)] fun (w5 : World) =>
 R (Value.func (Fn.func (79 : Nat)) #[] #[Value.pointer (some ({ block := b3, off := (0 : Nat) } : Addr)), Value.pointer (some ({ block := b1, off := (0 : Nat) } : Addr))]) w5
theorem F40_ok (t0 : Sl) (w : World) (R : Value → World → Prop) (h : F40 t0 w R) : CW Try.prog 40 #[Value.slice t0.1 t0.2 t0.3] w R :=
  call_of tbOk mixed en40 Try.func40 rfl (.nil) (by kernel_rfl) (Nat.le_of_ble_eq_true (by kernel_rfl)) (Eq.mp (α := F40 t0 w R) (by kernel_rfl) h)

def F41k1 (t0 : Option Addr) (w4 : World) (t1 : Int) (b1 : Nat) (R : Value → World → Prop) : Prop :=
 ∃ (b8 : Nat),
 ∃ (b9 : Nat),
 t0 = some ({ block := b8, off := b9 } : Addr) ∧
 ∃ (p10 : Option Nat),
 w4.cell? ({ block := b8, off := b9 + (1 : Nat) } : Addr) = some (Value.map p10) ∧
 MapGetP (TypeDesc.int IntKind.i64) w4 (Value.map p10) (Value.int IntKind.i64 t1)
 (Value.agg
 #[Value.int IntKind.u64 (0 : Int), Value.int IntKind.u64 (0 : Int), Value.int IntKind.u64 (0 : Int), Value.int IntKind.u64 (0 : Int), Value.int IntKind.u64 (0 : Int), Value.int IntKind.u64 (0 : Int),
 Value.int IntKind.u64 (0 : Int), Value.int IntKind.u64 (0 : Int)])
 fun (v11 : Value) (t12 : Bool) =>
 ∃ (x13 : Int × Int × Int × Int × Int × Int × Int × Int),
 v11 =
 Value.agg
 #[Value.int IntKind.u64 x13.1, Value.int IntKind.u64 x13.snd.1, Value.int IntKind.u64 x13.snd.snd.1, Value.int IntKind.u64 x13.snd.snd.snd.1, Value.int IntKind.u64 x13.snd.snd.snd.snd.1,
 Value.int IntKind.u64 x13.snd.snd.snd.snd.snd.1, Value.int IntKind.u64 x13.snd.snd.snd.snd.snd.snd.1, Value.int IntKind.u64 x13.snd.snd.snd.snd.snd.snd.2] ∧
 AllocP w4
 (Obj.cells
 #[Value.int IntKind.u64 (0 : Int), Value.int IntKind.u64 (0 : Int), Value.int IntKind.u64 (0 : Int), Value.int IntKind.u64 (0 : Int), Value.int IntKind.u64 (0 : Int), Value.int IntKind.u64 (0 : Int),
 Value.int IntKind.u64 (0 : Int), Value.int IntKind.u64 (0 : Int)]
 (67 : Nat))
 fun (b14 : Nat) (w15 : World) =>
 #[Value.int IntKind.u64 x13.1, Value.int IntKind.u64 x13.snd.1, Value.int IntKind.u64 x13.snd.snd.1, Value.int IntKind.u64 x13.snd.snd.snd.1, Value.int IntKind.u64 x13.snd.snd.snd.snd.1,
 Value.int IntKind.u64 x13.snd.snd.snd.snd.snd.1, Value.int IntKind.u64 x13.snd.snd.snd.snd.snd.snd.1, Value.int IntKind.u64 x13.snd.snd.snd.snd.snd.snd.2].size =
 (8 : Nat) ∧
 StoreP w15 b14 (0 : Nat)
 [Value.int IntKind.u64 x13.1, Value.int IntKind.u64 x13.snd.1, Value.int IntKind.u64 x13.snd.snd.1, Value.int IntKind.u64 x13.snd.snd.snd.1, Value.int IntKind.u64 x13.snd.snd.snd.snd.1,
 Value.int IntKind.u64 x13.snd.snd.snd.snd.snd.1, Value.int IntKind.u64 x13.snd.snd.snd.snd.snd.snd.1, Value.int IntKind.u64 x13.snd.snd.snd.snd.snd.snd.2]
 fun (w16 : World) =>
 IfB t12
 (∃ (x17 : Int × Int × Int × Int × Int × Int × Int × Int),
 CellsAt w16 b14 (0 : Nat)
 [Value.int IntKind.u64 x17.1, Value.int IntKind.u64 x17.snd.1, Value.int IntKind.u64 x17.snd.snd.1, Value.int IntKind.u64 x17.snd.snd.snd.1, Value.int IntKind.u64 x17.snd.snd.snd.snd.1,
 Value.int IntKind.u64 x17.snd.snd.snd.snd.snd.1, Value.int IntKind.u64 x17.snd.snd.snd.snd.snd.snd.1, Value.int IntKind.u64 x17.snd.snd.snd.snd.snd.snd.2] ∧
 #[Value.int IntKind.u64 x17.1, Value.int IntKind.u64 x17.snd.1, Value.int IntKind.u64 x17.snd.snd.1, Value.int IntKind.u64 x17.snd.snd.snd.1, Value.int IntKind.u64 x17.snd.snd.snd.snd.1,
 Value.int IntKind.u64 x17.snd.snd.snd.snd.snd.1, Value.int IntKind.u64 x17.snd.snd.snd.snd.snd.snd.1, Value.int IntKind.u64 x17.snd.snd.snd.snd.snd.snd.2].size =
 (8 : Nat) ∧
 StoreP w16 b1 (0 : Nat)
 [Value.int IntKind.u64 x17.1, Value.int IntKind.u64 x17.snd.1, Value.int IntKind.u64 x17.snd.snd.1, Value.int IntKind.u64 x17.snd.snd.snd.1, Value.int IntKind.u64 x17.snd.snd.snd.snd.1,
 Value.int IntKind.u64 x17.snd.snd.snd.snd.snd.1, Value.int IntKind.u64 x17.snd.snd.snd.snd.snd.snd.1, Value.int IntKind.u64 x17.snd.snd.snd.snd.snd.snd.2]
 fun (w18 : World) =>
 ∃ (x19 : Int × Int × Int × Int × Int × Int × Int × Int),
 CellsAt w18 b1 (0 : Nat)
 [Value.int IntKind.u64 x19.1, Value.int IntKind.u64 x19.snd.1, Value.int IntKind.u64 x19.snd.snd.1, Value.int IntKind.u64 x19.snd.snd.snd.1, Value.int IntKind.u64 x19.snd.snd.snd.snd.1,
 Value.int IntKind.u64 x19.snd.snd.snd.snd.snd.1, Value.int IntKind.u64 x19.snd.snd.snd.snd.snd.snd.1, Value.int IntKind.u64 x19.snd.snd.snd.snd.snd.snd.2] ∧
 R
 (Value.tuple
 #[Value.agg
 #[Value.int IntKind.u64 x19.1, Value.int IntKind.u64 x19.snd.1, Value.int IntKind.u64 x19.snd.snd.1, Value.int IntKind.u64 x19.snd.snd.snd.1, Value.int IntKind.u64 x19.snd.snd.snd.snd.1,
 Value.int IntKind.u64 x19.snd.snd.snd.snd.snd.1, Value.int IntKind.u64 x19.snd.snd.snd.snd.snd.snd.1, Value.int IntKind.u64 x19.snd.snd.snd.snd.snd.snd.2],
 Value.int IntKind.i64 (0 : Int)])
 w18)
 (∃ (b20 : Nat),
 ∃ (b21 : Nat),
 t0 = some ({ block := b20, off := b21 } : Addr) ∧
 ∃ (s22 : Sl),
 w16.cell? ({ block := b20, off := b21 + (0 : Nat) } : Addr) = some (Value.slice s22.1 s22.2 s22.3) ∧
 ∃ (b23 : Nat),
 ∃ (b24 : Nat),
 s22.1 = some ({ block := b23, off := b24 } : Addr) ∧
 ((0 : Int) ≤ t1 ∧ t1 < (s22.2 : Int)) ∧
 ∃ (x25 : Int × Int × Int × Int × Int × Int × Int × Int),
 CellsAt w16 b23 (b24 + t1.toNat * (8 : Nat))
 [Value.int IntKind.u64 x25.1, Value.int IntKind.u64 x25.snd.1, Value.int IntKind.u64 x25.snd.snd.1, Value.int IntKind.u64 x25.snd.snd.snd.1, Value.int IntKind.u64 x25.snd.snd.snd.snd.1,
 Value.int IntKind.u64 x25.snd.snd.snd.snd.snd.1, Value.int IntKind.u64 x25.snd.snd.snd.snd.snd.snd.1, Value.int IntKind.u64 x25.snd.snd.snd.snd.snd.snd.2] ∧
 #[Value.int IntKind.u64 x25.1, Value.int IntKind.u64 x25.snd.1, Value.int IntKind.u64 x25.snd.snd.1, Value.int IntKind.u64 x25.snd.snd.snd.1, Value.int IntKind.u64 x25.snd.snd.snd.snd.1,
 Value.int IntKind.u64 x25.snd.snd.snd.snd.snd.1, Value.int IntKind.u64 x25.snd.snd.snd.snd.snd.snd.1, Value.int IntKind.u64 x25.snd.snd.snd.snd.snd.snd.2].size =
 (8 : Nat) ∧
 StoreP w16 b1 (0 : Nat)
 [Value.int IntKind.u64 x25.1, Value.int IntKind.u64 x25.snd.1, Value.int IntKind.u64 x25.snd.snd.1, Value.int IntKind.u64 x25.snd.snd.snd.1, Value.int IntKind.u64 x25.snd.snd.snd.snd.1,
 Value.int IntKind.u64 x25.snd.snd.snd.snd.snd.1, Value.int IntKind.u64 x25.snd.snd.snd.snd.snd.snd.1, Value.int IntKind.u64 x25.snd.snd.snd.snd.snd.snd.2]
 fun (w26 : World) =>
 ∃ (x27 : Int × Int × Int × Int × Int × Int × Int × Int),
 CellsAt w26 b1 (0 : Nat)
 [Value.int IntKind.u64 x27.1, Value.int IntKind.u64 x27.snd.1, Value.int IntKind.u64 x27.snd.snd.1, Value.int IntKind.u64 x27.snd.snd.snd.1, Value.int IntKind.u64 x27.snd.snd.snd.snd.1,
 Value.int IntKind.u64 x27.snd.snd.snd.snd.snd.1, Value.int IntKind.u64 x27.snd.snd.snd.snd.snd.snd.1, Value.int IntKind.u64 x27.snd.snd.snd.snd.snd.snd.2] ∧
 R
 (Value.tuple
 #[Value.agg
 #[Value.int IntKind.u64 x27.1, Value.int IntKind.u64 x27.snd.1, Value.int IntKind.u64 x27.snd.snd.1, Value.int IntKind.u64 x27.snd.snd.snd.1, Value.int IntKind.u64 x27.snd.snd.snd.snd.1,
 Value.int IntKind.u64 x27.snd.snd.snd.snd.snd.1, Value.int IntKind.u64 x27.snd.snd.snd.snd.snd.snd.1, Value.int IntKind.u64 x27.snd.snd.snd.snd.snd.snd.2],
 Value.int IntKind.i64 (0 : Int)])
 w26)
def F41 (t0 : Option Addr) (t1 : Int) (w : World) (R : Value → World → Prop) : Prop :=
 AllocP w
 (Obj.cells
 #[Value.int IntKind.u64 (0 : Int), Value.int IntKind.u64 (0 : Int), Value.int IntKind.u64 (0 : Int), Value.int IntKind.u64 (0 : Int), Value.int IntKind.u64 (0 : Int), Value.int IntKind.u64 (0 : Int),
 Value.int IntKind.u64 (0 : Int), Value.int IntKind.u64 (0 : Int)]
 (67 : Nat))
 fun (b1 : Nat) (w2 : World) =>
 CX Try.prog (76 : Nat) #[Value.pointer t0, Value.int IntKind.i64 t1] w2 fun (v3 : Value) (w4 : World) =>
 ∃ (t5 : Bool),
 v3 = Value.bool t5 ∧
 IfB (!t5)
 (#[Value.int IntKind.u64 (0 : Int), Value.int IntKind.u64 (0 : Int), Value.int IntKind.u64 (0 : Int), Value.int IntKind.u64 (0 : Int), Value.int IntKind.u64 (0 : Int), Value.int IntKind.u64 (0 : Int),
 Value.int IntKind.u64 (0 : Int), Value.int IntKind.u64 (0 : Int)].size =
 (8 : Nat) ∧
 StoreP w4 b1 (0 : Nat)
 [Value.int IntKind.u64 (0 : Int), Value.int IntKind.u64 (0 : Int), Value.int IntKind.u64 (0 : Int), Value.int IntKind.u64 (0 : Int), Value.int IntKind.u64 (0 : Int), Value.int IntKind.u64 (0 : Int),
 Value.int IntKind.u64 (0 : Int), Value.int IntKind.u64 (0 : Int)]
 fun (w6 : World) =>
 ∃ (x7 : Int × Int × Int × Int × Int × Int × Int × Int),
 CellsAt w6 b1 (0 : Nat)
 [Value.int IntKind.u64 x7.1, Value.int IntKind.u64 x7.snd.1, Value.int IntKind.u64 x7.snd.snd.1, Value.int IntKind.u64 x7.snd.snd.snd.1, Value.int IntKind.u64 x7.snd.snd.snd.snd.1,
 Value.int IntKind.u64 x7.snd.snd.snd.snd.snd.1, Value.int IntKind.u64 x7.snd.snd.snd.snd.snd.snd.1, Value.int IntKind.u64 x7.snd.snd.snd.snd.snd.snd.2] ∧
 R
 (Value.tuple
 #[Value.agg
 #[Value.int IntKind.u64 x7.1, Value.int IntKind.u64 x7.snd.1, Value.int IntKind.u64 x7.snd.snd.1, Value.int IntKind.u64 x7.snd.snd.snd.1, Value.int IntKind.u64 x7.snd.snd.snd.snd.1,
 Value.int IntKind.u64 x7.snd.snd.snd.snd.snd.1, Value.int IntKind.u64 x7.snd.snd.snd.snd.snd.snd.1, Value.int IntKind.u64 x7.snd.snd.snd.snd.snd.snd.2],
 Value.int IntKind.i64 (3 : Int)])
 w6)
 (F41k1 t0 w4 t1 b1 R)
theorem F41_ok (t0 : Option Addr) (t1 : Int) (w : World) (R : Value → World → Prop) (h : F41 t0 t1 w R) : CW Try.prog 41 #[Value.pointer t0, Value.int IntKind.i64 t1] w R :=
  call_of tbOk mixed en41 Try.func41 rfl (.nil) (by kernel_rfl) (Nat.le_of_ble_eq_true (by kernel_rfl)) (Eq.mp (α := F41 t0 t1 w R) (by kernel_rfl) h)

def F42 (t0 : Option Addr) (w : World) (R : Value → World → Prop) : Prop :=
 IfB t0.isNone (R (Value.slice none (0 : Nat) (0 : Nat)) w)
 (∃ (b1 : Nat),
 ∃ (b2 : Nat),
 t0 = some ({ block := b1, off := b2 } : Addr) ∧
 ∃ (p3 : Option Nat),
 w.cell? ({ block := b1, off := b2 + (1 : Nat) } : Addr) = some (Value.map p3) ∧
 CX Try.prog (81 : Nat) #[Value.map p3] w fun (v4 : Value) (w5 : World) =>
 ∃ (x6 : Nat × Array Value),
 v4 = Value.func (Fn.func x6.1) #[] x6.2 ∧
 CX Try.prog (80 : Nat) #[Value.func (Fn.func x6.1) #[] x6.2] w5 fun (v7 : Value) (w8 : World) =>
 ∃ (s9 : Sl), v7 = Value.slice s9.1 s9.2 s9.3 ∧ R (Value.slice s9.1 s9.2 s9.3) w8)
theorem F42_ok (t0 : Option Addr) (w : World) (R : Value → World → Prop) (h : F42 t0 w R) : CW Try.prog 42 #[Value.pointer t0] w R :=
  call_of tbOk mixed en42 Try.func42 rfl (.nil) (by kernel_rfl) (Nat.le_of_ble_eq_true (by kernel_rfl)) (Eq.mp (α := F42 t0 w R) (by kernel_rfl) h)

def F43 (t0 : Option Addr) (w : World) (R : Value → World → Prop) : Prop :=
 IfB t0.isNone (R (Value.pointer none) w)
 (∃ (b1 : Nat),
 ∃ (b2 : Nat),
 t0 = some ({ block := b1, off := b2 } : Addr) ∧
 ∃ (s3 : Sl),
 w.drew.cell? ({ block := b1, off := b2 + (0 : Nat) } : Addr) = some (Value.slice s3.1 s3.2 s3.3) ∧
 ∃ (b4 : Nat),
 ∃ (b5 : Nat),
 t0 = some ({ block := b4, off := b5 } : Addr) ∧
 ∃ (p6 : Option Nat),
 w.drew.cell? ({ block := b4, off := b5 + (1 : Nat) } : Addr) = some (Value.map p6) ∧
 ∃ (b7 : Nat),
 ∃ (b8 : Nat),
 t0 = some ({ block := b7, off := b8 } : Addr) ∧
 ∃ (n9 : Int),
 w.drew.cell? ({ block := b7, off := b8 + (2 : Nat) } : Addr) = some (Value.int IntKind.i64 n9) ∧
 ∃ (b10 : Nat),
 ∃ (b11 : Nat),
 t0 = some ({ block := b10, off := b11 } : Addr) ∧
 ∃ (n12 : Int),
 w.drew.cell? ({ block := b10, off := b11 + (3 : Nat) } : Addr) = some (Value.int IntKind.i64 n12) ∧
 CX Try.prog (82 : Nat) #[Value.slice s3.1 s3.2 s3.3] w.drew fun (v13 : Value) (w14 : World) =>
 ∃ (s15 : Sl),
 v13 = Value.slice s15.1 s15.2 s15.3 ∧
 w14.cell? ({ block := b10, off := b11 + (3 : Nat) } : Addr) = some (Value.int IntKind.i64 n12) ∧
 w14.cell? ({ block := b7, off := b8 + (2 : Nat) } : Addr) = some (Value.int IntKind.i64 n9) ∧
 w14.cell? ({ block := b4, off := b5 + (1 : Nat) } : Addr) = some (Value.map p6) ∧
 CX Try.prog (83 : Nat) #[Value.map p6] w14 fun (v16 : Value) (w17 : World) =>
 ∃ (p18 : Option Nat),
 v16 = Value.map p18 ∧
 w17.cell? ({ block := b10, off := b11 + (3 : Nat) } : Addr) = some (Value.int IntKind.i64 n12) ∧
 w17.cell? ({ block := b7, off := b8 + (2 : Nat) } : Addr) = some (Value.int IntKind.i64 n9) ∧
 AllocP w17 (Obj.cells #[Value.slice s15.1 s15.2 s15.3, Value.map p18, Value.int IntKind.i64 n9, Value.int IntKind.i64 n12] (130 : Nat)) fun (b19 : Nat) (w20 : World) =>
 R (Value.pointer (some ({ block := b19, off := (0 : Nat) } : Addr))) w20)
theorem F43_ok (t0 : Option Addr) (w : World) (R : Value → World → Prop) (h : F43 t0 w R) : CW Try.prog 43 #[Value.pointer t0] w R :=
  call_of tbOk mixed en43 Try.func43 rfl (.node (.nil) (.node (.nil) (.node (.draw (.st 0 (.st 1 (.st 2 (.st 3 (.st 5 (.st 6 (.st 7 (.st 8 (.st 10 (.st 11 (.st 12 (.st 13 (.st 14 (.st 15 (.st 16 (.st 17 (.ac 4 [17, 16, 15, 14, 13, 12, 11, 10, 8, 7, 6, 5] (.ac 9 [17, 16, 15, 14, 13, 12, 11, 10] (.st 18 (.ac 19 [] (.st 20 (.fin)) (.non))) (.non)) (.non))))))))))))))))))) (.nil)))) (by kernel_rfl) (Nat.le_of_ble_eq_true (by kernel_rfl)) (Eq.mp (α := F43 t0 w R) (by kernel_rfl) h)

def F44 (t0 : Option Addr) (t1 : Int) (w : World) (R : Value → World → Prop) : Prop :=
 AllocP w
 (Obj.cells
 #[Value.int IntKind.u64 (0 : Int), Value.int IntKind.u64 (0 : Int), Value.int IntKind.u64 (0 : Int), Value.int IntKind.u64 (0 : Int), Value.int IntKind.u64 (0 : Int), Value.int IntKind.u64 (0 : Int),
 Value.int IntKind.u64 (0 : Int), Value.int IntKind.u64 (0 : Int)]
 (67 : Nat))
 fun (b1 : Nat) (w2 : World) =>
 CX Try.prog (76 : Nat) #[Value.pointer t0, Value.int IntKind.i64 t1] w2 fun (v3 : Value) (w4 : World) =>
 ∃ (t5 : Bool),
 v3 = Value.bool t5 ∧
 IfB (!t5)
 (#[Value.int IntKind.u64 (0 : Int), Value.int IntKind.u64 (0 : Int), Value.int IntKind.u64 (0 : Int), Value.int IntKind.u64 (0 : Int), Value.int IntKind.u64 (0 : Int), Value.int IntKind.u64 (0 : Int),
 Value.int IntKind.u64 (0 : Int), Value.int IntKind.u64 (0 : Int)].size =
 (8 : Nat) ∧
 StoreP w4 b1 (0 : Nat)
 [Value.int IntKind.u64 (0 : Int), Value.int IntKind.u64 (0 : Int), Value.int IntKind.u64 (0 : Int), Value.int IntKind.u64 (0 : Int), Value.int IntKind.u64 (0 : Int), Value.int IntKind.u64 (0 : Int),
 Value.int IntKind.u64 (0 : Int), Value.int IntKind.u64 (0 : Int)]
 fun (w6 : World) =>
 ∃ (x7 : Int × Int × Int × Int × Int × Int × Int × Int),
 CellsAt w6 b1 (0 : Nat)
 [Value.int IntKind.u64 x7.1, Value.int IntKind.u64 x7.snd.1, Value.int IntKind.u64 x7.snd.snd.1, Value.int IntKind.u64 x7.snd.snd.snd.1, Value.int IntKind.u64 x7.snd.snd.snd.snd.1,
 Value.int IntKind.u64 x7.snd.snd.snd.snd.snd.1, Value.int IntKind.u64 x7.snd.snd.snd.snd.snd.snd.1, Value.int IntKind.u64 x7.snd.snd.snd.snd.snd.snd.2] ∧
 R
 (Value.agg
 #[Value.int IntKind.u64 x7.1, Value.int IntKind.u64 x7.snd.1, Value.int IntKind.u64 x7.snd.snd.1, Value.int IntKind.u64 x7.snd.snd.snd.1, Value.int IntKind.u64 x7.snd.snd.snd.snd.1,
 Value.int IntKind.u64 x7.snd.snd.snd.snd.snd.1, Value.int IntKind.u64 x7.snd.snd.snd.snd.snd.snd.1, Value.int IntKind.u64 x7.snd.snd.snd.snd.snd.snd.2])
 w6)
 (∃ (b8 : Nat),
 ∃ (b9 : Nat),
 t0 = some ({ block := b8, off := b9 } : Addr) ∧
 ∃ (s10 : Sl),
 w4.cell? ({ block := b8, off := b9 + (0 : Nat) } : Addr) = some (Value.slice s10.1 s10.2 s10.3) ∧
 ∃ (b11 : Nat),
 ∃ (b12 : Nat),
 s10.1 = some ({ block := b11, off := b12 } : Addr) ∧
 ((0 : Int) ≤ t1 ∧ t1 < (s10.2 : Int)) ∧
 ∃ (x13 : Int × Int × Int × Int × Int × Int × Int × Int),
 CellsAt w4 b11 (b12 + t1.toNat * (8 : Nat))
 [Value.int IntKind.u64 x13.1, Value.int IntKind.u64 x13.snd.1, Value.int IntKind.u64 x13.snd.snd.1, Value.int IntKind.u64 x13.snd.snd.snd.1, Value.int IntKind.u64 x13.snd.snd.snd.snd.1,
 Value.int IntKind.u64 x13.snd.snd.snd.snd.snd.1, Value.int IntKind.u64 x13.snd.snd.snd.snd.snd.snd.1, Value.int IntKind.u64 x13.snd.snd.snd.snd.snd.snd.2] ∧
 #[Value.int IntKind.u64 x13.1, Value.int IntKind.u64 x13.snd.1, Value.int IntKind.u64 x13.snd.snd.1, Value.int IntKind.u64 x13.snd.snd.snd.1, Value.int IntKind.u64 x13.snd.snd.snd.snd.1,
 Value.int IntKind.u64 x13.snd.snd.snd.snd.snd.1, Value.int IntKind.u64 x13.snd.snd.snd.snd.snd.snd.1, Value.int IntKind.u64 x13.snd.snd.snd.snd.snd.snd.2].size =
 (8 : Nat) ∧
 StoreP w4 b1 (0 : Nat)
 [Value.int IntKind.u64 x13.1, Value.int IntKind.u64 x13.snd.1, Value.int IntKind.u64 x13.snd.snd.1, Value.int IntKind.u64 x13.snd.snd.snd.1, Value.int IntKind.u64 x13.snd.snd.snd.snd.1,
 Value.int IntKind.u64 x13.snd.snd.snd.snd.snd.1, Value.int IntKind.u64 x13.snd.snd.snd.snd.snd.snd.1, Value.int IntKind.u64 x13.snd.snd.snd.snd.snd.snd.2]
 fun (w14 : World) =>
 ∃ (x15 : Int × Int × Int × Int × Int × Int × Int × Int),
 CellsAt w14 b1 (0 : Nat)
 [Value.int IntKind.u64 x15.1, Value.int IntKind.u64 x15.snd.1, Value.int IntKind.u64 x15.snd.snd.1, Value.int IntKind.u64 x15.snd.snd.snd.1, Value.int IntKind.u64 x15.snd.snd.snd.snd.1,
 Value.int IntKind.u64 x15.snd.snd.snd.snd.snd.1, Value.int IntKind.u64 x15.snd.snd.snd.snd.snd.snd.1, Value.int IntKind.u64 x15.snd.snd.snd.snd.snd.snd.2] ∧
 R
 (Value.agg
 #[Value.int IntKind.u64 x15.1, Value.int IntKind.u64 x15.snd.1, Value.int IntKind.u64 x15.snd.snd.1, Value.int IntKind.u64 x15.snd.snd.snd.1, Value.int IntKind.u64 x15.snd.snd.snd.snd.1,
 Value.int IntKind.u64 x15.snd.snd.snd.snd.snd.1, Value.int IntKind.u64 x15.snd.snd.snd.snd.snd.snd.1, Value.int IntKind.u64 x15.snd.snd.snd.snd.snd.snd.2])
 w14)
theorem F44_ok (t0 : Option Addr) (t1 : Int) (w : World) (R : Value → World → Prop) (h : F44 t0 t1 w R) : CW Try.prog 44 #[Value.pointer t0, Value.int IntKind.i64 t1] w R :=
  call_of tbOk mixed en44 Try.func44 rfl (.nil) (by kernel_rfl) (Nat.le_of_ble_eq_true (by kernel_rfl)) (Eq.mp (α := F44 t0 t1 w R) (by kernel_rfl) h)

def F45 (t0 : Option Addr) (w : World) (R : Value → World → Prop) : Prop :=
 IfB t0.isNone (R (Value.int IntKind.i64 (0 : Int)) w)
 (∃ (b1 : Nat), ∃ (b2 : Nat), t0 = some ({ block := b1, off := b2 } : Addr) ∧ ∃ (s3 : Sl), w.cell? ({ block := b1, off := b2 + (0 : Nat) } : Addr) = some (Value.slice s3.1 s3.2 s3.3) ∧ R (Value.int IntKind.i64 (s3.2 : Int)) w)
theorem F45_ok (t0 : Option Addr) (w : World) (R : Value → World → Prop) (h : F45 t0 w R) : CW Try.prog 45 #[Value.pointer t0] w R :=
  call_of tbOk mixed en45 Try.func45 rfl (.nil) (by kernel_rfl) (Nat.le_of_ble_eq_true (by kernel_rfl)) (Eq.mp (α := F45 t0 w R) (by kernel_rfl) h)

def F46 (t0 : Option Addr) (w : World) (R : Value → World → Prop) : Prop :=
 IfB t0.isNone (R (Value.int IntKind.i64 (0 : Int)) w)
 (∃ (b1 : Nat), ∃ (b2 : Nat), t0 = some ({ block := b1, off := b2 } : Addr) ∧ ∃ (n3 : Int), w.cell? ({ block := b1, off := b2 + (2 : Nat) } : Addr) = some (Value.int IntKind.i64 n3) ∧ R (Value.int IntKind.i64 n3) w)
theorem F46_ok (t0 : Option Addr) (w : World) (R : Value → World → Prop) (h : F46 t0 w R) : CW Try.prog 46 #[Value.pointer t0] w R :=
  call_of tbOk mixed en46 Try.func46 rfl (.nil) (by kernel_rfl) (Nat.le_of_ble_eq_true (by kernel_rfl)) (Eq.mp (α := F46 t0 w R) (by kernel_rfl) h)

def F47 (t0 : Option Addr) (w : World) (R : Value → World → Prop) : Prop :=
 IfB t0.isNone (R (Value.int IntKind.i64 (0 : Int)) w)
 (∃ (b1 : Nat), ∃ (b2 : Nat), t0 = some ({ block := b1, off := b2 } : Addr) ∧ ∃ (n3 : Int), w.cell? ({ block := b1, off := b2 + (3 : Nat) } : Addr) = some (Value.int IntKind.i64 n3) ∧ R (Value.int IntKind.i64 n3) w)
theorem F47_ok (t0 : Option Addr) (w : World) (R : Value → World → Prop) (h : F47 t0 w R) : CW Try.prog 47 #[Value.pointer t0] w R :=
  call_of tbOk mixed en47 Try.func47 rfl (.nil) (by kernel_rfl) (Nat.le_of_ble_eq_true (by kernel_rfl)) (Eq.mp (α := F47 t0 w R) (by kernel_rfl) h)

def F48 (t0 : Int) (w : World) (R : Value → World → Prop) : Prop :=
 (((0 : Int) ≤ t0 ∧ t0 ≤ t0 ∧ t0 ≤ (281474976710656 : Int) ∧ ((64 : Nat) : Int) * t0 ≤ (281474976710656 : Int)) ∧
 AllocP w.drew
 (Obj.cells
 { toList := zc #[Value.int IntKind.u64 (0 : Int), Value.int IntKind.u64 (0 : Int), Value.int IntKind.u64 (0 : Int), Value.int IntKind.u64 (0 : Int), Value.int IntKind.u64 (0 : Int), Value.int IntKind.u64 (0 : Int), Value.int IntKind.u64 (0 : Int), Value.int IntKind.u64 (0 : Int)] t0.toNat }
 (67 : Nat))
 fun (b1 : Nat) (w2 : World) =>
 (((0 : Int) ≤ t0 ∧ t0 ≤ t0 ∧ t0 ≤ (281474976710656 : Int) ∧ ((64 : Nat) : Int) * t0 ≤ (281474976710656 : Int)) ∧
 AllocP w2
 (Obj.cells
 { toList := zc #[Value.int IntKind.u64 (0 : Int), Value.int IntKind.u64 (0 : Int), Value.int IntKind.u64 (0 : Int), Value.int IntKind.u64 (0 : Int), Value.int IntKind.u64 (0 : Int), Value.int IntKind.u64 (0 : Int), Value.int IntKind.u64 (0 : Int), Value.int IntKind.u64 (0 : Int)] t0.toNat }
 (67 : Nat))
 fun (b3 : Nat) (w4 : World) =>
 ((0 : Int) ≤ t0 ∧ t0 ≤ t0 ∧ t0 ≤ (281474976710656 : Int) ∧ ((1 : Nat) : Int) * t0 ≤ (281474976710656 : Int)) ∧
 AllocP w4 (Obj.cells { toList := zc #[Value.bool false] t0.toNat } (4 : Nat)) fun (b5 : Nat) (w6 : World) =>
 AllocP w6
 (Obj.cells
 #[Value.slice (some ({ block := b1, off := (0 : Nat) } : Addr)) t0.toNat t0.toNat, Value.slice (some ({ block := b3, off := (0 : Nat) } : Addr)) t0.toNat t0.toNat,
 Value.slice (some ({ block := b5, off := (0 : Nat) } : Addr)) t0.toNat t0.toNat]
 (137 : Nat))
 fun (b7 : Nat) (w8 : World) => R (Value.pointer (some ({ block := b7, off := (0 : Nat) } : Addr))) w8) ∧
 ((0 : Int) ≤ t0 ∧ t0 ≤ t0 ∧ t0 ≤ (281474976710656 : Int) ∧ ((1 : Nat) : Int) * t0 ≤ (281474976710656 : Int)) ∧
 AllocP w2 (Obj.cells { toList := zc #[Value.bool false] t0.toNat } (4 : Nat)) fun (b9 : Nat) (w10 : World) =>
 ((0 : Int) ≤ t0 ∧ t0 ≤ t0 ∧ t0 ≤ (281474976710656 : Int) ∧ ((64 : Nat) : Int) * t0 ≤ (281474976710656 : Int)) ∧
 AllocP w10
 (Obj.cells
 { toList := zc #[Value.int IntKind.u64 (0 : Int), Value.int IntKind.u64 (0 : Int), Value.int IntKind.u64 (0 : Int), Value.int IntKind.u64 (0 : Int), Value.int IntKind.u64 (0 : Int), Value.int IntKind.u64 (0 : Int), Value.int IntKind.u64 (0 : Int), Value.int IntKind.u64 (0 : Int)] t0.toNat }
 (67 : Nat))
 fun (b11 : Nat) (w12 : World) =>
 AllocP w12
 (Obj.cells
 #[Value.slice (some ({ block := b1, off := (0 : Nat) } : Addr)) t0.toNat t0.toNat, Value.slice (some ({ block := b11, off := (0 : Nat) } : Addr)) t0.toNat t0.toNat,
 Value.slice (some ({ block := b9, off := (0 : Nat) } : Addr)) t0.toNat t0.toNat]
 (137 : Nat))
 fun (b13 : Nat) (w14 : World) => R (Value.pointer (some ({ block := b13, off := (0 : Nat) } : Addr))) w14) ∧
 (((0 : Int) ≤ t0 ∧ t0 ≤ t0 ∧ t0 ≤ (281474976710656 : Int) ∧ ((64 : Nat) : Int) * t0 ≤ (281474976710656 : Int)) ∧
 AllocP w.drew
 (Obj.cells
 { toList := zc #[Value.int IntKind.u64 (0 : Int), Value.int IntKind.u64 (0 : Int), Value.int IntKind.u64 (0 : Int), Value.int IntKind.u64 (0 : Int), Value.int IntKind.u64 (0 : Int), Value.int IntKind.u64 (0 : Int), Value.int IntKind.u64 (0 : Int), Value.int IntKind.u64 (0 : Int)] t0.toNat }
 (67 : Nat))
 fun (b15 : Nat) (w16 : World) =>
 (((0 : Int) ≤ t0 ∧ t0 ≤ t0 ∧ t0 ≤ (281474976710656 : Int) ∧ ((64 : Nat) : Int) * t0 ≤ (281474976710656 : Int)) ∧
 AllocP w16
 (Obj.cells
 { toList := zc #[Value.int IntKind.u64 (0 : Int), Value.int IntKind.u64 (0 : Int), Value.int IntKind.u64 (0 : Int), Value.int IntKind.u64 (0 : Int), Value.int IntKind.u64 (0 : Int), Value.int IntKind.u64 (0 : Int), Value.int IntKind.u64 (0 : Int), Value.int IntKind.u64 (0 : Int)] t0.toNat }
 (67 : Nat))
 fun (b17 : Nat) (w18 : World) =>
 ((0 : Int) ≤ t0 ∧ t0 ≤ t0 ∧ t0 ≤ (281474976710656 : Int) ∧ ((1 : Nat) : Int) * t0 ≤ (281474976710656 : Int)) ∧
 AllocP w18 (Obj.cells { toList := zc #[Value.bool false] t0.toNat } (4 : Nat)) fun (b19 : Nat) (w20 : World) =>
 AllocP w20
 (Obj.cells
 #[Value.slice (some ({ block := b17, off := (0 : Nat) } : Addr)) t0.toNat t0.toNat, Value.slice (some ({ block := b15, off := (0 : Nat) } : Addr)) t0.toNat t0.toNat,
 Value.slice (some ({ block := b19, off := (0 : Nat) } : Addr)) t0.toNat t0.toNat]
 (137 : Nat))
 fun (b21 : Nat) (w22 : World) => R (Value.pointer (some ({ block := b21, off := (0 : Nat) } : Addr))) w22) ∧
 ((0 : Int) ≤ t0 ∧ t0 ≤ t0 ∧ t0 ≤ (281474976710656 : Int) ∧ ((1 : Nat) : Int) * t0 ≤ (281474976710656 : Int)) ∧
 AllocP w16 (Obj.cells { toList := zc #[Value.bool false] t0.toNat } (4 : Nat)) fun (b23 : Nat) (w24 : World) =>
 ((0 : Int) ≤ t0 ∧ t0 ≤ t0 ∧ t0 ≤ (281474976710656 : Int) ∧ ((64 : Nat) : Int) * t0 ≤ (281474976710656 : Int)) ∧
 AllocP w24
 (Obj.cells
 { toList := zc #[Value.int IntKind.u64 (0 : Int), Value.int IntKind.u64 (0 : Int), Value.int IntKind.u64 (0 : Int), Value.int IntKind.u64 (0 : Int), Value.int IntKind.u64 (0 : Int), Value.int IntKind.u64 (0 : Int), Value.int IntKind.u64 (0 : Int), Value.int IntKind.u64 (0 : Int)] t0.toNat }
 (67 : Nat))
 fun (b25 : Nat) (w26 : World) =>
 AllocP w26
 (Obj.cells
 #[Value.slice (some ({ block := b25, off := (0 : Nat) } : Addr)) t0.toNat t0.toNat, Value.slice (some ({ block := b15, off := (0 : Nat) } : Addr)) t0.toNat t0.toNat,
 Value.slice (some ({ block := b23, off := (0 : Nat) } : Addr)) t0.toNat t0.toNat]
 (137 : Nat))
 fun (b27 : Nat) (w28 : World) => R (Value.pointer (some ({ block := b27, off := (0 : Nat) } : Addr))) w28) ∧
 ((0 : Int) ≤ t0 ∧ t0 ≤ t0 ∧ t0 ≤ (281474976710656 : Int) ∧ ((1 : Nat) : Int) * t0 ≤ (281474976710656 : Int)) ∧
 AllocP w.drew (Obj.cells { toList := zc #[Value.bool false] t0.toNat } (4 : Nat)) fun (b29 : Nat) (w30 : World) =>
 (((0 : Int) ≤ t0 ∧ t0 ≤ t0 ∧ t0 ≤ (281474976710656 : Int) ∧ ((64 : Nat) : Int) * t0 ≤ (281474976710656 : Int)) ∧
 AllocP w30
 (Obj.cells
 { toList := zc #[Value.int IntKind.u64 (0 : Int), Value.int IntKind.u64 (0 : Int), Value.int IntKind.u64 (0 : Int), Value.int IntKind.u64 (0 : Int), Value.int IntKind.u64 (0 : Int), Value.int IntKind.u64 (0 : Int), Value.int IntKind.u64 (0 : Int), Value.int IntKind.u64 (0 : Int)] t0.toNat }
 (67 : Nat))
 fun (b31 : Nat) (w32 : World) =>
 ((0 : Int) ≤ t0 ∧ t0 ≤ t0 ∧ t0 ≤ (281474976710656 : Int) ∧ ((64 : Nat) : Int) * t0 ≤ (281474976710656 : Int)) ∧
 AllocP w32
 (Obj.cells
 { toList := zc #[Value.int IntKind.u64 (0 : Int), Value.int IntKind.u64 (0 : Int), Value.int IntKind.u64 (0 : Int), Value.int IntKind.u64 (0 : Int), Value.int IntKind.u64 (0 : Int), Value.int IntKind.u64 (0 : Int), Value.int IntKind.u64 (0 : Int), Value.int IntKind.u64 (0 : Int)] t0.toNat }
 (67 : Nat))
 fun (b33 : Nat) (w34 : World) =>
 AllocP w34
 (Obj.cells
 #[Value.slice (some ({ block := b31, off := (0 : Nat) } : Addr)) t0.toNat t0.toNat, Value.slice (some ({ block := b33, off := (0 : Nat) } : Addr)) t0.toNat t0.toNat,
 Value.slice (some ({ block := b29, off := (0 : Nat) } : Addr)) t0.toNat t0.toNat]
 (137 : Nat))
 fun (b35 : Nat) (w36 : World) => R (Value.pointer (some ({ block := b35, off := (0 : Nat) } : Addr))) w36) ∧
 ((0 : Int) ≤ t0 ∧ t0 ≤ t0 ∧ t0 ≤ (281474976710656 : Int) ∧ ((64 : Nat) : Int) * t0 ≤ (281474976710656 : Int)) ∧
 AllocP w30
 (Obj.cells
 { toList := zc #[Value.int IntKind.u64 (0 : Int), Value.int IntKind.u64 (0 : Int), Value.int IntKind.u64 (0 : Int), Value.int IntKind.u64 (0 : Int), Value.int IntKind.u64 (0 : Int), Value.int IntKind.u64 (0 : Int), Value.int IntKind.u64 (0 : Int), Value.int IntKind.u64 (0 : Int)] t0.toNat }
 (67 : Nat))
 fun (b37 : Nat) (w38 : World) =>
 ((0 : Int) ≤ t0 ∧ t0 ≤ t0 ∧ t0 ≤ (281474976710656 : Int) ∧ ((64 : Nat) : Int) * t0 ≤ (281474976710656 : Int)) ∧
 AllocP w38
 (Obj.cells
 { toList := zc #[Value.int IntKind.u64 (0 : Int), Value.int IntKind.u64 (0 : Int), Value.int IntKind.u64 (0 : Int), Value.int IntKind.u64 (0 : Int), Value.int IntKind.u64 (0 : Int), Value.int IntKind.u64 (0 : Int), Value.int IntKind.u64 (0 : Int), Value.int IntKind.u64 (0 : Int)] t0.toNat }
 (67 : Nat))
 fun (b39 : Nat) (w40 : World) =>
 AllocP w40
 (Obj.cells
 #[Value.slice (some ({ block := b39, off := (0 : Nat) } : Addr)) t0.toNat t0.toNat, Value.slice (some ({ block := b37, off := (0 : Nat) } : Addr)) t0.toNat t0.toNat,
 Value.slice (some ({ block := b29, off := (0 : Nat) } : Addr)) t0.toNat t0.toNat]
 (137 : Nat))
 fun (b41 : Nat) (w42 : World) => R (Value.pointer (some ({ block := b41, off := (0 : Nat) } : Addr))) w42
theorem F48_ok (t0 : Int) (w : World) (R : Value → World → Prop) (h : F48 t0 w R) : CW Try.prog 48 #[Value.int IntKind.i64 t0] w R :=
  call_of tbOk mixed en48 Try.func48 rfl (.node (.nil) (.node (.draw (.st 0 (.st 2 (.st 4 (.ac 1 [4, 2] (.ac 3 [4] (.ac 5 [] (.st 6 (.ac 7 [] (.st 8 (.fin)) (.non))) (.non)) (.ac 5 [2] (.ac 3 [] (.st 6 (.ac 7 [] (.st 8 (.fin)) (.non))) (.non)) (.non))) (.ac 3 [4, 0] (.ac 1 [4] (.ac 5 [] (.st 6 (.ac 7 [] (.st 8 (.fin)) (.non))) (.non)) (.ac 5 [0] (.ac 1 [] (.st 6 (.ac 7 [] (.st 8 (.fin)) (.non))) (.non)) (.non))) (.ac 5 [2, 0] (.ac 1 [2] (.ac 3 [] (.st 6 (.ac 7 [] (.st 8 (.fin)) (.non))) (.non)) (.ac 3 [0] (.ac 1 [] (.st 6 (.ac 7 [] (.st 8 (.fin)) (.non))) (.non)) (.non))) (.non)))))))) (.nil))) (by kernel_rfl) (Nat.le_of_ble_eq_true (by kernel_rfl)) (Eq.mp (α := F48 t0 w R) (by kernel_rfl) h)

def F49j1 (t0 : Option Addr) (R : Value → World → Prop) (y1 : Nat → Int → World → Prop) (b3 : Nat) (n4 : Int) (w5 : World) : Prop :=
 ∃ (b8 : Nat),
 ∃ (b9 : Nat),
 t0 = some ({ block := b8, off := b9 } : Addr) ∧
 ∃ (s10 : Sl),
 w5.cell? ({ block := b8, off := b9 + (1 : Nat) } : Addr) = some (Value.slice s10.1 s10.2 s10.3) ∧
 IfB (decide (n4 < (s10.n : Int)))
 (∃ (b11 : Nat),
 ∃ (b12 : Nat),
 t0 = some ({ block := b11, off := b12 } : Addr) ∧
 ∃ (s13 : Sl),
 w5.drew.cell? ({ block := b11, off := b12 + (0 : Nat) } : Addr) = some (Value.slice s13.1 s13.2 s13.3) ∧
 ∃ (b14 : Nat),
 ∃ (b15 : Nat),
 t0 = some ({ block := b14, off := b15 } : Addr) ∧
 ∃ (s16 : Sl),
 w5.drew.cell? ({ block := b14, off := b15 + (1 : Nat) } : Addr) = some (Value.slice s16.1 s16.2 s16.3) ∧
 ∃ (b17 : Nat),
 ∃ (b18 : Nat),
 s16.1 = some ({ block := b17, off := b18 } : Addr) ∧
 ((0 : Int) ≤ n4 ∧ n4 < (s16.2 : Int)) ∧
 ∃ (x19 : Int × Int × Int × Int × Int × Int × Int × Int),
 CellsAt w5.drew b17 (b18 + n4.toNat * (8 : Nat))
 [Value.int IntKind.u64 x19.1, Value.int IntKind.u64 x19.snd.1, Value.int IntKind.u64 x19.snd.snd.1, Value.int IntKind.u64 x19.snd.snd.snd.1, Value.int IntKind.u64 x19.snd.snd.snd.snd.1,
 Value.int IntKind.u64 x19.snd.snd.snd.snd.snd.1, Value.int IntKind.u64 x19.snd.snd.snd.snd.snd.snd.1, Value.int IntKind.u64 x19.snd.snd.snd.snd.snd.snd.2] ∧
 ∃ (b20 : Nat),
 ∃ (b21 : Nat),
 s13.1 = some ({ block := b20, off := b21 } : Addr) ∧
 ((0 : Int) ≤ n4 ∧ n4 < (s13.2 : Int)) ∧
 #[Value.int IntKind.u64 x19.1, Value.int IntKind.u64 x19.snd.1, Value.int IntKind.u64 x19.snd.snd.1, Value.int IntKind.u64 x19.snd.snd.snd.1, Value.int IntKind.u64 x19.snd.snd.snd.snd.1,
 Value.int IntKind.u64 x19.snd.snd.snd.snd.snd.1, Value.int IntKind.u64 x19.snd.snd.snd.snd.snd.snd.1, Value.int IntKind.u64 x19.snd.snd.snd.snd.snd.snd.2].size =
 (8 : Nat) ∧
 StoreP w5.drew b20 (b21 + n4.toNat * (8 : Nat))
 [Value.int IntKind.u64 x19.1, Value.int IntKind.u64 x19.snd.1, Value.int IntKind.u64 x19.snd.snd.1, Value.int IntKind.u64 x19.snd.snd.snd.1, Value.int IntKind.u64 x19.snd.snd.snd.snd.1,
 Value.int IntKind.u64 x19.snd.snd.snd.snd.snd.1, Value.int IntKind.u64 x19.snd.snd.snd.snd.snd.snd.1, Value.int IntKind.u64 x19.snd.snd.snd.snd.snd.snd.2]
 fun (w22 : World) =>
 ∃ (b23 : Nat),
 ∃ (b24 : Nat),
 t0 = some ({ block := b23, off := b24 } : Addr) ∧
 ∃ (s25 : Sl),
 w22.cell? ({ block := b23, off := b24 + (2 : Nat) } : Addr) = some (Value.slice s25.1 s25.2 s25.3) ∧
 ∃ (b26 : Nat),
 ∃ (b27 : Nat),
 s25.1 = some ({ block := b26, off := b27 } : Addr) ∧
 ((0 : Int) ≤ n4 ∧ n4 < (s25.2 : Int)) ∧
 #[Value.bool false].size = (1 : Nat) ∧
 StoreP w22 b26 (b27 + n4.toNat) [Value.bool false] fun (w28 : World) => ([] : List Nat) = [] ∧ ∃ (b29 : Nat), b29 < b3 ∧ y1 b29 (IntKind.i64.wrap (n4 + (1 : Int))) w28)
 (R (Value.tuple #[]) w5)
def F49 (t0 : Option Addr) (w : World) (R : Value → World → Prop) : Prop :=
 ∃ (y1 : Nat → Int → World → Prop),
 (∃ (b2 : Nat), y1 b2 (0 : Int) w) ∧
 ∀ (b3 : Nat) (n4 : Int) (w5 : World) (y6 : Nat → Value),
 y1 b3 n4 w5 →
 (F49j1 t0 R y1 b3 n4 w5)
theorem F49_ok (t0 : Option Addr) (w : World) (R : Value → World → Prop) (h : F49 t0 w R) : CW Try.prog 49 #[Value.pointer t0] w R :=
  call_of tbOk mixed en49 Try.func49 rfl (.node (.nil) (.loop [(2, .one (.int .i64))] [3, 4, 5, 6, 7, 8, 9, 12, 13, 14, 15, 16, 17, 18, 19, 20, 21, 22, 23, 24, 25, 26, 27, 28, 29, 30, 10, 11, 2] (.node (.nil) (.node (.node (.draw (.st 0 (.st 1 (.st 2 (.st 3 (.st 4 (.st 5 (.st 6 (.st 7 (.st 8 (.st 9 (.st 10 (.st 11 (.st 12 (.ac 13 [] (.fin) (.non)))))))))))))))) (.nil)) (.nil))))) (by kernel_rfl) (Nat.le_of_ble_eq_true (by kernel_rfl)) (Eq.mp (α := F49 t0 w R) (by kernel_rfl) h)

def F50k2 (t0 : Option Addr) (w5 : World) (x4 : Int × Int) (b3 : Nat) (y1 : Nat → Int × Int → World → Prop) : Prop :=
 ∃ (b21 : Nat),
 ∃ (b22 : Nat),
 t0 = some ({ block := b21, off := b22 } : Addr) ∧
 ∃ (s23 : Sl),
 w5.drew.cell? ({ block := b21, off := b22 + (0 : Nat) } : Addr) = some (Value.slice s23.1 s23.2 s23.3) ∧
 ∃ (b24 : Nat),
 ∃ (b25 : Nat),
 t0 = some ({ block := b24, off := b25 } : Addr) ∧
 ∃ (s26 : Sl),
 w5.drew.cell? ({ block := b24, off := b25 + (1 : Nat) } : Addr) = some (Value.slice s26.1 s26.2 s26.3) ∧
 ∃ (b27 : Nat),
 ∃ (b28 : Nat),
 s26.1 = some ({ block := b27, off := b28 } : Addr) ∧
 ((0 : Int) ≤ x4.2 ∧ x4.2 < (s26.2 : Int)) ∧
 ∃ (x29 : Int × Int × Int × Int × Int × Int × Int × Int),
 CellsAt w5.drew b27 (b28 + x4.2.toNat * (8 : Nat))
 [Value.int IntKind.u64 x29.1, Value.int IntKind.u64 x29.snd.1, Value.int IntKind.u64 x29.snd.snd.1, Value.int IntKind.u64 x29.snd.snd.snd.1, Value.int IntKind.u64 x29.snd.snd.snd.snd.1,
 Value.int IntKind.u64 x29.snd.snd.snd.snd.snd.1, Value.int IntKind.u64 x29.snd.snd.snd.snd.snd.snd.1, Value.int IntKind.u64 x29.snd.snd.snd.snd.snd.snd.2] ∧
 ∃ (b30 : Nat),
 ∃ (b31 : Nat),
 s23.1 = some ({ block := b30, off := b31 } : Addr) ∧
 ((0 : Int) ≤ x4.2 ∧ x4.2 < (s23.2 : Int)) ∧
 #[Value.int IntKind.u64 x29.1, Value.int IntKind.u64 x29.snd.1, Value.int IntKind.u64 x29.snd.snd.1, Value.int IntKind.u64 x29.snd.snd.snd.1, Value.int IntKind.u64 x29.snd.snd.snd.snd.1,
 Value.int IntKind.u64 x29.snd.snd.snd.snd.snd.1, Value.int IntKind.u64 x29.snd.snd.snd.snd.snd.snd.1, Value.int IntKind.u64 x29.snd.snd.snd.snd.snd.snd.2].size =
 (8 : Nat) ∧
 StoreP w5.drew b30 (b31 + x4.2.toNat * (8 : Nat))
 [Value.int IntKind.u64 x29.1, Value.int IntKind.u64 x29.snd.1, Value.int IntKind.u64 x29.snd.snd.1, Value.int IntKind.u64 x29.snd.snd.snd.1, Value.int IntKind.u64 x29.snd.snd.snd.snd.1,
 Value.int IntKind.u64 x29.snd.snd.snd.snd.snd.1, Value.int IntKind.u64 x29.snd.snd.snd.snd.snd.snd.1, Value.int IntKind.u64 x29.snd.snd.snd.snd.snd.snd.2]
 fun (w32 : World) =>
 ∃ (b33 : Nat),
 ∃ (b34 : Nat),
 t0 = some ({ block := b33, off := b34 } : Addr) ∧
 ∃ (s35 : Sl),
 w32.drew.cell? ({ block := b33, off := b34 + (1 : Nat) } : Addr) = some (Value.slice s35.1 s35.2 s35.3) ∧
 ∃ (b36 : Nat),
 ∃ (b37 : Nat),
 t0 = some ({ block := b36, off := b37 } : Addr) ∧
 ∃ (s38 : Sl),
 w32.drew.cell? ({ block := b36, off := b37 + (0 : Nat) } : Addr) = some (Value.slice s38.1 s38.2 s38.3) ∧
 ∃ (b39 : Nat),
 ∃ (b40 : Nat),
 s38.1 = some ({ block := b39, off := b40 } : Addr) ∧
 ((0 : Int) ≤ x4.2 ∧ x4.2 < (s38.2 : Int)) ∧
 ∃ (x41 : Int × Int × Int × Int × Int × Int × Int × Int),
 CellsAt w32.drew b39 (b40 + x4.2.toNat * (8 : Nat))
 [Value.int IntKind.u64 x41.1, Value.int IntKind.u64 x41.snd.1, Value.int IntKind.u64 x41.snd.snd.1, Value.int IntKind.u64 x41.snd.snd.snd.1, Value.int IntKind.u64 x41.snd.snd.snd.snd.1,
 Value.int IntKind.u64 x41.snd.snd.snd.snd.snd.1, Value.int IntKind.u64 x41.snd.snd.snd.snd.snd.snd.1, Value.int IntKind.u64 x41.snd.snd.snd.snd.snd.snd.2] ∧
 ∃ (b42 : Nat),
 ∃ (b43 : Nat),
 s35.1 = some ({ block := b42, off := b43 } : Addr) ∧
 ((0 : Int) ≤ x4.2 ∧ x4.2 < (s35.2 : Int)) ∧
 #[Value.int IntKind.u64 x41.1, Value.int IntKind.u64 x41.snd.1, Value.int IntKind.u64 x41.snd.snd.1, Value.int IntKind.u64 x41.snd.snd.snd.1, Value.int IntKind.u64 x41.snd.snd.snd.snd.1,
 Value.int IntKind.u64 x41.snd.snd.snd.snd.snd.1, Value.int IntKind.u64 x41.snd.snd.snd.snd.snd.snd.1, Value.int IntKind.u64 x41.snd.snd.snd.snd.snd.snd.2].size =
 (8 : Nat) ∧
 StoreP w32.drew b42 (b43 + x4.2.toNat * (8 : Nat))
 [Value.int IntKind.u64 x41.1, Value.int IntKind.u64 x41.snd.1, Value.int IntKind.u64 x41.snd.snd.1, Value.int IntKind.u64 x41.snd.snd.snd.1, Value.int IntKind.u64 x41.snd.snd.snd.snd.1,
 Value.int IntKind.u64 x41.snd.snd.snd.snd.snd.1, Value.int IntKind.u64 x41.snd.snd.snd.snd.snd.snd.1, Value.int IntKind.u64 x41.snd.snd.snd.snd.snd.snd.2]
 fun (w44 : World) =>
 ∃ (b45 : Nat),
 ∃ (b46 : Nat),
 t0 = some ({ block := b45, off := b46 } : Addr) ∧
 ∃ (s47 : Sl),
 w44.cell? ({ block := b45, off := b46 + (2 : Nat) } : Addr) = some (Value.slice s47.1 s47.2 s47.3) ∧
 ∃ (b48 : Nat),
 ∃ (b49 : Nat),
 s47.1 = some ({ block := b48, off := b49 } : Addr) ∧
 ((0 : Int) ≤ x4.2 ∧ x4.2 < (s47.2 : Int)) ∧
 #[Value.bool false].size = (1 : Nat) ∧
 StoreP w44 b48 (b49 + x4.2.toNat) [Value.bool false] fun (w50 : World) => ([] : List Nat) = [] ∧ ∃ (b51 : Nat), b51 < b3 ∧ y1 b51 (IntKind.i64.wrap (x4.1 + (1 : Int)), IntKind.i64.wrap (x4.2 + (1 : Int))) w50
def F50k1 (t0 : Option Addr) (w5 : World) (x4 : Int × Int) (b3 : Nat) (y1 : Nat → Int × Int → World → Prop) : Prop :=
 ∃ (b71 : Nat),
 ∃ (b72 : Nat),
 t0 = some ({ block := b71, off := b72 } : Addr) ∧
 ∃ (s73 : Sl),
 w5.drew.cell? ({ block := b71, off := b72 + (1 : Nat) } : Addr) = some (Value.slice s73.1 s73.2 s73.3) ∧
 ∃ (b74 : Nat),
 ∃ (b75 : Nat),
 t0 = some ({ block := b74, off := b75 } : Addr) ∧
 ∃ (s76 : Sl),
 w5.drew.cell? ({ block := b74, off := b75 + (0 : Nat) } : Addr) = some (Value.slice s76.1 s76.2 s76.3) ∧
 ∃ (b77 : Nat),
 ∃ (b78 : Nat),
 s76.1 = some ({ block := b77, off := b78 } : Addr) ∧
 ((0 : Int) ≤ x4.2 ∧ x4.2 < (s76.2 : Int)) ∧
 ∃ (x79 : Int × Int × Int × Int × Int × Int × Int × Int),
 CellsAt w5.drew b77 (b78 + x4.2.toNat * (8 : Nat))
 [Value.int IntKind.u64 x79.1, Value.int IntKind.u64 x79.snd.1, Value.int IntKind.u64 x79.snd.snd.1, Value.int IntKind.u64 x79.snd.snd.snd.1, Value.int IntKind.u64 x79.snd.snd.snd.snd.1,
 Value.int IntKind.u64 x79.snd.snd.snd.snd.snd.1, Value.int IntKind.u64 x79.snd.snd.snd.snd.snd.snd.1, Value.int IntKind.u64 x79.snd.snd.snd.snd.snd.snd.2] ∧
 ∃ (b80 : Nat),
 ∃ (b81 : Nat),
 s73.1 = some ({ block := b80, off := b81 } : Addr) ∧
 ((0 : Int) ≤ x4.2 ∧ x4.2 < (s73.2 : Int)) ∧
 #[Value.int IntKind.u64 x79.1, Value.int IntKind.u64 x79.snd.1, Value.int IntKind.u64 x79.snd.snd.1, Value.int IntKind.u64 x79.snd.snd.snd.1, Value.int IntKind.u64 x79.snd.snd.snd.snd.1,
 Value.int IntKind.u64 x79.snd.snd.snd.snd.snd.1, Value.int IntKind.u64 x79.snd.snd.snd.snd.snd.snd.1, Value.int IntKind.u64 x79.snd.snd.snd.snd.snd.snd.2].size =
 (8 : Nat) ∧
 StoreP w5.drew b80 (b81 + x4.2.toNat * (8 : Nat))
 [Value.int IntKind.u64 x79.1, Value.int IntKind.u64 x79.snd.1, Value.int IntKind.u64 x79.snd.snd.1, Value.int IntKind.u64 x79.snd.snd.snd.1, Value.int IntKind.u64 x79.snd.snd.snd.snd.1,
 Value.int IntKind.u64 x79.snd.snd.snd.snd.snd.1, Value.int IntKind.u64 x79.snd.snd.snd.snd.snd.snd.1, Value.int IntKind.u64 x79.snd.snd.snd.snd.snd.snd.2]
 fun (w82 : World) =>
 ∃ (b83 : Nat),
 ∃ (b84 : Nat),
 t0 = some ({ block := b83, off := b84 } : Addr) ∧
 ∃ (s85 : Sl),
 w82.cell? ({ block := b83, off := b84 + (2 : Nat) } : Addr) = some (Value.slice s85.1 s85.2 s85.3) ∧
 ∃ (b86 : Nat),
 ∃ (b87 : Nat),
 s85.1 = some ({ block := b86, off := b87 } : Addr) ∧
 ((0 : Int) ≤ x4.2 ∧ x4.2 < (s85.2 : Int)) ∧
 #[Value.bool false].size = (1 : Nat) ∧
 StoreP w82 b86 (b87 + x4.2.toNat) [Value.bool false] fun (w88 : World) => ([] : List Nat) = [] ∧ ∃ (b89 : Nat), b89 < b3 ∧ y1 b89 (IntKind.i64.wrap (x4.1 + (1 : Int)), IntKind.i64.wrap (x4.2 + (1 : Int))) w88
def F50j1 (t0 : Option Addr) (t1 : Sl) (R : Value → World → Prop) (y1 : Nat → Int × Int → World → Prop) (b3 : Nat) (x4 : Int × Int) (w5 : World) : Prop :=
 ∃ (b8 : Nat),
 ∃ (b9 : Nat),
 t0 = some ({ block := b8, off := b9 } : Addr) ∧
 ∃ (s10 : Sl),
 w5.cell? ({ block := b8, off := b9 + (1 : Nat) } : Addr) = some (Value.slice s10.1 s10.2 s10.3) ∧
 IfB (decide (x4.snd < (s10.n : Int)))
 (∃ (b11 : Nat),
 ∃ (b12 : Nat),
 t0 = some ({ block := b11, off := b12 } : Addr) ∧
 ∃ (s13 : Sl),
 w5.cell? ({ block := b11, off := b12 + (2 : Nat) } : Addr) = some (Value.slice s13.1 s13.2 s13.3) ∧
 ∃ (b14 : Nat),
 ∃ (b15 : Nat),
 s13.1 = some ({ block := b14, off := b15 } : Addr) ∧
 ((0 : Int) ≤ x4.2 ∧ x4.2 < (s13.2 : Int)) ∧
 ∃ (t16 : Bool),
 w5.cell? ({ block := b14, off := b15 + x4.2.toNat } : Addr) = some (Value.bool t16) ∧
 IfB (!t16) (([] : List Nat) = [] ∧ ∃ (b17 : Nat), b17 < b3 ∧ y1 b17 (x4.1, IntKind.i64.wrap (x4.2 + (1 : Int))) w5)
 (IfB (decide (x4.fst < (t1.n : Int)))
 (∃ (b18 : Nat),
 ∃ (b19 : Nat),
 t1.1 = some ({ block := b18, off := b19 } : Addr) ∧
 ((0 : Int) ≤ x4.1 ∧ x4.1 < (t1.2 : Int)) ∧
 ∃ (t20 : Bool),
 w5.cell? ({ block := b18, off := b19 + x4.1.toNat } : Addr) = some (Value.bool t20) ∧
 IfB t20
 (F50k2 t0 w5 x4 b3 y1)
 (F50k1 t0 w5 x4 b3 y1))
 (F50k1 t0 w5 x4 b3 y1)))
 (R (Value.tuple #[]) w5)
def F50 (t0 : Option Addr) (t1 : Sl) (w : World) (R : Value → World → Prop) : Prop :=
 ∃ (y1 : Nat → Int × Int → World → Prop),
 (∃ (b2 : Nat), y1 b2 ((0 : Int), (0 : Int)) w) ∧
 ∀ (b3 : Nat) (x4 : Int × Int) (w5 : World) (y6 : Nat → Value),
 y1 b3 x4 w5 →
 (F50j1 t0 t1 R y1 b3 x4 w5)
theorem F50_ok (t0 : Option Addr) (t1 : Sl) (w : World) (R : Value → World → Prop) (h : F50 t0 t1 w R) : CW Try.prog 50 #[Value.pointer t0, Value.slice t1.1 t1.2 t1.3] w R :=
  call_of tbOk mixed en50 Try.func50 rfl (.node (.nil) (.node (.nil) (.loop [(4, .one (.int .i64)), (5, .one (.int .i64))] [6, 7, 8, 9, 10, 11, 12, 15, 16, 17, 18, 19, 20, 21, 22, 23, 24, 25, 26, 27, 28, 29, 30, 31, 32, 33, 34, 35, 36, 37, 38, 39, 40, 41, 42, 43, 44, 45, 46, 47, 4, 48, 49, 50, 51, 52, 53, 54, 55, 56, 57, 58, 59, 60, 61, 62, 63, 64, 65, 66, 13, 14, 5] (.node (.nil) (.node (.node (.nil) (.node (.node (.nil) (.node (.draw (.st 0 (.st 1 (.st 2 (.st 3 (.st 4 (.st 5 (.st 6 (.st 7 (.st 8 (.st 9 (.st 10 (.st 11 (.st 12 (.ac 13 [] (.fin) (.non)))))))))))))))) (.nil))) (.node (.nil) (.node (.draw (.st 0 (.st 1 (.st 2 (.st 3 (.st 4 (.st 5 (.st 6 (.st 7 (.st 8 (.st 9 (.st 10 (.st 11 (.st 12 (.ac 13 [] (.fin) (.non)))))))))))))))) (.nil))))) (.nil)))))) (by kernel_rfl) (Nat.le_of_ble_eq_true (by kernel_rfl)) (Eq.mp (α := F50 t0 t1 w R) (by kernel_rfl) h)

def F51 (t0 : Option Addr) (t1 : Int) (w : World) (R : Value → World → Prop) : Prop :=
 IfB (decide ((0 : Int) ≤ t1))
 (∃ (b1 : Nat),
 ∃ (b2 : Nat), t0 = some ({ block := b1, off := b2 } : Addr) ∧ ∃ (s3 : Sl), w.cell? ({ block := b1, off := b2 + (1 : Nat) } : Addr) = some (Value.slice s3.1 s3.2 s3.3) ∧ R (Value.bool (decide (t1 < (s3.n : Int)))) w)
 (R (Value.bool false) w)
theorem F51_ok (t0 : Option Addr) (t1 : Int) (w : World) (R : Value → World → Prop) (h : F51 t0 t1 w R) : CW Try.prog 51 #[Value.pointer t0, Value.int IntKind.i64 t1] w R :=
  call_of tbOk mixed en51 Try.func51 rfl (.nil) (by kernel_rfl) (Nat.le_of_ble_eq_true (by kernel_rfl)) (Eq.mp (α := F51 t0 t1 w R) (by kernel_rfl) h)

def F52 (t0 : Option Addr) (t1 : Int) (t2 : (Leaf.int IntKind.u64).den ×
 dens
 [Leaf.int IntKind.u64, Leaf.int IntKind.u64, Leaf.int IntKind.u64, Leaf.int IntKind.u64, Leaf.int IntKind.u64,
 Leaf.int IntKind.u64, Leaf.int IntKind.u64]) (w : World) (R : Value → World → Prop) : Prop :=
 AllocP w
 (Obj.cells
 #[Value.int IntKind.u64 t2.1, Value.int IntKind.u64 t2.snd.1, Value.int IntKind.u64 t2.snd.snd.1, Value.int IntKind.u64 t2.snd.snd.snd.1, Value.int IntKind.u64 t2.snd.snd.snd.snd.1,
 Value.int IntKind.u64 t2.snd.snd.snd.snd.snd.1, Value.int IntKind.u64 t2.snd.snd.snd.snd.snd.snd.1, Value.int IntKind.u64 t2.snd.snd.snd.snd.snd.snd.2]
 (67 : Nat))
 fun (b1 : Nat) (w2 : World) =>
 ∃ (b3 : Nat),
 ∃ (b4 : Nat),
 t0 = some ({ block := b3, off := b4 } : Addr) ∧
 ∃ (s5 : Sl),
 w2.drew.cell? ({ block := b3, off := b4 + (1 : Nat) } : Addr) = some (Value.slice s5.1 s5.2 s5.3) ∧
 ∃ (x6 : Int × Int × Int × Int × Int × Int × Int × Int),
 CellsAt w2.drew b1 (0 : Nat)
 [Value.int IntKind.u64 x6.1, Value.int IntKind.u64 x6.snd.1, Value.int IntKind.u64 x6.snd.snd.1, Value.int IntKind.u64 x6.snd.snd.snd.1, Value.int IntKind.u64 x6.snd.snd.snd.snd.1,
 Value.int IntKind.u64 x6.snd.snd.snd.snd.snd.1, Value.int IntKind.u64 x6.snd.snd.snd.snd.snd.snd.1, Value.int IntKind.u64 x6.snd.snd.snd.snd.snd.snd.2] ∧
 ∃ (b7 : Nat),
 ∃ (b8 : Nat),
 s5.1 = some ({ block := b7, off := b8 } : Addr) ∧
 ((0 : Int) ≤ t1 ∧ t1 < (s5.2 : Int)) ∧
 #[Value.int IntKind.u64 x6.1, Value.int IntKind.u64 x6.snd.1, Value.int IntKind.u64 x6.snd.snd.1, Value.int IntKind.u64 x6.snd.snd.snd.1, Value.int IntKind.u64 x6.snd.snd.snd.snd.1,
 Value.int IntKind.u64 x6.snd.snd.snd.snd.snd.1, Value.int IntKind.u64 x6.snd.snd.snd.snd.snd.snd.1, Value.int IntKind.u64 x6.snd.snd.snd.snd.snd.snd.2].size =
 (8 : Nat) ∧
 StoreP w2.drew b7 (b8 + t1.toNat * (8 : Nat))
 [Value.int IntKind.u64 x6.1, Value.int IntKind.u64 x6.snd.1, Value.int IntKind.u64 x6.snd.snd.1, Value.int IntKind.u64 x6.snd.snd.snd.1, Value.int IntKind.u64 x6.snd.snd.snd.snd.1,
 Value.int IntKind.u64 x6.snd.snd.snd.snd.snd.1, Value.int IntKind.u64 x6.snd.snd.snd.snd.snd.snd.1, Value.int IntKind.u64 x6.snd.snd.snd.snd.snd.snd.2]
 fun (w9 : World) =>
 ∃ (b10 : Nat),
 ∃ (b11 : Nat),
 t0 = some ({ block := b10, off := b11 } : Addr) ∧
 ∃ (s12 : Sl),
 w9.cell? ({ block := b10, off := b11 + (2 : Nat) } : Addr) = some (Value.slice s12.1 s12.2 s12.3) ∧
 ∃ (b13 : Nat),
 ∃ (b14 : Nat),
 s12.1 = some ({ block := b13, off := b14 } : Addr) ∧
 ((0 : Int) ≤ t1 ∧ t1 < (s12.2 : Int)) ∧ #[Value.bool true].size = (1 : Nat) ∧ StoreP w9 b13 (b14 + t1.toNat) [Value.bool true] fun (w15 : World) => R (Value.tuple #[]) w15
theorem F52_ok (t0 : Option Addr) (t1 : Int) (t2 : (Leaf.int IntKind.u64).den ×
 dens
 [Leaf.int IntKind.u64, Leaf.int IntKind.u64, Leaf.int IntKind.u64, Leaf.int IntKind.u64, Leaf.int IntKind.u64,
 Leaf.int IntKind.u64, Leaf.int IntKind.u64]) (w : World) (R : Value → World → Prop) (h : F52 t0 t1 t2 w R) : CW Try.prog 52 #[Value.pointer t0, Value.int IntKind.i64 t1, Value.agg #[Value.int IntKind.u64 t2.1, Value.int IntKind.u64 t2.snd.1, Value.int IntKind.u64 t2.snd.snd.1, Value.int IntKind.u64 t2.snd.snd.snd.1, Value.int IntKind.u64 t2.snd.snd.snd.snd.1, Value.int IntKind.u64 t2.snd.snd.snd.snd.snd.1, Value.int IntKind.u64 t2.snd.snd.snd.snd.snd.snd.1, Value.int IntKind.u64 t2.snd.snd.snd.snd.snd.snd.2]] w R :=
  call_of tbOk mixed en52 Try.func52 rfl (.node (.nil) (.node (.draw (.st 0 (.st 1 (.st 2 (.st 3 (.st 4 (.st 5 (.st 6 (.ac 7 [] (.fin) (.non)))))))))) (.nil))) (by kernel_rfl) (Nat.le_of_ble_eq_true (by kernel_rfl)) (Eq.mp (α := F52 t0 t1 t2 w R) (by kernel_rfl) h)

def F53k1 (t1 : Option Addr) (w19 : World) (x7 : Int × Int) (t0 : Option Addr) (R : Value → World → Prop) (s3 : Sl) (b6 : Nat) (y4 : Nat → Int × Int → World → Prop) : Prop :=
 ∃ (b28 : Nat),
 ∃ (b29 : Nat),
 t1 = some ({ block := b28, off := b29 } : Addr) ∧
 ∃ (s30 : Sl),
 w19.drew.cell? ({ block := b28, off := b29 + (0 : Nat) } : Addr) = some (Value.slice s30.1 s30.2 s30.3) ∧
 ∃ (b31 : Nat),
 ∃ (b32 : Nat),
 s30.1 = some ({ block := b31, off := b32 } : Addr) ∧
 ((0 : Int) ≤ x7.2 ∧ x7.2 < (s30.2 : Int)) ∧
 ∃ (x33 : Int × Int × Int × Int × Int × Int × Int × Int),
 CellsAt w19.drew b31 (b32 + x7.2.toNat * (8 : Nat))
 [Value.int IntKind.u64 x33.1, Value.int IntKind.u64 x33.snd.1, Value.int IntKind.u64 x33.snd.snd.1, Value.int IntKind.u64 x33.snd.snd.snd.1, Value.int IntKind.u64 x33.snd.snd.snd.snd.1,
 Value.int IntKind.u64 x33.snd.snd.snd.snd.snd.1, Value.int IntKind.u64 x33.snd.snd.snd.snd.snd.snd.1, Value.int IntKind.u64 x33.snd.snd.snd.snd.snd.snd.2] ∧
 CX Try.prog (44 : Nat) #[Value.pointer t0, Value.int IntKind.i64 x7.2] w19.drew fun (v34 : Value) (w35 : World) =>
 ∃ (x36 : Int × Int × Int × Int × Int × Int × Int × Int),
 v34 =
 Value.agg
 #[Value.int IntKind.u64 x36.1, Value.int IntKind.u64 x36.snd.1, Value.int IntKind.u64 x36.snd.snd.1, Value.int IntKind.u64 x36.snd.snd.snd.1, Value.int IntKind.u64 x36.snd.snd.snd.snd.1,
 Value.int IntKind.u64 x36.snd.snd.snd.snd.snd.1, Value.int IntKind.u64 x36.snd.snd.snd.snd.snd.snd.1, Value.int IntKind.u64 x36.snd.snd.snd.snd.snd.snd.2] ∧
 CellsAt w35 b31 (b32 + x7.2.toNat * (8 : Nat))
 [Value.int IntKind.u64 x33.1, Value.int IntKind.u64 x33.snd.1, Value.int IntKind.u64 x33.snd.snd.1, Value.int IntKind.u64 x33.snd.snd.snd.1, Value.int IntKind.u64 x33.snd.snd.snd.snd.1,
 Value.int IntKind.u64 x33.snd.snd.snd.snd.snd.1, Value.int IntKind.u64 x33.snd.snd.snd.snd.snd.snd.1, Value.int IntKind.u64 x33.snd.snd.snd.snd.snd.snd.2] ∧
 w35.cell? ({ block := b28, off := b29 + (0 : Nat) } : Addr) = some (Value.slice s30.1 s30.2 s30.3) ∧
 ∃ (t37 : Bool),
 EqAt Try.prog (67 : Nat)
 (Value.agg
 #[Value.int IntKind.u64 x36.1, Value.int IntKind.u64 x36.snd.1, Value.int IntKind.u64 x36.snd.snd.1, Value.int IntKind.u64 x36.snd.snd.snd.1, Value.int IntKind.u64 x36.snd.snd.snd.snd.1,
 Value.int IntKind.u64 x36.snd.snd.snd.snd.snd.1, Value.int IntKind.u64 x36.snd.snd.snd.snd.snd.snd.1, Value.int IntKind.u64 x36.snd.snd.snd.snd.snd.snd.2])
 (Value.agg
 #[Value.int IntKind.u64 x33.1, Value.int IntKind.u64 x33.snd.1, Value.int IntKind.u64 x33.snd.snd.1, Value.int IntKind.u64 x33.snd.snd.snd.1, Value.int IntKind.u64 x33.snd.snd.snd.snd.1,
 Value.int IntKind.u64 x33.snd.snd.snd.snd.snd.1, Value.int IntKind.u64 x33.snd.snd.snd.snd.snd.snd.1, Value.int IntKind.u64 x33.snd.snd.snd.snd.snd.snd.2])
 t37 ∧
 IfB (!t37) (R (Value.bool false) w35)
 (∃ (b38 : Nat),
 ∃ (b39 : Nat),
 t1 = some ({ block := b38, off := b39 } : Addr) ∧
 ∃ (s40 : Sl),
 w35.cell? ({ block := b38, off := b39 + (2 : Nat) } : Addr) = some (Value.slice s40.1 s40.2 s40.3) ∧
 ∃ (b41 : Nat),
 ∃ (b42 : Nat),
 s40.1 = some ({ block := b41, off := b42 } : Addr) ∧
 ((0 : Int) ≤ x7.2 ∧ x7.2 < (s40.2 : Int)) ∧
 ∃ (t43 : Bool),
 w35.cell? ({ block := b41, off := b42 + x7.2.toNat } : Addr) = some (Value.bool t43) ∧
 IfB t43
 (IfB (decide ((s3.n : Int) ≤ x7.fst)) (R (Value.bool false) w35)
 (∃ (b44 : Nat),
 ∃ (b45 : Nat),
 s3.1 = some ({ block := b44, off := b45 } : Addr) ∧
 ((0 : Int) ≤ x7.1 ∧ x7.1 < (s3.2 : Int)) ∧
 ∃ (n46 : Int),
 w35.cell? ({ block := b44, off := b45 + x7.1.toNat } : Addr) = some (Value.int IntKind.i64 n46) ∧
 IfB (n46 != x7.2) (R (Value.bool false) w35) (([] : List Nat) = [] ∧ ∃ (b47 : Nat), b47 < b6 ∧ y4 b47 (IntKind.i64.wrap (x7.1 + (1 : Int)), IntKind.i64.wrap (x7.2 + (1 : Int))) w35)))
 (([] : List Nat) = [] ∧ ∃ (b48 : Nat), b48 < b6 ∧ y4 b48 (x7.1, IntKind.i64.wrap (x7.2 + (1 : Int))) w35))
def F53k2 (t0 : Option Addr) (x7 : Int × Int) (w8 : World) (R : Value → World → Prop) (t1 : Option Addr) (s3 : Sl) (b6 : Nat) (y4 : Nat → Int × Int → World → Prop) : Prop :=
 CX Try.prog (41 : Nat) #[Value.pointer t0, Value.int IntKind.i64 x7.2] w8 fun (v14 : Value) (w15 : World) =>
 ∃ (x16 : (Int × Int × Int × Int × Int × Int × Int × Int) × Int),
 v14 =
 Value.tuple
 #[Value.agg
 #[Value.int IntKind.u64 x16.fst.1, Value.int IntKind.u64 x16.fst.snd.1, Value.int IntKind.u64 x16.fst.snd.snd.1, Value.int IntKind.u64 x16.fst.snd.snd.snd.1,
 Value.int IntKind.u64 x16.fst.snd.snd.snd.snd.1, Value.int IntKind.u64 x16.fst.snd.snd.snd.snd.snd.1, Value.int IntKind.u64 x16.fst.snd.snd.snd.snd.snd.snd.1,
 Value.int IntKind.u64 x16.fst.snd.snd.snd.snd.snd.snd.2],
 Value.int IntKind.i64 x16.2] ∧
 AllocP w15
 (Obj.cells
 #[Value.int IntKind.u64 (0 : Int), Value.int IntKind.u64 (0 : Int), Value.int IntKind.u64 (0 : Int), Value.int IntKind.u64 (0 : Int), Value.int IntKind.u64 (0 : Int), Value.int IntKind.u64 (0 : Int),
 Value.int IntKind.u64 (0 : Int), Value.int IntKind.u64 (0 : Int)]
 (67 : Nat))
 fun (b17 : Nat) (w18 : World) =>
 #[Value.int IntKind.u64 x16.fst.1, Value.int IntKind.u64 x16.fst.snd.1, Value.int IntKind.u64 x16.fst.snd.snd.1, Value.int IntKind.u64 x16.fst.snd.snd.snd.1,
 Value.int IntKind.u64 x16.fst.snd.snd.snd.snd.1, Value.int IntKind.u64 x16.fst.snd.snd.snd.snd.snd.1, Value.int IntKind.u64 x16.fst.snd.snd.snd.snd.snd.snd.1,
 Value.int IntKind.u64 x16.fst.snd.snd.snd.snd.snd.snd.2].size =
 (8 : Nat) ∧
 StoreP w18 b17 (0 : Nat)
 [Value.int IntKind.u64 x16.fst.1, Value.int IntKind.u64 x16.fst.snd.1, Value.int IntKind.u64 x16.fst.snd.snd.1, Value.int IntKind.u64 x16.fst.snd.snd.snd.1,
 Value.int IntKind.u64 x16.fst.snd.snd.snd.snd.1, Value.int IntKind.u64 x16.fst.snd.snd.snd.snd.snd.1, Value.int IntKind.u64 x16.fst.snd.snd.snd.snd.snd.snd.1,
 Value.int IntKind.u64 x16.fst.snd.snd.snd.snd.snd.snd.2]
 fun (w19 : World) =>
 IfB (x16.2 != (0 : Int)) (R (Value.bool false) w19.drew)
 (∃ (x20 : Int × Int × Int × Int × Int × Int × Int × Int),
 CellsAt w19.drew b17 (0 : Nat)
 [Value.int IntKind.u64 x20.1, Value.int IntKind.u64 x20.snd.1, Value.int IntKind.u64 x20.snd.snd.1, Value.int IntKind.u64 x20.snd.snd.snd.1, Value.int IntKind.u64 x20.snd.snd.snd.snd.1,
 Value.int IntKind.u64 x20.snd.snd.snd.snd.snd.1, Value.int IntKind.u64 x20.snd.snd.snd.snd.snd.snd.1, Value.int IntKind.u64 x20.snd.snd.snd.snd.snd.snd.2] ∧
 ∃ (b21 : Nat),
 ∃ (b22 : Nat),
 t1 = some ({ block := b21, off := b22 } : Addr) ∧
 ∃ (s23 : Sl),
 w19.drew.cell? ({ block := b21, off := b22 + (1 : Nat) } : Addr) = some (Value.slice s23.1 s23.2 s23.3) ∧
 ∃ (b24 : Nat),
 ∃ (b25 : Nat),
 s23.1 = some ({ block := b24, off := b25 } : Addr) ∧
 ((0 : Int) ≤ x7.2 ∧ x7.2 < (s23.2 : Int)) ∧
 ∃ (x26 : Int × Int × Int × Int × Int × Int × Int × Int),
 CellsAt w19.drew b24 (b25 + x7.2.toNat * (8 : Nat))
 [Value.int IntKind.u64 x26.1, Value.int IntKind.u64 x26.snd.1, Value.int IntKind.u64 x26.snd.snd.1, Value.int IntKind.u64 x26.snd.snd.snd.1, Value.int IntKind.u64 x26.snd.snd.snd.snd.1,
 Value.int IntKind.u64 x26.snd.snd.snd.snd.snd.1, Value.int IntKind.u64 x26.snd.snd.snd.snd.snd.snd.1, Value.int IntKind.u64 x26.snd.snd.snd.snd.snd.snd.2] ∧
 ∃ (t27 : Bool),
 EqAt Try.prog (67 : Nat)
 (Value.agg
 #[Value.int IntKind.u64 x20.1, Value.int IntKind.u64 x20.snd.1, Value.int IntKind.u64 x20.snd.snd.1, Value.int IntKind.u64 x20.snd.snd.snd.1, Value.int IntKind.u64 x20.snd.snd.snd.snd.1,
 Value.int IntKind.u64 x20.snd.snd.snd.snd.snd.1, Value.int IntKind.u64 x20.snd.snd.snd.snd.snd.snd.1, Value.int IntKind.u64 x20.snd.snd.snd.snd.snd.snd.2])
 (Value.agg
 #[Value.int IntKind.u64 x26.1, Value.int IntKind.u64 x26.snd.1, Value.int IntKind.u64 x26.snd.snd.1, Value.int IntKind.u64 x26.snd.snd.snd.1, Value.int IntKind.u64 x26.snd.snd.snd.snd.1,
 Value.int IntKind.u64 x26.snd.snd.snd.snd.snd.1, Value.int IntKind.u64 x26.snd.snd.snd.snd.snd.snd.1, Value.int IntKind.u64 x26.snd.snd.snd.snd.snd.snd.2])
 t27 ∧
 IfB (!t27) (R (Value.bool false) w19.drew)
 (F53k1 t1 w19 x7 t0 R s3 b6 y4))
def F53j1 (t0 : Option Addr) (t1 : Option Addr) (R : Value → World → Prop) (s3 : Sl) (y4 : Nat → Int × Int → World → Prop) (b6 : Nat) (x7 : Int × Int) (w8 : World) : Prop :=
 ∃ (b11 : Nat),
 ∃ (b12 : Nat),
 t1 = some ({ block := b11, off := b12 } : Addr) ∧
 ∃ (s13 : Sl),
 w8.cell? ({ block := b11, off := b12 + (1 : Nat) } : Addr) = some (Value.slice s13.1 s13.2 s13.3) ∧
 IfB (decide (x7.snd < (s13.n : Int)))
 (F53k2 t0 x7 w8 R t1 s3 b6 y4)
 (IfB (x7.1 == (s3.2 : Int))
 (∃ (b49 : Nat),
 ∃ (b50 : Nat),
 t1 = some ({ block := b49, off := b50 } : Addr) ∧
 ∃ (s51 : Sl),
 w8.drew.cell? ({ block := b49, off := b50 + (1 : Nat) } : Addr) = some (Value.slice s51.1 s51.2 s51.3) ∧
 CX Try.prog (45 : Nat) #[Value.pointer t0] w8.drew fun (v52 : Value) (w53 : World) =>
 ∃ (n54 : Int), v52 = Value.int IntKind.i64 n54 ∧ w53.cell? ({ block := b49, off := b50 + (1 : Nat) } : Addr) = some (Value.slice s51.1 s51.2 s51.3) ∧ R (Value.bool (n54 == (s51.2 : Int))) w53)
 (R (Value.bool false) w8.drew))
def F53 (t0 : Option Addr) (t1 : Option Addr) (w : World) (R : Value → World → Prop) : Prop :=
 CX Try.prog (42 : Nat) #[Value.pointer t0] w fun (v1 : Value) (w2 : World) =>
 ∃ (s3 : Sl),
 v1 = Value.slice s3.1 s3.2 s3.3 ∧
 ∃ (y4 : Nat → Int × Int → World → Prop),
 (∃ (b5 : Nat), y4 b5 ((0 : Int), (0 : Int)) w2) ∧
 ∀ (b6 : Nat) (x7 : Int × Int) (w8 : World) (y9 : Nat → Value),
 y4 b6 x7 w8 →
 (F53j1 t0 t1 R s3 y4 b6 x7 w8)
theorem F53_ok (t0 : Option Addr) (t1 : Option Addr) (w : World) (R : Value → World → Prop) (h : F53 t0 t1 w R) : CW Try.prog 53 #[Value.pointer t0, Value.pointer t1] w R :=
  call_of tbOk mixed en53 Try.func53 rfl (.node (.nil) (.node (.nil) (.node (.nil) (.node (.node (.nil) (.loop [(6, .one (.int .i64)), (7, .one (.int .i64))] [12, 13, 14, 15, 16, 17, 18, 22, 23, 24, 21, 25, 26, 8, 9, 27, 28, 29, 30, 31, 32, 33, 34, 35, 36, 37, 38, 39, 40, 41, 42, 43, 44, 45, 46, 47, 48, 49, 50, 51, 52, 4, 53, 54, 55, 56, 57, 58, 59, 60, 61, 62, 63, 64, 65, 66, 67, 68, 69, 70, 71, 72, 73, 6, 19, 20, 7] (.node (.nil) (.node (.node (.nil) (.node (.node (.draw (.st 0 (.st 1 (.st 2 (.st 3 (.st 4 (.st 5 (.st 6 (.st 7 (.st 8 (.st 9 (.st 10 (.st 11 (.st 12 (.st 13 (.st 14 (.st 15 (.st 17 (.st 18 (.st 19 (.st 20 (.st 21 (.st 22 (.st 23 (.ac 16 [23, 22, 21, 20, 19, 18, 17] (.st 24 (.st 25 (.fin))) (.non)))))))))))))))))))))))))) (.nil)) (.nil))) (.nil))))) (.node (.draw (.st 0 (.st 1 (.st 2 (.st 3 (.st 4 (.st 5 (.st 7 (.st 8 (.st 9 (.st 10 (.st 11 (.ac 6 [11, 10, 9, 8, 7] (.st 12 (.st 13 (.st 14 (.fin)))) (.non)))))))))))))) (.nil)))))) (by kernel_rfl) (Nat.le_of_ble_eq_true (by kernel_rfl)) (Eq.mp (α := F53 t0 t1 w R) (by kernel_rfl) h)

def F76 (t0 : Option Addr) (t1 : Int) (w : World) (R : Value → World → Prop) : Prop :=
 IfB (decide ((0 : Int) ≤ t1))
 (CX Try.prog (45 : Nat) #[Value.pointer t0] w fun (v1 : Value) (w2 : World) => ∃ (n3 : Int), v1 = Value.int IntKind.i64 n3 ∧ R (Value.bool (decide (t1 < n3))) w2) (R (Value.bool false) w)
theorem F76_ok (t0 : Option Addr) (t1 : Int) (w : World) (R : Value → World → Prop) (h : F76 t0 t1 w R) : CW Try.prog 76 #[Value.pointer t0, Value.int IntKind.i64 t1] w R :=
  call_of tbOk mixed en76 Try.func76 rfl (.nil) (by kernel_rfl) (Nat.le_of_ble_eq_true (by kernel_rfl)) (Eq.mp (α := F76 t0 t1 w R) (by kernel_rfl) h)

def F77j1 (t0 : Option Addr) (t1 : Nat × Array Value) (R : Value → World → Prop) (s3 : Sl) (y4 : Nat → Int → World → Prop) (b6 : Nat) (n7 : Int) (w8 : World) : Prop :=
 IfB (decide (n7 < (s3.n : Int)))
 (∃ (b11 : Nat),
 ∃ (b12 : Nat),
 s3.1 = some ({ block := b11, off := b12 } : Addr) ∧
 ((0 : Int) ≤ n7 ∧ n7 < (s3.2 : Int)) ∧
 ∃ (n13 : Int),
 w8.cell? ({ block := b11, off := b12 + n7.toNat } : Addr) = some (Value.int IntKind.i64 n13) ∧
 CX Try.prog t1.1 { toList := Value.int IntKind.i64 n13 :: t1.snd.1 } w8 fun (v14 : Value) (w15 : World) =>
 ∃ (t16 : Bool),
 v14 = Value.bool t16 ∧
 IfB t16
 (∃ (b17 : Nat),
 ∃ (b18 : Nat),
 t0 = some ({ block := b17, off := b18 } : Addr) ∧
 ∃ (s19 : Sl),
 w15.drew.cell? ({ block := b17, off := b18 + (0 : Nat) } : Addr) = some (Value.slice s19.1 s19.2 s19.3) ∧
 ∃ (b20 : Nat),
 ∃ (b21 : Nat),
 t0 = some ({ block := b20, off := b21 } : Addr) ∧
 ∃ (p22 : Option Nat),
 w15.drew.cell? ({ block := b20, off := b21 + (1 : Nat) } : Addr) = some (Value.map p22) ∧
 MapGetP (TypeDesc.int IntKind.i64) w15.drew (Value.map p22) (Value.int IntKind.i64 n13)
 (Value.agg
 #[Value.int IntKind.u64 (0 : Int), Value.int IntKind.u64 (0 : Int), Value.int IntKind.u64 (0 : Int), Value.int IntKind.u64 (0 : Int), Value.int IntKind.u64 (0 : Int), Value.int IntKind.u64 (0 : Int),
 Value.int IntKind.u64 (0 : Int), Value.int IntKind.u64 (0 : Int)])
 fun (v23 : Value) (t24 : Bool) =>
 ∃ (x25 : Int × Int × Int × Int × Int × Int × Int × Int),
 v23 =
 Value.agg
 #[Value.int IntKind.u64 x25.1, Value.int IntKind.u64 x25.snd.1, Value.int IntKind.u64 x25.snd.snd.1, Value.int IntKind.u64 x25.snd.snd.snd.1, Value.int IntKind.u64 x25.snd.snd.snd.snd.1,
 Value.int IntKind.u64 x25.snd.snd.snd.snd.snd.1, Value.int IntKind.u64 x25.snd.snd.snd.snd.snd.snd.1, Value.int IntKind.u64 x25.snd.snd.snd.snd.snd.snd.2] ∧
 w15.drew.cell? ({ block := b17, off := b18 + (0 : Nat) } : Addr) = some (Value.slice s19.1 s19.2 s19.3) ∧
 ∃ (b26 : Nat),
 ∃ (b27 : Nat),
 s19.1 = some ({ block := b26, off := b27 } : Addr) ∧
 ((0 : Int) ≤ n13 ∧ n13 < (s19.2 : Int)) ∧
 #[Value.int IntKind.u64 x25.1, Value.int IntKind.u64 x25.snd.1, Value.int IntKind.u64 x25.snd.snd.1, Value.int IntKind.u64 x25.snd.snd.snd.1, Value.int IntKind.u64 x25.snd.snd.snd.snd.1,
 Value.int IntKind.u64 x25.snd.snd.snd.snd.snd.1, Value.int IntKind.u64 x25.snd.snd.snd.snd.snd.snd.1, Value.int IntKind.u64 x25.snd.snd.snd.snd.snd.snd.2].size =
 (8 : Nat) ∧
 StoreP w15.drew b26 (b27 + n13.toNat * (8 : Nat))
 [Value.int IntKind.u64 x25.1, Value.int IntKind.u64 x25.snd.1, Value.int IntKind.u64 x25.snd.snd.1, Value.int IntKind.u64 x25.snd.snd.snd.1, Value.int IntKind.u64 x25.snd.snd.snd.snd.1,
 Value.int IntKind.u64 x25.snd.snd.snd.snd.snd.1, Value.int IntKind.u64 x25.snd.snd.snd.snd.snd.snd.1, Value.int IntKind.u64 x25.snd.snd.snd.snd.snd.snd.2]
 fun (w28 : World) => ([] : List Nat) = [] ∧ ∃ (b29 : Nat), b29 < b6 ∧ y4 b29 (IntKind.i64.wrap (n7 + (1 : Int))) w28)
 (([] : List Nat) = [] ∧ ∃ (b30 : Nat), b30 < b6 ∧ y4 b30 (IntKind.i64.wrap (n7 + (1 : Int))) w15))
 (∃ (b31 : Nat),
 ∃ (b32 : Nat),
 t0 = some ({ block := b31, off := b32 } : Addr) ∧
 ∃ (p33 : Option Nat), w8.cell? ({ block := b31, off := b32 + (1 : Nat) } : Addr) = some (Value.map p33) ∧ MapClearP w8 p33 fun (w34 : World) => R (Value.tuple #[]) w34)
def F77 (t0 : Option Addr) (t1 : Nat × Array Value) (w : World) (R : Value → World → Prop) : Prop :=
 CX Try.prog (42 : Nat) #[Value.pointer t0] w fun (v1 : Value) (w2 : World) =>
 ∃ (s3 : Sl),
 v1 = Value.slice s3.1 s3.2 s3.3 ∧
 ∃ (y4 : Nat → Int → World → Prop),
 (∃ (b5 : Nat), y4 b5 (0 : Int) w2) ∧
 ∀ (b6 : Nat) (n7 : Int) (w8 : World) (y9 : Nat → Value),
 y4 b6 n7 w8 →
 (F77j1 t0 t1 R s3 y4 b6 n7 w8)
theorem F77_ok (t0 : Option Addr) (t1 : Nat × Array Value) (w : World) (R : Value → World → Prop) (h : F77 t0 t1 w R) : CW Try.prog 77 #[Value.pointer t0, Value.func (Fn.func t1.1) #[] t1.2] w R :=
  call_of tbOk mixed en77 Try.func77 rfl (.node (.node (.nil) (.loop [(9, .one (.int .i64))] [10, 11, 12, 5, 13, 14, 15, 16, 17, 18, 19, 20, 21, 22, 23, 24, 25, 26, 27, 28, 9] (.node (.nil) (.node (.nil) (.node (.node (.nil) (.node (.nil) (.node (.draw (.st 0 (.st 1 (.st 2 (.st 3 (.st 4 (.st 5 (.st 6 (.st 7 (.st 8 (.st 9 (.ac 10 [4, 3, 2, 1, 0] (.st 11 (.ac 12 [] (.fin) (.non))) (.non))))))))))))) (.nil)))) (.nil)))))) (.nil)) (by kernel_rfl) (Nat.le_of_ble_eq_true (by kernel_rfl)) (Eq.mp (α := F77 t0 t1 w R) (by kernel_rfl) h)

def F78 (t0 : Int) (w : World) (R : Value → World → Prop) : Prop :=
 R (Value.bool true) w
theorem F78_ok (t0 : Int) (w : World) (R : Value → World → Prop) (h : F78 t0 w R) : CW Try.prog 78 #[Value.int IntKind.i64 t0] w R :=
  call_of tbOk mixed en78 Try.func78 rfl (.nil) (by kernel_rfl) (Nat.le_of_ble_eq_true (by kernel_rfl)) (Eq.mp (α := F78 t0 w R) (by kernel_rfl) h)

def F79 (t0 : Int) (t1 : Nat) (t2 : Nat) (w : World) (R : Value → World → Prop) : Prop :=
 ∃ (n1 : Int),
 w.cell? ({ block := t1, off := (0 : Nat) } : Addr) = some (Value.int IntKind.i64 n1) ∧
 #[Value.int IntKind.i64 (IntKind.i64.wrap (n1 + (1 : Int)))].size = (1 : Nat) ∧
 StoreP w t1 (0 : Nat) [Value.int IntKind.i64 (IntKind.i64.wrap (n1 + (1 : Int)))] fun (w2 : World) =>
 ∃ (n3 : Int),
 w2.cell? ({ block := t1, off := (0 : Nat) } : Addr) = some (Value.int IntKind.i64 n3) ∧
 ∃ (s4 : Sl),
 w2.cell? ({ block := t2, off := (0 : Nat) } : Addr) = some (Value.slice s4.1 s4.2 s4.3) ∧
 IfB (decide (n3 ≤ (s4.n : Int)))
 (∃ (s5 : Sl),
 w2.cell? ({ block := t2, off := (0 : Nat) } : Addr) = some (Value.slice s5.1 s5.2 s5.3) ∧
 ∃ (n6 : Int),
 w2.cell? ({ block := t1, off := (0 : Nat) } : Addr) = some (Value.int IntKind.i64 n6) ∧
 ∃ (b7 : Nat),
 ∃ (b8 : Nat),
 s5.1 = some ({ block := b7, off := b8 } : Addr) ∧
 ((0 : Int) ≤ IntKind.i64.wrap (n6 - (1 : Int)) ∧ IntKind.i64.wrap (n6 - (1 : Int)) < (s5.2 : Int)) ∧
 ∃ (t9 : Bool), w2.cell? ({ block := b7, off := b8 + (IntKind.i64.wrap (n6 - (1 : Int))).toNat } : Addr) = some (Value.bool t9) ∧ R (Value.bool t9) w2)
 (R (Value.bool false) w2)
theorem F79_ok (t0 : Int) (t1 : Nat) (t2 : Nat) (w : World) (R : Value → World → Prop) (h : F79 t0 t1 t2 w R) : CW Try.prog 79 #[Value.int IntKind.i64 t0, Value.pointer (some ({ block := t1, off := 0 } : Addr)), Value.pointer (some ({ block := t2, off := 0 } : Addr))] w R :=
  call_of tbOk mixed en79 Try.func79 rfl (.nil) (by kernel_rfl) (Nat.le_of_ble_eq_true (by kernel_rfl)) (Eq.mp (α := F79 t0 t1 t2 w R) (by kernel_rfl) h)

def F80 (t0 : Nat × Array Value) (w : World) (R : Value → World → Prop) : Prop :=
 CX Try.prog (107 : Nat) #[Value.func (Fn.func t0.1) #[] t0.2] w fun (v1 : Value) (w2 : World) =>
 ∃ (s3 : Sl),
 v1 = Value.slice s3.1 s3.2 s3.3 ∧
 CX Try.prog (108 : Nat) #[Value.slice s3.1 s3.2 s3.3] w2 fun (v4 : Value) (w5 : World) => ∃ (y6 : Unit), v4 = Value.tuple #[] ∧ R (Value.slice s3.1 s3.2 s3.3) w5
theorem F80_ok (t0 : Nat × Array Value) (w : World) (R : Value → World → Prop) (h : F80 t0 w R) : CW Try.prog 80 #[Value.func (Fn.func t0.1) #[] t0.2] w R :=
  call_of tbOk mixed en80 Try.func80 rfl (.nil) (by kernel_rfl) (Nat.le_of_ble_eq_true (by kernel_rfl)) (Eq.mp (α := F80 t0 w R) (by kernel_rfl) h)

def F81 (t0 : Option Nat) (w : World) (R : Value → World → Prop) : Prop :=
 AllocP w (Obj.cells #[Value.map t0] (128 : Nat)) fun (b1 : Nat) (w2 : World) =>
 R (Value.func (Fn.func (109 : Nat)) #[] #[Value.pointer (some ({ block := b1, off := (0 : Nat) } : Addr))]) w2
theorem F81_ok (t0 : Option Nat) (w : World) (R : Value → World → Prop) (h : F81 t0 w R) : CW Try.prog 81 #[Value.map t0] w R :=
  call_of tbOk mixed en81 Try.func81 rfl (.nil) (by kernel_rfl) (Nat.le_of_ble_eq_true (by kernel_rfl)) (Eq.mp (α := F81 t0 w R) (by kernel_rfl) h)

def F82 (t0 : Sl) (w : World) (R : Value → World → Prop) : Prop :=
 IfB t0.1.isNone (R (Value.slice none (0 : Nat) (0 : Nat)) w)
 ((0 : Nat) * (8 : Nat) ≤ (16777216 : Nat) ∧
 AllocP w (Obj.cells #[] (67 : Nat)) fun (b1 : Nat) (w2 : World) =>
 ∃ (l3 : List Value),
 ReadC w2 t0.1 (t0.2 * (8 : Nat)) l3 ∧
 AppendP tt67 (67 : Nat) w2 (some ({ block := b1, off := (0 : Nat) } : Addr)) (0 : Nat) (0 : Nat) t0.2 l3 fun (s4 : Sl) (w5 : World) => R (Value.slice s4.1 s4.2 s4.3) w5)
theorem F82_ok (t0 : Sl) (w : World) (R : Value → World → Prop) (h : F82 t0 w R) : CW Try.prog 82 #[Value.slice t0.1 t0.2 t0.3] w R :=
  call_of tbOk mixed en82 Try.func82 rfl (.nil) (by kernel_rfl) (Nat.le_of_ble_eq_true (by kernel_rfl)) (Eq.mp (α := F82 t0 w R) (by kernel_rfl) h)

def F83 (t0 : Option Nat) (w : World) (R : Value → World → Prop) : Prop :=
 IfB t0.isNone (R (Value.map none) w) (CX Try.prog (110 : Nat) #[Value.iface (128 : Nat) (Value.map t0)] w fun (v1 : Value) (w2 : World) => ∃ (v3 : Value), v1 = v3 ∧ False)
theorem F83_ok (t0 : Option Nat) (w : World) (R : Value → World → Prop) (h : F83 t0 w R) : CW Try.prog 83 #[Value.map t0] w R :=
  call_of tbOk mixed en83 Try.func83 rfl (.nil) (by kernel_rfl) (Nat.le_of_ble_eq_true (by kernel_rfl)) (Eq.mp (α := F83 t0 w R) (by kernel_rfl) h)

def F107 (t0 : Nat × Array Value) (w : World) (R : Value → World → Prop) : Prop :=
 CX Try.prog (119 : Nat) #[Value.slice none (0 : Nat) (0 : Nat), Value.func (Fn.func t0.1) #[] t0.2] w fun (v1 : Value) (w2 : World) =>
 ∃ (s3 : Sl), v1 = Value.slice s3.1 s3.2 s3.3 ∧ R (Value.slice s3.1 s3.2 s3.3) w2
theorem F107_ok (t0 : Nat × Array Value) (w : World) (R : Value → World → Prop) (h : F107 t0 w R) : CW Try.prog 107 #[Value.func (Fn.func t0.1) #[] t0.2] w R :=
  call_of tbOk mixed en107 Try.func107 rfl (.nil) (by kernel_rfl) (Nat.le_of_ble_eq_true (by kernel_rfl)) (Eq.mp (α := F107 t0 w R) (by kernel_rfl) h)

def F109 (t0 : Nat) (t1 : Nat) (w : World) (R : Value → World → Prop) : Prop :=
 ∃ (p1 : Option Nat),
 w.cell? ({ block := t1, off := (0 : Nat) } : Addr) = some (Value.map p1) ∧
 MapItP w (Value.map p1) fun (b2 : Nat) (w3 : World) =>
 ∃ (y4 : Nat → Unit → World → Prop),
 (∃ (b5 : Nat), y4 b5 PUnit.unit w3) ∧
 ∀ (b6 : Nat) (y7 : Unit) (w8 : World) (y9 : Nat → Value),
 y4 b6 y7 w8 →
 NextP w8 b2 (fun (w11 : World) => R (Value.tuple #[]) w11) fun (v12 v13 : Value) (w14 : World) =>
 EntryP w14 b2 fun (v15 v16 : Value) =>
 YW Try.prog t0 #[v15] w14 fun (t17 : Bool) (w18 : World) => IfB (!t17) (R (Value.tuple #[]) w18) (([] : List Nat) = [] ∧ ∃ (b19 : Nat), b19 < b6 ∧ y4 b19 PUnit.unit w18)
theorem F109_ok (t0 : Nat) (t1 : Nat) (w : World) (R : Value → World → Prop) (h : F109 t0 t1 w R) : CW Try.prog 109 #[Value.func (Fn.yield t0) #[] #[], Value.pointer (some ({ block := t1, off := 0 } : Addr))] w R :=
  call_of tbOk mixed en109 Try.func109 rfl (.node (.nil) (.loop [] [6, 7, 8, 9, 3, 10, 11, 12, 13] (.nil))) (by kernel_rfl) (Nat.le_of_ble_eq_true (by kernel_rfl)) (Eq.mp (α := F109 t0 t1 w R) (by kernel_rfl) h)

noncomputable def R119_0 : Code := codeAt [1, 0, 1, 0] (bodyOf Try.f119)
def R119_0a : An := .nil
theorem R119_0ok1 : okC tb Try.f119.ntmps (rA R119_0) .nil = true := by kernel_rfl
theorem R119_0ok2 : okC tb Try.f119.ntmps (rB R119_0) R119_0a = true := by kernel_rfl
theorem R119_0okp : (rP R119_0).toList.all (fun p => Nat.blt p Try.f119.ntmps) = true := by kernel_rfl
def F119 (t0 : Sl) (t1 : Nat × Array Value) (w : World) (R : Value → World → Prop) : Prop :=
 AllocP w (Obj.cells #[Value.slice t0.1 t0.2 t0.3] (24 : Nat)) fun (b1 : Nat) (w2 : World) =>
 ∀ (y3 : Nat → Value),
 RangeP Try.prog tb (nat_lit 13) none R119_0a (rG R119_0) (rP R119_0) (rA R119_0) (rB R119_0)
 (frC y3 [((2 : Nat), Value.pointer (some ({ block := b1, off := (0 : Nat) } : Addr))), ((4 : Nat), Value.slice none (0 : Nat) (0 : Nat)), ((6 : Nat), Value.func (Fn.func t1.1) #[] t1.2)]) [] w2
 (fun (l4 : List Nat) (w5 : World) => ∃ (s6 : Sl), w5.cell? ({ block := b1, off := (0 : Nat) } : Addr) = some (Value.slice s6.1 s6.2 s6.3) ∧ marksP w5 l4 fun (w7 : World) => R (Value.slice s6.1 s6.2 s6.3) w7)
 (fun (l8 : List Nat) (w9 : World) => marksP w9 l8 fun (w10 : World) => R (Value.slice none (0 : Nat) (0 : Nat)) w10) fun (b11 : Nat) (l12 : List Nat) (w13 : World) =>
 match b11.beq (0 : Nat) with
 | true => ∃ (s15 : Sl), w13.cell? ({ block := b1, off := (0 : Nat) } : Addr) = some (Value.slice s15.1 s15.2 s15.3) ∧ marksP w13 l12 fun (w16 : World) => R (Value.slice s15.1 s15.2 s15.3) w16
 | false => False
theorem F119_ok (t0 : Sl) (t1 : Nat × Array Value) (w : World) (R : Value → World → Prop) (h : F119 t0 t1 w R) : CW Try.prog 119 #[Value.slice t0.1 t0.2 t0.3, Value.func (Fn.func t1.1) #[] t1.2] w R :=
  call_of tbOk mixed en119 Try.func119 rfl (.node (.nil) (.node (.node (.nil) (.rng [(2, .one (.box)), (4, .one (.sl)), (6, .one (.clo))] (.nil))) (.nil))) (by kernel_rfl) (Nat.le_of_ble_eq_true (by kernel_rfl)) (Eq.mp (α := F119 t0 t1 w R) (by kernel_rfl) h)

def F119b0 (t2 : Nat) (t4 : Sl) (t6 : Nat × Array Value) (x7 : Int) (l D n₀ : Nat) (Jn : World → Prop) (Jx : Code → World → Prop) (W : World) : Prop :=
  ([] : List Nat) = [] ∧
 (W.1[l]? = W.1[l]? ∧ W.1[D]? = W.1[D]?) ∧
 ∀ (w9 : World),
 Stb n₀ W w9 →
 Its W w9 →
 (∃ (y12 : Loop), w9.1[l]? = some (Obj.loop y12)) →
 ∃ (s16 : Sl),
 w9.cell? ({ block := t2, off := (0 : Nat) } : Addr) = some (Value.slice s16.1 s16.2 s16.3) ∧
 (1 : Nat) * (1 : Nat) ≤ (16777216 : Nat) ∧
 AllocP w9 (Obj.cells #[Value.int IntKind.i64 x7] (3 : Nat)) fun (b17 : Nat) (w18 : World) =>
 ∃ (l19 : List Value),
 ReadC w18 (some ({ block := b17, off := (0 : Nat) } : Addr)) ((1 : Nat) * (1 : Nat)) l19 ∧
 AppendP tt3 (3 : Nat) w18 s16.1 s16.2 s16.3 (1 : Nat) l19
 fun (s20 : Sl) (w21 : World) =>
 #[Value.slice s20.1 s20.2 s20.3].size = (1 : Nat) ∧ StoreP w21 t2 (0 : Nat) [Value.slice s20.1 s20.2 s20.3] fun (w22 : World) => (w22.1[l]? = w9.1[l]? ∧ w22.1[D]? = w9.1[D]?) ∧ Jn w22
theorem F119b0_ok (t2 : Nat) (t4 : Sl) (t6 : Nat × Array Value) (x7 : Int) (l D n₀ : Nat) (Jn : World → Prop) (Jx : Code → World → Prop) (W : World) {g : Nat → Value} (h : F119b0 t2 t4 t6 x7 l D n₀ Jn Jx W) :
    BodyP Try.prog tb Try.f119.ntmps l D n₀ R119_0a (rP R119_0) (rA R119_0) (rB R119_0) (frC g [(2, Value.pointer (some ({ block := t2, off := 0 } : Addr))), (4, Value.slice t4.1 t4.2 t4.3), (6, Value.func (Fn.func t6.1) #[] t6.2)]) Jn Jx [Value.int IntKind.i64 x7] W :=
  Eq.mp (α := F119b0 t2 t4 t6 x7 l D n₀ Jn Jx W) (by kernel_rfl) h

end Go.Proofs.Ytopecljhehcldaa.Gx
