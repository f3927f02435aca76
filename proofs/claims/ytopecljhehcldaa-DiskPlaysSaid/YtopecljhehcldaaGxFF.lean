/- Written by mkf.py: what is to be shown of functions, as Gx reckons it from their code. -/
import Derived.Test.YtopecljhehcldaaGxT
namespace Go.Proofs.Ytopecljhehcldaa.Gx
open Go
set_option linter.unusedVariables false
set_option maxRecDepth 100000

def F9k1 (t3 : Sl) (n42 : Int) (w43 : World) (p8 : Option Addr) (b41 : Nat) (y39 : Nat → Int → World → Prop) : Prop :=
 ∃ (b49 : Nat),
 ∃ (b50 : Nat),
 t3.1 = some ({ block := b49, off := b50 } : Addr) ∧
 ((0 : Int) ≤ n42 ∧ n42 < (t3.2 : Int)) ∧
 ∃ (n51 : Int),
 w43.drew.cell? ({ block := b49, off := b50 + n42.toNat * (11 : Nat) + (1 : Nat) } : Addr) = some (Value.int IntKind.i64 n51) ∧
 ∃ (b52 : Nat),
 ∃ (b53 : Nat),
 t3.1 = some ({ block := b52, off := b53 } : Addr) ∧
 ((0 : Int) ≤ n42 ∧ n42 < (t3.2 : Int)) ∧
 ∃ (x54 : Int × Int × Int × Int × Int × Int × Int × Int),
 CellsAt w43.drew b52 (b53 + n42.toNat * (11 : Nat) + (2 : Nat))
 [Value.int IntKind.u64 x54.1, Value.int IntKind.u64 x54.snd.1, Value.int IntKind.u64 x54.snd.snd.1, Value.int IntKind.u64 x54.snd.snd.snd.1, Value.int IntKind.u64 x54.snd.snd.snd.snd.1,
 Value.int IntKind.u64 x54.snd.snd.snd.snd.snd.1, Value.int IntKind.u64 x54.snd.snd.snd.snd.snd.snd.1, Value.int IntKind.u64 x54.snd.snd.snd.snd.snd.snd.2] ∧
 CX Try.prog (37 : Nat)
 #[Value.pointer p8, Value.int IntKind.i64 n51,
 Value.agg
 #[Value.int IntKind.u64 x54.1, Value.int IntKind.u64 x54.snd.1, Value.int IntKind.u64 x54.snd.snd.1, Value.int IntKind.u64 x54.snd.snd.snd.1, Value.int IntKind.u64 x54.snd.snd.snd.snd.1,
 Value.int IntKind.u64 x54.snd.snd.snd.snd.snd.1, Value.int IntKind.u64 x54.snd.snd.snd.snd.snd.snd.1, Value.int IntKind.u64 x54.snd.snd.snd.snd.snd.snd.2]]
 w43.drew fun (v55 : Value) (w56 : World) => ∃ (n57 : Int), v55 = Value.int IntKind.i64 n57 ∧ ([] : List Nat) = [] ∧ ∃ (b58 : Nat), b58 < b41 ∧ y39 b58 (IntKind.i64.wrap (n42 + (1 : Int))) w56
def F9j1 (t0 : Sl) (p8 : Option Addr) (y9 : Unit → World → Prop) (y10 : Nat → Int → World → Prop) (b12 : Nat) (n13 : Int) (w14 : World) : Prop :=
 IfB (decide (n13 < (t0.n : Int)))
 (IfB (decide (n13 < (40 : Int)))
 (F9k1 t0 n13 w14 p8 b12 y10)
 (([] : List Nat) = [] ∧ y9 PUnit.unit w14))
 (([] : List Nat) = [] ∧ y9 PUnit.unit w14)
def F9j3 (t1 : Int) (t3 : Sl) (p8 : Option Addr) (y38 : Unit → World → Prop) (y39 : Nat → Int → World → Prop) (b41 : Nat) (n42 : Int) (w43 : World) : Prop :=
 IfB (decide (n42 < (t3.n : Int)))
 (IfB (decide (n42 < (40 : Int)))
 (∃ (b46 : Nat),
 ∃ (b47 : Nat),
 t3.1 = some ({ block := b46, off := b47 } : Addr) ∧
 ((0 : Int) ≤ n42 ∧ n42 < (t3.2 : Int)) ∧
 ∃ (n48 : Int),
 w43.cell? ({ block := b46, off := b47 + n42.toNat * (11 : Nat) + (1 : Nat) } : Addr) = some (Value.int IntKind.i64 n48) ∧
 IfB (n48 != IntKind.i64.wrap (t1.tmod (16 : Int)))
 (F9k1 t3 n42 w43 p8 b41 y39)
 (([] : List Nat) = [] ∧ ∃ (b59 : Nat), b59 < b41 ∧ y39 b59 (IntKind.i64.wrap (n42 + (1 : Int))) w43))
 (([] : List Nat) = [] ∧ y38 PUnit.unit w43))
 (([] : List Nat) = [] ∧ y38 PUnit.unit w43)
def F9j4 (t1 : Int) (t4 : Sl) (R : Value → World → Prop) (b1 : Nat) (p8 : Option Addr) (w61 : World) : Prop :=
 CX Try.prog (40 : Nat) #[Value.slice t4.1 t4.2 t4.3] w61 fun (v64 : Value) (w65 : World) =>
 ∃ (x66 : Nat × Array Value),
 v64 = Value.func (Fn.func x66.1) #[] x66.2 ∧
 CX Try.prog (39 : Nat) #[Value.pointer p8, Value.func (Fn.func x66.1) #[] x66.2] w65 fun (v67 : Value) (w68 : World) =>
 ∃ (y69 : Unit),
 v67 = Value.tuple #[] ∧
 CX Try.prog (41 : Nat) #[Value.pointer p8, Value.int IntKind.i64 (IntKind.i64.wrap (t1.tmod (16 : Int)))] w68 fun (v70 : Value) (w71 : World) =>
 ∃ (x72 : (Int × Int × Int × Int × Int × Int × Int × Int) × Int),
 v70 =
 Value.tuple
 #[Value.agg
 #[Value.int IntKind.u64 x72.fst.1, Value.int IntKind.u64 x72.fst.snd.1, Value.int IntKind.u64 x72.fst.snd.snd.1, Value.int IntKind.u64 x72.fst.snd.snd.snd.1,
 Value.int IntKind.u64 x72.fst.snd.snd.snd.snd.1, Value.int IntKind.u64 x72.fst.snd.snd.snd.snd.snd.1, Value.int IntKind.u64 x72.fst.snd.snd.snd.snd.snd.snd.1,
 Value.int IntKind.u64 x72.fst.snd.snd.snd.snd.snd.snd.2],
 Value.int IntKind.i64 x72.2] ∧
 AllocP w71
 (Obj.cells
 #[Value.int IntKind.u64 (0 : Int), Value.int IntKind.u64 (0 : Int), Value.int IntKind.u64 (0 : Int), Value.int IntKind.u64 (0 : Int), Value.int IntKind.u64 (0 : Int), Value.int IntKind.u64 (0 : Int),
 Value.int IntKind.u64 (0 : Int), Value.int IntKind.u64 (0 : Int)]
 (67 : Nat))
 fun (b73 : Nat) (w74 : World) =>
 #[Value.int IntKind.u64 x72.fst.1, Value.int IntKind.u64 x72.fst.snd.1, Value.int IntKind.u64 x72.fst.snd.snd.1, Value.int IntKind.u64 x72.fst.snd.snd.snd.1,
 Value.int IntKind.u64 x72.fst.snd.snd.snd.snd.1, Value.int IntKind.u64 x72.fst.snd.snd.snd.snd.snd.1, Value.int IntKind.u64 x72.fst.snd.snd.snd.snd.snd.snd.1,
 Value.int IntKind.u64 x72.fst.snd.snd.snd.snd.snd.snd.2].size =
 (8 : Nat) ∧
 StoreP w74 b73 (0 : Nat)
 [Value.int IntKind.u64 x72.fst.1, Value.int IntKind.u64 x72.fst.snd.1, Value.int IntKind.u64 x72.fst.snd.snd.1, Value.int IntKind.u64 x72.fst.snd.snd.snd.1,
 Value.int IntKind.u64 x72.fst.snd.snd.snd.snd.1, Value.int IntKind.u64 x72.fst.snd.snd.snd.snd.snd.1, Value.int IntKind.u64 x72.fst.snd.snd.snd.snd.snd.snd.1,
 Value.int IntKind.u64 x72.fst.snd.snd.snd.snd.snd.snd.2]
 fun (w75 : World) =>
 IfB (x72.2 == (0 : Int))
 (∃ (x76 : Int × Int × Int × Int × Int × Int × Int × Int),
 CellsAt w75 b73 (0 : Nat)
 [Value.int IntKind.u64 x76.1, Value.int IntKind.u64 x76.snd.1, Value.int IntKind.u64 x76.snd.snd.1, Value.int IntKind.u64 x76.snd.snd.snd.1, Value.int IntKind.u64 x76.snd.snd.snd.snd.1,
 Value.int IntKind.u64 x76.snd.snd.snd.snd.snd.1, Value.int IntKind.u64 x76.snd.snd.snd.snd.snd.snd.1, Value.int IntKind.u64 x76.snd.snd.snd.snd.snd.snd.2] ∧
 ∃ (x77 : Int × Int × Int × Int × Int × Int × Int × Int),
 CellsAt w75 b1 (0 : Nat)
 [Value.int IntKind.u64 x77.1, Value.int IntKind.u64 x77.snd.1, Value.int IntKind.u64 x77.snd.snd.1, Value.int IntKind.u64 x77.snd.snd.snd.1, Value.int IntKind.u64 x77.snd.snd.snd.snd.1,
 Value.int IntKind.u64 x77.snd.snd.snd.snd.snd.1, Value.int IntKind.u64 x77.snd.snd.snd.snd.snd.snd.1, Value.int IntKind.u64 x77.snd.snd.snd.snd.snd.snd.2] ∧
 ∃ (t78 : Bool),
 EqAt Try.prog (67 : Nat)
 (Value.agg
 #[Value.int IntKind.u64 x76.1, Value.int IntKind.u64 x76.snd.1, Value.int IntKind.u64 x76.snd.snd.1, Value.int IntKind.u64 x76.snd.snd.snd.1, Value.int IntKind.u64 x76.snd.snd.snd.snd.1,
 Value.int IntKind.u64 x76.snd.snd.snd.snd.snd.1, Value.int IntKind.u64 x76.snd.snd.snd.snd.snd.snd.1, Value.int IntKind.u64 x76.snd.snd.snd.snd.snd.snd.2])
 (Value.agg
 #[Value.int IntKind.u64 x77.1, Value.int IntKind.u64 x77.snd.1, Value.int IntKind.u64 x77.snd.snd.1, Value.int IntKind.u64 x77.snd.snd.snd.1, Value.int IntKind.u64 x77.snd.snd.snd.snd.1,
 Value.int IntKind.u64 x77.snd.snd.snd.snd.snd.1, Value.int IntKind.u64 x77.snd.snd.snd.snd.snd.snd.1, Value.int IntKind.u64 x77.snd.snd.snd.snd.snd.snd.2])
 t78 ∧
 IfB t78 (CX Try.prog (42 : Nat) #[Value.pointer p8] w75 fun (v79 : Value) (w80 : World) => ∃ (s81 : Sl), v79 = Value.slice s81.1 s81.2 s81.3 ∧ R (Value.bool ((s81.2 : Int) == (0 : Int))) w80)
 (R (Value.bool false) w75))
 (R (Value.bool false) w75)
def F9j2 (t1 : Int) (t3 : Sl) (t4 : Sl) (R : Value → World → Prop) (b1 : Nat) (p8 : Option Addr) (w28 : World) : Prop :=
 ¬(16 : Int) = (0 : Int) ∧
 ∃ (x31 : Int × Int × Int × Int × Int × Int × Int × Int),
 CellsAt w28 b1 (0 : Nat)
 [Value.int IntKind.u64 x31.1, Value.int IntKind.u64 x31.snd.1, Value.int IntKind.u64 x31.snd.snd.1, Value.int IntKind.u64 x31.snd.snd.snd.1, Value.int IntKind.u64 x31.snd.snd.snd.snd.1,
 Value.int IntKind.u64 x31.snd.snd.snd.snd.snd.1, Value.int IntKind.u64 x31.snd.snd.snd.snd.snd.snd.1, Value.int IntKind.u64 x31.snd.snd.snd.snd.snd.snd.2] ∧
 CX Try.prog (37 : Nat)
 #[Value.pointer p8, Value.int IntKind.i64 (IntKind.i64.wrap (t1.tmod (16 : Int))),
 Value.agg
 #[Value.int IntKind.u64 x31.1, Value.int IntKind.u64 x31.snd.1, Value.int IntKind.u64 x31.snd.snd.1, Value.int IntKind.u64 x31.snd.snd.snd.1, Value.int IntKind.u64 x31.snd.snd.snd.snd.1,
 Value.int IntKind.u64 x31.snd.snd.snd.snd.snd.1, Value.int IntKind.u64 x31.snd.snd.snd.snd.snd.snd.1, Value.int IntKind.u64 x31.snd.snd.snd.snd.snd.snd.2]]
 w28 fun (v32 : Value) (w33 : World) =>
 ∃ (n34 : Int),
 v32 = Value.int IntKind.i64 n34 ∧
 CX Try.prog (38 : Nat) #[Value.pointer p8] w33 fun (v35 : Value) (w36 : World) =>
 ∃ (y37 : Unit),
 v35 = Value.tuple #[] ∧
 ∃ (y38 : Unit → World → Prop),
 (∃ (y39 : Nat → Int → World → Prop),
 (∃ (b40 : Nat), y39 b40 (0 : Int) w36) ∧
 ∀ (b41 : Nat) (n42 : Int) (w43 : World) (y44 : Nat → Value),
 y39 b41 n42 w43 →
 (F9j3 t1 t3 p8 y38 y39 b41 n42 w43)) ∧
 ∀ (y60 : Unit) (w61 : World) (y62 : Nat → Value),
 y38 y60 w61 →
 (F9j4 t1 t4 R b1 p8 w61)
def F9 (t0 : Sl) (t1 : Int) (t2 : (Leaf.int IntKind.u64).den ×
 dens
 [Leaf.int IntKind.u64, Leaf.int IntKind.u64, Leaf.int IntKind.u64, Leaf.int IntKind.u64, Leaf.int IntKind.u64,
 Leaf.int IntKind.u64, Leaf.int IntKind.u64]) (t3 : Sl) (t4 : Sl) (w : World) (R : Value → World → Prop) : Prop :=
 AllocP w
 (Obj.cells
 #[Value.int IntKind.u64 t2.1, Value.int IntKind.u64 t2.snd.1, Value.int IntKind.u64 t2.snd.snd.1, Value.int IntKind.u64 t2.snd.snd.snd.1, Value.int IntKind.u64 t2.snd.snd.snd.snd.1,
 Value.int IntKind.u64 t2.snd.snd.snd.snd.snd.1, Value.int IntKind.u64 t2.snd.snd.snd.snd.snd.snd.1, Value.int IntKind.u64 t2.snd.snd.snd.snd.snd.snd.2]
 (67 : Nat))
 fun (b1 : Nat) (w2 : World) =>
 CX Try.prog (35 : Nat) #[] w2 fun (v3 : Value) (w4 : World) =>
 ∃ (t5 : Bool),
 v3 = Value.bool t5 ∧
 IfB (!t5) (R (Value.bool false) w4)
 (CX Try.prog (36 : Nat) #[Value.int IntKind.i64 (16 : Int)] w4 fun (v6 : Value) (w7 : World) =>
 ∃ (p8 : Option Addr),
 v6 = Value.pointer p8 ∧
 ∃ (y9 : Unit → World → Prop),
 (∃ (y10 : Nat → Int → World → Prop),
 (∃ (b11 : Nat), y10 b11 (0 : Int) w7) ∧
 ∀ (b12 : Nat) (n13 : Int) (w14 : World) (y15 : Nat → Value),
 y10 b12 n13 w14 →
 (F9j1 t0 p8 y9 y10 b12 n13 w14)) ∧
 ∀ (y27 : Unit) (w28 : World) (y29 : Nat → Value),
 y9 y27 w28 →
 (F9j2 t1 t3 t4 R b1 p8 w28))
theorem F9_ok (t0 : Sl) (t1 : Int) (t2 : (Leaf.int IntKind.u64).den ×
 dens
 [Leaf.int IntKind.u64, Leaf.int IntKind.u64, Leaf.int IntKind.u64, Leaf.int IntKind.u64, Leaf.int IntKind.u64,
 Leaf.int IntKind.u64, Leaf.int IntKind.u64]) (t3 : Sl) (t4 : Sl) (w : World) (R : Value → World → Prop) (h : F9 t0 t1 t2 t3 t4 w R) : CW Try.prog 9 #[Value.slice t0.1 t0.2 t0.3, Value.int IntKind.u8 t1, Value.agg #[Value.int IntKind.u64 t2.1, Value.int IntKind.u64 t2.snd.1, Value.int IntKind.u64 t2.snd.snd.1, Value.int IntKind.u64 t2.snd.snd.snd.1, Value.int IntKind.u64 t2.snd.snd.snd.snd.1, Value.int IntKind.u64 t2.snd.snd.snd.snd.snd.1, Value.int IntKind.u64 t2.snd.snd.snd.snd.snd.snd.1, Value.int IntKind.u64 t2.snd.snd.snd.snd.snd.snd.2], Value.slice t3.1 t3.2 t3.3, Value.slice t4.1 t4.2 t4.3] w R :=
  call_of tbOk mixed en9 Try.func9 rfl (.node (.nil) (.node (.nil) (.node (.nil) (.join [] [12, 20, 21, 22, 23, 24, 25, 26, 27, 30, 31, 32, 33, 34, 35, 36, 37, 38, 39, 40, 41, 28, 29] (.node (.nil) (.loop [(12, .one (.int .i64))] [20, 21, 22, 23, 24, 25, 26, 27, 30, 31, 32, 33, 34, 35, 36, 37, 38, 39, 40, 41, 28, 29, 12] (.node (.nil) (.node (.draw (.st 0 (.st 1 (.st 2 (.st 3 (.st 4 (.st 5 (.st 6 (.st 7 (.st 8 (.st 9 (.st 10 (.ac 11 [] (.fin) (.non)))))))))))))) (.nil))))) (.node (.nil) (.node (.nil) (.node (.nil) (.join [] [14, 51, 52, 53, 54, 55, 56, 57, 58, 61, 62, 63, 64, 65, 66, 67, 68, 69, 70, 71, 72, 73, 74, 75, 76, 77, 78, 79, 59, 60] (.node (.nil) (.loop [(14, .one (.int .i64))] [51, 52, 53, 54, 55, 56, 57, 58, 61, 62, 63, 64, 65, 66, 67, 68, 69, 70, 71, 72, 73, 74, 75, 76, 77, 78, 79, 59, 60, 14] (.node (.nil) (.node (.node (.nil) (.node (.draw (.st 0 (.st 1 (.st 2 (.st 3 (.st 4 (.st 5 (.st 6 (.st 7 (.st 8 (.st 9 (.st 10 (.ac 11 [] (.fin) (.non)))))))))))))) (.nil))) (.nil))))) (.nil))))))))) (by kernel_rfl) (Nat.le_of_ble_eq_true (by kernel_rfl)) (Eq.mp (α := F9 t0 t1 t2 t3 t4 w R) (by kernel_rfl) h)

end Go.Proofs.Ytopecljhehcldaa.Gx
