/- Written by mkf.py: what is to be shown of functions, as Gx reckons it from their code. -/
import Derived.Test.YtopecljhehcldaaGxT
namespace Go.Proofs.Ytopecljhehcldaa.Gx
open Go
set_option linter.unusedVariables false
set_option maxRecDepth 100000

def F10j1 (t0 : Sl) (p6 : Option Addr) (p9 : Option Addr) (y10 : Unit → World → Prop) (y11 : Nat → Int → World → Prop) (b13 : Nat) (n14 : Int) (w15 : World) : Prop :=
 IfB (decide (n14 < (t0.n : Int)))
 (IfB (decide (n14 < (40 : Int)))
 (∃ (b18 : Nat),
 ∃ (b19 : Nat),
 t0.1 = some ({ block := b18, off := b19 } : Addr) ∧
 ((0 : Int) ≤ n14 ∧ n14 < (t0.2 : Int)) ∧
 ∃ (n20 : Int),
 w15.drew.cell? ({ block := b18, off := b19 + n14.toNat * (11 : Nat) + (1 : Nat) } : Addr) = some (Value.int IntKind.i64 n20) ∧
 ∃ (b21 : Nat),
 ∃ (b22 : Nat),
 t0.1 = some ({ block := b21, off := b22 } : Addr) ∧
 ((0 : Int) ≤ n14 ∧ n14 < (t0.2 : Int)) ∧
 ∃ (x23 : Int × Int × Int × Int × Int × Int × Int × Int),
 CellsAt w15.drew b21 (b22 + n14.toNat * (11 : Nat) + (2 : Nat))
 [Value.int IntKind.u64 x23.1, Value.int IntKind.u64 x23.snd.1, Value.int IntKind.u64 x23.snd.snd.1, Value.int IntKind.u64 x23.snd.snd.snd.1, Value.int IntKind.u64 x23.snd.snd.snd.snd.1,
 Value.int IntKind.u64 x23.snd.snd.snd.snd.snd.1, Value.int IntKind.u64 x23.snd.snd.snd.snd.snd.snd.1, Value.int IntKind.u64 x23.snd.snd.snd.snd.snd.snd.2] ∧
 CX Try.prog (37 : Nat)
 #[Value.pointer p6, Value.int IntKind.i64 n20,
 Value.agg
 #[Value.int IntKind.u64 x23.1, Value.int IntKind.u64 x23.snd.1, Value.int IntKind.u64 x23.snd.snd.1, Value.int IntKind.u64 x23.snd.snd.snd.1, Value.int IntKind.u64 x23.snd.snd.snd.snd.1,
 Value.int IntKind.u64 x23.snd.snd.snd.snd.snd.1, Value.int IntKind.u64 x23.snd.snd.snd.snd.snd.snd.1, Value.int IntKind.u64 x23.snd.snd.snd.snd.snd.snd.2]]
 w15.drew fun (v24 : Value) (w25 : World) =>
 ∃ (n26 : Int),
 v24 = Value.int IntKind.i64 n26 ∧
 ∃ (b27 : Nat),
 ∃ (b28 : Nat),
 t0.1 = some ({ block := b27, off := b28 } : Addr) ∧
 ((0 : Int) ≤ n14 ∧ n14 < (t0.2 : Int)) ∧
 ∃ (n29 : Int),
 w25.drew.cell? ({ block := b27, off := b28 + n14.toNat * (11 : Nat) + (1 : Nat) } : Addr) = some (Value.int IntKind.i64 n29) ∧
 ∃ (b30 : Nat),
 ∃ (b31 : Nat),
 t0.1 = some ({ block := b30, off := b31 } : Addr) ∧
 ((0 : Int) ≤ n14 ∧ n14 < (t0.2 : Int)) ∧
 ∃ (x32 : Int × Int × Int × Int × Int × Int × Int × Int),
 CellsAt w25.drew b30 (b31 + n14.toNat * (11 : Nat) + (2 : Nat))
 [Value.int IntKind.u64 x32.1, Value.int IntKind.u64 x32.snd.1, Value.int IntKind.u64 x32.snd.snd.1, Value.int IntKind.u64 x32.snd.snd.snd.1, Value.int IntKind.u64 x32.snd.snd.snd.snd.1,
 Value.int IntKind.u64 x32.snd.snd.snd.snd.snd.1, Value.int IntKind.u64 x32.snd.snd.snd.snd.snd.snd.1, Value.int IntKind.u64 x32.snd.snd.snd.snd.snd.snd.2] ∧
 CX Try.prog (37 : Nat)
 #[Value.pointer p9, Value.int IntKind.i64 n29,
 Value.agg
 #[Value.int IntKind.u64 x32.1, Value.int IntKind.u64 x32.snd.1, Value.int IntKind.u64 x32.snd.snd.1, Value.int IntKind.u64 x32.snd.snd.snd.1, Value.int IntKind.u64 x32.snd.snd.snd.snd.1,
 Value.int IntKind.u64 x32.snd.snd.snd.snd.snd.1, Value.int IntKind.u64 x32.snd.snd.snd.snd.snd.snd.1, Value.int IntKind.u64 x32.snd.snd.snd.snd.snd.snd.2]]
 w25.drew fun (v33 : Value) (w34 : World) => ∃ (n35 : Int), v33 = Value.int IntKind.i64 n35 ∧ ([] : List Nat) = [] ∧ ∃ (b36 : Nat), b36 < b13 ∧ y11 b36 (IntKind.i64.wrap (n14 + (1 : Int))) w34)
 (([] : List Nat) = [] ∧ y10 PUnit.unit w15))
 (([] : List Nat) = [] ∧ y10 PUnit.unit w15)
def F10j4 (t1 : Sl) (p6 : Option Addr) (y63 : Unit → World → Prop) (y64 : Nat → Int → World → Prop) (b66 : Nat) (n67 : Int) (w68 : World) : Prop :=
 IfB (decide (n67 < (t1.n : Int)))
 (IfB (decide (n67 < (40 : Int)))
 (∃ (b71 : Nat),
 ∃ (b72 : Nat),
 t1.1 = some ({ block := b71, off := b72 } : Addr) ∧
 ((0 : Int) ≤ n67 ∧ n67 < (t1.2 : Int)) ∧
 ∃ (n73 : Int),
 w68.drew.cell? ({ block := b71, off := b72 + n67.toNat * (11 : Nat) + (1 : Nat) } : Addr) = some (Value.int IntKind.i64 n73) ∧
 ∃ (b74 : Nat),
 ∃ (b75 : Nat),
 t1.1 = some ({ block := b74, off := b75 } : Addr) ∧
 ((0 : Int) ≤ n67 ∧ n67 < (t1.2 : Int)) ∧
 ∃ (x76 : Int × Int × Int × Int × Int × Int × Int × Int),
 CellsAt w68.drew b74 (b75 + n67.toNat * (11 : Nat) + (2 : Nat))
 [Value.int IntKind.u64 x76.1, Value.int IntKind.u64 x76.snd.1, Value.int IntKind.u64 x76.snd.snd.1, Value.int IntKind.u64 x76.snd.snd.snd.1, Value.int IntKind.u64 x76.snd.snd.snd.snd.1,
 Value.int IntKind.u64 x76.snd.snd.snd.snd.snd.1, Value.int IntKind.u64 x76.snd.snd.snd.snd.snd.snd.1, Value.int IntKind.u64 x76.snd.snd.snd.snd.snd.snd.2] ∧
 CX Try.prog (37 : Nat)
 #[Value.pointer p6, Value.int IntKind.i64 n73,
 Value.agg
 #[Value.int IntKind.u64 x76.1, Value.int IntKind.u64 x76.snd.1, Value.int IntKind.u64 x76.snd.snd.1, Value.int IntKind.u64 x76.snd.snd.snd.1, Value.int IntKind.u64 x76.snd.snd.snd.snd.1,
 Value.int IntKind.u64 x76.snd.snd.snd.snd.snd.1, Value.int IntKind.u64 x76.snd.snd.snd.snd.snd.snd.1, Value.int IntKind.u64 x76.snd.snd.snd.snd.snd.snd.2]]
 w68.drew fun (v77 : Value) (w78 : World) => ∃ (n79 : Int), v77 = Value.int IntKind.i64 n79 ∧ ([] : List Nat) = [] ∧ ∃ (b80 : Nat), b80 < b66 ∧ y64 b80 (IntKind.i64.wrap (n67 + (1 : Int))) w78)
 (([] : List Nat) = [] ∧ y63 PUnit.unit w68))
 (([] : List Nat) = [] ∧ y63 PUnit.unit w68)
def F10k1 (p6 : Option Addr) (n94 : Int) (w95 : World) (p9 : Option Addr) (R : Value → World → Prop) (b93 : Nat) (y91 : Nat → Int → World → Prop) : Prop :=
 CX Try.prog (41 : Nat) #[Value.pointer p6, Value.int IntKind.i64 n94] w95 fun (v98 : Value) (w99 : World) =>
 ∃ (x100 : (Int × Int × Int × Int × Int × Int × Int × Int) × Int),
 v98 =
 Value.tuple
 #[Value.agg
 #[Value.int IntKind.u64 x100.fst.1, Value.int IntKind.u64 x100.fst.snd.1, Value.int IntKind.u64 x100.fst.snd.snd.1, Value.int IntKind.u64 x100.fst.snd.snd.snd.1,
 Value.int IntKind.u64 x100.fst.snd.snd.snd.snd.1, Value.int IntKind.u64 x100.fst.snd.snd.snd.snd.snd.1, Value.int IntKind.u64 x100.fst.snd.snd.snd.snd.snd.snd.1,
 Value.int IntKind.u64 x100.fst.snd.snd.snd.snd.snd.snd.2],
 Value.int IntKind.i64 x100.2] ∧
 AllocP w99
 (Obj.cells
 #[Value.int IntKind.u64 (0 : Int), Value.int IntKind.u64 (0 : Int), Value.int IntKind.u64 (0 : Int), Value.int IntKind.u64 (0 : Int), Value.int IntKind.u64 (0 : Int), Value.int IntKind.u64 (0 : Int),
 Value.int IntKind.u64 (0 : Int), Value.int IntKind.u64 (0 : Int)]
 (67 : Nat))
 fun (b101 : Nat) (w102 : World) =>
 #[Value.int IntKind.u64 x100.fst.1, Value.int IntKind.u64 x100.fst.snd.1, Value.int IntKind.u64 x100.fst.snd.snd.1, Value.int IntKind.u64 x100.fst.snd.snd.snd.1,
 Value.int IntKind.u64 x100.fst.snd.snd.snd.snd.1, Value.int IntKind.u64 x100.fst.snd.snd.snd.snd.snd.1, Value.int IntKind.u64 x100.fst.snd.snd.snd.snd.snd.snd.1,
 Value.int IntKind.u64 x100.fst.snd.snd.snd.snd.snd.snd.2].size =
 (8 : Nat) ∧
 StoreP w102 b101 (0 : Nat)
 [Value.int IntKind.u64 x100.fst.1, Value.int IntKind.u64 x100.fst.snd.1, Value.int IntKind.u64 x100.fst.snd.snd.1, Value.int IntKind.u64 x100.fst.snd.snd.snd.1,
 Value.int IntKind.u64 x100.fst.snd.snd.snd.snd.1, Value.int IntKind.u64 x100.fst.snd.snd.snd.snd.snd.1, Value.int IntKind.u64 x100.fst.snd.snd.snd.snd.snd.snd.1,
 Value.int IntKind.u64 x100.fst.snd.snd.snd.snd.snd.snd.2]
 fun (w103 : World) =>
 CX Try.prog (41 : Nat) #[Value.pointer p9, Value.int IntKind.i64 n94] w103 fun (v104 : Value) (w105 : World) =>
 ∃ (x106 : (Int × Int × Int × Int × Int × Int × Int × Int) × Int),
 v104 =
 Value.tuple
 #[Value.agg
 #[Value.int IntKind.u64 x106.fst.1, Value.int IntKind.u64 x106.fst.snd.1, Value.int IntKind.u64 x106.fst.snd.snd.1, Value.int IntKind.u64 x106.fst.snd.snd.snd.1,
 Value.int IntKind.u64 x106.fst.snd.snd.snd.snd.1, Value.int IntKind.u64 x106.fst.snd.snd.snd.snd.snd.1, Value.int IntKind.u64 x106.fst.snd.snd.snd.snd.snd.snd.1,
 Value.int IntKind.u64 x106.fst.snd.snd.snd.snd.snd.snd.2],
 Value.int IntKind.i64 x106.2] ∧
 AllocP w105
 (Obj.cells
 #[Value.int IntKind.u64 (0 : Int), Value.int IntKind.u64 (0 : Int), Value.int IntKind.u64 (0 : Int), Value.int IntKind.u64 (0 : Int), Value.int IntKind.u64 (0 : Int), Value.int IntKind.u64 (0 : Int),
 Value.int IntKind.u64 (0 : Int), Value.int IntKind.u64 (0 : Int)]
 (67 : Nat))
 fun (b107 : Nat) (w108 : World) =>
 #[Value.int IntKind.u64 x106.fst.1, Value.int IntKind.u64 x106.fst.snd.1, Value.int IntKind.u64 x106.fst.snd.snd.1, Value.int IntKind.u64 x106.fst.snd.snd.snd.1,
 Value.int IntKind.u64 x106.fst.snd.snd.snd.snd.1, Value.int IntKind.u64 x106.fst.snd.snd.snd.snd.snd.1, Value.int IntKind.u64 x106.fst.snd.snd.snd.snd.snd.snd.1,
 Value.int IntKind.u64 x106.fst.snd.snd.snd.snd.snd.snd.2].size =
 (8 : Nat) ∧
 StoreP w108 b107 (0 : Nat)
 [Value.int IntKind.u64 x106.fst.1, Value.int IntKind.u64 x106.fst.snd.1, Value.int IntKind.u64 x106.fst.snd.snd.1, Value.int IntKind.u64 x106.fst.snd.snd.snd.1,
 Value.int IntKind.u64 x106.fst.snd.snd.snd.snd.1, Value.int IntKind.u64 x106.fst.snd.snd.snd.snd.snd.1, Value.int IntKind.u64 x106.fst.snd.snd.snd.snd.snd.snd.1,
 Value.int IntKind.u64 x106.fst.snd.snd.snd.snd.snd.snd.2]
 fun (w109 : World) =>
 ∃ (x110 : Int × Int × Int × Int × Int × Int × Int × Int),
 CellsAt w109 b101 (0 : Nat)
 [Value.int IntKind.u64 x110.1, Value.int IntKind.u64 x110.snd.1, Value.int IntKind.u64 x110.snd.snd.1, Value.int IntKind.u64 x110.snd.snd.snd.1, Value.int IntKind.u64 x110.snd.snd.snd.snd.1,
 Value.int IntKind.u64 x110.snd.snd.snd.snd.snd.1, Value.int IntKind.u64 x110.snd.snd.snd.snd.snd.snd.1, Value.int IntKind.u64 x110.snd.snd.snd.snd.snd.snd.2] ∧
 ∃ (x111 : Int × Int × Int × Int × Int × Int × Int × Int),
 CellsAt w109 b107 (0 : Nat)
 [Value.int IntKind.u64 x111.1, Value.int IntKind.u64 x111.snd.1, Value.int IntKind.u64 x111.snd.snd.1, Value.int IntKind.u64 x111.snd.snd.snd.1, Value.int IntKind.u64 x111.snd.snd.snd.snd.1,
 Value.int IntKind.u64 x111.snd.snd.snd.snd.snd.1, Value.int IntKind.u64 x111.snd.snd.snd.snd.snd.snd.1, Value.int IntKind.u64 x111.snd.snd.snd.snd.snd.snd.2] ∧
 ∃ (t112 : Bool),
 EqAt Try.prog (67 : Nat)
 (Value.agg
 #[Value.int IntKind.u64 x110.1, Value.int IntKind.u64 x110.snd.1, Value.int IntKind.u64 x110.snd.snd.1, Value.int IntKind.u64 x110.snd.snd.snd.1, Value.int IntKind.u64 x110.snd.snd.snd.snd.1,
 Value.int IntKind.u64 x110.snd.snd.snd.snd.snd.1, Value.int IntKind.u64 x110.snd.snd.snd.snd.snd.snd.1, Value.int IntKind.u64 x110.snd.snd.snd.snd.snd.snd.2])
 (Value.agg
 #[Value.int IntKind.u64 x111.1, Value.int IntKind.u64 x111.snd.1, Value.int IntKind.u64 x111.snd.snd.1, Value.int IntKind.u64 x111.snd.snd.snd.1, Value.int IntKind.u64 x111.snd.snd.snd.snd.1,
 Value.int IntKind.u64 x111.snd.snd.snd.snd.snd.1, Value.int IntKind.u64 x111.snd.snd.snd.snd.snd.snd.1, Value.int IntKind.u64 x111.snd.snd.snd.snd.snd.snd.2])
 t112 ∧
 IfB (!t112) (R (Value.bool false) w109) (([] : List Nat) = [] ∧ ∃ (b113 : Nat), b113 < b93 ∧ y91 b113 (IntKind.i64.wrap (n94 + (1 : Int))) w109)
def F10j6 (R : Value → World → Prop) (p6 : Option Addr) (p9 : Option Addr) (y91 : Nat → Int → World → Prop) (b93 : Nat) (n94 : Int) (w95 : World) : Prop :=
 IfB (decide (n94 < (16 : Int)))
 (F10k1 p6 n94 w95 p9 R b93 y91)
 (R (Value.bool true) w95)
def F10j5 (R : Value → World → Prop) (p6 : Option Addr) (p9 : Option Addr) (w82 : World) : Prop :=
 CX Try.prog (40 : Nat) #[Value.slice none (0 : Nat) (0 : Nat)] w82 fun (v85 : Value) (w86 : World) =>
 ∃ (x87 : Nat × Array Value),
 v85 = Value.func (Fn.func x87.1) #[] x87.2 ∧
 CX Try.prog (39 : Nat) #[Value.pointer p6, Value.func (Fn.func x87.1) #[] x87.2] w86 fun (v88 : Value) (w89 : World) =>
 ∃ (y90 : Unit),
 v88 = Value.tuple #[] ∧
 ∃ (y91 : Nat → Int → World → Prop),
 (∃ (b92 : Nat), y91 b92 (0 : Int) w89) ∧
 ∀ (b93 : Nat) (n94 : Int) (w95 : World) (y96 : Nat → Value),
 y91 b93 n94 w95 →
 (F10j6 R p6 p9 y91 b93 n94 w95)
def F10j3 (t1 : Sl) (R : Value → World → Prop) (p6 : Option Addr) (p9 : Option Addr) (y44 : Nat → Sl × Int → World → Prop) (b46 : Nat) (x47 : Sl × Int) (w48 : World) : Prop :=
 IfB (decide (x47.snd < (16 : Int)))
 ((1 : Nat) * (1 : Nat) ≤ (16777216 : Nat) ∧
 AllocP w48 (Obj.cells #[Value.bool true] (4 : Nat)) fun (b51 : Nat) (w52 : World) =>
 ∃ (l53 : List Value),
 ReadC w52 (some ({ block := b51, off := (0 : Nat) } : Addr)) ((1 : Nat) * (1 : Nat)) l53 ∧
 AppendP tt4 (4 : Nat) w52 x47.fst.1 x47.fst.2 x47.fst.3 (1 : Nat) l53
 fun (s54 : Sl) (w55 : World) => ([] : List Nat) = [] ∧ ∃ (b56 : Nat), b56 < b46 ∧ y44 b56 ({ p := s54.1, n := s54.2, c := s54.3 }, IntKind.i64.wrap (x47.2 + (1 : Int))) w55)
 (CX Try.prog (40 : Nat) #[Value.slice x47.fst.1 x47.fst.2 x47.fst.3] w48 fun (v57 : Value) (w58 : World) =>
 ∃ (x59 : Nat × Array Value),
 v57 = Value.func (Fn.func x59.1) #[] x59.2 ∧
 CX Try.prog (39 : Nat) #[Value.pointer p9, Value.func (Fn.func x59.1) #[] x59.2] w58 fun (v60 : Value) (w61 : World) =>
 ∃ (y62 : Unit),
 v60 = Value.tuple #[] ∧
 ∃ (y63 : Unit → World → Prop),
 (∃ (y64 : Nat → Int → World → Prop),
 (∃ (b65 : Nat), y64 b65 (0 : Int) w61) ∧
 ∀ (b66 : Nat) (n67 : Int) (w68 : World) (y69 : Nat → Value),
 y64 b66 n67 w68 →
 (F10j4 t1 p6 y63 y64 b66 n67 w68)) ∧
 ∀ (y81 : Unit) (w82 : World) (y83 : Nat → Value),
 y63 y81 w82 →
 (F10j5 R p6 p9 w82))
def F10 (t0 : Sl) (t1 : Sl) (w : World) (R : Value → World → Prop) : Prop :=
 CX Try.prog (35 : Nat) #[] w fun (v1 : Value) (w2 : World) =>
 ∃ (t3 : Bool),
 v1 = Value.bool t3 ∧
 IfB (!t3) (R (Value.bool false) w2)
 (CX Try.prog (36 : Nat) #[Value.int IntKind.i64 (16 : Int)] w2 fun (v4 : Value) (w5 : World) =>
 ∃ (p6 : Option Addr),
 v4 = Value.pointer p6 ∧
 CX Try.prog (36 : Nat) #[Value.int IntKind.i64 (16 : Int)] w5 fun (v7 : Value) (w8 : World) =>
 ∃ (p9 : Option Addr),
 v7 = Value.pointer p9 ∧
 ∃ (y10 : Unit → World → Prop),
 (∃ (y11 : Nat → Int → World → Prop),
 (∃ (b12 : Nat), y11 b12 (0 : Int) w8) ∧
 ∀ (b13 : Nat) (n14 : Int) (w15 : World) (y16 : Nat → Value),
 y11 b13 n14 w15 →
 (F10j1 t0 p6 p9 y10 y11 b13 n14 w15)) ∧
 ∀ (y37 : Unit) (w38 : World) (y39 : Nat → Value),
 y10 y37 w38 →
 CX Try.prog (38 : Nat) #[Value.pointer p6] w38 fun (v41 : Value) (w42 : World) =>
 ∃ (y43 : Unit),
 v41 = Value.tuple #[] ∧
 ∃ (y44 : Nat → Sl × Int → World → Prop),
 (∃ (b45 : Nat), y44 b45 ({ p := none, n := (0 : Nat), c := (0 : Nat) }, (0 : Int)) w42) ∧
 ∀ (b46 : Nat) (x47 : Sl × Int) (w48 : World) (y49 : Nat → Value),
 y44 b46 x47 w48 →
 (F10j3 t1 R p6 p9 y44 b46 x47 w48))
theorem F10_ok (t0 : Sl) (t1 : Sl) (w : World) (R : Value → World → Prop) (h : F10 t0 t1 w R) : CW Try.prog 10 #[Value.slice t0.1 t0.2 t0.3, Value.slice t1.1 t1.2 t1.3] w R :=
  call_of tbOk mixed en10 Try.func10 rfl (.node (.nil) (.node (.nil) (.node (.nil) (.join [] [7, 20, 21, 22, 23, 24, 25, 26, 27, 30, 31, 32, 33, 34, 35, 36, 37, 38, 39, 40, 41, 42, 43, 44, 45, 46, 47, 48, 49, 50, 51, 52, 53, 28, 29] (.node (.nil) (.loop [(7, .one (.int .i64))] [20, 21, 22, 23, 24, 25, 26, 27, 30, 31, 32, 33, 34, 35, 36, 37, 38, 39, 40, 41, 42, 43, 44, 45, 46, 47, 48, 49, 50, 51, 52, 53, 28, 29, 7] (.node (.nil) (.node (.node (.draw (.st 0 (.st 1 (.st 2 (.st 3 (.st 4 (.st 5 (.st 6 (.st 7 (.st 8 (.st 9 (.st 10 (.ac 11 [] (.fin) (.non)))))))))))))) (.draw (.st 0 (.st 1 (.st 2 (.st 3 (.st 4 (.st 5 (.st 6 (.st 7 (.st 8 (.st 9 (.st 10 (.ac 11 [] (.fin) (.non))))))))))))))) (.nil))))) (.node (.nil) (.node (.nil) (.node (.node (.nil) (.loop [(8, .one (.sl)), (9, .one (.int .i64))] [56, 57, 60, 61, 62, 8, 58, 59, 9] (.nil))) (.node (.nil) (.join [] [10, 67, 68, 69, 70, 71, 72, 73, 74, 77, 78, 79, 80, 81, 82, 83, 84, 85, 86, 87, 88, 75, 76] (.node (.nil) (.loop [(10, .one (.int .i64))] [67, 68, 69, 70, 71, 72, 73, 74, 77, 78, 79, 80, 81, 82, 83, 84, 85, 86, 87, 88, 75, 76, 10] (.node (.nil) (.node (.draw (.st 0 (.st 1 (.st 2 (.st 3 (.st 4 (.st 5 (.st 6 (.st 7 (.st 8 (.st 9 (.st 10 (.ac 11 [] (.fin) (.non)))))))))))))) (.nil))))) (.node (.nil) (.node (.node (.nil) (.loop [(11, .one (.int .i64))] [92, 93, 97, 98, 99, 96, 100, 101, 12, 13, 103, 104, 105, 102, 106, 107, 14, 15, 108, 109, 110, 4, 94, 95, 11] (.nil))) (.nil)))))))))))) (by kernel_rfl) (Nat.le_of_ble_eq_true (by kernel_rfl)) (Eq.mp (α := F10 t0 t1 w R) (by kernel_rfl) h)

end Go.Proofs.Ytopecljhehcldaa.Gx
