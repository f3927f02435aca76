/- Written by mkf.py: what is to be shown of functions, as Gx reckons it from their code. -/
import Derived.Test.YtopecljhehcldaaGxT
namespace Go.Proofs.Ytopecljhehcldaa.Gx
open Go
set_option linter.unusedVariables false
set_option maxRecDepth 100000

def F12k3 (p11 : Option Addr) (w14 : World) (R : Value → World → Prop) : Prop :=
 CX Try.prog (38 : Nat) #[Value.pointer p11] w14 fun (v17 : Value) (w18 : World) =>
 ∃ (y19 : Unit),
 v17 = Value.tuple #[] ∧
 CX Try.prog (40 : Nat) #[Value.slice none (0 : Nat) (0 : Nat)] w18 fun (v20 : Value) (w21 : World) =>
 ∃ (x22 : Nat × Array Value),
 v20 = Value.func (Fn.func x22.1) #[] x22.2 ∧
 CX Try.prog (39 : Nat) #[Value.pointer p11, Value.func (Fn.func x22.1) #[] x22.2] w21 fun (v23 : Value) (w24 : World) =>
 ∃ (y25 : Unit),
 v23 = Value.tuple #[] ∧
 CX Try.prog (41 : Nat) #[Value.pointer p11, Value.int IntKind.i64 (0 : Int)] w24 fun (v26 : Value) (w27 : World) =>
 ∃ (x28 : (Int × Int × Int × Int × Int × Int × Int × Int) × Int),
 v26 =
 Value.tuple
 #[Value.agg
 #[Value.int IntKind.u64 x28.fst.1, Value.int IntKind.u64 x28.fst.snd.1, Value.int IntKind.u64 x28.fst.snd.snd.1, Value.int IntKind.u64 x28.fst.snd.snd.snd.1,
 Value.int IntKind.u64 x28.fst.snd.snd.snd.snd.1, Value.int IntKind.u64 x28.fst.snd.snd.snd.snd.snd.1, Value.int IntKind.u64 x28.fst.snd.snd.snd.snd.snd.snd.1,
 Value.int IntKind.u64 x28.fst.snd.snd.snd.snd.snd.snd.2],
 Value.int IntKind.i64 x28.2] ∧
 AllocP w27
 (Obj.cells
 #[Value.int IntKind.u64 (0 : Int), Value.int IntKind.u64 (0 : Int), Value.int IntKind.u64 (0 : Int), Value.int IntKind.u64 (0 : Int), Value.int IntKind.u64 (0 : Int), Value.int IntKind.u64 (0 : Int),
 Value.int IntKind.u64 (0 : Int), Value.int IntKind.u64 (0 : Int)]
 (67 : Nat))
 fun (b29 : Nat) (w30 : World) =>
 #[Value.int IntKind.u64 x28.fst.1, Value.int IntKind.u64 x28.fst.snd.1, Value.int IntKind.u64 x28.fst.snd.snd.1, Value.int IntKind.u64 x28.fst.snd.snd.snd.1,
 Value.int IntKind.u64 x28.fst.snd.snd.snd.snd.1, Value.int IntKind.u64 x28.fst.snd.snd.snd.snd.snd.1, Value.int IntKind.u64 x28.fst.snd.snd.snd.snd.snd.snd.1,
 Value.int IntKind.u64 x28.fst.snd.snd.snd.snd.snd.snd.2].size =
 (8 : Nat) ∧
 StoreP w30 b29 (0 : Nat)
 [Value.int IntKind.u64 x28.fst.1, Value.int IntKind.u64 x28.fst.snd.1, Value.int IntKind.u64 x28.fst.snd.snd.1, Value.int IntKind.u64 x28.fst.snd.snd.snd.1,
 Value.int IntKind.u64 x28.fst.snd.snd.snd.snd.1, Value.int IntKind.u64 x28.fst.snd.snd.snd.snd.snd.1, Value.int IntKind.u64 x28.fst.snd.snd.snd.snd.snd.snd.1,
 Value.int IntKind.u64 x28.fst.snd.snd.snd.snd.snd.snd.2]
 fun (w31 : World) =>
 IfB p11.isNone
 (CX Try.prog (45 : Nat) #[Value.pointer p11] w31 fun (v32 : Value) (w33 : World) =>
 ∃ (n34 : Int),
 v32 = Value.int IntKind.i64 n34 ∧
 IfB (n34 == (0 : Int))
 (IfB (x28.2 == (3 : Int))
 (CX Try.prog (37 : Nat)
 #[Value.pointer p11, Value.int IntKind.i64 (0 : Int),
 Value.agg
 #[Value.int IntKind.u64 (0 : Int), Value.int IntKind.u64 (0 : Int), Value.int IntKind.u64 (0 : Int), Value.int IntKind.u64 (0 : Int), Value.int IntKind.u64 (0 : Int), Value.int IntKind.u64 (0 : Int),
 Value.int IntKind.u64 (0 : Int), Value.int IntKind.u64 (0 : Int)]]
 w33 fun (v35 : Value) (w36 : World) =>
 ∃ (n37 : Int),
 v35 = Value.int IntKind.i64 n37 ∧
 IfB (n37 == (3 : Int))
 (CX Try.prog (42 : Nat) #[Value.pointer p11] w36 fun (v38 : Value) (w39 : World) =>
 ∃ (s40 : Sl),
 v38 = Value.slice s40.1 s40.2 s40.3 ∧
 IfB ((s40.2 : Int) == (0 : Int))
 (CX Try.prog (46 : Nat) #[Value.pointer p11] w39 fun (v41 : Value) (w42 : World) =>
 ∃ (n43 : Int),
 v41 = Value.int IntKind.i64 n43 ∧
 IfB (n43 == (0 : Int))
 (CX Try.prog (47 : Nat) #[Value.pointer p11] w42 fun (v44 : Value) (w45 : World) =>
 ∃ (n46 : Int),
 v44 = Value.int IntKind.i64 n46 ∧
 IfB (n46 == (0 : Int)) (CX Try.prog (43 : Nat) #[Value.pointer p11] w45 fun (v47 : Value) (w48 : World) => ∃ (p49 : Option Addr), v47 = Value.pointer p49 ∧ R (Value.bool p49.isNone) w48)
 (R (Value.bool false) w45))
 (R (Value.bool false) w42))
 (R (Value.bool false) w39))
 (R (Value.bool false) w36))
 (R (Value.bool false) w33))
 (R (Value.bool false) w33))
 (R (Value.bool false) w31)
def F12k1 (w102 : World) (b63 : Nat) (x56 : Option Addr × Int × Int × Int) (n99 : Int) (R : Value → World → Prop) (b55 : Nat) (y53 : Nat → Option Addr × Int × Int × Int → World → Prop) : Prop :=
 ∃ (n104 : Int),
 w102.cell? ({ block := b63, off := (0 : Nat) + (1 : Nat) } : Addr) = some (Value.int IntKind.i64 n104) ∧
 CX Try.prog (41 : Nat) #[Value.pointer x56.1, Value.int IntKind.i64 n104] w102 fun (v105 : Value) (w106 : World) =>
 ∃ (x107 : (Int × Int × Int × Int × Int × Int × Int × Int) × Int),
 v105 =
 Value.tuple
 #[Value.agg
 #[Value.int IntKind.u64 x107.fst.1, Value.int IntKind.u64 x107.fst.snd.1, Value.int IntKind.u64 x107.fst.snd.snd.1, Value.int IntKind.u64 x107.fst.snd.snd.snd.1,
 Value.int IntKind.u64 x107.fst.snd.snd.snd.snd.1, Value.int IntKind.u64 x107.fst.snd.snd.snd.snd.snd.1, Value.int IntKind.u64 x107.fst.snd.snd.snd.snd.snd.snd.1,
 Value.int IntKind.u64 x107.fst.snd.snd.snd.snd.snd.snd.2],
 Value.int IntKind.i64 x107.2] ∧
 AllocP w106
 (Obj.cells
 #[Value.int IntKind.u64 (0 : Int), Value.int IntKind.u64 (0 : Int), Value.int IntKind.u64 (0 : Int), Value.int IntKind.u64 (0 : Int), Value.int IntKind.u64 (0 : Int), Value.int IntKind.u64 (0 : Int),
 Value.int IntKind.u64 (0 : Int), Value.int IntKind.u64 (0 : Int)]
 (67 : Nat))
 fun (b108 : Nat) (w109 : World) =>
 #[Value.int IntKind.u64 x107.fst.1, Value.int IntKind.u64 x107.fst.snd.1, Value.int IntKind.u64 x107.fst.snd.snd.1, Value.int IntKind.u64 x107.fst.snd.snd.snd.1,
 Value.int IntKind.u64 x107.fst.snd.snd.snd.snd.1, Value.int IntKind.u64 x107.fst.snd.snd.snd.snd.snd.1, Value.int IntKind.u64 x107.fst.snd.snd.snd.snd.snd.snd.1,
 Value.int IntKind.u64 x107.fst.snd.snd.snd.snd.snd.snd.2].size =
 (8 : Nat) ∧
 StoreP w109 b108 (0 : Nat)
 [Value.int IntKind.u64 x107.fst.1, Value.int IntKind.u64 x107.fst.snd.1, Value.int IntKind.u64 x107.fst.snd.snd.1, Value.int IntKind.u64 x107.fst.snd.snd.snd.1,
 Value.int IntKind.u64 x107.fst.snd.snd.snd.snd.1, Value.int IntKind.u64 x107.fst.snd.snd.snd.snd.snd.1, Value.int IntKind.u64 x107.fst.snd.snd.snd.snd.snd.snd.1,
 Value.int IntKind.u64 x107.fst.snd.snd.snd.snd.snd.snd.2]
 fun (w110 : World) =>
 IfB (n99 != (3 : Int)) (R (Value.bool false) w110)
 (IfB (x107.2 != (3 : Int)) (R (Value.bool false) w110)
 (∃ (n111 : Int),
 w110.cell? ({ block := b63, off := (0 : Nat) + (1 : Nat) } : Addr) = some (Value.int IntKind.i64 n111) ∧
 CX Try.prog (44 : Nat) #[Value.pointer x56.1, Value.int IntKind.i64 n111] w110 fun (v112 : Value) (w113 : World) =>
 ∃ (x114 : Int × Int × Int × Int × Int × Int × Int × Int),
 v112 =
 Value.agg
 #[Value.int IntKind.u64 x114.1, Value.int IntKind.u64 x114.snd.1, Value.int IntKind.u64 x114.snd.snd.1, Value.int IntKind.u64 x114.snd.snd.snd.1, Value.int IntKind.u64 x114.snd.snd.snd.snd.1,
 Value.int IntKind.u64 x114.snd.snd.snd.snd.snd.1, Value.int IntKind.u64 x114.snd.snd.snd.snd.snd.snd.1, Value.int IntKind.u64 x114.snd.snd.snd.snd.snd.snd.2] ∧
 ∃ (t115 : Bool),
 EqAt Try.prog (67 : Nat)
 (Value.agg
 #[Value.int IntKind.u64 x114.1, Value.int IntKind.u64 x114.snd.1, Value.int IntKind.u64 x114.snd.snd.1, Value.int IntKind.u64 x114.snd.snd.snd.1, Value.int IntKind.u64 x114.snd.snd.snd.snd.1,
 Value.int IntKind.u64 x114.snd.snd.snd.snd.snd.1, Value.int IntKind.u64 x114.snd.snd.snd.snd.snd.snd.1, Value.int IntKind.u64 x114.snd.snd.snd.snd.snd.snd.2])
 (Value.agg
 #[Value.int IntKind.u64 (0 : Int), Value.int IntKind.u64 (0 : Int), Value.int IntKind.u64 (0 : Int), Value.int IntKind.u64 (0 : Int), Value.int IntKind.u64 (0 : Int), Value.int IntKind.u64 (0 : Int),
 Value.int IntKind.u64 (0 : Int), Value.int IntKind.u64 (0 : Int)])
 t115 ∧
 IfB (!t115) (R (Value.bool false) w113) (([] : List Nat) = [] ∧ ∃ (b116 : Nat), b116 < b55 ∧ y53 b116 (x56.1, x56.snd.1, x56.snd.snd.1, IntKind.i64.wrap (x56.snd.snd.2 + (1 : Int))) w113)))
def F12k2 (n67 : Int) (x56 : Option Addr × Int × Int × Int) (w65 : World) (y66 : Option Addr × Int × Int → World → Prop) (b63 : Nat) (p52 : Option Addr) (R : Value → World → Prop) (b55 : Nat) (y53 : Nat → Option Addr × Int × Int × Int → World → Prop) : Prop :=
 IfB (n67.tmod (6 : Int) == (5 : Int))
 (CX Try.prog (43 : Nat) #[Value.pointer x56.1] w65 fun (v86 : Value) (w87 : World) =>
 ∃ (p88 : Option Addr),
 v86 = Value.pointer p88 ∧
 CX Try.prog (37 : Nat)
 #[Value.pointer x56.1, Value.int IntKind.i64 (0 : Int),
 Value.agg
 #[Value.int IntKind.u64 (99 : Int), Value.int IntKind.u64 (98 : Int), Value.int IntKind.u64 (0 : Int), Value.int IntKind.u64 (0 : Int), Value.int IntKind.u64 (0 : Int), Value.int IntKind.u64 (0 : Int),
 Value.int IntKind.u64 (0 : Int), Value.int IntKind.u64 (0 : Int)]]
 w87 fun (v89 : Value) (w90 : World) =>
 ∃ (n91 : Int),
 v89 = Value.int IntKind.i64 n91 ∧
 CX Try.prog (38 : Nat) #[Value.pointer x56.1] w90 fun (v92 : Value) (w93 : World) =>
 ∃ (y94 : Unit), v92 = Value.tuple #[] ∧ ([] : List Nat) = [] ∧ y66 (p88, x56.snd.1, x56.snd.snd.1) w93)
 (∃ (n95 : Int),
 w65.cell? ({ block := b63, off := (0 : Nat) + (1 : Nat) } : Addr) = some (Value.int IntKind.i64 n95) ∧
 ∃ (x96 : Int × Int × Int × Int × Int × Int × Int × Int),
 CellsAt w65 b63 ((0 : Nat) + (2 : Nat))
 [Value.int IntKind.u64 x96.1, Value.int IntKind.u64 x96.snd.1, Value.int IntKind.u64 x96.snd.snd.1, Value.int IntKind.u64 x96.snd.snd.snd.1, Value.int IntKind.u64 x96.snd.snd.snd.snd.1,
 Value.int IntKind.u64 x96.snd.snd.snd.snd.snd.1, Value.int IntKind.u64 x96.snd.snd.snd.snd.snd.snd.1, Value.int IntKind.u64 x96.snd.snd.snd.snd.snd.snd.2] ∧
 CX Try.prog (37 : Nat)
 #[Value.pointer x56.1, Value.int IntKind.i64 n95,
 Value.agg
 #[Value.int IntKind.u64 x96.1, Value.int IntKind.u64 x96.snd.1, Value.int IntKind.u64 x96.snd.snd.1, Value.int IntKind.u64 x96.snd.snd.snd.1, Value.int IntKind.u64 x96.snd.snd.snd.snd.1,
 Value.int IntKind.u64 x96.snd.snd.snd.snd.snd.1, Value.int IntKind.u64 x96.snd.snd.snd.snd.snd.snd.1, Value.int IntKind.u64 x96.snd.snd.snd.snd.snd.snd.2]]
 w65 fun (v97 : Value) (w98 : World) =>
 ∃ (n99 : Int),
 v97 = Value.int IntKind.i64 n99 ∧
 ∃ (n100 : Int),
 w98.cell? ({ block := b63, off := (0 : Nat) + (1 : Nat) } : Addr) = some (Value.int IntKind.i64 n100) ∧
 CX Try.prog (51 : Nat) #[Value.pointer p52, Value.int IntKind.i64 n100] w98 fun (v101 : Value) (w102 : World) =>
 ∃ (t103 : Bool),
 v101 = Value.bool t103 ∧
 IfB (!t103)
 (F12k1 w102 b63 x56 n99 R b55 y53)
 (IfB (n99 != (0 : Int)) (R (Value.bool false) w102)
 (∃ (n117 : Int),
 w102.cell? ({ block := b63, off := (0 : Nat) + (1 : Nat) } : Addr) = some (Value.int IntKind.i64 n117) ∧
 ∃ (x118 : Int × Int × Int × Int × Int × Int × Int × Int),
 CellsAt w102 b63 ((0 : Nat) + (2 : Nat))
 [Value.int IntKind.u64 x118.1, Value.int IntKind.u64 x118.snd.1, Value.int IntKind.u64 x118.snd.snd.1, Value.int IntKind.u64 x118.snd.snd.snd.1, Value.int IntKind.u64 x118.snd.snd.snd.snd.1,
 Value.int IntKind.u64 x118.snd.snd.snd.snd.snd.1, Value.int IntKind.u64 x118.snd.snd.snd.snd.snd.snd.1, Value.int IntKind.u64 x118.snd.snd.snd.snd.snd.snd.2] ∧
 CX Try.prog (52 : Nat)
 #[Value.pointer p52, Value.int IntKind.i64 n117,
 Value.agg
 #[Value.int IntKind.u64 x118.1, Value.int IntKind.u64 x118.snd.1, Value.int IntKind.u64 x118.snd.snd.1, Value.int IntKind.u64 x118.snd.snd.snd.1, Value.int IntKind.u64 x118.snd.snd.snd.snd.1,
 Value.int IntKind.u64 x118.snd.snd.snd.snd.snd.1, Value.int IntKind.u64 x118.snd.snd.snd.snd.snd.snd.1, Value.int IntKind.u64 x118.snd.snd.snd.snd.snd.snd.2]]
 w102 fun (v119 : Value) (w120 : World) => ∃ (y121 : Unit), v119 = Value.tuple #[] ∧ ([] : List Nat) = [] ∧ y66 (x56.1, IntKind.i64.wrap (x56.snd.1 + (1 : Int)), x56.snd.snd.1) w120)))
def F12j4 (R : Value → World → Prop) (p52 : Option Addr) (y53 : Nat → Option Addr × Int × Int × Int → World → Prop) (b55 : Nat) (x56 : Option Addr × Int × Int × Int) (x122 : Option Addr × Int × Int) (w123 : World) : Prop :=
 CX Try.prog (53 : Nat) #[Value.pointer x122.1, Value.pointer p52] w123 fun (v126 : Value) (w127 : World) =>
 ∃ (t128 : Bool),
 v126 = Value.bool t128 ∧
 IfB (!t128) (R (Value.bool false) w127)
 (CX Try.prog (46 : Nat) #[Value.pointer x122.1] w127 fun (v129 : Value) (w130 : World) =>
 ∃ (n131 : Int),
 v129 = Value.int IntKind.i64 n131 ∧
 IfB (n131 != x122.snd.1) (R (Value.bool false) w130)
 (CX Try.prog (47 : Nat) #[Value.pointer x122.1] w130 fun (v132 : Value) (w133 : World) =>
 ∃ (n134 : Int),
 v132 = Value.int IntKind.i64 n134 ∧
 IfB (n134 != x122.snd.2) (R (Value.bool false) w133) (([] : List Nat) = [] ∧ ∃ (b135 : Nat), b135 < b55 ∧ y53 b135 (x122.1, x122.snd.1, x122.snd.2, IntKind.i64.wrap (x56.snd.snd.2 + (1 : Int))) w133)))
def F12k4 (t1 : Sl) (x56 : Option Addr × Int × Int × Int) (w57 : World) (p52 : Option Addr) (R : Value → World → Prop) (b55 : Nat) (y53 : Nat → Option Addr × Int × Int × Int → World → Prop) : Prop :=
 ∃ (b60 : Nat),
 ∃ (b61 : Nat),
 t1.1 = some ({ block := b60, off := b61 } : Addr) ∧
 ((0 : Int) ≤ x56.snd.snd.2 ∧ x56.snd.snd.2 < (t1.2 : Int)) ∧
 ∃ (x62 : Int × Int × Int × Int × Int × Int × Int × Int × Int × Int × Sl),
 CellsAt w57 b60 (b61 + Int.toNat x56.snd.snd.2 * (11 : Nat))
 [Value.int IntKind.u8 x62.1, Value.int IntKind.i64 x62.snd.1, Value.int IntKind.u64 x62.snd.snd.1, Value.int IntKind.u64 x62.snd.snd.snd.1, Value.int IntKind.u64 x62.snd.snd.snd.snd.1,
 Value.int IntKind.u64 x62.snd.snd.snd.snd.snd.1, Value.int IntKind.u64 x62.snd.snd.snd.snd.snd.snd.1, Value.int IntKind.u64 x62.snd.snd.snd.snd.snd.snd.snd.1,
 Value.int IntKind.u64 x62.snd.snd.snd.snd.snd.snd.snd.snd.1, Value.int IntKind.u64 x62.snd.snd.snd.snd.snd.snd.snd.snd.snd.1,
 Value.slice x62.snd.snd.snd.snd.snd.snd.snd.snd.snd.snd.1 x62.snd.snd.snd.snd.snd.snd.snd.snd.snd.snd.2 x62.snd.snd.snd.snd.snd.snd.snd.snd.snd.snd.3] ∧
 AllocP w57
 (Obj.cells
 #[Value.int IntKind.u8 (0 : Int), Value.int IntKind.i64 (0 : Int), Value.int IntKind.u64 (0 : Int), Value.int IntKind.u64 (0 : Int), Value.int IntKind.u64 (0 : Int), Value.int IntKind.u64 (0 : Int),
 Value.int IntKind.u64 (0 : Int), Value.int IntKind.u64 (0 : Int), Value.int IntKind.u64 (0 : Int), Value.int IntKind.u64 (0 : Int), Value.slice none (0 : Nat) (0 : Nat)]
 (73 : Nat))
 fun (b63 : Nat) (w64 : World) =>
 #[Value.int IntKind.u8 x62.1, Value.int IntKind.i64 x62.snd.1, Value.int IntKind.u64 x62.snd.snd.1, Value.int IntKind.u64 x62.snd.snd.snd.1, Value.int IntKind.u64 x62.snd.snd.snd.snd.1,
 Value.int IntKind.u64 x62.snd.snd.snd.snd.snd.1, Value.int IntKind.u64 x62.snd.snd.snd.snd.snd.snd.1, Value.int IntKind.u64 x62.snd.snd.snd.snd.snd.snd.snd.1,
 Value.int IntKind.u64 x62.snd.snd.snd.snd.snd.snd.snd.snd.1, Value.int IntKind.u64 x62.snd.snd.snd.snd.snd.snd.snd.snd.snd.1,
 Value.slice x62.snd.snd.snd.snd.snd.snd.snd.snd.snd.snd.1 x62.snd.snd.snd.snd.snd.snd.snd.snd.snd.snd.2 x62.snd.snd.snd.snd.snd.snd.snd.snd.snd.snd.3].size =
 (11 : Nat) ∧
 StoreP w64 b63 (0 : Nat)
 [Value.int IntKind.u8 x62.1, Value.int IntKind.i64 x62.snd.1, Value.int IntKind.u64 x62.snd.snd.1, Value.int IntKind.u64 x62.snd.snd.snd.1, Value.int IntKind.u64 x62.snd.snd.snd.snd.1,
 Value.int IntKind.u64 x62.snd.snd.snd.snd.snd.1, Value.int IntKind.u64 x62.snd.snd.snd.snd.snd.snd.1, Value.int IntKind.u64 x62.snd.snd.snd.snd.snd.snd.snd.1,
 Value.int IntKind.u64 x62.snd.snd.snd.snd.snd.snd.snd.snd.1, Value.int IntKind.u64 x62.snd.snd.snd.snd.snd.snd.snd.snd.snd.1,
 Value.slice x62.snd.snd.snd.snd.snd.snd.snd.snd.snd.snd.1 x62.snd.snd.snd.snd.snd.snd.snd.snd.snd.snd.2 x62.snd.snd.snd.snd.snd.snd.snd.snd.snd.snd.3]
 fun (w65 : World) =>
 ∃ (y66 : Option Addr × Int × Int → World → Prop),
 (∃ (n67 : Int),
 w65.cell? ({ block := b63, off := (0 : Nat) + (0 : Nat) } : Addr) = some (Value.int IntKind.u8 n67) ∧
 ¬(6 : Int) = (0 : Int) ∧
 IfB (n67.tmod (6 : Int) == (3 : Int))
 (CX Try.prog (38 : Nat) #[Value.pointer x56.1] w65 fun (v68 : Value) (w69 : World) =>
 ∃ (y70 : Unit),
 v68 = Value.tuple #[] ∧
 CX Try.prog (49 : Nat) #[Value.pointer p52] w69 fun (v71 : Value) (w72 : World) =>
 ∃ (y73 : Unit), v71 = Value.tuple #[] ∧ ([] : List Nat) = [] ∧ y66 (x56.1, x56.snd.1, IntKind.i64.wrap (x56.snd.snd.1 + (1 : Int))) w72)
 (IfB (n67.tmod (6 : Int) == (4 : Int))
 (∃ (s74 : Sl),
 w65.cell? ({ block := b63, off := (0 : Nat) + (10 : Nat) } : Addr) = some (Value.slice s74.1 s74.2 s74.3) ∧
 IfB (decide ((300 : Int) < (s74.n : Int))) (R (Value.bool true) w65)
 (∃ (s75 : Sl),
 w65.cell? ({ block := b63, off := (0 : Nat) + (10 : Nat) } : Addr) = some (Value.slice s75.1 s75.2 s75.3) ∧
 CX Try.prog (40 : Nat) #[Value.slice s75.1 s75.2 s75.3] w65 fun (v76 : Value) (w77 : World) =>
 ∃ (x78 : Nat × Array Value),
 v76 = Value.func (Fn.func x78.1) #[] x78.2 ∧
 CX Try.prog (39 : Nat) #[Value.pointer x56.1, Value.func (Fn.func x78.1) #[] x78.2] w77 fun (v79 : Value) (w80 : World) =>
 ∃ (y81 : Unit),
 v79 = Value.tuple #[] ∧
 ∃ (s82 : Sl),
 w80.cell? ({ block := b63, off := (0 : Nat) + (10 : Nat) } : Addr) = some (Value.slice s82.1 s82.2 s82.3) ∧
 CX Try.prog (50 : Nat) #[Value.pointer p52, Value.slice s82.1 s82.2 s82.3] w80 fun (v83 : Value) (w84 : World) =>
 ∃ (y85 : Unit), v83 = Value.tuple #[] ∧ ([] : List Nat) = [] ∧ y66 (x56.1, x56.snd.1, x56.snd.snd.1) w84))
 (F12k2 n67 x56 w65 y66 b63 p52 R b55 y53))) ∧
 ∀ (x122 : Option Addr × Int × Int) (w123 : World) (y124 : Nat → Value),
 y66 x122 w123 →
 (F12j4 R p52 y53 b55 x56 x122 w123)
def F12j3 (t1 : Sl) (R : Value → World → Prop) (p52 : Option Addr) (y53 : Nat → Option Addr × Int × Int × Int → World → Prop) (b55 : Nat) (x56 : Option Addr × Int × Int × Int) (w57 : World) : Prop :=
 IfB (decide (x56.snd.snd.snd < (t1.n : Int)))
 (IfB (decide (x56.snd.snd.snd < (60 : Int)))
 (F12k4 t1 x56 w57 p52 R b55 y53)
 (R (Value.bool true) w57))
 (R (Value.bool true) w57)
def F12j2 (t0 : Int) (t1 : Sl) (R : Value → World → Prop) (p11 : Option Addr) (t13 : Bool) (w14 : World) : Prop :=
 IfB t13
 (F12k3 p11 w14 R)
 (IfB p11.isNone (R (Value.bool false) w14)
 (CX Try.prog (48 : Nat) #[Value.int IntKind.i64 t0] w14 fun (v50 : Value) (w51 : World) =>
 ∃ (p52 : Option Addr),
 v50 = Value.pointer p52 ∧
 ∃ (y53 : Nat → Option Addr × Int × Int × Int → World → Prop),
 (∃ (b54 : Nat), y53 b54 (p11, (0 : Int), (0 : Int), (0 : Int)) w51) ∧
 ∀ (b55 : Nat) (x56 : Option Addr × Int × Int × Int) (w57 : World) (y58 : Nat → Value),
 y53 b55 x56 w57 →
 (F12j3 t1 R p52 y53 b55 x56 w57)))
def F12j1 (t0 : Int) (t1 : Sl) (R : Value → World → Prop) (t5 : Bool) (w6 : World) : Prop :=
 IfB t5 (R (Value.bool true) w6)
 (CX Try.prog (36 : Nat) #[Value.int IntKind.i64 t0] w6 fun (v9 : Value) (w10 : World) =>
 ∃ (p11 : Option Addr),
 v9 = Value.pointer p11 ∧
 ∃ (y12 : Bool → World → Prop),
 IfB (decide (t0 < (1 : Int))) (([] : List Nat) = [] ∧ y12 true w10) (([] : List Nat) = [] ∧ y12 (decide ((4096 : Int) < t0)) w10) ∧
 ∀ (t13 : Bool) (w14 : World) (y15 : Nat → Value),
 y12 t13 w14 →
 (F12j2 t0 t1 R p11 t13 w14))
def F12 (t0 : Int) (t1 : Sl) (w : World) (R : Value → World → Prop) : Prop :=
 CX Try.prog (35 : Nat) #[] w fun (v1 : Value) (w2 : World) =>
 ∃ (t3 : Bool),
 v1 = Value.bool t3 ∧
 IfB (!t3) (R (Value.bool false) w2)
 (∃ (y4 : Bool → World → Prop),
 IfB (decide ((200 : Int) < t0)) (([] : List Nat) = [] ∧ y4 (decide (t0 ≤ (4096 : Int))) w2) (([] : List Nat) = [] ∧ y4 false w2) ∧
 ∀ (t5 : Bool) (w6 : World) (y7 : Nat → Value),
 y4 t5 w6 →
 (F12j1 t0 t1 R t5 w6))
theorem F12_ok (t0 : Int) (t1 : Sl) (w : World) (R : Value → World → Prop) (h : F12 t0 t1 w R) : CW Try.prog 12 #[Value.int IntKind.i64 t0, Value.slice t1.1 t1.2 t1.3] w R :=
  call_of tbOk mixed en12 Try.func12 rfl (.node (.nil) (.node (.nil) (.node (.join [(24, .one (.bool))] [19, 20, 21, 22, 23, 24] (.nil) (.nil)) (.node (.nil) (.node (.join [(32, .one (.bool))] [27, 28, 29, 30, 31, 32] (.nil) (.nil)) (.node (.nil) (.node (.nil) (.node (.nil) (.node (.node (.nil) (.loop [(5, .one (.ptr)), (9, .one (.int .i64)), (10, .one (.int .i64)), (11, .one (.int .i64))] [85, 86, 87, 88, 89, 90, 91, 92, 95, 96, 97, 98, 12, 99, 100, 101, 145, 144, 146, 147, 148, 149, 150, 151, 10, 153, 152, 154, 155, 156, 157, 4, 158, 159, 160, 161, 162, 163, 164, 165, 166, 168, 167, 169, 13, 170, 171, 5, 172, 173, 174, 175, 176, 102, 103, 104, 105, 106, 107, 14, 108, 109, 110, 111, 112, 114, 115, 116, 117, 113, 118, 119, 15, 16, 120, 121, 122, 123, 124, 125, 126, 127, 128, 129, 130, 131, 132, 133, 134, 135, 136, 137, 138, 139, 140, 141, 142, 143, 9, 177, 178, 179, 180, 181, 182, 183, 184, 185, 186, 187, 188, 189, 190, 191, 192, 93, 94, 11] (.node (.nil) (.node (.node (.nil) (.join [(5, .one (.ptr)), (9, .one (.int .i64)), (10, .one (.int .i64))] [99, 100, 101, 145, 144, 146, 147, 148, 149, 150, 151, 10, 153, 152, 154, 155, 156, 157, 4, 158, 159, 160, 161, 162, 163, 164, 165, 166, 168, 167, 169, 13, 170, 171, 5, 172, 173, 174, 175, 176, 102, 103, 104, 105, 106, 107, 14, 108, 109, 110, 111, 112, 114, 115, 116, 117, 113, 118, 119, 15, 16, 120, 121, 122, 123, 124, 125, 126, 127, 128, 129, 130, 131, 132, 133, 134, 135, 136, 137, 138, 139, 140, 141, 142, 143, 9] (.nil) (.nil))) (.nil))))) (.nil)))))))))) (by kernel_rfl) (Nat.le_of_ble_eq_true (by kernel_rfl)) (Eq.mp (α := F12 t0 t1 w R) (by kernel_rfl) h)

end Go.Proofs.Ytopecljhehcldaa.Gx
