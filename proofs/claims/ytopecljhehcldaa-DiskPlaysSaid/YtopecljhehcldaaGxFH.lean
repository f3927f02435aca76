/- Written by mkf.py: what is to be shown of functions, as Gx reckons it from their code. -/
import Derived.Test.YtopecljhehcldaaGxT
namespace Go.Proofs.Ytopecljhehcldaa.Gx
open Go
set_option linter.unusedVariables false
set_option maxRecDepth 100000

def F11j2 (t0 : Sl) (p11 : Option Addr) (y12 : Unit → World → Prop) (y13 : Nat → Int → World → Prop) (b15 : Nat) (n16 : Int) (w17 : World) : Prop :=
 IfB (decide (n16 < (t0.n : Int)))
 (IfB (decide (n16 < (40 : Int)))
 (∃ (b20 : Nat),
 ∃ (b21 : Nat),
 t0.1 = some ({ block := b20, off := b21 } : Addr) ∧
 ((0 : Int) ≤ n16 ∧ n16 < (t0.2 : Int)) ∧
 ∃ (n22 : Int),
 w17.drew.cell? ({ block := b20, off := b21 + n16.toNat * (11 : Nat) + (1 : Nat) } : Addr) = some (Value.int IntKind.i64 n22) ∧
 ∃ (b23 : Nat),
 ∃ (b24 : Nat),
 t0.1 = some ({ block := b23, off := b24 } : Addr) ∧
 ((0 : Int) ≤ n16 ∧ n16 < (t0.2 : Int)) ∧
 ∃ (x25 : Int × Int × Int × Int × Int × Int × Int × Int),
 CellsAt w17.drew b23 (b24 + n16.toNat * (11 : Nat) + (2 : Nat))
 [Value.int IntKind.u64 x25.1, Value.int IntKind.u64 x25.snd.1, Value.int IntKind.u64 x25.snd.snd.1, Value.int IntKind.u64 x25.snd.snd.snd.1, Value.int IntKind.u64 x25.snd.snd.snd.snd.1,
 Value.int IntKind.u64 x25.snd.snd.snd.snd.snd.1, Value.int IntKind.u64 x25.snd.snd.snd.snd.snd.snd.1, Value.int IntKind.u64 x25.snd.snd.snd.snd.snd.snd.2] ∧
 CX Try.prog (37 : Nat)
 #[Value.pointer p11, Value.int IntKind.i64 n22,
 Value.agg
 #[Value.int IntKind.u64 x25.1, Value.int IntKind.u64 x25.snd.1, Value.int IntKind.u64 x25.snd.snd.1, Value.int IntKind.u64 x25.snd.snd.snd.1, Value.int IntKind.u64 x25.snd.snd.snd.snd.1,
 Value.int IntKind.u64 x25.snd.snd.snd.snd.snd.1, Value.int IntKind.u64 x25.snd.snd.snd.snd.snd.snd.1, Value.int IntKind.u64 x25.snd.snd.snd.snd.snd.snd.2]]
 w17.drew fun (v26 : Value) (w27 : World) => ∃ (n28 : Int), v26 = Value.int IntKind.i64 n28 ∧ ([] : List Nat) = [] ∧ ∃ (b29 : Nat), b29 < b15 ∧ y13 b29 (IntKind.i64.wrap (n16 + (1 : Int))) w27)
 (([] : List Nat) = [] ∧ y12 PUnit.unit w17))
 (([] : List Nat) = [] ∧ y12 PUnit.unit w17)
def F11k1 (w67 : World) (b59 : Nat) (b65 : Nat) (y68 : Bool → World → Prop) (p11 : Option Addr) (n52 : Int) : Prop :=
 ∃ (x69 : Int × Int × Int × Int × Int × Int × Int × Int),
 CellsAt w67.drew b59 (0 : Nat)
 [Value.int IntKind.u64 x69.1, Value.int IntKind.u64 x69.snd.1, Value.int IntKind.u64 x69.snd.snd.1, Value.int IntKind.u64 x69.snd.snd.snd.1, Value.int IntKind.u64 x69.snd.snd.snd.snd.1,
 Value.int IntKind.u64 x69.snd.snd.snd.snd.snd.1, Value.int IntKind.u64 x69.snd.snd.snd.snd.snd.snd.1, Value.int IntKind.u64 x69.snd.snd.snd.snd.snd.snd.2] ∧
 ∃ (x70 : Int × Int × Int × Int × Int × Int × Int × Int),
 CellsAt w67.drew b65 (0 : Nat)
 [Value.int IntKind.u64 x70.1, Value.int IntKind.u64 x70.snd.1, Value.int IntKind.u64 x70.snd.snd.1, Value.int IntKind.u64 x70.snd.snd.snd.1, Value.int IntKind.u64 x70.snd.snd.snd.snd.1,
 Value.int IntKind.u64 x70.snd.snd.snd.snd.snd.1, Value.int IntKind.u64 x70.snd.snd.snd.snd.snd.snd.1, Value.int IntKind.u64 x70.snd.snd.snd.snd.snd.snd.2] ∧
 ∃ (t71 : Bool),
 EqAt Try.prog (67 : Nat)
 (Value.agg
 #[Value.int IntKind.u64 x69.1, Value.int IntKind.u64 x69.snd.1, Value.int IntKind.u64 x69.snd.snd.1, Value.int IntKind.u64 x69.snd.snd.snd.1, Value.int IntKind.u64 x69.snd.snd.snd.snd.1,
 Value.int IntKind.u64 x69.snd.snd.snd.snd.snd.1, Value.int IntKind.u64 x69.snd.snd.snd.snd.snd.snd.1, Value.int IntKind.u64 x69.snd.snd.snd.snd.snd.snd.2])
 (Value.agg
 #[Value.int IntKind.u64 x70.1, Value.int IntKind.u64 x70.snd.1, Value.int IntKind.u64 x70.snd.snd.1, Value.int IntKind.u64 x70.snd.snd.snd.1, Value.int IntKind.u64 x70.snd.snd.snd.snd.1,
 Value.int IntKind.u64 x70.snd.snd.snd.snd.snd.1, Value.int IntKind.u64 x70.snd.snd.snd.snd.snd.snd.1, Value.int IntKind.u64 x70.snd.snd.snd.snd.snd.snd.2])
 t71 ∧
 IfB (!t71) (([] : List Nat) = [] ∧ y68 true w67.drew)
 (∃ (x72 : Int × Int × Int × Int × Int × Int × Int × Int),
 CellsAt w67.drew b59 (0 : Nat)
 [Value.int IntKind.u64 x72.1, Value.int IntKind.u64 x72.snd.1, Value.int IntKind.u64 x72.snd.snd.1, Value.int IntKind.u64 x72.snd.snd.snd.1, Value.int IntKind.u64 x72.snd.snd.snd.snd.1,
 Value.int IntKind.u64 x72.snd.snd.snd.snd.snd.1, Value.int IntKind.u64 x72.snd.snd.snd.snd.snd.snd.1, Value.int IntKind.u64 x72.snd.snd.snd.snd.snd.snd.2] ∧
 CX Try.prog (44 : Nat) #[Value.pointer p11, Value.int IntKind.i64 n52] w67.drew fun (v73 : Value) (w74 : World) =>
 ∃ (x75 : Int × Int × Int × Int × Int × Int × Int × Int),
 v73 =
 Value.agg
 #[Value.int IntKind.u64 x75.1, Value.int IntKind.u64 x75.snd.1, Value.int IntKind.u64 x75.snd.snd.1, Value.int IntKind.u64 x75.snd.snd.snd.1, Value.int IntKind.u64 x75.snd.snd.snd.snd.1,
 Value.int IntKind.u64 x75.snd.snd.snd.snd.snd.1, Value.int IntKind.u64 x75.snd.snd.snd.snd.snd.snd.1, Value.int IntKind.u64 x75.snd.snd.snd.snd.snd.snd.2] ∧
 CellsAt w74 b59 (0 : Nat)
 [Value.int IntKind.u64 x72.1, Value.int IntKind.u64 x72.snd.1, Value.int IntKind.u64 x72.snd.snd.1, Value.int IntKind.u64 x72.snd.snd.snd.1, Value.int IntKind.u64 x72.snd.snd.snd.snd.1,
 Value.int IntKind.u64 x72.snd.snd.snd.snd.snd.1, Value.int IntKind.u64 x72.snd.snd.snd.snd.snd.snd.1, Value.int IntKind.u64 x72.snd.snd.snd.snd.snd.snd.2] ∧
 ∃ (t76 : Bool),
 EqAt Try.prog (67 : Nat)
 (Value.agg
 #[Value.int IntKind.u64 x75.1, Value.int IntKind.u64 x75.snd.1, Value.int IntKind.u64 x75.snd.snd.1, Value.int IntKind.u64 x75.snd.snd.snd.1, Value.int IntKind.u64 x75.snd.snd.snd.snd.1,
 Value.int IntKind.u64 x75.snd.snd.snd.snd.snd.1, Value.int IntKind.u64 x75.snd.snd.snd.snd.snd.snd.1, Value.int IntKind.u64 x75.snd.snd.snd.snd.snd.snd.2])
 (Value.agg
 #[Value.int IntKind.u64 x72.1, Value.int IntKind.u64 x72.snd.1, Value.int IntKind.u64 x72.snd.snd.1, Value.int IntKind.u64 x72.snd.snd.snd.1, Value.int IntKind.u64 x72.snd.snd.snd.snd.1,
 Value.int IntKind.u64 x72.snd.snd.snd.snd.snd.1, Value.int IntKind.u64 x72.snd.snd.snd.snd.snd.snd.1, Value.int IntKind.u64 x72.snd.snd.snd.snd.snd.snd.2])
 t76 ∧
 ([] : List Nat) = [] ∧ y68 (!t76) w74)
def F11k2 (p11 : Option Addr) (n52 : Int) (w53 : World) (p42 : Option Addr) (R : Value → World → Prop) (b51 : Nat) (y49 : Nat → Int → World → Prop) : Prop :=
 CX Try.prog (41 : Nat) #[Value.pointer p11, Value.int IntKind.i64 n52] w53 fun (v56 : Value) (w57 : World) =>
 ∃ (x58 : (Int × Int × Int × Int × Int × Int × Int × Int) × Int),
 v56 =
 Value.tuple
 #[Value.agg
 #[Value.int IntKind.u64 x58.fst.1, Value.int IntKind.u64 x58.fst.snd.1, Value.int IntKind.u64 x58.fst.snd.snd.1, Value.int IntKind.u64 x58.fst.snd.snd.snd.1,
 Value.int IntKind.u64 x58.fst.snd.snd.snd.snd.1, Value.int IntKind.u64 x58.fst.snd.snd.snd.snd.snd.1, Value.int IntKind.u64 x58.fst.snd.snd.snd.snd.snd.snd.1,
 Value.int IntKind.u64 x58.fst.snd.snd.snd.snd.snd.snd.2],
 Value.int IntKind.i64 x58.2] ∧
 AllocP w57
 (Obj.cells
 #[Value.int IntKind.u64 (0 : Int), Value.int IntKind.u64 (0 : Int), Value.int IntKind.u64 (0 : Int), Value.int IntKind.u64 (0 : Int), Value.int IntKind.u64 (0 : Int), Value.int IntKind.u64 (0 : Int),
 Value.int IntKind.u64 (0 : Int), Value.int IntKind.u64 (0 : Int)]
 (67 : Nat))
 fun (b59 : Nat) (w60 : World) =>
 #[Value.int IntKind.u64 x58.fst.1, Value.int IntKind.u64 x58.fst.snd.1, Value.int IntKind.u64 x58.fst.snd.snd.1, Value.int IntKind.u64 x58.fst.snd.snd.snd.1,
 Value.int IntKind.u64 x58.fst.snd.snd.snd.snd.1, Value.int IntKind.u64 x58.fst.snd.snd.snd.snd.snd.1, Value.int IntKind.u64 x58.fst.snd.snd.snd.snd.snd.snd.1,
 Value.int IntKind.u64 x58.fst.snd.snd.snd.snd.snd.snd.2].size =
 (8 : Nat) ∧
 StoreP w60 b59 (0 : Nat)
 [Value.int IntKind.u64 x58.fst.1, Value.int IntKind.u64 x58.fst.snd.1, Value.int IntKind.u64 x58.fst.snd.snd.1, Value.int IntKind.u64 x58.fst.snd.snd.snd.1,
 Value.int IntKind.u64 x58.fst.snd.snd.snd.snd.1, Value.int IntKind.u64 x58.fst.snd.snd.snd.snd.snd.1, Value.int IntKind.u64 x58.fst.snd.snd.snd.snd.snd.snd.1,
 Value.int IntKind.u64 x58.fst.snd.snd.snd.snd.snd.snd.2]
 fun (w61 : World) =>
 CX Try.prog (41 : Nat) #[Value.pointer p42, Value.int IntKind.i64 n52] w61 fun (v62 : Value) (w63 : World) =>
 ∃ (x64 : (Int × Int × Int × Int × Int × Int × Int × Int) × Int),
 v62 =
 Value.tuple
 #[Value.agg
 #[Value.int IntKind.u64 x64.fst.1, Value.int IntKind.u64 x64.fst.snd.1, Value.int IntKind.u64 x64.fst.snd.snd.1, Value.int IntKind.u64 x64.fst.snd.snd.snd.1,
 Value.int IntKind.u64 x64.fst.snd.snd.snd.snd.1, Value.int IntKind.u64 x64.fst.snd.snd.snd.snd.snd.1, Value.int IntKind.u64 x64.fst.snd.snd.snd.snd.snd.snd.1,
 Value.int IntKind.u64 x64.fst.snd.snd.snd.snd.snd.snd.2],
 Value.int IntKind.i64 x64.2] ∧
 AllocP w63
 (Obj.cells
 #[Value.int IntKind.u64 (0 : Int), Value.int IntKind.u64 (0 : Int), Value.int IntKind.u64 (0 : Int), Value.int IntKind.u64 (0 : Int), Value.int IntKind.u64 (0 : Int), Value.int IntKind.u64 (0 : Int),
 Value.int IntKind.u64 (0 : Int), Value.int IntKind.u64 (0 : Int)]
 (67 : Nat))
 fun (b65 : Nat) (w66 : World) =>
 #[Value.int IntKind.u64 x64.fst.1, Value.int IntKind.u64 x64.fst.snd.1, Value.int IntKind.u64 x64.fst.snd.snd.1, Value.int IntKind.u64 x64.fst.snd.snd.snd.1,
 Value.int IntKind.u64 x64.fst.snd.snd.snd.snd.1, Value.int IntKind.u64 x64.fst.snd.snd.snd.snd.snd.1, Value.int IntKind.u64 x64.fst.snd.snd.snd.snd.snd.snd.1,
 Value.int IntKind.u64 x64.fst.snd.snd.snd.snd.snd.snd.2].size =
 (8 : Nat) ∧
 StoreP w66 b65 (0 : Nat)
 [Value.int IntKind.u64 x64.fst.1, Value.int IntKind.u64 x64.fst.snd.1, Value.int IntKind.u64 x64.fst.snd.snd.1, Value.int IntKind.u64 x64.fst.snd.snd.snd.1,
 Value.int IntKind.u64 x64.fst.snd.snd.snd.snd.1, Value.int IntKind.u64 x64.fst.snd.snd.snd.snd.snd.1, Value.int IntKind.u64 x64.fst.snd.snd.snd.snd.snd.snd.1,
 Value.int IntKind.u64 x64.fst.snd.snd.snd.snd.snd.snd.2]
 fun (w67 : World) =>
 ∃ (y68 : Bool → World → Prop),
 IfB (x58.2 != (0 : Int)) (([] : List Nat) = [] ∧ y68 true w67.drew)
 (IfB (x64.2 != (0 : Int)) (([] : List Nat) = [] ∧ y68 true w67.drew)
 (F11k1 w67 b59 b65 y68 p11 n52)) ∧
 ∀ (t77 : Bool) (w78 : World) (y79 : Nat → Value), y68 t77 w78 → IfB t77 (R (Value.bool false) w78) (([] : List Nat) = [] ∧ ∃ (b81 : Nat), b81 < b51 ∧ y49 b81 (IntKind.i64.wrap (n52 + (1 : Int))) w78)
def F11j4 (R : Value → World → Prop) (p11 : Option Addr) (p42 : Option Addr) (y49 : Nat → Int → World → Prop) (b51 : Nat) (n52 : Int) (w53 : World) : Prop :=
 IfB (decide (n52 < (16 : Int)))
 (F11k2 p11 n52 w53 p42 R b51 y49)
 (CX Try.prog (42 : Nat) #[Value.pointer p42] w53 fun (v82 : Value) (w83 : World) => ∃ (s84 : Sl), v82 = Value.slice s84.1 s84.2 s84.3 ∧ R (Value.bool ((s84.2 : Int) == (0 : Int))) w83)
def F11j3 (t1 : Sl) (t2 : Sl) (R : Value → World → Prop) (p11 : Option Addr) (w31 : World) : Prop :=
 CX Try.prog (40 : Nat) #[Value.slice t1.1 t1.2 t1.3] w31 fun (v34 : Value) (w35 : World) =>
 ∃ (x36 : Nat × Array Value),
 v34 = Value.func (Fn.func x36.1) #[] x36.2 ∧
 CX Try.prog (39 : Nat) #[Value.pointer p11, Value.func (Fn.func x36.1) #[] x36.2] w35 fun (v37 : Value) (w38 : World) =>
 ∃ (y39 : Unit),
 v37 = Value.tuple #[] ∧
 CX Try.prog (43 : Nat) #[Value.pointer p11] w38 fun (v40 : Value) (w41 : World) =>
 ∃ (p42 : Option Addr),
 v40 = Value.pointer p42 ∧
 CX Try.prog (40 : Nat) #[Value.slice t2.1 t2.2 t2.3] w41 fun (v43 : Value) (w44 : World) =>
 ∃ (x45 : Nat × Array Value),
 v43 = Value.func (Fn.func x45.1) #[] x45.2 ∧
 CX Try.prog (39 : Nat) #[Value.pointer p42, Value.func (Fn.func x45.1) #[] x45.2] w44 fun (v46 : Value) (w47 : World) =>
 ∃ (y48 : Unit),
 v46 = Value.tuple #[] ∧
 ∃ (y49 : Nat → Int → World → Prop),
 (∃ (b50 : Nat), y49 b50 (0 : Int) w47) ∧
 ∀ (b51 : Nat) (n52 : Int) (w53 : World) (y54 : Nat → Value),
 y49 b51 n52 w53 →
 (F11j4 R p11 p42 y49 b51 n52 w53)
def F11j1 (t0 : Sl) (t1 : Sl) (t2 : Sl) (R : Value → World → Prop) (t5 : Bool) (w6 : World) : Prop :=
 IfB t5 (R (Value.bool true) w6)
 (CX Try.prog (36 : Nat) #[Value.int IntKind.i64 (16 : Int)] w6 fun (v9 : Value) (w10 : World) =>
 ∃ (p11 : Option Addr),
 v9 = Value.pointer p11 ∧
 ∃ (y12 : Unit → World → Prop),
 (∃ (y13 : Nat → Int → World → Prop),
 (∃ (b14 : Nat), y13 b14 (0 : Int) w10) ∧
 ∀ (b15 : Nat) (n16 : Int) (w17 : World) (y18 : Nat → Value),
 y13 b15 n16 w17 →
 (F11j2 t0 p11 y12 y13 b15 n16 w17)) ∧
 ∀ (y30 : Unit) (w31 : World) (y32 : Nat → Value),
 y12 y30 w31 →
 (F11j3 t1 t2 R p11 w31))
def F11 (t0 : Sl) (t1 : Sl) (t2 : Sl) (w : World) (R : Value → World → Prop) : Prop :=
 CX Try.prog (35 : Nat) #[] w fun (v1 : Value) (w2 : World) =>
 ∃ (t3 : Bool),
 v1 = Value.bool t3 ∧
 IfB (!t3) (R (Value.bool false) w2)
 (∃ (y4 : Bool → World → Prop),
 IfB (decide ((200 : Int) < (t1.n : Int))) (([] : List Nat) = [] ∧ y4 true w2) (([] : List Nat) = [] ∧ y4 (decide ((200 : Int) < (t2.n : Int))) w2) ∧
 ∀ (t5 : Bool) (w6 : World) (y7 : Nat → Value),
 y4 t5 w6 →
 (F11j1 t0 t1 t2 R t5 w6))
theorem F11_ok (t0 : Sl) (t1 : Sl) (t2 : Sl) (w : World) (R : Value → World → Prop) (h : F11 t0 t1 t2 w R) : CW Try.prog 11 #[Value.slice t0.1 t0.2 t0.3, Value.slice t1.1 t1.2 t1.3, Value.slice t2.1 t2.2 t2.3] w R :=
  call_of tbOk mixed en11 Try.func11 rfl (.node (.nil) (.node (.nil) (.node (.join [(24, .one (.bool))] [17, 18, 19, 20, 21, 22, 23, 24] (.nil) (.nil)) (.node (.nil) (.join [] [8, 26, 27, 28, 29, 30, 31, 32, 33, 36, 37, 38, 39, 40, 41, 42, 43, 44, 45, 46, 47, 34, 35] (.node (.nil) (.loop [(8, .one (.int .i64))] [26, 27, 28, 29, 30, 31, 32, 33, 36, 37, 38, 39, 40, 41, 42, 43, 44, 45, 46, 47, 34, 35, 8] (.node (.nil) (.node (.draw (.st 0 (.st 1 (.st 2 (.st 3 (.st 4 (.st 5 (.st 6 (.st 7 (.st 8 (.st 9 (.st 10 (.ac 11 [] (.fin) (.non)))))))))))))) (.nil))))) (.node (.nil) (.node (.nil) (.node (.nil) (.node (.node (.nil) (.loop [(10, .one (.int .i64))] [58, 59, 63, 64, 65, 62, 66, 67, 11, 12, 69, 70, 71, 68, 72, 73, 13, 14, 74, 75, 76, 77, 78, 79, 80, 81, 82, 83, 84, 85, 86, 87, 88, 89, 90, 91, 6, 60, 61, 10] (.node (.nil) (.node (.node (.nil) (.node (.nil) (.join [(91, .one (.bool))] [74, 75, 76, 77, 78, 79, 80, 81, 82, 83, 84, 85, 86, 87, 88, 89, 90, 91] (.draw (.st 0 (.st 1 (.st 2 (.st 3 (.st 4 (.st 5 (.st 6 (.st 7 (.st 8 (.st 9 (.st 10 (.st 11 (.st 12 (.st 13 (.st 15 (.ac 14 [15] (.st 16 (.st 17 (.fin))) (.non)))))))))))))))))) (.nil)))) (.nil))))) (.nil)))))))))) (by kernel_rfl) (Nat.le_of_ble_eq_true (by kernel_rfl)) (Eq.mp (α := F11 t0 t1 t2 w R) (by kernel_rfl) h)

end Go.Proofs.Ytopecljhehcldaa.Gx
