/- Written by mkf.py: what is to be shown of functions, as Gx reckons it from their code. -/
import Derived.Test.YtopecljhehcldaaGxT
namespace Go.Proofs.Ytopecljhehcldaa.Gx
open Go
set_option linter.unusedVariables false
set_option maxRecDepth 100000

def F18j1 (R : Value → World → Prop) (b1 : Nat) (y3 : Nat → Int → World → Prop) (b5 : Nat) (n6 : Int) (w7 : World) : Prop :=
 IfB (decide (n6 < (9 : Int)))
 (CX Try.prog (28 : Nat) #[Value.pointer (some ({ block := b1, off := (0 : Nat) } : Addr)), Value.int IntKind.i64 n6, Value.int IntKind.i64 (1 : Int)] w7 fun (v10 : Value) (w11 : World) =>
 ∃ (n12 : Int), v10 = Value.int IntKind.i64 n12 ∧ IfB (n12 != (0 : Int)) (R (Value.bool false) w11) (([] : List Nat) = [] ∧ ∃ (b13 : Nat), b13 < b5 ∧ y3 b13 (IntKind.i64.wrap (n6 + (1 : Int))) w11))
 (CX Try.prog (30 : Nat) #[Value.pointer (some ({ block := b1, off := (0 : Nat) } : Addr))] w7 fun (v14 : Value) (w15 : World) =>
 ∃ (s16 : Sl),
 v14 = Value.slice s16.1 s16.2 s16.3 ∧
 IfB ((s16.2 : Int) == (2 : Int))
 (∃ (b17 : Nat),
 ∃ (b18 : Nat),
 s16.1 = some ({ block := b17, off := b18 } : Addr) ∧
 ((0 : Int) ≤ (0 : Int) ∧ (0 : Int) < (s16.2 : Int)) ∧
 ∃ (n19 : Int),
 w15.cell? ({ block := b17, off := b18 + Int.toNat (0 : Int) } : Addr) = some (Value.int IntKind.i64 n19) ∧
 IfB (n19 == (0 : Int))
 (∃ (b20 : Nat),
 ∃ (b21 : Nat),
 s16.1 = some ({ block := b20, off := b21 } : Addr) ∧
 ((0 : Int) ≤ (1 : Int) ∧ (1 : Int) < (s16.2 : Int)) ∧ ∃ (n22 : Int), w15.cell? ({ block := b20, off := b21 + Int.toNat (1 : Int) } : Addr) = some (Value.int IntKind.i64 n22) ∧ R (Value.bool (n22 == (4 : Int))) w15)
 (R (Value.bool false) w15))
 (R (Value.bool false) w15))
def F18 (w : World) (R : Value → World → Prop) : Prop :=
 AllocP w (Obj.cells #[Value.slice none (0 : Nat) (0 : Nat)] (47 : Nat)) fun (b1 : Nat) (w2 : World) =>
 ∃ (y3 : Nat → Int → World → Prop),
 (∃ (b4 : Nat), y3 b4 (0 : Int) w2) ∧
 ∀ (b5 : Nat) (n6 : Int) (w7 : World) (y8 : Nat → Value),
 y3 b5 n6 w7 →
 (F18j1 R b1 y3 b5 n6 w7)
theorem F18_ok (w : World) (R : Value → World → Prop) (h : F18  w R) : CW Try.prog 18 #[] w R :=
  call_of tbOk mixed en18 Try.func18 rfl (.node (.nil) (.node (.nil) (.node (.node (.nil) (.loop [(2, .one (.int .i64))] [6, 7, 10, 11, 12, 13, 0, 8, 9, 2] (.nil))) (.nil)))) (by kernel_rfl) (Nat.le_of_ble_eq_true (by kernel_rfl)) (Eq.mp (α := F18  w R) (by kernel_rfl) h)

def F19j1 (t0 : Sl) (R : Value → World → Prop) (b1 : Nat) (y3 : Nat → Int → World → Prop) (b5 : Nat) (n6 : Int) (w7 : World) : Prop :=
 IfB (decide (n6 < (t0.n : Int)))
 (∃ (b10 : Nat),
 ∃ (b11 : Nat),
 t0.1 = some ({ block := b10, off := b11 } : Addr) ∧
 ((0 : Int) ≤ n6 ∧ n6 < (t0.2 : Int)) ∧
 ∃ (x12 : Int × Int),
 CellsAt w7 b10 (b11 + n6.toNat * (2 : Nat)) [Value.int IntKind.i64 x12.1, Value.int IntKind.i64 x12.2] ∧
 AllocP w7 (Obj.cells #[Value.int IntKind.i64 (0 : Int), Value.int IntKind.i64 (0 : Int)] (37 : Nat)) fun (b13 : Nat) (w14 : World) =>
 #[Value.int IntKind.i64 x12.1, Value.int IntKind.i64 x12.2].size = (2 : Nat) ∧
 StoreP w14 b13 (0 : Nat) [Value.int IntKind.i64 x12.1, Value.int IntKind.i64 x12.2] fun (w15 : World) =>
 ∃ (n16 : Int),
 w15.cell? ({ block := b13, off := (0 : Nat) + (0 : Nat) } : Addr) = some (Value.int IntKind.i64 n16) ∧
 ∃ (n17 : Int),
 w15.cell? ({ block := b13, off := (0 : Nat) + (1 : Nat) } : Addr) = some (Value.int IntKind.i64 n17) ∧
 CX Try.prog (28 : Nat) #[Value.pointer (some ({ block := b1, off := (0 : Nat) } : Addr)), Value.int IntKind.i64 n16, Value.int IntKind.i64 n17] w15 fun (v18 : Value) (w19 : World) =>
 ∃ (n20 : Int), v18 = Value.int IntKind.i64 n20 ∧ ([] : List Nat) = [] ∧ ∃ (b21 : Nat), b21 < b5 ∧ y3 b21 (IntKind.i64.wrap (n6 + (1 : Int))) w19)
 (R (Value.pointer (some ({ block := b1, off := (0 : Nat) } : Addr))) w7)
def F19 (t0 : Sl) (w : World) (R : Value → World → Prop) : Prop :=
 AllocP w (Obj.cells #[Value.slice none (0 : Nat) (0 : Nat)] (47 : Nat)) fun (b1 : Nat) (w2 : World) =>
 ∃ (y3 : Nat → Int → World → Prop),
 (∃ (b4 : Nat), y3 b4 (0 : Int) w2) ∧
 ∀ (b5 : Nat) (n6 : Int) (w7 : World) (y8 : Nat → Value),
 y3 b5 n6 w7 →
 (F19j1 t0 R b1 y3 b5 n6 w7)
theorem F19_ok (t0 : Sl) (w : World) (R : Value → World → Prop) (h : F19 t0 w R) : CW Try.prog 19 #[Value.slice t0.1 t0.2 t0.3] w R :=
  call_of tbOk mixed en19 Try.func19 rfl (.node (.nil) (.node (.nil) (.node (.node (.nil) (.loop [(10, .one (.int .i64))] [11, 12, 13, 5, 14, 15, 16, 17, 18, 19, 20, 10] (.nil))) (.nil)))) (by kernel_rfl) (Nat.le_of_ble_eq_true (by kernel_rfl)) (Eq.mp (α := F19 t0 w R) (by kernel_rfl) h)

def F20j3 (y14 : Nat → Sl × Bool × Int → World → Prop) (b16 : Nat) (x17 : Sl × Bool × Int) (b36 : Nat) (x52 : Sl × Bool) (w53 : World) : Prop :=
 ∃ (x56 : Int × Int),
 CellsAt w53 b36 (0 : Nat) [Value.int IntKind.i64 x56.1, Value.int IntKind.i64 x56.2] ∧
 (1 : Nat) * (2 : Nat) ≤ (16777216 : Nat) ∧
 AllocP w53 (Obj.cells #[Value.int IntKind.i64 x56.1, Value.int IntKind.i64 x56.2] (37 : Nat)) fun (b57 : Nat) (w58 : World) =>
 ∃ (l59 : List Value),
 ReadC w58 (some ({ block := b57, off := (0 : Nat) } : Addr)) ((1 : Nat) * (2 : Nat)) l59 ∧
 AppendP tt37 (37 : Nat) w58 x52.fst.1 x52.fst.2 x52.fst.3 (1 : Nat) l59 fun (s60 : Sl) (w61 : World) =>
 ([] : List Nat) = [] ∧ ∃ (b62 : Nat), b62 < b16 ∧ y14 b62 ({ p := s60.1, n := s60.2, c := s60.3 }, x52.2, IntKind.i64.wrap (x17.snd.2 + (1 : Int))) w61
def F20j2 (t1 : Int) (t2 : Int) (y14 : Nat → Sl × Bool × Int → World → Prop) (b16 : Nat) (x17 : Sl × Bool × Int) (b36 : Nat) (w42 : World) : Prop :=
 ∃ (y45 : Sl × Bool → World → Prop),
 IfB (!x17.snd.1)
 (∃ (n46 : Int),
 w42.cell? ({ block := b36, off := (0 : Nat) + (0 : Nat) } : Addr) = some (Value.int IntKind.i64 n46) ∧
 IfB (decide (t1 < n46))
 ((1 : Nat) * (2 : Nat) ≤ (16777216 : Nat) ∧
 AllocP w42 (Obj.cells #[Value.int IntKind.i64 t1, Value.int IntKind.i64 t2] (37 : Nat)) fun (b47 : Nat) (w48 : World) =>
 ∃ (l49 : List Value),
 ReadC w48 (some ({ block := b47, off := (0 : Nat) } : Addr)) ((1 : Nat) * (2 : Nat)) l49 ∧
 AppendP tt37 (37 : Nat) w48 x17.fst.1 x17.fst.2 x17.fst.3 (1 : Nat) l49 fun (s50 : Sl) (w51 : World) => ([] : List Nat) = [] ∧ y45 ({ p := s50.1, n := s50.2, c := s50.3 }, true) w51)
 (([] : List Nat) = [] ∧ y45 ({ p := x17.fst.1, n := x17.fst.2, c := x17.fst.3 }, x17.snd.1) w42))
 (([] : List Nat) = [] ∧ y45 ({ p := x17.fst.1, n := x17.fst.2, c := x17.fst.3 }, x17.snd.1) w42) ∧
 ∀ (x52 : Sl × Bool) (w53 : World) (y54 : Nat → Value),
 y45 x52 w53 →
 (F20j3 y14 b16 x17 b36 x52 w53)
def F20k1 (s69 : Sl) (w70 : World) (t0 : Option Addr) (x3 : Int × Int) (R : Value → World → Prop) : Prop :=
 ((0 : Int) ≤ (4 : Int) ∧ (4 : Int) ≤ (s69.3 : Int)) ∧
 ((0 : Int) ≤ (4 : Int) ∧ (4 : Int) ≤ (s69.2 : Int)) ∧
 ((0 : Nat) * (2 : Nat) ≤ (16777216 : Nat) ∧
 AllocP w70.drew (Obj.cells #[] (37 : Nat)) fun (b73 : Nat) (w74 : World) =>
 (∃ (l75 : List Value),
 ReadC w74 (slAddr s69.1 s69.3 (0 : Nat) (2 : Nat)) (Int.toNat (4 : Int) * (2 : Nat)) l75 ∧
 AppendP tt37 (37 : Nat) w74 (some ({ block := b73, off := (0 : Nat) } : Addr)) (0 : Nat) (0 : Nat) (Int.toNat (4 : Int)) l75 fun (s76 : Sl) (w77 : World) =>
 (0 : Nat) * (2 : Nat) ≤ (16777216 : Nat) ∧
 AllocP w77 (Obj.cells #[] (37 : Nat)) fun (b78 : Nat) (w79 : World) =>
 ∃ (l80 : List Value),
 ReadC w79 (slAddr s69.1 s69.3 (Int.toNat (4 : Int)) (2 : Nat)) ((s69.2 - Int.toNat (4 : Int)) * (2 : Nat)) l80 ∧
 AppendP tt37 (37 : Nat) w79 (some ({ block := b78, off := (0 : Nat) } : Addr)) (0 : Nat) (0 : Nat) (s69.2 - Int.toNat (4 : Int)) l80 fun (s81 : Sl) (w82 : World) =>
 (2 : Nat) * (1 : Nat) ≤ (16777216 : Nat) ∧
 AllocP w82 (Obj.cells #[Value.slice s76.1 s76.2 s76.3, Value.slice s81.1 s81.2 s81.3] (28 : Nat)) fun (b83 : Nat) (w84 : World) =>
 CX Try.prog (64 : Nat) #[Value.pointer t0, Value.int IntKind.i64 x3.1, Value.int IntKind.i64 (1 : Int), Value.slice (some ({ block := b83, off := (0 : Nat) } : Addr)) (2 : Nat) (2 : Nat)] w84
 fun (v85 : Value) (w86 : World) => ∃ (y87 : Unit), v85 = Value.tuple #[] ∧ R (Value.int IntKind.i64 (0 : Int)) w86) ∧
 (0 : Nat) * (2 : Nat) ≤ (16777216 : Nat) ∧
 AllocP w74 (Obj.cells #[] (37 : Nat)) fun (b88 : Nat) (w89 : World) =>
 ∃ (l90 : List Value),
 ReadC w89 (slAddr s69.1 s69.3 (0 : Nat) (2 : Nat)) (Int.toNat (4 : Int) * (2 : Nat)) l90 ∧
 AppendP tt37 (37 : Nat) w89 (some ({ block := b73, off := (0 : Nat) } : Addr)) (0 : Nat) (0 : Nat) (Int.toNat (4 : Int)) l90 fun (s91 : Sl) (w92 : World) =>
 ∃ (l93 : List Value),
 ReadC w92 (slAddr s69.1 s69.3 (Int.toNat (4 : Int)) (2 : Nat)) ((s69.2 - Int.toNat (4 : Int)) * (2 : Nat)) l93 ∧
 AppendP tt37 (37 : Nat) w92 (some ({ block := b88, off := (0 : Nat) } : Addr)) (0 : Nat) (0 : Nat) (s69.2 - Int.toNat (4 : Int)) l93 fun (s94 : Sl) (w95 : World) =>
 (2 : Nat) * (1 : Nat) ≤ (16777216 : Nat) ∧
 AllocP w95 (Obj.cells #[Value.slice s91.1 s91.2 s91.3, Value.slice s94.1 s94.2 s94.3] (28 : Nat)) fun (b96 : Nat) (w97 : World) =>
 CX Try.prog (64 : Nat) #[Value.pointer t0, Value.int IntKind.i64 x3.1, Value.int IntKind.i64 (1 : Int), Value.slice (some ({ block := b96, off := (0 : Nat) } : Addr)) (2 : Nat) (2 : Nat)] w97
 fun (v98 : Value) (w99 : World) => ∃ (y100 : Unit), v98 = Value.tuple #[] ∧ R (Value.int IntKind.i64 (0 : Int)) w99) ∧
 (0 : Nat) * (2 : Nat) ≤ (16777216 : Nat) ∧
 AllocP w70.drew (Obj.cells #[] (37 : Nat)) fun (b101 : Nat) (w102 : World) =>
 (0 : Nat) * (2 : Nat) ≤ (16777216 : Nat) ∧
 AllocP w102 (Obj.cells #[] (37 : Nat)) fun (b103 : Nat) (w104 : World) =>
 ∃ (l105 : List Value),
 ReadC w104 (slAddr s69.1 s69.3 (0 : Nat) (2 : Nat)) (Int.toNat (4 : Int) * (2 : Nat)) l105 ∧
 AppendP tt37 (37 : Nat) w104 (some ({ block := b103, off := (0 : Nat) } : Addr)) (0 : Nat) (0 : Nat) (Int.toNat (4 : Int)) l105 fun (s106 : Sl) (w107 : World) =>
 ∃ (l108 : List Value),
 ReadC w107 (slAddr s69.1 s69.3 (Int.toNat (4 : Int)) (2 : Nat)) ((s69.2 - Int.toNat (4 : Int)) * (2 : Nat)) l108 ∧
 AppendP tt37 (37 : Nat) w107 (some ({ block := b101, off := (0 : Nat) } : Addr)) (0 : Nat) (0 : Nat) (s69.2 - Int.toNat (4 : Int)) l108 fun (s109 : Sl) (w110 : World) =>
 (2 : Nat) * (1 : Nat) ≤ (16777216 : Nat) ∧
 AllocP w110 (Obj.cells #[Value.slice s106.1 s106.2 s106.3, Value.slice s109.1 s109.2 s109.3] (28 : Nat)) fun (b111 : Nat) (w112 : World) =>
 CX Try.prog (64 : Nat) #[Value.pointer t0, Value.int IntKind.i64 x3.1, Value.int IntKind.i64 (1 : Int), Value.slice (some ({ block := b111, off := (0 : Nat) } : Addr)) (2 : Nat) (2 : Nat)] w112
 fun (v113 : Value) (w114 : World) => ∃ (y115 : Unit), v113 = Value.tuple #[] ∧ R (Value.int IntKind.i64 (0 : Int)) w114
def F20j4 (t0 : Option Addr) (R : Value → World → Prop) (x3 : Int × Int) (s69 : Sl) (w70 : World) : Prop :=
 IfB (decide ((8 : Int) < (s69.n : Int)))
 (F20k1 s69 w70 t0 x3 R)
 ((1 : Nat) * (1 : Nat) ≤ (16777216 : Nat) ∧
 AllocP w70 (Obj.cells #[Value.slice s69.1 s69.2 s69.3] (28 : Nat)) fun (b116 : Nat) (w117 : World) =>
 CX Try.prog (64 : Nat) #[Value.pointer t0, Value.int IntKind.i64 x3.1, Value.int IntKind.i64 (1 : Int), Value.slice (some ({ block := b116, off := (0 : Nat) } : Addr)) (1 : Nat) (1 : Nat)] w117
 fun (v118 : Value) (w119 : World) => ∃ (y120 : Unit), v118 = Value.tuple #[] ∧ R (Value.int IntKind.i64 (0 : Int)) w119)
def F20j1 (t0 : Option Addr) (t1 : Int) (t2 : Int) (R : Value → World → Prop) (x3 : Int × Int) (y14 : Nat → Sl × Bool × Int → World → Prop) (b16 : Nat) (x17 : Sl × Bool × Int) (w18 : World) : Prop :=
 ∃ (b21 : Nat),
 ∃ (b22 : Nat),
 t0 = some ({ block := b21, off := b22 } : Addr) ∧
 ∃ (s23 : Sl),
 w18.cell? ({ block := b21, off := b22 + (0 : Nat) } : Addr) = some (Value.slice s23.1 s23.2 s23.3) ∧
 ∃ (b24 : Nat),
 ∃ (b25 : Nat),
 s23.1 = some ({ block := b24, off := b25 } : Addr) ∧
 ((0 : Int) ≤ x3.1 ∧ x3.1 < (s23.2 : Int)) ∧
 ∃ (s26 : Sl),
 w18.cell? ({ block := b24, off := b25 + x3.1.toNat } : Addr) = some (Value.slice s26.1 s26.2 s26.3) ∧
 IfB (decide (x17.snd.snd < (s26.n : Int)))
 (∃ (b27 : Nat),
 ∃ (b28 : Nat),
 t0 = some ({ block := b27, off := b28 } : Addr) ∧
 ∃ (s29 : Sl),
 w18.cell? ({ block := b27, off := b28 + (0 : Nat) } : Addr) = some (Value.slice s29.1 s29.2 s29.3) ∧
 ∃ (b30 : Nat),
 ∃ (b31 : Nat),
 s29.1 = some ({ block := b30, off := b31 } : Addr) ∧
 ((0 : Int) ≤ x3.1 ∧ x3.1 < (s29.2 : Int)) ∧
 ∃ (s32 : Sl),
 w18.cell? ({ block := b30, off := b31 + x3.1.toNat } : Addr) = some (Value.slice s32.1 s32.2 s32.3) ∧
 ∃ (b33 : Nat),
 ∃ (b34 : Nat),
 s32.1 = some ({ block := b33, off := b34 } : Addr) ∧
 ((0 : Int) ≤ x17.snd.2 ∧ x17.snd.2 < (s32.2 : Int)) ∧
 ∃ (x35 : Int × Int),
 CellsAt w18 b33 (b34 + Int.toNat x17.snd.2 * (2 : Nat)) [Value.int IntKind.i64 x35.1, Value.int IntKind.i64 x35.2] ∧
 AllocP w18 (Obj.cells #[Value.int IntKind.i64 (0 : Int), Value.int IntKind.i64 (0 : Int)] (37 : Nat)) fun (b36 : Nat) (w37 : World) =>
 #[Value.int IntKind.i64 x35.1, Value.int IntKind.i64 x35.2].size = (2 : Nat) ∧
 StoreP w37 b36 (0 : Nat) [Value.int IntKind.i64 x35.1, Value.int IntKind.i64 x35.2] fun (w38 : World) =>
 ∃ (y39 : Unit → World → Prop),
 IfB (x17.snd.2 == x3.2)
 (#[Value.int IntKind.i64 t2].size = (1 : Nat) ∧ StoreP w38 b36 ((0 : Nat) + (1 : Nat)) [Value.int IntKind.i64 t2] fun (w40 : World) => ([] : List Nat) = [] ∧ y39 PUnit.unit w40)
 (([] : List Nat) = [] ∧ y39 PUnit.unit w38) ∧
 ∀ (y41 : Unit) (w42 : World) (y43 : Nat → Value),
 y39 y41 w42 →
 (F20j2 t1 t2 y14 b16 x17 b36 w42))
 (∃ (y63 : Sl → World → Prop),
 IfB (!x17.snd.1)
 ((1 : Nat) * (2 : Nat) ≤ (16777216 : Nat) ∧
 AllocP w18 (Obj.cells #[Value.int IntKind.i64 t1, Value.int IntKind.i64 t2] (37 : Nat)) fun (b64 : Nat) (w65 : World) =>
 ∃ (l66 : List Value),
 ReadC w65 (some ({ block := b64, off := (0 : Nat) } : Addr)) ((1 : Nat) * (2 : Nat)) l66 ∧
 AppendP tt37 (37 : Nat) w65 x17.fst.1 x17.fst.2 x17.fst.3 (1 : Nat) l66 fun (s67 : Sl) (w68 : World) => ([] : List Nat) = [] ∧ y63 { p := s67.1, n := s67.2, c := s67.3 } w68)
 (([] : List Nat) = [] ∧ y63 { p := x17.fst.1, n := x17.fst.2, c := x17.fst.3 } w18) ∧
 ∀ (s69 : Sl) (w70 : World) (y71 : Nat → Value),
 y63 s69 w70 →
 (F20j4 t0 R x3 s69 w70))
def F20 (t0 : Option Addr) (t1 : Int) (t2 : Int) (w : World) (R : Value → World → Prop) : Prop :=
 IfB (decide (t1 < (0 : Int))) (R (Value.int IntKind.i64 (3 : Int)) w)
 (IfB (decide ((999 : Int) < t1)) (R (Value.int IntKind.i64 (3 : Int)) w)
 (CX Try.prog (63 : Nat) #[Value.pointer t0, Value.int IntKind.i64 t1] w fun (v1 : Value) (w2 : World) =>
 ∃ (x3 : Int × Int),
 v1 = Value.tuple #[Value.int IntKind.i64 x3.1, Value.int IntKind.i64 x3.2] ∧
 ∃ (b4 : Nat),
 ∃ (b5 : Nat),
 t0 = some ({ block := b4, off := b5 } : Addr) ∧
 ∃ (s6 : Sl),
 w2.cell? ({ block := b4, off := b5 + (0 : Nat) } : Addr) = some (Value.slice s6.1 s6.2 s6.3) ∧
 IfB ((s6.2 : Int) == (0 : Int))
 ((1 : Nat) * (2 : Nat) ≤ (16777216 : Nat) ∧
 AllocP w2 (Obj.cells #[Value.int IntKind.i64 t1, Value.int IntKind.i64 t2] (37 : Nat)) fun (b7 : Nat) (w8 : World) =>
 (1 : Nat) * (1 : Nat) ≤ (16777216 : Nat) ∧
 AllocP w8 (Obj.cells #[Value.slice (some ({ block := b7, off := (0 : Nat) } : Addr)) (1 : Nat) (1 : Nat)] (28 : Nat)) fun (b9 : Nat) (w10 : World) =>
 ∃ (b11 : Nat),
 ∃ (b12 : Nat),
 t0 = some ({ block := b11, off := b12 } : Addr) ∧
 #[Value.slice (some ({ block := b9, off := (0 : Nat) } : Addr)) (1 : Nat) (1 : Nat)].size = (1 : Nat) ∧
 StoreP w10 b11 (b12 + (0 : Nat)) [Value.slice (some ({ block := b9, off := (0 : Nat) } : Addr)) (1 : Nat) (1 : Nat)] fun (w13 : World) => R (Value.int IntKind.i64 (0 : Int)) w13)
 (∃ (y14 : Nat → Sl × Bool × Int → World → Prop),
 (∃ (b15 : Nat), y14 b15 ({ p := none, n := (0 : Nat), c := (0 : Nat) }, decide ((0 : Int) ≤ x3.snd), (0 : Int)) w2) ∧
 ∀ (b16 : Nat) (x17 : Sl × Bool × Int) (w18 : World) (y19 : Nat → Value),
 y14 b16 x17 w18 →
 (F20j1 t0 t1 t2 R x3 y14 b16 x17 w18))))
theorem F20_ok (t0 : Option Addr) (t1 : Int) (t2 : Int) (w : World) (R : Value → World → Prop) (h : F20 t0 t1 t2 w R) : CW Try.prog 20 #[Value.pointer t0, Value.int IntKind.i64 t1, Value.int IntKind.i64 t2] w R :=
  call_of tbOk mixed en20 Try.func20 rfl (.node (.nil) (.node (.nil) (.node (.nil) (.node (.nil) (.node (.nil) (.node (.nil) (.node (.node (.nil) (.loop [(9, .one (.sl)), (10, .one (.bool)), (11, .one (.int .i64))] [41, 42, 43, 44, 45, 46, 47, 48, 49, 50, 53, 54, 55, 56, 57, 58, 59, 60, 61, 62, 12, 63, 64, 65, 66, 67, 68, 69, 70, 71, 72, 73, 74, 75, 76, 77, 78, 79, 80, 81, 9, 10, 82, 83, 84, 85, 51, 52, 11] (.node (.nil) (.node (.node (.nil) (.join [] [63, 64, 65, 66, 67] (.nil) (.join [(9, .one (.sl)), (10, .one (.bool))] [68, 69, 70, 71, 72, 73, 74, 75, 76, 77, 78, 79, 80, 81, 9, 10] (.nil) (.nil)))) (.nil))))) (.join [(9, .one (.sl))] [86, 87, 88, 89, 90, 91, 92, 93, 9] (.nil) (.node (.node (.nil) (.node (.draw (.st 0 (.st 1 (.st 3 (.st 4 (.st 7 (.st 8 (.ac 2 [8, 7, 4, 3, 1, 0] (.ac 5 [8, 7, 1, 0] (.ac 6 [8, 7, 1, 0] (.ac 9 [1, 0] (.ac 10 [1, 0] (.ac 11 [] (.fin) (.non)) (.non)) (.non)) (.non)) (.ac 6 [8, 7, 4, 3, 1, 0] (.ac 5 [8, 7, 1, 0] (.ac 9 [1, 0] (.ac 10 [1, 0] (.ac 11 [] (.fin) (.non)) (.non)) (.non)) (.non)) (.non))) (.ac 6 [8, 7, 4, 3, 1, 0] (.ac 2 [8, 7, 4, 3, 1, 0] (.ac 5 [8, 7, 1, 0] (.ac 9 [1, 0] (.ac 10 [1, 0] (.ac 11 [] (.fin) (.non)) (.non)) (.non)) (.non)) (.non)) (.non)))))))))) (.nil))) (.nil)))))))))) (by kernel_rfl) (Nat.le_of_ble_eq_true (by kernel_rfl)) (Eq.mp (α := F20 t0 t1 t2 w R) (by kernel_rfl) h)

def F21j1 (t0 : Option Addr) (t1 : Option Addr) (R : Value → World → Prop) (s3 : Sl) (y7 : Nat → Int → World → Prop) (b9 : Nat) (n10 : Int) (w11 : World) : Prop :=
 IfB (decide (n10 < (s3.n : Int)))
 (∃ (b14 : Nat),
 ∃ (b15 : Nat),
 s3.1 = some ({ block := b14, off := b15 } : Addr) ∧
 ((0 : Int) ≤ n10 ∧ n10 < (s3.2 : Int)) ∧
 ∃ (n16 : Int),
 w11.drew.cell? ({ block := b14, off := b15 + n10.toNat } : Addr) = some (Value.int IntKind.i64 n16) ∧
 ∃ (b17 : Nat),
 ∃ (b18 : Nat),
 t1 = some ({ block := b17, off := b18 } : Addr) ∧
 ∃ (s19 : Sl),
 w11.drew.cell? ({ block := b17, off := b18 + (0 : Nat) } : Addr) = some (Value.slice s19.1 s19.2 s19.3) ∧
 ∃ (b20 : Nat),
 ∃ (b21 : Nat),
 s19.1 = some ({ block := b20, off := b21 } : Addr) ∧
 ((0 : Int) ≤ n10 ∧ n10 < (s19.2 : Int)) ∧
 ∃ (s22 : Sl),
 w11.drew.cell? ({ block := b20, off := b21 + n10.toNat } : Addr) = some (Value.slice s22.1 s22.2 s22.3) ∧
 ∃ (b23 : Nat),
 ∃ (b24 : Nat),
 s22.1 = some ({ block := b23, off := b24 } : Addr) ∧
 ((0 : Int) ≤ (0 : Int) ∧ (0 : Int) < (s22.2 : Int)) ∧
 ∃ (n25 : Int),
 w11.drew.cell? ({ block := b23, off := b24 + Int.toNat (0 : Int) * (2 : Nat) + (0 : Nat) } : Addr) = some (Value.int IntKind.i64 n25) ∧
 IfB (n16 != n25) (R (Value.bool false) w11.drew) (([] : List Nat) = [] ∧ ∃ (b26 : Nat), b26 < b9 ∧ y7 b26 (IntKind.i64.wrap (n10 + (1 : Int))) w11.drew))
 (CX Try.prog (23 : Nat) #[Value.pointer t0, Value.int IntKind.i64 (0 : Int), Value.int IntKind.i64 (999 : Int)] w11 fun (v27 : Value) (w28 : World) =>
 ∃ (s29 : Sl),
 v27 = Value.slice s29.1 s29.2 s29.3 ∧
 CX Try.prog (26 : Nat) #[Value.pointer t1] w28 fun (v30 : Value) (w31 : World) =>
 ∃ (s32 : Sl),
 v30 = Value.slice s32.1 s32.2 s32.3 ∧
 CX Try.prog (22 : Nat) #[Value.slice s29.1 s29.2 s29.3, Value.slice s32.1 s32.2 s32.3] w31 fun (v33 : Value) (w34 : World) =>
 ∃ (t35 : Bool),
 v33 = Value.bool t35 ∧
 IfB t35
 (CX Try.prog (31 : Nat) #[Value.pointer t0] w34 fun (v36 : Value) (w37 : World) =>
 ∃ (n38 : Int),
 v36 = Value.int IntKind.i64 n38 ∧
 CX Try.prog (26 : Nat) #[Value.pointer t1] w37 fun (v39 : Value) (w40 : World) => ∃ (s41 : Sl), v39 = Value.slice s41.1 s41.2 s41.3 ∧ R (Value.bool (n38 == (s41.2 : Int))) w40)
 (R (Value.bool false) w34))
def F21 (t0 : Option Addr) (t1 : Option Addr) (w : World) (R : Value → World → Prop) : Prop :=
 CX Try.prog (30 : Nat) #[Value.pointer t0] w fun (v1 : Value) (w2 : World) =>
 ∃ (s3 : Sl),
 v1 = Value.slice s3.1 s3.2 s3.3 ∧
 ∃ (b4 : Nat),
 ∃ (b5 : Nat),
 t1 = some ({ block := b4, off := b5 } : Addr) ∧
 ∃ (s6 : Sl),
 w2.cell? ({ block := b4, off := b5 + (0 : Nat) } : Addr) = some (Value.slice s6.1 s6.2 s6.3) ∧
 IfB ((s3.2 : Int) != (s6.2 : Int)) (R (Value.bool false) w2)
 (∃ (y7 : Nat → Int → World → Prop),
 (∃ (b8 : Nat), y7 b8 (0 : Int) w2) ∧
 ∀ (b9 : Nat) (n10 : Int) (w11 : World) (y12 : Nat → Value),
 y7 b9 n10 w11 →
 (F21j1 t0 t1 R s3 y7 b9 n10 w11))
theorem F21_ok (t0 : Option Addr) (t1 : Option Addr) (w : World) (R : Value → World → Prop) (h : F21 t0 t1 w R) : CW Try.prog 21 #[Value.pointer t0, Value.pointer t1] w R :=
  call_of tbOk mixed en21 Try.func21 rfl (.node (.nil) (.node (.nil) (.node (.nil) (.node (.node (.nil) (.loop [(6, .one (.int .i64))] [17, 18, 19, 20, 23, 24, 25, 26, 27, 28, 29, 30, 31, 32, 33, 34, 35, 36, 37, 4, 21, 22, 6] (.node (.nil) (.node (.node (.draw (.st 0 (.st 1 (.st 2 (.st 3 (.st 4 (.st 5 (.st 6 (.st 7 (.st 8 (.st 9 (.st 10 (.st 11 (.st 12 (.st 13 (.st 14 (.fin))))))))))))))))) (.nil)) (.nil))))) (.nil))))) (by kernel_rfl) (Nat.le_of_ble_eq_true (by kernel_rfl)) (Eq.mp (α := F21 t0 t1 w R) (by kernel_rfl) h)

def F22j1 (t0 : Sl) (t1 : Sl) (R : Value → World → Prop) (y1 : Nat → Int → World → Prop) (b3 : Nat) (n4 : Int) (w5 : World) : Prop :=
 IfB (decide (n4 < (t0.n : Int)))
 (∃ (b8 : Nat),
 ∃ (b9 : Nat),
 t0.1 = some ({ block := b8, off := b9 } : Addr) ∧
 ((0 : Int) ≤ n4 ∧ n4 < (t0.2 : Int)) ∧
 ∃ (x10 : Int × Int),
 CellsAt w5.drew b8 (b9 + n4.toNat * (2 : Nat)) [Value.int IntKind.i64 x10.1, Value.int IntKind.i64 x10.2] ∧
 ∃ (b11 : Nat),
 ∃ (b12 : Nat),
 t1.1 = some ({ block := b11, off := b12 } : Addr) ∧
 ((0 : Int) ≤ n4 ∧ n4 < (t1.2 : Int)) ∧
 ∃ (x13 : Int × Int),
 CellsAt w5.drew b11 (b12 + n4.toNat * (2 : Nat)) [Value.int IntKind.i64 x13.1, Value.int IntKind.i64 x13.2] ∧
 ∃ (t14 : Bool),
 EqAt Try.prog (37 : Nat) (Value.agg #[Value.int IntKind.i64 x10.1, Value.int IntKind.i64 x10.2]) (Value.agg #[Value.int IntKind.i64 x13.1, Value.int IntKind.i64 x13.2]) t14 ∧
 IfB (!t14) (R (Value.bool false) w5.drew) (([] : List Nat) = [] ∧ ∃ (b15 : Nat), b15 < b3 ∧ y1 b15 (IntKind.i64.wrap (n4 + (1 : Int))) w5.drew))
 (R (Value.bool true) w5)
def F22 (t0 : Sl) (t1 : Sl) (w : World) (R : Value → World → Prop) : Prop :=
 IfB ((t0.2 : Int) != (t1.2 : Int)) (R (Value.bool false) w)
 (∃ (y1 : Nat → Int → World → Prop),
 (∃ (b2 : Nat), y1 b2 (0 : Int) w) ∧
 ∀ (b3 : Nat) (n4 : Int) (w5 : World) (y6 : Nat → Value),
 y1 b3 n4 w5 →
 (F22j1 t0 t1 R y1 b3 n4 w5))
theorem F22_ok (t0 : Sl) (t1 : Sl) (w : World) (R : Value → World → Prop) (h : F22 t0 t1 w R) : CW Try.prog 22 #[Value.slice t0.1 t0.2 t0.3, Value.slice t1.1 t1.2 t1.3] w R :=
  call_of tbOk mixed en22 Try.func22 rfl (.node (.nil) (.node (.nil) (.node (.node (.nil) (.loop [(5, .one (.int .i64))] [11, 12, 13, 14, 17, 18, 19, 20, 21, 22, 23, 24, 25, 4, 15, 16, 5] (.node (.nil) (.node (.node (.draw (.st 0 (.st 1 (.st 2 (.st 3 (.st 4 (.st 5 (.st 6 (.st 7 (.st 8 (.fin))))))))))) (.nil)) (.nil))))) (.nil)))) (by kernel_rfl) (Nat.le_of_ble_eq_true (by kernel_rfl)) (Eq.mp (α := F22 t0 t1 w R) (by kernel_rfl) h)

noncomputable def R23_0 : Code := codeAt [1, 1, 0, 1, 0] (bodyOf Try.f23)
def R23_0a : An := .nil
theorem R23_0ok1 : okC tb Try.f23.ntmps (rA R23_0) .nil = true := by kernel_rfl
theorem R23_0ok2 : okC tb Try.f23.ntmps (rB R23_0) R23_0a = true := by kernel_rfl
theorem R23_0okp : (rP R23_0).toList.all (fun p => Nat.blt p Try.f23.ntmps) = true := by kernel_rfl
def F23 (t0 : Option Addr) (t1 : Int) (t2 : Int) (w : World) (R : Value → World → Prop) : Prop :=
 AllocP w (Obj.cells #[Value.int IntKind.i64 t1] (3 : Nat)) fun (b1 : Nat) (w2 : World) =>
 AllocP w2 (Obj.cells #[Value.int IntKind.i64 t2] (3 : Nat)) fun (b3 : Nat) (w4 : World) =>
 AllocP w4 (Obj.cells #[Value.slice none (0 : Nat) (0 : Nat)] (28 : Nat)) fun (b5 : Nat) (w6 : World) =>
 CX Try.prog (65 : Nat) #[Value.pointer t0] w6 fun (v7 : Value) (w8 : World) =>
 ∃ (x9 : Nat × Array Value),
 v7 = Value.func (Fn.func x9.1) #[] x9.2 ∧
 ∀ (y10 : Nat → Value),
 RangeP Try.prog tb (nat_lit 25) none R23_0a (rG R23_0) (rP R23_0) (rA R23_0) (rB R23_0)
 (frC y10
 [((4 : Nat), Value.pointer (some ({ block := b1, off := (0 : Nat) } : Addr))), ((5 : Nat), Value.pointer (some ({ block := b3, off := (0 : Nat) } : Addr))), ((6 : Nat), Value.slice none (0 : Nat) (0 : Nat)),
 ((7 : Nat), Value.pointer (some ({ block := b5, off := (0 : Nat) } : Addr))), ((10 : Nat), Value.func (Fn.func x9.1) #[] x9.2)])
 [] w8
 (fun (l11 : List Nat) (w12 : World) =>
 ∃ (s13 : Sl), w12.cell? ({ block := b5, off := (0 : Nat) } : Addr) = some (Value.slice s13.1 s13.2 s13.3) ∧ marksP w12 l11 fun (w14 : World) => R (Value.slice s13.1 s13.2 s13.3) w14)
 (fun (l15 : List Nat) (w16 : World) => marksP w16 l15 fun (w17 : World) => R (Value.slice none (0 : Nat) (0 : Nat)) w17) fun (b18 : Nat) (l19 : List Nat) (w20 : World) =>
 match b18.beq (0 : Nat) with
 | true => ∃ (s22 : Sl), w20.cell? ({ block := b5, off := (0 : Nat) } : Addr) = some (Value.slice s22.1 s22.2 s22.3) ∧ marksP w20 l19 fun (w23 : World) => R (Value.slice s22.1 s22.2 s22.3) w23
 | false => False
theorem F23_ok (t0 : Option Addr) (t1 : Int) (t2 : Int) (w : World) (R : Value → World → Prop) (h : F23 t0 t1 t2 w R) : CW Try.prog 23 #[Value.pointer t0, Value.int IntKind.i64 t1, Value.int IntKind.i64 t2] w R :=
  call_of tbOk mixed en23 Try.func23 rfl (.node (.nil) (.node (.nil) (.node (.node (.nil) (.rng [(4, .one (.box)), (5, .one (.box)), (6, .one (.sl)), (7, .one (.box)), (10, .one (.clo))] (.nil))) (.nil)))) (by kernel_rfl) (Nat.le_of_ble_eq_true (by kernel_rfl)) (Eq.mp (α := F23 t0 t1 t2 w R) (by kernel_rfl) h)

def F23b0 (t4 : Nat) (t5 : Nat) (t6 : Sl) (t7 : Nat) (t10 : Nat × Array Value) (x11 : (Leaf.int IntKind.i64).den × dens [Leaf.int IntKind.i64]) (l D n₀ : Nat) (Jn : World → Prop) (Jx : Code → World → Prop) (W : World) : Prop :=
  AllocP W (Obj.cells #[Value.int IntKind.i64 (0 : Int), Value.int IntKind.i64 (0 : Int)] (37 : Nat)) fun (b1 : Nat) (w2 : World) =>
 #[Value.int IntKind.i64 x11.1, Value.int IntKind.i64 x11.2].size = (2 : Nat) ∧
 StoreP w2 b1 (0 : Nat) [Value.int IntKind.i64 x11.1, Value.int IntKind.i64 x11.2] fun (w3 : World) =>
 ([] : List Nat) = [] ∧
 (w3.1[l]? = W.1[l]? ∧ w3.1[D]? = W.1[D]?) ∧
 ∀ (w12 : World),
 Stb n₀ w3 w12 →
 (∃ (y14 : Loop), w12.1[l]? = some (Obj.loop y14)) →
 ∃ (n18 : Int),
 w12.cell? ({ block := b1, off := (0 : Nat) + (0 : Nat) } : Addr) = some (Value.int IntKind.i64 n18) ∧
 ∃ (n19 : Int),
 w12.cell? ({ block := t5, off := (0 : Nat) } : Addr) = some (Value.int IntKind.i64 n19) ∧
 IfB (decide (n19 < n18)) ((w12.1[l]? = w12.1[l]? ∧ w12.1[D]? = w12.1[D]?) ∧ Jx (Code.exit (0 : Nat)) w12)
 (∃ (n28 : Int),
 w12.cell? ({ block := b1, off := (0 : Nat) + (0 : Nat) } : Addr) = some (Value.int IntKind.i64 n28) ∧
 ∃ (n29 : Int),
 w12.cell? ({ block := t4, off := (0 : Nat) } : Addr) = some (Value.int IntKind.i64 n29) ∧
 IfB (decide (n29 ≤ n28))
 (∃ (s30 : Sl),
 w12.cell? ({ block := t7, off := (0 : Nat) } : Addr) = some (Value.slice s30.1 s30.2 s30.3) ∧
 ∃ (x31 : Int × Int),
 CellsAt w12 b1 (0 : Nat) [Value.int IntKind.i64 x31.1, Value.int IntKind.i64 x31.2] ∧
 (1 : Nat) * (2 : Nat) ≤ (16777216 : Nat) ∧
 AllocP w12 (Obj.cells #[Value.int IntKind.i64 x31.1, Value.int IntKind.i64 x31.2] (37 : Nat)) fun (b32 : Nat) (w33 : World) =>
 ∃ (l34 : List Value),
 ReadC w33 (some ({ block := b32, off := (0 : Nat) } : Addr)) ((1 : Nat) * (2 : Nat)) l34 ∧
 AppendP tt37 (37 : Nat) w33 s30.1 s30.2 s30.3 (1 : Nat) l34 fun (s35 : Sl) (w36 : World) =>
 #[Value.slice s35.1 s35.2 s35.3].size = (1 : Nat) ∧ StoreP w36 t7 (0 : Nat) [Value.slice s35.1 s35.2 s35.3] fun (w37 : World) => (w37.1[l]? = w12.1[l]? ∧ w37.1[D]? = w12.1[D]?) ∧ Jn w37)
 ((w12.1[l]? = w12.1[l]? ∧ w12.1[D]? = w12.1[D]?) ∧ Jn w12))
theorem F23b0_ok (t4 : Nat) (t5 : Nat) (t6 : Sl) (t7 : Nat) (t10 : Nat × Array Value) (x11 : (Leaf.int IntKind.i64).den × dens [Leaf.int IntKind.i64]) (l D n₀ : Nat) (Jn : World → Prop) (Jx : Code → World → Prop) (W : World) {g : Nat → Value} (h : F23b0 t4 t5 t6 t7 t10 x11 l D n₀ Jn Jx W) :
    BodyP Try.prog tb Try.f23.ntmps l D n₀ R23_0a (rP R23_0) (rA R23_0) (rB R23_0) (frC g [(4, Value.pointer (some ({ block := t4, off := 0 } : Addr))), (5, Value.pointer (some ({ block := t5, off := 0 } : Addr))), (6, Value.slice t6.1 t6.2 t6.3), (7, Value.pointer (some ({ block := t7, off := 0 } : Addr))), (10, Value.func (Fn.func t10.1) #[] t10.2)]) Jn Jx [Value.agg #[Value.int IntKind.i64 x11.1, Value.int IntKind.i64 x11.2]] W :=
  Eq.mp (α := F23b0 t4 t5 t6 t7 t10 x11 l D n₀ Jn Jx W) (by kernel_rfl) h

def F24j1 (t1 : Int) (t2 : Int) (R : Value → World → Prop) (s3 : Sl) (y4 : Nat → Sl × Int → World → Prop) (b6 : Nat) (x7 : Sl × Int) (w8 : World) : Prop :=
 IfB (decide (x7.snd < (s3.n : Int)))
 (∃ (b11 : Nat),
 ∃ (b12 : Nat),
 s3.1 = some ({ block := b11, off := b12 } : Addr) ∧
 ((0 : Int) ≤ x7.2 ∧ x7.2 < (s3.2 : Int)) ∧
 ∃ (n13 : Int),
 w8.cell? ({ block := b11, off := b12 + x7.2.toNat * (2 : Nat) + (0 : Nat) } : Addr) = some (Value.int IntKind.i64 n13) ∧
 IfB (decide (t1 ≤ n13))
 (∃ (b14 : Nat),
 ∃ (b15 : Nat),
 s3.1 = some ({ block := b14, off := b15 } : Addr) ∧
 ((0 : Int) ≤ x7.2 ∧ x7.2 < (s3.2 : Int)) ∧
 ∃ (n16 : Int),
 w8.cell? ({ block := b14, off := b15 + x7.2.toNat * (2 : Nat) + (0 : Nat) } : Addr) = some (Value.int IntKind.i64 n16) ∧
 IfB (decide (n16 ≤ t2))
 (∃ (b17 : Nat),
 ∃ (b18 : Nat),
 s3.1 = some ({ block := b17, off := b18 } : Addr) ∧
 ((0 : Int) ≤ x7.2 ∧ x7.2 < (s3.2 : Int)) ∧
 ∃ (x19 : Int × Int),
 CellsAt w8 b17 (b18 + x7.2.toNat * (2 : Nat)) [Value.int IntKind.i64 x19.1, Value.int IntKind.i64 x19.2] ∧
 (1 : Nat) * (2 : Nat) ≤ (16777216 : Nat) ∧
 AllocP w8 (Obj.cells #[Value.int IntKind.i64 x19.1, Value.int IntKind.i64 x19.2] (37 : Nat)) fun (b20 : Nat) (w21 : World) =>
 ∃ (l22 : List Value),
 ReadC w21 (some ({ block := b20, off := (0 : Nat) } : Addr)) ((1 : Nat) * (2 : Nat)) l22 ∧
 AppendP tt37 (37 : Nat) w21 x7.fst.1 x7.fst.2 x7.fst.3 (1 : Nat) l22 fun (s23 : Sl) (w24 : World) =>
 ([] : List Nat) = [] ∧ ∃ (b25 : Nat), b25 < b6 ∧ y4 b25 ({ p := s23.1, n := s23.2, c := s23.3 }, IntKind.i64.wrap (x7.2 + (1 : Int))) w24)
 (([] : List Nat) = [] ∧ ∃ (b26 : Nat), b26 < b6 ∧ y4 b26 ({ p := x7.fst.1, n := x7.fst.2, c := x7.fst.3 }, IntKind.i64.wrap (x7.2 + (1 : Int))) w8))
 (([] : List Nat) = [] ∧ ∃ (b27 : Nat), b27 < b6 ∧ y4 b27 ({ p := x7.fst.1, n := x7.fst.2, c := x7.fst.3 }, IntKind.i64.wrap (x7.2 + (1 : Int))) w8))
 (R (Value.slice x7.fst.1 x7.fst.2 x7.fst.3) w8)
def F24 (t0 : Option Addr) (t1 : Int) (t2 : Int) (w : World) (R : Value → World → Prop) : Prop :=
 CX Try.prog (26 : Nat) #[Value.pointer t0] w fun (v1 : Value) (w2 : World) =>
 ∃ (s3 : Sl),
 v1 = Value.slice s3.1 s3.2 s3.3 ∧
 ∃ (y4 : Nat → Sl × Int → World → Prop),
 (∃ (b5 : Nat), y4 b5 ({ p := none, n := (0 : Nat), c := (0 : Nat) }, (0 : Int)) w2) ∧
 ∀ (b6 : Nat) (x7 : Sl × Int) (w8 : World) (y9 : Nat → Value),
 y4 b6 x7 w8 →
 (F24j1 t1 t2 R s3 y4 b6 x7 w8)
theorem F24_ok (t0 : Option Addr) (t1 : Int) (t2 : Int) (w : World) (R : Value → World → Prop) (h : F24 t0 t1 t2 w R) : CW Try.prog 24 #[Value.pointer t0, Value.int IntKind.i64 t1, Value.int IntKind.i64 t2] w R :=
  call_of tbOk mixed en24 Try.func24 rfl (.node (.nil) (.node (.nil) (.node (.nil) (.node (.node (.nil) (.loop [(7, .one (.sl)), (9, .one (.int .i64))] [12, 13, 14, 15, 18, 19, 20, 21, 22, 23, 24, 25, 26, 27, 28, 29, 30, 31, 32, 33, 34, 35, 36, 37, 38, 39, 40, 7, 16, 17, 9] (.nil))) (.nil))))) (by kernel_rfl) (Nat.le_of_ble_eq_true (by kernel_rfl)) (Eq.mp (α := F24 t0 t1 t2 w R) (by kernel_rfl) h)

def F25 (t0 : Option Addr) (t1 : Option Addr) (w : World) (R : Value → World → Prop) : Prop :=
 CX Try.prog (65 : Nat) #[Value.pointer t0] w fun (v1 : Value) (w2 : World) =>
 ∃ (x3 : Nat × Array Value),
 v1 = Value.func (Fn.func x3.1) #[] x3.2 ∧
 CX Try.prog (67 : Nat) #[Value.func (Fn.func x3.1) #[] x3.2] w2 fun (v4 : Value) (w5 : World) =>
 ∃ (s6 : Sl),
 v4 = Value.slice s6.1 s6.2 s6.3 ∧
 CX Try.prog (65 : Nat) #[Value.pointer t1] w5 fun (v7 : Value) (w8 : World) =>
 ∃ (x9 : Nat × Array Value),
 v7 = Value.func (Fn.func x9.1) #[] x9.2 ∧
 CX Try.prog (67 : Nat) #[Value.func (Fn.func x9.1) #[] x9.2] w8 fun (v10 : Value) (w11 : World) =>
 ∃ (s12 : Sl),
 v10 = Value.slice s12.1 s12.2 s12.3 ∧
 CX Try.prog (66 : Nat) #[Value.slice s6.1 s6.2 s6.3, Value.slice s12.1 s12.2 s12.3] w11 fun (v13 : Value) (w14 : World) => ∃ (t15 : Bool), v13 = Value.bool t15 ∧ R (Value.bool t15) w14
theorem F25_ok (t0 : Option Addr) (t1 : Option Addr) (w : World) (R : Value → World → Prop) (h : F25 t0 t1 w R) : CW Try.prog 25 #[Value.pointer t0, Value.pointer t1] w R :=
  call_of tbOk mixed en25 Try.func25 rfl (.nil) (by kernel_rfl) (Nat.le_of_ble_eq_true (by kernel_rfl)) (Eq.mp (α := F25 t0 t1 w R) (by kernel_rfl) h)

def F26j1 (t0 : Option Addr) (R : Value → World → Prop) (y1 : Nat → Sl × Int → World → Prop) (b3 : Nat) (x4 : Sl × Int) (w5 : World) : Prop :=
 ∃ (b8 : Nat),
 ∃ (b9 : Nat),
 t0 = some ({ block := b8, off := b9 } : Addr) ∧
 ∃ (s10 : Sl),
 w5.cell? ({ block := b8, off := b9 + (0 : Nat) } : Addr) = some (Value.slice s10.1 s10.2 s10.3) ∧
 IfB (decide (x4.snd < (s10.n : Int)))
 (∃ (b11 : Nat),
 ∃ (b12 : Nat),
 t0 = some ({ block := b11, off := b12 } : Addr) ∧
 ∃ (s13 : Sl),
 w5.cell? ({ block := b11, off := b12 + (0 : Nat) } : Addr) = some (Value.slice s13.1 s13.2 s13.3) ∧
 ∃ (b14 : Nat),
 ∃ (b15 : Nat),
 s13.1 = some ({ block := b14, off := b15 } : Addr) ∧
 ((0 : Int) ≤ x4.2 ∧ x4.2 < (s13.2 : Int)) ∧
 ∃ (s16 : Sl),
 w5.cell? ({ block := b14, off := b15 + x4.2.toNat } : Addr) = some (Value.slice s16.1 s16.2 s16.3) ∧
 ∃ (l17 : List Value),
 ReadC w5 s16.1 (s16.2 * (2 : Nat)) l17 ∧
 AppendP tt37 (37 : Nat) w5 x4.fst.1 x4.fst.2 x4.fst.3 s16.2 l17 fun (s18 : Sl) (w19 : World) =>
 ([] : List Nat) = [] ∧ ∃ (b20 : Nat), b20 < b3 ∧ y1 b20 ({ p := s18.1, n := s18.2, c := s18.3 }, IntKind.i64.wrap (x4.2 + (1 : Int))) w19)
 (R (Value.slice x4.fst.1 x4.fst.2 x4.fst.3) w5)
def F26 (t0 : Option Addr) (w : World) (R : Value → World → Prop) : Prop :=
 ∃ (y1 : Nat → Sl × Int → World → Prop),
 (∃ (b2 : Nat), y1 b2 ({ p := none, n := (0 : Nat), c := (0 : Nat) }, (0 : Int)) w) ∧
 ∀ (b3 : Nat) (x4 : Sl × Int) (w5 : World) (y6 : Nat → Value),
 y1 b3 x4 w5 →
 (F26j1 t0 R y1 b3 x4 w5)
theorem F26_ok (t0 : Option Addr) (w : World) (R : Value → World → Prop) (h : F26 t0 w R) : CW Try.prog 26 #[Value.pointer t0] w R :=
  call_of tbOk mixed en26 Try.func26 rfl (.node (.nil) (.node (.nil) (.node (.node (.nil) (.loop [(3, .one (.sl)), (4, .one (.int .i64))] [5, 6, 7, 8, 9, 10, 11, 14, 15, 16, 17, 18, 19, 20, 21, 22, 3, 12, 13, 4] (.nil))) (.nil)))) (by kernel_rfl) (Nat.le_of_ble_eq_true (by kernel_rfl)) (Eq.mp (α := F26 t0 w R) (by kernel_rfl) h)

def F27k1 (t0 : Option Addr) (t1 : Int) (w2 : World) (R : Value → World → Prop) : Prop :=
 CX Try.prog (69 : Nat) #[Value.pointer t0, Value.int IntKind.i64 t1] w2 fun (v4 : Value) (w5 : World) =>
 ∃ (x6 : Int × Int × Bool),
 v4 = Value.tuple #[Value.int IntKind.i64 x6.1, Value.int IntKind.i64 x6.snd.1, Value.bool x6.snd.2] ∧
 IfB (!x6.snd.2) (R (Value.int IntKind.i64 (5 : Int)) w5)
 (∃ (b7 : Nat),
 ∃ (b8 : Nat),
 t0 = some ({ block := b7, off := b8 } : Addr) ∧
 ∃ (s9 : Sl),
 w5.drew.cell? ({ block := b7, off := b8 + (0 : Nat) } : Addr) = some (Value.slice s9.1 s9.2 s9.3) ∧
 ∃ (b10 : Nat),
 ∃ (b11 : Nat),
 t0 = some ({ block := b10, off := b11 } : Addr) ∧
 ∃ (s12 : Sl),
 w5.drew.cell? ({ block := b10, off := b11 + (0 : Nat) } : Addr) = some (Value.slice s12.1 s12.2 s12.3) ∧
 ∃ (b13 : Nat),
 ∃ (b14 : Nat),
 s12.1 = some ({ block := b13, off := b14 } : Addr) ∧
 ((0 : Int) ≤ x6.1 ∧ x6.1 < (s12.2 : Int)) ∧
 ∃ (s15 : Sl),
 w5.drew.cell? ({ block := b13, off := b14 + x6.1.toNat } : Addr) = some (Value.slice s15.1 s15.2 s15.3) ∧
 CX Try.prog (70 : Nat) #[Value.slice s15.1 s15.2 s15.3, Value.int IntKind.i64 x6.snd.1, Value.int IntKind.i64 (IntKind.i64.wrap (x6.snd.1 + (1 : Int)))] w5.drew
 fun (v16 : Value) (w17 : World) =>
 ∃ (s18 : Sl),
 v16 = Value.slice s18.1 s18.2 s18.3 ∧
 w17.cell? ({ block := b7, off := b8 + (0 : Nat) } : Addr) = some (Value.slice s9.1 s9.2 s9.3) ∧
 ∃ (b19 : Nat),
 ∃ (b20 : Nat),
 s9.1 = some ({ block := b19, off := b20 } : Addr) ∧
 ((0 : Int) ≤ x6.1 ∧ x6.1 < (s9.2 : Int)) ∧
 #[Value.slice s18.1 s18.2 s18.3].size = (1 : Nat) ∧
 StoreP w17 b19 (b20 + x6.1.toNat) [Value.slice s18.1 s18.2 s18.3] fun (w21 : World) =>
 ∃ (b22 : Nat),
 ∃ (b23 : Nat),
 t0 = some ({ block := b22, off := b23 } : Addr) ∧
 ∃ (s24 : Sl),
 w21.cell? ({ block := b22, off := b23 + (0 : Nat) } : Addr) = some (Value.slice s24.1 s24.2 s24.3) ∧
 ∃ (b25 : Nat),
 ∃ (b26 : Nat),
 s24.1 = some ({ block := b25, off := b26 } : Addr) ∧
 ((0 : Int) ≤ x6.1 ∧ x6.1 < (s24.2 : Int)) ∧
 ∃ (s27 : Sl),
 w21.cell? ({ block := b25, off := b26 + x6.1.toNat } : Addr) = some (Value.slice s27.1 s27.2 s27.3) ∧
 IfB ((s27.2 : Int) == (0 : Int))
 (∃ (b28 : Nat),
 ∃ (b29 : Nat),
 t0 = some ({ block := b28, off := b29 } : Addr) ∧
 ∃ (s30 : Sl),
 w21.cell? ({ block := b28, off := b29 + (0 : Nat) } : Addr) = some (Value.slice s30.1 s30.2 s30.3) ∧
 CX Try.prog (71 : Nat) #[Value.slice s30.1 s30.2 s30.3, Value.int IntKind.i64 x6.1, Value.int IntKind.i64 (IntKind.i64.wrap (x6.1 + (1 : Int)))] w21 fun (v31 : Value) (w32 : World) =>
 ∃ (s33 : Sl),
 v31 = Value.slice s33.1 s33.2 s33.3 ∧
 ∃ (b34 : Nat),
 ∃ (b35 : Nat),
 t0 = some ({ block := b34, off := b35 } : Addr) ∧
 #[Value.slice s33.1 s33.2 s33.3].size = (1 : Nat) ∧ StoreP w32 b34 (b35 + (0 : Nat)) [Value.slice s33.1 s33.2 s33.3] fun (w36 : World) => R (Value.int IntKind.i64 (0 : Int)) w36)
 (CX Try.prog (72 : Nat) #[Value.pointer t0, Value.int IntKind.i64 x6.1] w21 fun (v37 : Value) (w38 : World) =>
 ∃ (t39 : Bool),
 v37 = Value.bool t39 ∧
 IfB (!t39)
 (CX Try.prog (72 : Nat) #[Value.pointer t0, Value.int IntKind.i64 (IntKind.i64.wrap (x6.1 - (1 : Int)))] w38 fun (v40 : Value) (w41 : World) =>
 ∃ (t42 : Bool), v40 = Value.bool t42 ∧ R (Value.int IntKind.i64 (0 : Int)) w41)
 (R (Value.int IntKind.i64 (0 : Int)) w38)))
def F27 (t0 : Option Addr) (t1 : Int) (w : World) (R : Value → World → Prop) : Prop :=
 CX Try.prog (68 : Nat) #[Value.pointer t0, Value.int IntKind.i64 t1] w fun (v1 : Value) (w2 : World) =>
 ∃ (t3 : Bool),
 v1 = Value.bool t3 ∧
 IfB (!t3) (R (Value.int IntKind.i64 (3 : Int)) w2)
 (F27k1 t0 t1 w2 R)
theorem F27_ok (t0 : Option Addr) (t1 : Int) (w : World) (R : Value → World → Prop) (h : F27 t0 t1 w R) : CW Try.prog 27 #[Value.pointer t0, Value.int IntKind.i64 t1] w R :=
  call_of tbOk mixed en27 Try.func27 rfl (.node (.nil) (.node (.nil) (.node (.nil) (.node (.nil) (.node (.draw (.st 0 (.st 1 (.st 2 (.st 3 (.st 4 (.st 5 (.st 6 (.st 7 (.st 8 (.st 9 (.st 10 (.st 11 (.st 12 (.st 13 (.st 14 (.ac 15 [4, 3, 2, 1, 0] (.st 16 (.ac 17 [] (.fin) (.non))) (.non)))))))))))))))))) (.nil)))))) (by kernel_rfl) (Nat.le_of_ble_eq_true (by kernel_rfl)) (Eq.mp (α := F27 t0 t1 w R) (by kernel_rfl) h)

def F28j1 (t0 : Option Addr) (t1 : Int) (t2 : Int) (R : Value → World → Prop) (x6 : Int × Int × Bool) (w26 : World) : Prop :=
 ∃ (b29 : Nat),
 ∃ (b30 : Nat),
 t0 = some ({ block := b29, off := b30 } : Addr) ∧
 ∃ (s31 : Sl),
 w26.cell? ({ block := b29, off := b30 + (0 : Nat) } : Addr) = some (Value.slice s31.1 s31.2 s31.3) ∧
 ∃ (b32 : Nat),
 ∃ (b33 : Nat),
 s31.1 = some ({ block := b32, off := b33 } : Addr) ∧
 ((0 : Int) ≤ x6.1 ∧ x6.1 < (s31.2 : Int)) ∧
 ∃ (s34 : Sl),
 w26.cell? ({ block := b32, off := b33 + x6.1.toNat } : Addr) = some (Value.slice s34.1 s34.2 s34.3) ∧
 (1 : Nat) * (2 : Nat) ≤ (16777216 : Nat) ∧
 AllocP w26 (Obj.cells #[Value.int IntKind.i64 t1, Value.int IntKind.i64 t2] (37 : Nat)) fun (b35 : Nat) (w36 : World) =>
 CX Try.prog (73 : Nat) #[Value.slice s34.1 s34.2 s34.3, Value.int IntKind.i64 x6.snd.1, Value.slice (some ({ block := b35, off := (0 : Nat) } : Addr)) (1 : Nat) (1 : Nat)] w36
 fun (v37 : Value) (w38 : World) =>
 ∃ (s39 : Sl),
 v37 = Value.slice s39.1 s39.2 s39.3 ∧
 ∃ (b40 : Nat),
 ∃ (b41 : Nat),
 t0 = some ({ block := b40, off := b41 } : Addr) ∧
 ∃ (s42 : Sl),
 w38.cell? ({ block := b40, off := b41 + (0 : Nat) } : Addr) = some (Value.slice s42.1 s42.2 s42.3) ∧
 ∃ (b43 : Nat),
 ∃ (b44 : Nat),
 s42.1 = some ({ block := b43, off := b44 } : Addr) ∧
 ((0 : Int) ≤ x6.1 ∧ x6.1 < (s42.2 : Int)) ∧
 #[Value.slice s39.1 s39.2 s39.3].size = (1 : Nat) ∧
 StoreP w38 b43 (b44 + x6.1.toNat) [Value.slice s39.1 s39.2 s39.3] fun (w45 : World) =>
 IfB (decide ((8 : Int) < (s39.n : Int)))
 (∃ (b46 : Nat),
 ∃ (b47 : Nat),
 t0 = some ({ block := b46, off := b47 } : Addr) ∧
 ∃ (s48 : Sl),
 w45.drew.cell? ({ block := b46, off := b47 + (0 : Nat) } : Addr) = some (Value.slice s48.1 s48.2 s48.3) ∧
 ((0 : Int) ≤ (4 : Int) ∧ (4 : Int) ≤ (4 : Int) ∧ (4 : Int) ≤ (s39.3 : Int)) ∧
 CX Try.prog (74 : Nat) #[Value.slice (slAddr s39.1 (Int.toNat (4 : Int)) (0 : Nat) (2 : Nat)) (Int.toNat (4 : Int)) (Int.toNat (4 : Int))] w45.drew fun (v49 : Value) (w50 : World) =>
 ∃ (s51 : Sl),
 v49 = Value.slice s51.1 s51.2 s51.3 ∧
 w50.cell? ({ block := b46, off := b47 + (0 : Nat) } : Addr) = some (Value.slice s48.1 s48.2 s48.3) ∧
 ∃ (b52 : Nat),
 ∃ (b53 : Nat),
 s48.1 = some ({ block := b52, off := b53 } : Addr) ∧
 ((0 : Int) ≤ x6.1 ∧ x6.1 < (s48.2 : Int)) ∧
 #[Value.slice s51.1 s51.2 s51.3].size = (1 : Nat) ∧
 StoreP w50 b52 (b53 + x6.1.toNat) [Value.slice s51.1 s51.2 s51.3] fun (w54 : World) =>
 ∃ (b55 : Nat),
 ∃ (b56 : Nat),
 t0 = some ({ block := b55, off := b56 } : Addr) ∧
 ∃ (s57 : Sl),
 w54.drew.cell? ({ block := b55, off := b56 + (0 : Nat) } : Addr) = some (Value.slice s57.1 s57.2 s57.3) ∧
 ((0 : Int) ≤ (4 : Int) ∧ (4 : Int) ≤ (s39.2 : Int)) ∧
 CX Try.prog (74 : Nat) #[Value.slice (slAddr s39.1 s39.3 (Int.toNat (4 : Int)) (2 : Nat)) (s39.2 - Int.toNat (4 : Int)) (s39.3 - Int.toNat (4 : Int))] w54.drew
 fun (v58 : Value) (w59 : World) =>
 ∃ (s60 : Sl),
 v58 = Value.slice s60.1 s60.2 s60.3 ∧
 w59.cell? ({ block := b55, off := b56 + (0 : Nat) } : Addr) = some (Value.slice s57.1 s57.2 s57.3) ∧
 (1 : Nat) * (1 : Nat) ≤ (16777216 : Nat) ∧
 AllocP w59 (Obj.cells #[Value.slice s60.1 s60.2 s60.3] (121 : Nat)) fun (b61 : Nat) (w62 : World) =>
 w62.cell? ({ block := b55, off := b56 + (0 : Nat) } : Addr) = some (Value.slice s57.1 s57.2 s57.3) ∧
 CX Try.prog (75 : Nat)
 #[Value.slice s57.1 s57.2 s57.3, Value.int IntKind.i64 (IntKind.i64.wrap (x6.1 + (1 : Int))), Value.slice (some ({ block := b61, off := (0 : Nat) } : Addr)) (1 : Nat) (1 : Nat)] w62
 fun (v63 : Value) (w64 : World) =>
 ∃ (s65 : Sl),
 v63 = Value.slice s65.1 s65.2 s65.3 ∧
 ∃ (b66 : Nat),
 ∃ (b67 : Nat),
 t0 = some ({ block := b66, off := b67 } : Addr) ∧
 #[Value.slice s65.1 s65.2 s65.3].size = (1 : Nat) ∧ StoreP w64 b66 (b67 + (0 : Nat)) [Value.slice s65.1 s65.2 s65.3] fun (w68 : World) => R (Value.int IntKind.i64 (0 : Int)) w68)
 (R (Value.int IntKind.i64 (0 : Int)) w45)
def F28 (t0 : Option Addr) (t1 : Int) (t2 : Int) (w : World) (R : Value → World → Prop) : Prop :=
 CX Try.prog (68 : Nat) #[Value.pointer t0, Value.int IntKind.i64 t1] w fun (v1 : Value) (w2 : World) =>
 ∃ (t3 : Bool),
 v1 = Value.bool t3 ∧
 IfB (!t3) (R (Value.int IntKind.i64 (3 : Int)) w2)
 (CX Try.prog (69 : Nat) #[Value.pointer t0, Value.int IntKind.i64 t1] w2 fun (v4 : Value) (w5 : World) =>
 ∃ (x6 : Int × Int × Bool),
 v4 = Value.tuple #[Value.int IntKind.i64 x6.1, Value.int IntKind.i64 x6.snd.1, Value.bool x6.snd.2] ∧
 ∃ (y7 : Unit → World → Prop),
 IfB x6.snd.2
 (∃ (b8 : Nat),
 ∃ (b9 : Nat),
 t0 = some ({ block := b8, off := b9 } : Addr) ∧
 ∃ (s10 : Sl),
 w5.cell? ({ block := b8, off := b9 + (0 : Nat) } : Addr) = some (Value.slice s10.1 s10.2 s10.3) ∧
 ∃ (b11 : Nat),
 ∃ (b12 : Nat),
 s10.1 = some ({ block := b11, off := b12 } : Addr) ∧
 ((0 : Int) ≤ x6.1 ∧ x6.1 < (s10.2 : Int)) ∧
 ∃ (s13 : Sl),
 w5.cell? ({ block := b11, off := b12 + x6.1.toNat } : Addr) = some (Value.slice s13.1 s13.2 s13.3) ∧
 ∃ (b14 : Nat),
 ∃ (b15 : Nat),
 s13.1 = some ({ block := b14, off := b15 } : Addr) ∧
 ((0 : Int) ≤ x6.snd.1 ∧ x6.snd.1 < (s13.2 : Int)) ∧
 #[Value.int IntKind.i64 t2].size = (1 : Nat) ∧
 StoreP w5 b14 (b15 + Int.toNat x6.snd.1 * (2 : Nat) + (1 : Nat)) [Value.int IntKind.i64 t2] fun (w16 : World) => R (Value.int IntKind.i64 (0 : Int)) w16)
 (∃ (b17 : Nat),
 ∃ (b18 : Nat),
 t0 = some ({ block := b17, off := b18 } : Addr) ∧
 ∃ (s19 : Sl),
 w5.cell? ({ block := b17, off := b18 + (0 : Nat) } : Addr) = some (Value.slice s19.1 s19.2 s19.3) ∧
 IfB ((s19.2 : Int) == (0 : Int))
 ((1 : Nat) * (1 : Nat) ≤ (16777216 : Nat) ∧
 AllocP w5 (Obj.cells #[Value.slice none (0 : Nat) (0 : Nat)] (121 : Nat)) fun (b20 : Nat) (w21 : World) =>
 ∃ (b22 : Nat),
 ∃ (b23 : Nat),
 t0 = some ({ block := b22, off := b23 } : Addr) ∧
 #[Value.slice (some ({ block := b20, off := (0 : Nat) } : Addr)) (1 : Nat) (1 : Nat)].size = (1 : Nat) ∧
 StoreP w21 b22 (b23 + (0 : Nat)) [Value.slice (some ({ block := b20, off := (0 : Nat) } : Addr)) (1 : Nat) (1 : Nat)] fun (w24 : World) => ([] : List Nat) = [] ∧ y7 PUnit.unit w24)
 (([] : List Nat) = [] ∧ y7 PUnit.unit w5)) ∧
 ∀ (y25 : Unit) (w26 : World) (y27 : Nat → Value),
 y7 y25 w26 →
 (F28j1 t0 t1 t2 R x6 w26))
theorem F28_ok (t0 : Option Addr) (t1 : Int) (t2 : Int) (w : World) (R : Value → World → Prop) (h : F28 t0 t1 t2 w R) : CW Try.prog 28 #[Value.pointer t0, Value.int IntKind.i64 t1, Value.int IntKind.i64 t2] w R :=
  call_of tbOk mixed en28 Try.func28 rfl (.node (.nil) (.node (.nil) (.node (.nil) (.join [] [23, 22, 24, 25, 26, 27, 28, 29, 30, 31, 32, 33, 34, 6, 36, 37, 38, 39, 40, 41, 35, 42, 43, 44, 45] (.nil) (.node (.nil) (.node (.nil) (.node (.node (.nil) (.node (.node (.draw (.st 0 (.st 1 (.st 2 (.st 3 (.st 4 (.st 5 (.st 6 (.ac 7 [4, 3, 2, 1, 0] (.st 8 (.ac 9 [] (.fin) (.non))) (.non)))))))))) (.draw (.st 0 (.st 1 (.st 2 (.st 3 (.st 4 (.st 5 (.st 6 (.st 7 (.st 8 (.ac 9 [6, 5, 4, 3, 2, 1, 0] (.ac 10 [6, 5, 4, 3, 2, 1, 0] (.ac 11 [0] (.st 12 (.st 13 (.ac 14 [] (.fin) (.non)))) (.non)) (.non)) (.non))))))))))))) (.nil))) (.nil)))))))) (by kernel_rfl) (Nat.le_of_ble_eq_true (by kernel_rfl)) (Eq.mp (α := F28 t0 t1 t2 w R) (by kernel_rfl) h)

def F29 (t0 : Option Addr) (t1 : Int) (w : World) (R : Value → World → Prop) : Prop :=
 CX Try.prog (68 : Nat) #[Value.pointer t0, Value.int IntKind.i64 t1] w fun (v1 : Value) (w2 : World) =>
 ∃ (t3 : Bool),
 v1 = Value.bool t3 ∧
 IfB (!t3) (R (Value.tuple #[Value.int IntKind.i64 (0 : Int), Value.int IntKind.i64 (3 : Int)]) w2)
 (CX Try.prog (69 : Nat) #[Value.pointer t0, Value.int IntKind.i64 t1] w2 fun (v4 : Value) (w5 : World) =>
 ∃ (x6 : Int × Int × Bool),
 v4 = Value.tuple #[Value.int IntKind.i64 x6.1, Value.int IntKind.i64 x6.snd.1, Value.bool x6.snd.2] ∧
 IfB (!x6.snd.2) (R (Value.tuple #[Value.int IntKind.i64 (0 : Int), Value.int IntKind.i64 (5 : Int)]) w5)
 (∃ (b7 : Nat),
 ∃ (b8 : Nat),
 t0 = some ({ block := b7, off := b8 } : Addr) ∧
 ∃ (s9 : Sl),
 w5.cell? ({ block := b7, off := b8 + (0 : Nat) } : Addr) = some (Value.slice s9.1 s9.2 s9.3) ∧
 ∃ (b10 : Nat),
 ∃ (b11 : Nat),
 s9.1 = some ({ block := b10, off := b11 } : Addr) ∧
 ((0 : Int) ≤ x6.1 ∧ x6.1 < (s9.2 : Int)) ∧
 ∃ (s12 : Sl),
 w5.cell? ({ block := b10, off := b11 + x6.1.toNat } : Addr) = some (Value.slice s12.1 s12.2 s12.3) ∧
 ∃ (b13 : Nat),
 ∃ (b14 : Nat),
 s12.1 = some ({ block := b13, off := b14 } : Addr) ∧
 ((0 : Int) ≤ x6.snd.1 ∧ x6.snd.1 < (s12.2 : Int)) ∧
 ∃ (n15 : Int),
 w5.cell? ({ block := b13, off := b14 + Int.toNat x6.snd.1 * (2 : Nat) + (1 : Nat) } : Addr) = some (Value.int IntKind.i64 n15) ∧
 R (Value.tuple #[Value.int IntKind.i64 n15, Value.int IntKind.i64 (0 : Int)]) w5))
theorem F29_ok (t0 : Option Addr) (t1 : Int) (w : World) (R : Value → World → Prop) (h : F29 t0 t1 w R) : CW Try.prog 29 #[Value.pointer t0, Value.int IntKind.i64 t1] w R :=
  call_of tbOk mixed en29 Try.func29 rfl (.nil) (by kernel_rfl) (Nat.le_of_ble_eq_true (by kernel_rfl)) (Eq.mp (α := F29 t0 t1 w R) (by kernel_rfl) h)

def F30j1 (R : Value → World → Prop) (s3 : Sl) (y4 : Nat → Sl × Int → World → Prop) (b6 : Nat) (x7 : Sl × Int) (w8 : World) : Prop :=
 IfB (decide (x7.snd < (s3.n : Int)))
 (∃ (b11 : Nat),
 ∃ (b12 : Nat),
 s3.1 = some ({ block := b11, off := b12 } : Addr) ∧
 ((0 : Int) ≤ x7.2 ∧ x7.2 < (s3.2 : Int)) ∧
 ∃ (s13 : Sl),
 w8.cell? ({ block := b11, off := b12 + x7.2.toNat } : Addr) = some (Value.slice s13.1 s13.2 s13.3) ∧
 ∃ (b14 : Nat),
 ∃ (b15 : Nat),
 s13.1 = some ({ block := b14, off := b15 } : Addr) ∧
 ((0 : Int) ≤ (0 : Int) ∧ (0 : Int) < (s13.2 : Int)) ∧
 ∃ (n16 : Int),
 w8.cell? ({ block := b14, off := b15 + Int.toNat (0 : Int) * (2 : Nat) + (0 : Nat) } : Addr) = some (Value.int IntKind.i64 n16) ∧
 (1 : Nat) * (1 : Nat) ≤ (16777216 : Nat) ∧
 AllocP w8 (Obj.cells #[Value.int IntKind.i64 n16] (3 : Nat)) fun (b17 : Nat) (w18 : World) =>
 ∃ (l19 : List Value),
 ReadC w18 (some ({ block := b17, off := (0 : Nat) } : Addr)) ((1 : Nat) * (1 : Nat)) l19 ∧
 AppendP tt3 (3 : Nat) w18 x7.fst.1 x7.fst.2 x7.fst.3
 (1 : Nat) l19 fun (s20 : Sl) (w21 : World) => ([] : List Nat) = [] ∧ ∃ (b22 : Nat), b22 < b6 ∧ y4 b22 ({ p := s20.1, n := s20.2, c := s20.3 }, IntKind.i64.wrap (x7.2 + (1 : Int))) w21)
 (R (Value.slice x7.fst.1 x7.fst.2 x7.fst.3) w8)
def F30 (t0 : Option Addr) (w : World) (R : Value → World → Prop) : Prop :=
 IfB t0.isNone (R (Value.slice none (0 : Nat) (0 : Nat)) w)
 (∃ (b1 : Nat),
 ∃ (b2 : Nat),
 t0 = some ({ block := b1, off := b2 } : Addr) ∧
 ∃ (s3 : Sl),
 w.cell? ({ block := b1, off := b2 + (0 : Nat) } : Addr) = some (Value.slice s3.1 s3.2 s3.3) ∧
 ∃ (y4 : Nat → Sl × Int → World → Prop),
 (∃ (b5 : Nat), y4 b5 ({ p := none, n := (0 : Nat), c := (0 : Nat) }, (0 : Int)) w) ∧
 ∀ (b6 : Nat) (x7 : Sl × Int) (w8 : World) (y9 : Nat → Value),
 y4 b6 x7 w8 →
 (F30j1 R s3 y4 b6 x7 w8))
theorem F30_ok (t0 : Option Addr) (w : World) (R : Value → World → Prop) (h : F30 t0 w R) : CW Try.prog 30 #[Value.pointer t0] w R :=
  call_of tbOk mixed en30 Try.func30 rfl (.node (.nil) (.node (.nil) (.node (.nil) (.node (.node (.nil) (.loop [(3, .one (.sl)), (13, .one (.int .i64))] [14, 15, 16, 5, 17, 18, 19, 20, 21, 22, 23, 3, 24, 13] (.nil))) (.nil))))) (by kernel_rfl) (Nat.le_of_ble_eq_true (by kernel_rfl)) (Eq.mp (α := F30 t0 w R) (by kernel_rfl) h)

noncomputable def R31_0 : Code := codeAt [1, 1, 0, 1, 0] (bodyOf Try.f31)
def R31_0a : An := .nil
theorem R31_0ok1 : okC tb Try.f31.ntmps (rA R31_0) .nil = true := by kernel_rfl
theorem R31_0ok2 : okC tb Try.f31.ntmps (rB R31_0) R31_0a = true := by kernel_rfl
theorem R31_0okp : (rP R31_0).toList.all (fun p => Nat.blt p Try.f31.ntmps) = true := by kernel_rfl
def F31 (t0 : Option Addr) (w : World) (R : Value → World → Prop) : Prop :=
 AllocP w (Obj.cells #[Value.int IntKind.i64 (0 : Int)] (3 : Nat)) fun (b1 : Nat) (w2 : World) =>
 #[Value.int IntKind.i64 (0 : Int)].size = (1 : Nat) ∧
 StoreP w2 b1 (0 : Nat) [Value.int IntKind.i64 (0 : Int)] fun (w3 : World) =>
 CX Try.prog (65 : Nat) #[Value.pointer t0] w3 fun (v4 : Value) (w5 : World) =>
 ∃ (x6 : Nat × Array Value),
 v4 = Value.func (Fn.func x6.1) #[] x6.2 ∧
 ∀ (y7 : Nat → Value),
 RangeP Try.prog tb (nat_lit 10) none R31_0a (rG R31_0) (rP R31_0) (rA R31_0) (rB R31_0)
 (frC y7 [((2 : Nat), Value.int IntKind.i64 (0 : Int)), ((3 : Nat), Value.pointer (some ({ block := b1, off := (0 : Nat) } : Addr))), ((5 : Nat), Value.func (Fn.func x6.1) #[] x6.2)]) [] w5
 (fun (l8 : List Nat) (w9 : World) => ∃ (n10 : Int), w9.cell? ({ block := b1, off := (0 : Nat) } : Addr) = some (Value.int IntKind.i64 n10) ∧ marksP w9 l8 fun (w11 : World) => R (Value.int IntKind.i64 n10) w11)
 (fun (l12 : List Nat) (w13 : World) => marksP w13 l12 fun (w14 : World) => R (Value.int IntKind.i64 (0 : Int)) w14) fun (b15 : Nat) (l16 : List Nat) (w17 : World) =>
 match b15.beq (0 : Nat) with
 | true => ∃ (n19 : Int), w17.cell? ({ block := b1, off := (0 : Nat) } : Addr) = some (Value.int IntKind.i64 n19) ∧ marksP w17 l16 fun (w20 : World) => R (Value.int IntKind.i64 n19) w20
 | false => False
theorem F31_ok (t0 : Option Addr) (w : World) (R : Value → World → Prop) (h : F31 t0 w R) : CW Try.prog 31 #[Value.pointer t0] w R :=
  call_of tbOk mixed en31 Try.func31 rfl (.node (.nil) (.node (.nil) (.node (.node (.nil) (.rng [(2, .one (.int .i64)), (3, .one (.box)), (5, .one (.clo))] (.nil))) (.nil)))) (by kernel_rfl) (Nat.le_of_ble_eq_true (by kernel_rfl)) (Eq.mp (α := F31 t0 w R) (by kernel_rfl) h)

def F31b0 (t2 : Int) (t3 : Nat) (t5 : Nat × Array Value) (x6 : Value) (l D n₀ : Nat) (Jn : World → Prop) (Jx : Code → World → Prop) (W : World) : Prop :=
  ([] : List Nat) = [] ∧
 (W.1[l]? = W.1[l]? ∧ W.1[D]? = W.1[D]?) ∧
 ∀ (w9 : World),
 Stb n₀ W w9 →
 (∃ (y11 : Loop), w9.1[l]? = some (Obj.loop y11)) →
 ∃ (n15 : Int),
 w9.cell? ({ block := t3, off := (0 : Nat) } : Addr) = some (Value.int IntKind.i64 n15) ∧
 #[Value.int IntKind.i64 (IntKind.i64.wrap (n15 + (1 : Int)))].size = (1 : Nat) ∧
 StoreP w9 t3 (0 : Nat) [Value.int IntKind.i64 (IntKind.i64.wrap (n15 + (1 : Int)))] fun (w16 : World) => (w16.1[l]? = w9.1[l]? ∧ w16.1[D]? = w9.1[D]?) ∧ Jn w16
theorem F31b0_ok (t2 : Int) (t3 : Nat) (t5 : Nat × Array Value) (x6 : Value) (l D n₀ : Nat) (Jn : World → Prop) (Jx : Code → World → Prop) (W : World) {g : Nat → Value} (h : F31b0 t2 t3 t5 x6 l D n₀ Jn Jx W) :
    BodyP Try.prog tb Try.f31.ntmps l D n₀ R31_0a (rP R31_0) (rA R31_0) (rB R31_0) (frC g [(2, Value.int IntKind.i64 t2), (3, Value.pointer (some ({ block := t3, off := 0 } : Addr))), (5, Value.func (Fn.func t5.1) #[] t5.2)]) Jn Jx [x6] W :=
  Eq.mp (α := F31b0 t2 t3 t5 x6 l D n₀ Jn Jx W) (by kernel_rfl) h

def F32k1 (x3 : Int × Int) (t0 : Option Addr) (w30 : World) (s22 : Sl) (R : Value → World → Prop) : Prop :=
 IfB (decide ((0 : Int) < x3.fst))
 (∃ (b80 : Nat),
 ∃ (b81 : Nat),
 t0 = some ({ block := b80, off := b81 } : Addr) ∧
 ∃ (s82 : Sl),
 w30.cell? ({ block := b80, off := b81 + (0 : Nat) } : Addr) = some (Value.slice s82.1 s82.2 s82.3) ∧
 ∃ (b83 : Nat),
 ∃ (b84 : Nat),
 s82.1 = some ({ block := b83, off := b84 } : Addr) ∧
 ((0 : Int) ≤ IntKind.i64.wrap (x3.1 - (1 : Int)) ∧ IntKind.i64.wrap (x3.1 - (1 : Int)) < (s82.2 : Int)) ∧
 ∃ (s85 : Sl),
 w30.cell? ({ block := b83, off := b84 + (IntKind.i64.wrap (x3.1 - (1 : Int))).toNat } : Addr) = some (Value.slice s85.1 s85.2 s85.3) ∧
 IfB (decide (IntKind.i64.wrap ((s85.n : Int) + (s22.n : Int)) ≤ (4 : Int)))
 ((0 : Nat) * (2 : Nat) ≤ (16777216 : Nat) ∧
 AllocP w30 (Obj.cells #[] (37 : Nat)) fun (b86 : Nat) (w87 : World) =>
 ∃ (b88 : Nat),
 ∃ (b89 : Nat),
 t0 = some ({ block := b88, off := b89 } : Addr) ∧
 ∃ (s90 : Sl),
 w87.cell? ({ block := b88, off := b89 + (0 : Nat) } : Addr) = some (Value.slice s90.1 s90.2 s90.3) ∧
 ∃ (b91 : Nat),
 ∃ (b92 : Nat),
 s90.1 = some ({ block := b91, off := b92 } : Addr) ∧
 ((0 : Int) ≤ IntKind.i64.wrap (x3.1 - (1 : Int)) ∧ IntKind.i64.wrap (x3.1 - (1 : Int)) < (s90.2 : Int)) ∧
 ∃ (s93 : Sl),
 w87.cell? ({ block := b91, off := b92 + (IntKind.i64.wrap (x3.1 - (1 : Int))).toNat } : Addr) = some (Value.slice s93.1 s93.2 s93.3) ∧
 ∃ (l94 : List Value),
 ReadC w87 s93.1 (s93.2 * (2 : Nat)) l94 ∧
 AppendP tt37 (37 : Nat) w87 (some ({ block := b86, off := (0 : Nat) } : Addr)) (0 : Nat) (0 : Nat) s93.2 l94 fun (s95 : Sl) (w96 : World) =>
 ∃ (l97 : List Value),
 ReadC w96 s22.1 (s22.2 * (2 : Nat)) l97 ∧
 AppendP tt37 (37 : Nat) w96 s95.1 s95.2 s95.3 s22.2 l97 fun (s98 : Sl) (w99 : World) =>
 (1 : Nat) * (1 : Nat) ≤ (16777216 : Nat) ∧
 AllocP w99 (Obj.cells #[Value.slice s98.1 s98.2 s98.3] (28 : Nat)) fun (b100 : Nat) (w101 : World) =>
 CX Try.prog (64 : Nat)
 #[Value.pointer t0, Value.int IntKind.i64 (IntKind.i64.wrap (x3.1 - (1 : Int))), Value.int IntKind.i64 (2 : Int), Value.slice (some ({ block := b100, off := (0 : Nat) } : Addr)) (1 : Nat) (1 : Nat)]
 w101 fun (v102 : Value) (w103 : World) => ∃ (y104 : Unit), v102 = Value.tuple #[] ∧ R (Value.int IntKind.i64 (0 : Int)) w103)
 (R (Value.int IntKind.i64 (0 : Int)) w30))
 (R (Value.int IntKind.i64 (0 : Int)) w30)
def F32k2 (t0 : Option Addr) (w2 : World) (x3 : Int × Int) (R : Value → World → Prop) : Prop :=
 ∃ (b4 : Nat),
 ∃ (b5 : Nat),
 t0 = some ({ block := b4, off := b5 } : Addr) ∧
 ∃ (s6 : Sl),
 w2.drew.cell? ({ block := b4, off := b5 + (0 : Nat) } : Addr) = some (Value.slice s6.1 s6.2 s6.3) ∧
 ∃ (b7 : Nat),
 ∃ (b8 : Nat),
 s6.1 = some ({ block := b7, off := b8 } : Addr) ∧
 ((0 : Int) ≤ x3.1 ∧ x3.1 < (s6.2 : Int)) ∧
 ∃ (s9 : Sl),
 w2.drew.cell? ({ block := b7, off := b8 + x3.1.toNat } : Addr) = some (Value.slice s9.1 s9.2 s9.3) ∧
 ((0 : Int) ≤ x3.2 ∧ x3.2 ≤ (s9.3 : Int)) ∧
 ∃ (b10 : Nat),
 ∃ (b11 : Nat),
 t0 = some ({ block := b10, off := b11 } : Addr) ∧
 ∃ (s12 : Sl),
 w2.drew.cell? ({ block := b10, off := b11 + (0 : Nat) } : Addr) = some (Value.slice s12.1 s12.2 s12.3) ∧
 ∃ (b13 : Nat),
 ∃ (b14 : Nat),
 s12.1 = some ({ block := b13, off := b14 } : Addr) ∧
 ((0 : Int) ≤ x3.1 ∧ x3.1 < (s12.2 : Int)) ∧
 ∃ (s15 : Sl),
 w2.drew.cell? ({ block := b13, off := b14 + x3.1.toNat } : Addr) = some (Value.slice s15.1 s15.2 s15.3) ∧
 ((0 : Int) ≤ IntKind.i64.wrap (x3.2 + (1 : Int)) ∧ IntKind.i64.wrap (x3.2 + (1 : Int)) ≤ (s15.2 : Int)) ∧
 (0 : Nat) * (2 : Nat) ≤ (16777216 : Nat) ∧
 AllocP w2.drew (Obj.cells #[] (37 : Nat)) fun (b16 : Nat) (w17 : World) =>
 w17.cell? ({ block := b13, off := b14 + x3.1.toNat } : Addr) = some (Value.slice s15.1 s15.2 s15.3) ∧
 w17.cell? ({ block := b10, off := b11 + (0 : Nat) } : Addr) = some (Value.slice s12.1 s12.2 s12.3) ∧
 w17.cell? ({ block := b7, off := b8 + x3.1.toNat } : Addr) = some (Value.slice s9.1 s9.2 s9.3) ∧
 w17.cell? ({ block := b4, off := b5 + (0 : Nat) } : Addr) = some (Value.slice s6.1 s6.2 s6.3) ∧
 ∃ (l18 : List Value),
 ReadC w17 (slAddr s9.1 s9.3 (0 : Nat) (2 : Nat)) (x3.2.toNat * (2 : Nat)) l18 ∧
 AppendP tt37 (37 : Nat) w17 (some ({ block := b16, off := (0 : Nat) } : Addr)) (0 : Nat) (0 : Nat) x3.2.toNat l18 fun (s19 : Sl) (w20 : World) =>
 w20.cell? ({ block := b13, off := b14 + x3.1.toNat } : Addr) = some (Value.slice s15.1 s15.2 s15.3) ∧
 w20.cell? ({ block := b10, off := b11 + (0 : Nat) } : Addr) = some (Value.slice s12.1 s12.2 s12.3) ∧
 ∃ (l21 : List Value),
 ReadC w20 (slAddr s15.1 s15.3 (IntKind.i64.wrap (x3.2 + (1 : Int))).toNat (2 : Nat)) ((s15.2 - (IntKind.i64.wrap (x3.2 + (1 : Int))).toNat) * (2 : Nat)) l21 ∧
 AppendP tt37 (37 : Nat) w20 s19.1 s19.2 s19.3 (s15.2 - (IntKind.i64.wrap (x3.2 + (1 : Int))).toNat) l21 fun (s22 : Sl) (w23 : World) =>
 IfB ((s22.2 : Int) == (0 : Int))
 (CX Try.prog (64 : Nat) #[Value.pointer t0, Value.int IntKind.i64 x3.1, Value.int IntKind.i64 (1 : Int), Value.slice none (0 : Nat) (0 : Nat)] w23 fun (v24 : Value) (w25 : World) =>
 ∃ (y26 : Unit), v24 = Value.tuple #[] ∧ R (Value.int IntKind.i64 (0 : Int)) w25)
 ((1 : Nat) * (1 : Nat) ≤ (16777216 : Nat) ∧
 AllocP w23 (Obj.cells #[Value.slice s22.1 s22.2 s22.3] (28 : Nat)) fun (b27 : Nat) (w28 : World) =>
 CX Try.prog (64 : Nat) #[Value.pointer t0, Value.int IntKind.i64 x3.1, Value.int IntKind.i64 (1 : Int), Value.slice (some ({ block := b27, off := (0 : Nat) } : Addr)) (1 : Nat) (1 : Nat)] w28
 fun (v29 : Value) (w30 : World) =>
 ∃ (y31 : Unit),
 v29 = Value.tuple #[] ∧
 ∃ (b32 : Nat),
 ∃ (b33 : Nat),
 t0 = some ({ block := b32, off := b33 } : Addr) ∧
 ∃ (s34 : Sl),
 w30.cell? ({ block := b32, off := b33 + (0 : Nat) } : Addr) = some (Value.slice s34.1 s34.2 s34.3) ∧
 IfB (decide (IntKind.i64.wrap (x3.fst + (1 : Int)) < (s34.n : Int)))
 (∃ (b35 : Nat),
 ∃ (b36 : Nat),
 t0 = some ({ block := b35, off := b36 } : Addr) ∧
 ∃ (s37 : Sl),
 w30.cell? ({ block := b35, off := b36 + (0 : Nat) } : Addr) = some (Value.slice s37.1 s37.2 s37.3) ∧
 ∃ (b38 : Nat),
 ∃ (b39 : Nat),
 s37.1 = some ({ block := b38, off := b39 } : Addr) ∧
 ((0 : Int) ≤ IntKind.i64.wrap (x3.1 + (1 : Int)) ∧ IntKind.i64.wrap (x3.1 + (1 : Int)) < (s37.2 : Int)) ∧
 ∃ (s40 : Sl),
 w30.cell? ({ block := b38, off := b39 + (IntKind.i64.wrap (x3.1 + (1 : Int))).toNat } : Addr) = some (Value.slice s40.1 s40.2 s40.3) ∧
 IfB (decide (IntKind.i64.wrap ((s22.n : Int) + (s40.n : Int)) ≤ (4 : Int)))
 (∃ (b41 : Nat),
 ∃ (b42 : Nat),
 t0 = some ({ block := b41, off := b42 } : Addr) ∧
 ∃ (s43 : Sl),
 w30.cell? ({ block := b41, off := b42 + (0 : Nat) } : Addr) = some (Value.slice s43.1 s43.2 s43.3) ∧
 ∃ (b44 : Nat),
 ∃ (b45 : Nat),
 s43.1 = some ({ block := b44, off := b45 } : Addr) ∧
 ((0 : Int) ≤ IntKind.i64.wrap (x3.1 + (1 : Int)) ∧ IntKind.i64.wrap (x3.1 + (1 : Int)) < (s43.2 : Int)) ∧
 ∃ (s46 : Sl),
 w30.cell? ({ block := b44, off := b45 + (IntKind.i64.wrap (x3.1 + (1 : Int))).toNat } : Addr) = some (Value.slice s46.1 s46.2 s46.3) ∧
 ∃ (l47 : List Value),
 ReadC w30 s46.1 (s46.2 * (2 : Nat)) l47 ∧
 AppendP tt37 (37 : Nat) w30 s22.1 s22.2 s22.3 s46.2 l47 fun (s48 : Sl) (w49 : World) =>
 (1 : Nat) * (1 : Nat) ≤ (16777216 : Nat) ∧
 AllocP w49 (Obj.cells #[Value.slice s48.1 s48.2 s48.3] (28 : Nat)) fun (b50 : Nat) (w51 : World) =>
 CX Try.prog (64 : Nat) #[Value.pointer t0, Value.int IntKind.i64 x3.1, Value.int IntKind.i64 (2 : Int), Value.slice (some ({ block := b50, off := (0 : Nat) } : Addr)) (1 : Nat) (1 : Nat)] w51
 fun (v52 : Value) (w53 : World) => ∃ (y54 : Unit), v52 = Value.tuple #[] ∧ R (Value.int IntKind.i64 (0 : Int)) w53)
 (F32k1 x3 t0 w30 s22 R))
 (F32k1 x3 t0 w30 s22 R))
def F32 (t0 : Option Addr) (t1 : Int) (w : World) (R : Value → World → Prop) : Prop :=
 IfB (decide (t1 < (0 : Int))) (R (Value.int IntKind.i64 (3 : Int)) w)
 (IfB (decide ((999 : Int) < t1)) (R (Value.int IntKind.i64 (3 : Int)) w)
 (CX Try.prog (63 : Nat) #[Value.pointer t0, Value.int IntKind.i64 t1] w fun (v1 : Value) (w2 : World) =>
 ∃ (x3 : Int × Int),
 v1 = Value.tuple #[Value.int IntKind.i64 x3.1, Value.int IntKind.i64 x3.2] ∧
 IfB (decide (x3.snd < (0 : Int))) (R (Value.int IntKind.i64 (5 : Int)) w2)
 (F32k2 t0 w2 x3 R)))
theorem F32_ok (t0 : Option Addr) (t1 : Int) (w : World) (R : Value → World → Prop) (h : F32 t0 t1 w R) : CW Try.prog 32 #[Value.pointer t0, Value.int IntKind.i64 t1] w R :=
  call_of tbOk mixed en32 Try.func32 rfl (.node (.nil) (.node (.nil) (.node (.nil) (.node (.nil) (.node (.draw (.st 1 (.st 2 (.st 3 (.st 4 (.st 5 (.st 6 (.st 7 (.st 8 (.st 9 (.st 11 (.st 12 (.st 13 (.st 14 (.st 15 (.st 16 (.st 17 (.st 18 (.st 19 (.st 20 (.ac 0 [20, 19, 18, 17, 16, 15, 14, 13, 12, 11, 9, 8, 7, 6, 5, 4, 3, 2, 1] (.ac 10 [20, 19, 18, 17, 16, 15, 14, 13, 12, 11] (.ac 21 [] (.st 22 (.fin)) (.non)) (.non)) (.non)))))))))))))))))))))) (.nil)))))) (by kernel_rfl) (Nat.le_of_ble_eq_true (by kernel_rfl)) (Eq.mp (α := F32 t0 t1 w R) (by kernel_rfl) h)

def F33 (t0 : Option Addr) (t1 : Int) (w : World) (R : Value → World → Prop) : Prop :=
 IfB (decide (t1 < (0 : Int))) (R (Value.tuple #[Value.int IntKind.i64 (0 : Int), Value.int IntKind.i64 (3 : Int)]) w)
 (IfB (decide ((999 : Int) < t1)) (R (Value.tuple #[Value.int IntKind.i64 (0 : Int), Value.int IntKind.i64 (3 : Int)]) w)
 (CX Try.prog (63 : Nat) #[Value.pointer t0, Value.int IntKind.i64 t1] w fun (v1 : Value) (w2 : World) =>
 ∃ (x3 : Int × Int),
 v1 = Value.tuple #[Value.int IntKind.i64 x3.1, Value.int IntKind.i64 x3.2] ∧
 IfB (decide (x3.snd < (0 : Int))) (R (Value.tuple #[Value.int IntKind.i64 (0 : Int), Value.int IntKind.i64 (5 : Int)]) w2)
 (∃ (b4 : Nat),
 ∃ (b5 : Nat),
 t0 = some ({ block := b4, off := b5 } : Addr) ∧
 ∃ (s6 : Sl),
 w2.cell? ({ block := b4, off := b5 + (0 : Nat) } : Addr) = some (Value.slice s6.1 s6.2 s6.3) ∧
 ∃ (b7 : Nat),
 ∃ (b8 : Nat),
 s6.1 = some ({ block := b7, off := b8 } : Addr) ∧
 ((0 : Int) ≤ x3.1 ∧ x3.1 < (s6.2 : Int)) ∧
 ∃ (s9 : Sl),
 w2.cell? ({ block := b7, off := b8 + x3.1.toNat } : Addr) = some (Value.slice s9.1 s9.2 s9.3) ∧
 ∃ (b10 : Nat),
 ∃ (b11 : Nat),
 s9.1 = some ({ block := b10, off := b11 } : Addr) ∧
 ((0 : Int) ≤ x3.2 ∧ x3.2 < (s9.2 : Int)) ∧
 ∃ (n12 : Int),
 w2.cell? ({ block := b10, off := b11 + x3.2.toNat * (2 : Nat) + (1 : Nat) } : Addr) = some (Value.int IntKind.i64 n12) ∧
 R (Value.tuple #[Value.int IntKind.i64 n12, Value.int IntKind.i64 (0 : Int)]) w2)))
theorem F33_ok (t0 : Option Addr) (t1 : Int) (w : World) (R : Value → World → Prop) (h : F33 t0 t1 w R) : CW Try.prog 33 #[Value.pointer t0, Value.int IntKind.i64 t1] w R :=
  call_of tbOk mixed en33 Try.func33 rfl (.nil) (by kernel_rfl) (Nat.le_of_ble_eq_true (by kernel_rfl)) (Eq.mp (α := F33 t0 t1 w R) (by kernel_rfl) h)

def F34j1 (R : Value → World → Prop) (b1 : Nat) (s5 : Sl) (y6 : Nat → Int → World → Prop) (b8 : Nat) (n9 : Int) (w10 : World) : Prop :=
 IfB (decide (n9 < (s5.n : Int)))
 (∃ (b13 : Nat),
 ∃ (b14 : Nat),
 s5.1 = some ({ block := b13, off := b14 } : Addr) ∧
 ((0 : Int) ≤ n9 ∧ n9 < (s5.2 : Int)) ∧
 ∃ (s15 : Sl),
 w10.cell? ({ block := b13, off := b14 + n9.toNat } : Addr) = some (Value.slice s15.1 s15.2 s15.3) ∧
 ∃ (b16 : Nat),
 ∃ (b17 : Nat),
 some ({ block := b1, off := (0 : Nat) } : Addr) = some ({ block := b16, off := b17 } : Addr) ∧
 ∃ (s18 : Sl),
 w10.drew.cell? ({ block := b16, off := b17 + (0 : Nat) } : Addr) = some (Value.slice s18.1 s18.2 s18.3) ∧
 CX Try.prog (74 : Nat) #[Value.slice s15.1 s15.2 s15.3] w10.drew fun (v19 : Value) (w20 : World) =>
 ∃ (s21 : Sl),
 v19 = Value.slice s21.1 s21.2 s21.3 ∧
 w20.cell? ({ block := b16, off := b17 + (0 : Nat) } : Addr) = some (Value.slice s18.1 s18.2 s18.3) ∧
 (1 : Nat) * (1 : Nat) ≤ (16777216 : Nat) ∧
 AllocP w20 (Obj.cells #[Value.slice s21.1 s21.2 s21.3] (121 : Nat)) fun (b22 : Nat) (w23 : World) =>
 w23.cell? ({ block := b16, off := b17 + (0 : Nat) } : Addr) = some (Value.slice s18.1 s18.2 s18.3) ∧
 ∃ (l24 : List Value),
 ReadC w23 (some ({ block := b22, off := (0 : Nat) } : Addr)) ((1 : Nat) * (1 : Nat)) l24 ∧
 AppendP tt121 (121 : Nat) w23 s18.1 s18.2 s18.3 (1 : Nat) l24
 fun (s25 : Sl) (w26 : World) =>
 ∃ (b27 : Nat),
 ∃ (b28 : Nat),
 some ({ block := b1, off := (0 : Nat) } : Addr) = some ({ block := b27, off := b28 } : Addr) ∧
 #[Value.slice s25.1 s25.2 s25.3].size = (1 : Nat) ∧
 StoreP w26 b27 (b28 + (0 : Nat)) [Value.slice s25.1 s25.2 s25.3] fun (w29 : World) => ([] : List Nat) = [] ∧ ∃ (b30 : Nat), b30 < b8 ∧ y6 b30 (IntKind.i64.wrap (n9 + (1 : Int))) w29)
 (R (Value.pointer (some ({ block := b1, off := (0 : Nat) } : Addr))) w10)
def F34 (t0 : Option Addr) (w : World) (R : Value → World → Prop) : Prop :=
 IfB t0.isNone (R (Value.pointer none) w)
 (AllocP w (Obj.cells #[Value.slice none (0 : Nat) (0 : Nat)] (47 : Nat)) fun (b1 : Nat) (w2 : World) =>
 ∃ (b3 : Nat),
 ∃ (b4 : Nat),
 t0 = some ({ block := b3, off := b4 } : Addr) ∧
 ∃ (s5 : Sl),
 w2.cell? ({ block := b3, off := b4 + (0 : Nat) } : Addr) = some (Value.slice s5.1 s5.2 s5.3) ∧
 ∃ (y6 : Nat → Int → World → Prop),
 (∃ (b7 : Nat), y6 b7 (0 : Int) w2) ∧
 ∀ (b8 : Nat) (n9 : Int) (w10 : World) (y11 : Nat → Value),
 y6 b8 n9 w10 →
 (F34j1 R b1 s5 y6 b8 n9 w10))
theorem F34_ok (t0 : Option Addr) (w : World) (R : Value → World → Prop) (h : F34 t0 w R) : CW Try.prog 34 #[Value.pointer t0] w R :=
  call_of tbOk mixed en34 Try.func34 rfl (.node (.nil) (.node (.nil) (.node (.nil) (.node (.node (.nil) (.loop [(15, .one (.int .i64))] [16, 17, 18, 5, 19, 20, 21, 22, 23, 24, 25, 26, 27, 28, 29, 30, 15] (.node (.nil) (.node (.nil) (.node (.node (.nil) (.draw (.st 0 (.st 1 (.st 2 (.st 3 (.st 4 (.st 5 (.ac 6 [4, 3, 2, 1, 0] (.ac 7 [4, 3, 2, 1, 0] (.ac 8 [0] (.st 9 (.st 10 (.ac 11 [] (.fin) (.non)))) (.non)) (.non)) (.non)))))))))) (.nil)))))) (.nil))))) (by kernel_rfl) (Nat.le_of_ble_eq_true (by kernel_rfl)) (Eq.mp (α := F34 t0 w R) (by kernel_rfl) h)

def F63j2 (t0 : Option Addr) (t1 : Int) (R : Value → World → Prop) (x4 : Int × Int) (y25 : Nat → Int → World → Prop) (b27 : Nat) (n28 : Int) (w29 : World) : Prop :=
 ∃ (b32 : Nat),
 ∃ (b33 : Nat),
 t0 = some ({ block := b32, off := b33 } : Addr) ∧
 ∃ (s34 : Sl),
 w29.cell? ({ block := b32, off := b33 + (0 : Nat) } : Addr) = some (Value.slice s34.1 s34.2 s34.3) ∧
 ∃ (b35 : Nat),
 ∃ (b36 : Nat),
 s34.1 = some ({ block := b35, off := b36 } : Addr) ∧
 ((0 : Int) ≤ x4.1 ∧ x4.1 < (s34.2 : Int)) ∧
 ∃ (s37 : Sl),
 w29.cell? ({ block := b35, off := b36 + x4.1.toNat } : Addr) = some (Value.slice s37.1 s37.2 s37.3) ∧
 IfB (decide (n28 < (s37.n : Int)))
 (∃ (b38 : Nat),
 ∃ (b39 : Nat),
 t0 = some ({ block := b38, off := b39 } : Addr) ∧
 ∃ (s40 : Sl),
 w29.cell? ({ block := b38, off := b39 + (0 : Nat) } : Addr) = some (Value.slice s40.1 s40.2 s40.3) ∧
 ∃ (b41 : Nat),
 ∃ (b42 : Nat),
 s40.1 = some ({ block := b41, off := b42 } : Addr) ∧
 ((0 : Int) ≤ x4.1 ∧ x4.1 < (s40.2 : Int)) ∧
 ∃ (s43 : Sl),
 w29.cell? ({ block := b41, off := b42 + x4.1.toNat } : Addr) = some (Value.slice s43.1 s43.2 s43.3) ∧
 ∃ (b44 : Nat),
 ∃ (b45 : Nat),
 s43.1 = some ({ block := b44, off := b45 } : Addr) ∧
 ((0 : Int) ≤ n28 ∧ n28 < (s43.2 : Int)) ∧
 ∃ (n46 : Int),
 w29.cell? ({ block := b44, off := b45 + n28.toNat * (2 : Nat) + (0 : Nat) } : Addr) = some (Value.int IntKind.i64 n46) ∧
 IfB (n46 == t1) (R (Value.tuple #[Value.int IntKind.i64 x4.1, Value.int IntKind.i64 n28]) w29) (([] : List Nat) = [] ∧ ∃ (b47 : Nat), b47 < b27 ∧ y25 b47 (IntKind.i64.wrap (n28 + (1 : Int))) w29))
 (R (Value.tuple #[Value.int IntKind.i64 x4.1, Value.int IntKind.i64 (-1 : Int)]) w29)
def F63j1 (t0 : Option Addr) (t1 : Int) (R : Value → World → Prop) (y1 : Nat → Int × Int → World → Prop) (b3 : Nat) (x4 : Int × Int) (w5 : World) : Prop :=
 ∃ (b8 : Nat),
 ∃ (b9 : Nat),
 t0 = some ({ block := b8, off := b9 } : Addr) ∧
 ∃ (s10 : Sl),
 w5.cell? ({ block := b8, off := b9 + (0 : Nat) } : Addr) = some (Value.slice s10.1 s10.2 s10.3) ∧
 IfB (decide (x4.snd < (s10.n : Int)))
 (∃ (b11 : Nat),
 ∃ (b12 : Nat),
 t0 = some ({ block := b11, off := b12 } : Addr) ∧
 ∃ (s13 : Sl),
 w5.cell? ({ block := b11, off := b12 + (0 : Nat) } : Addr) = some (Value.slice s13.1 s13.2 s13.3) ∧
 ∃ (b14 : Nat),
 ∃ (b15 : Nat),
 s13.1 = some ({ block := b14, off := b15 } : Addr) ∧
 ((0 : Int) ≤ x4.2 ∧ x4.2 < (s13.2 : Int)) ∧
 ∃ (s16 : Sl),
 w5.cell? ({ block := b14, off := b15 + x4.2.toNat } : Addr) = some (Value.slice s16.1 s16.2 s16.3) ∧
 ∃ (b17 : Nat),
 ∃ (b18 : Nat),
 s16.1 = some ({ block := b17, off := b18 } : Addr) ∧
 ((0 : Int) ≤ (0 : Int) ∧ (0 : Int) < (s16.2 : Int)) ∧
 ∃ (n19 : Int),
 w5.cell? ({ block := b17, off := b18 + Int.toNat (0 : Int) * (2 : Nat) + (0 : Nat) } : Addr) = some (Value.int IntKind.i64 n19) ∧
 IfB (decide (n19 ≤ t1)) (([] : List Nat) = [] ∧ ∃ (b20 : Nat), b20 < b3 ∧ y1 b20 (x4.2, IntKind.i64.wrap (x4.2 + (1 : Int))) w5)
 (([] : List Nat) = [] ∧ ∃ (b21 : Nat), b21 < b3 ∧ y1 b21 (x4.1, IntKind.i64.wrap (x4.2 + (1 : Int))) w5))
 (∃ (b22 : Nat),
 ∃ (b23 : Nat),
 t0 = some ({ block := b22, off := b23 } : Addr) ∧
 ∃ (s24 : Sl),
 w5.cell? ({ block := b22, off := b23 + (0 : Nat) } : Addr) = some (Value.slice s24.1 s24.2 s24.3) ∧
 IfB ((s24.2 : Int) == (0 : Int)) (R (Value.tuple #[Value.int IntKind.i64 (0 : Int), Value.int IntKind.i64 (-1 : Int)]) w5)
 (∃ (y25 : Nat → Int → World → Prop),
 (∃ (b26 : Nat), y25 b26 (0 : Int) w5) ∧
 ∀ (b27 : Nat) (n28 : Int) (w29 : World) (y30 : Nat → Value),
 y25 b27 n28 w29 →
 (F63j2 t0 t1 R x4 y25 b27 n28 w29)))
def F63 (t0 : Option Addr) (t1 : Int) (w : World) (R : Value → World → Prop) : Prop :=
 ∃ (y1 : Nat → Int × Int → World → Prop),
 (∃ (b2 : Nat), y1 b2 ((0 : Int), (0 : Int)) w) ∧
 ∀ (b3 : Nat) (x4 : Int × Int) (w5 : World) (y6 : Nat → Value),
 y1 b3 x4 w5 →
 (F63j1 t0 t1 R y1 b3 x4 w5)
theorem F63_ok (t0 : Option Addr) (t1 : Int) (w : World) (R : Value → World → Prop) (h : F63 t0 t1 w R) : CW Try.prog 63 #[Value.pointer t0, Value.int IntKind.i64 t1] w R :=
  call_of tbOk mixed en63 Try.func63 rfl (.node (.nil) (.node (.nil) (.node (.node (.nil) (.loop [(6, .one (.int .i64)), (7, .one (.int .i64))] [9, 10, 11, 12, 13, 14, 15, 18, 19, 20, 21, 22, 23, 24, 25, 26, 27, 28, 29, 30, 6, 16, 17, 7] (.nil))) (.node (.nil) (.node (.node (.nil) (.loop [(8, .one (.int .i64))] [37, 38, 39, 40, 41, 42, 43, 44, 45, 46, 49, 50, 51, 52, 53, 54, 55, 56, 57, 58, 59, 60, 61, 62, 63, 4, 5, 47, 48, 8] (.nil))) (.nil)))))) (by kernel_rfl) (Nat.le_of_ble_eq_true (by kernel_rfl)) (Eq.mp (α := F63 t0 t1 w R) (by kernel_rfl) h)

def F64 (t0 : Option Addr) (t1 : Int) (t2 : Int) (t3 : Sl) (w : World) (R : Value → World → Prop) : Prop :=
 (0 : Nat) * (1 : Nat) ≤ (16777216 : Nat) ∧
 AllocP w (Obj.cells #[] (28 : Nat)) fun (b1 : Nat) (w2 : World) =>
 ∃ (b3 : Nat),
 ∃ (b4 : Nat),
 t0 = some ({ block := b3, off := b4 } : Addr) ∧
 ∃ (s5 : Sl),
 w2.cell? ({ block := b3, off := b4 + (0 : Nat) } : Addr) = some (Value.slice s5.1 s5.2 s5.3) ∧
 ((0 : Int) ≤ t1 ∧ t1 ≤ (s5.3 : Int)) ∧
 ∃ (l6 : List Value),
 ReadC w2 (slAddr s5.1 s5.3 (0 : Nat) (1 : Nat)) (t1.toNat * (1 : Nat)) l6 ∧
 AppendP tt28 (28 : Nat) w2 (some ({ block := b1, off := (0 : Nat) } : Addr))
 (0 : Nat) (0 : Nat) t1.toNat l6 fun (s7 : Sl) (w8 : World) =>
 ∃ (l9 : List Value),
 ReadC w8 t3.1 (t3.2 * (1 : Nat)) l9 ∧
 AppendP tt28 (28 : Nat) w8 s7.1 s7.2 s7.3 t3.2 l9
 fun (s10 : Sl) (w11 : World) =>
 ∃ (b12 : Nat),
 ∃ (b13 : Nat),
 t0 = some ({ block := b12, off := b13 } : Addr) ∧
 ∃ (s14 : Sl),
 w11.cell? ({ block := b12, off := b13 + (0 : Nat) } : Addr) = some (Value.slice s14.1 s14.2 s14.3) ∧
 ((0 : Int) ≤ IntKind.i64.wrap (t1 + t2) ∧ IntKind.i64.wrap (t1 + t2) ≤ (s14.2 : Int)) ∧
 ∃ (l15 : List Value),
 ReadC w11 (slAddr s14.1 s14.3 (IntKind.i64.wrap (t1 + t2)).toNat (1 : Nat)) ((s14.2 - (IntKind.i64.wrap (t1 + t2)).toNat) * (1 : Nat)) l15 ∧
 AppendP tt28 (28 : Nat) w11 s10.1 s10.2 s10.3
 (s14.2 - (IntKind.i64.wrap (t1 + t2)).toNat) l15 fun (s16 : Sl) (w17 : World) =>
 ∃ (b18 : Nat),
 ∃ (b19 : Nat),
 t0 = some ({ block := b18, off := b19 } : Addr) ∧
 #[Value.slice s16.1 s16.2 s16.3].size = (1 : Nat) ∧ StoreP w17 b18 (b19 + (0 : Nat)) [Value.slice s16.1 s16.2 s16.3] fun (w20 : World) => R (Value.tuple #[]) w20
theorem F64_ok (t0 : Option Addr) (t1 : Int) (t2 : Int) (t3 : Sl) (w : World) (R : Value → World → Prop) (h : F64 t0 t1 t2 t3 w R) : CW Try.prog 64 #[Value.pointer t0, Value.int IntKind.i64 t1, Value.int IntKind.i64 t2, Value.slice t3.1 t3.2 t3.3] w R :=
  call_of tbOk mixed en64 Try.func64 rfl (.nil) (by kernel_rfl) (Nat.le_of_ble_eq_true (by kernel_rfl)) (Eq.mp (α := F64 t0 t1 t2 t3 w R) (by kernel_rfl) h)

def F65 (t0 : Option Addr) (w : World) (R : Value → World → Prop) : Prop :=
 AllocP w (Obj.cells #[Value.pointer t0] (29 : Nat)) fun (b1 : Nat) (w2 : World) =>
 R (Value.func (Fn.func (96 : Nat)) #[] #[Value.pointer (some ({ block := b1, off := (0 : Nat) } : Addr))]) w2
theorem F65_ok (t0 : Option Addr) (w : World) (R : Value → World → Prop) (h : F65 t0 w R) : CW Try.prog 65 #[Value.pointer t0] w R :=
  call_of tbOk mixed en65 Try.func65 rfl (.nil) (by kernel_rfl) (Nat.le_of_ble_eq_true (by kernel_rfl)) (Eq.mp (α := F65 t0 w R) (by kernel_rfl) h)

def F66j1 (t0 : Sl) (t1 : Sl) (R : Value → World → Prop) (y1 : Nat → Int → World → Prop) (b3 : Nat) (n4 : Int) (w5 : World) : Prop :=
 IfB (decide (n4 < (t0.n : Int)))
 (∃ (b8 : Nat),
 ∃ (b9 : Nat),
 t0.1 = some ({ block := b8, off := b9 } : Addr) ∧
 ((0 : Int) ≤ n4 ∧ n4 < (t0.2 : Int)) ∧
 ∃ (x10 : Int × Int),
 CellsAt w5.drew b8 (b9 + n4.toNat * (2 : Nat)) [Value.int IntKind.i64 x10.1, Value.int IntKind.i64 x10.2] ∧
 ∃ (b11 : Nat),
 ∃ (b12 : Nat),
 t1.1 = some ({ block := b11, off := b12 } : Addr) ∧
 ((0 : Int) ≤ n4 ∧ n4 < (t1.2 : Int)) ∧
 ∃ (x13 : Int × Int),
 CellsAt w5.drew b11 (b12 + n4.toNat * (2 : Nat)) [Value.int IntKind.i64 x13.1, Value.int IntKind.i64 x13.2] ∧
 ∃ (t14 : Bool),
 EqAt Try.prog (37 : Nat) (Value.agg #[Value.int IntKind.i64 x10.1, Value.int IntKind.i64 x10.2]) (Value.agg #[Value.int IntKind.i64 x13.1, Value.int IntKind.i64 x13.2]) t14 ∧
 IfB (!t14) (R (Value.bool false) w5.drew) (([] : List Nat) = [] ∧ ∃ (b15 : Nat), b15 < b3 ∧ y1 b15 (IntKind.i64.wrap (n4 + (1 : Int))) w5.drew))
 (R (Value.bool true) w5)
def F66 (t0 : Sl) (t1 : Sl) (w : World) (R : Value → World → Prop) : Prop :=
 IfB ((t0.2 : Int) != (t1.2 : Int)) (R (Value.bool false) w)
 (∃ (y1 : Nat → Int → World → Prop),
 (∃ (b2 : Nat), y1 b2 (0 : Int) w) ∧
 ∀ (b3 : Nat) (n4 : Int) (w5 : World) (y6 : Nat → Value),
 y1 b3 n4 w5 →
 (F66j1 t0 t1 R y1 b3 n4 w5))
theorem F66_ok (t0 : Sl) (t1 : Sl) (w : World) (R : Value → World → Prop) (h : F66 t0 t1 w R) : CW Try.prog 66 #[Value.slice t0.1 t0.2 t0.3, Value.slice t1.1 t1.2 t1.3] w R :=
  call_of tbOk mixed en66 Try.func66 rfl (.node (.nil) (.node (.nil) (.node (.node (.nil) (.loop [(13, .one (.int .i64))] [14, 15, 5, 16, 17, 18, 19, 20, 21, 22, 23, 24, 4, 25, 13] (.node (.nil) (.node (.nil) (.node (.node (.nil) (.node (.draw (.st 0 (.st 1 (.st 2 (.st 3 (.st 4 (.st 5 (.st 6 (.st 7 (.st 8 (.fin))))))))))) (.nil))) (.nil)))))) (.nil)))) (by kernel_rfl) (Nat.le_of_ble_eq_true (by kernel_rfl)) (Eq.mp (α := F66 t0 t1 w R) (by kernel_rfl) h)

def F67 (t0 : Nat × Array Value) (w : World) (R : Value → World → Prop) : Prop :=
 CX Try.prog (97 : Nat) #[Value.slice none (0 : Nat) (0 : Nat), Value.func (Fn.func t0.1) #[] t0.2] w fun (v1 : Value) (w2 : World) =>
 ∃ (s3 : Sl), v1 = Value.slice s3.1 s3.2 s3.3 ∧ R (Value.slice s3.1 s3.2 s3.3) w2
theorem F67_ok (t0 : Nat × Array Value) (w : World) (R : Value → World → Prop) (h : F67 t0 w R) : CW Try.prog 67 #[Value.func (Fn.func t0.1) #[] t0.2] w R :=
  call_of tbOk mixed en67 Try.func67 rfl (.nil) (by kernel_rfl) (Nat.le_of_ble_eq_true (by kernel_rfl)) (Eq.mp (α := F67 t0 w R) (by kernel_rfl) h)

def F68 (t0 : Option Addr) (t1 : Int) (w : World) (R : Value → World → Prop) : Prop :=
 IfB (!t0.isNone) (IfB (decide ((0 : Int) ≤ t1)) (R (Value.bool (decide (t1 ≤ (999 : Int)))) w) (R (Value.bool false) w)) (R (Value.bool false) w)
theorem F68_ok (t0 : Option Addr) (t1 : Int) (w : World) (R : Value → World → Prop) (h : F68 t0 t1 w R) : CW Try.prog 68 #[Value.pointer t0, Value.int IntKind.i64 t1] w R :=
  call_of tbOk mixed en68 Try.func68 rfl (.nil) (by kernel_rfl) (Nat.le_of_ble_eq_true (by kernel_rfl)) (Eq.mp (α := F68 t0 t1 w R) (by kernel_rfl) h)

def F69 (t0 : Option Addr) (t1 : Int) (w : World) (R : Value → World → Prop) : Prop :=
 AllocP w (Obj.cells #[Value.int IntKind.i64 t1] (3 : Nat)) fun (b1 : Nat) (w2 : World) =>
 ∃ (b3 : Nat),
 ∃ (b4 : Nat),
 t0 = some ({ block := b3, off := b4 } : Addr) ∧
 ∃ (s5 : Sl),
 w2.cell? ({ block := b3, off := b4 + (0 : Nat) } : Addr) = some (Value.slice s5.1 s5.2 s5.3) ∧
 CX Try.prog (99 : Nat) #[Value.slice s5.1 s5.2 s5.3, Value.func (Fn.func (98 : Nat)) #[] #[Value.pointer (some ({ block := b1, off := (0 : Nat) } : Addr))]] w2
 fun (v6 : Value) (w7 : World) =>
 ∃ (n8 : Int),
 v6 = Value.int IntKind.i64 n8 ∧
 IfB (decide (n8 < (0 : Int)))
 (∃ (b9 : Nat),
 ∃ (b10 : Nat),
 t0 = some ({ block := b9, off := b10 } : Addr) ∧
 ∃ (s11 : Sl),
 w7.cell? ({ block := b9, off := b10 + (0 : Nat) } : Addr) = some (Value.slice s11.1 s11.2 s11.3) ∧
 ∃ (b12 : Nat),
 ∃ (b13 : Nat),
 t0 = some ({ block := b12, off := b13 } : Addr) ∧
 ∃ (s14 : Sl),
 w7.cell? ({ block := b12, off := b13 + (0 : Nat) } : Addr) = some (Value.slice s14.1 s14.2 s14.3) ∧
 IfB ((if IntKind.i64.wrap ((s11.n : Int) - (1 : Int)) < (0 : Int) then (0 : Int) else IntKind.i64.wrap ((s11.2 : Int) - (1 : Int))) == (s14.2 : Int))
 (R (Value.tuple #[Value.int IntKind.i64 (0 : Int), Value.int IntKind.i64 (0 : Int), Value.bool false]) w7)
 (∃ (b15 : Nat),
 ∃ (b16 : Nat),
 t0 = some ({ block := b15, off := b16 } : Addr) ∧
 ∃ (s17 : Sl),
 w7.drew.cell? ({ block := b15, off := b16 + (0 : Nat) } : Addr) = some (Value.slice s17.1 s17.2 s17.3) ∧
 ∃ (b18 : Nat),
 ∃ (b19 : Nat),
 s17.1 = some ({ block := b18, off := b19 } : Addr) ∧
 (((0 : Int) ≤ if IntKind.i64.wrap ((s11.n : Int) - (1 : Int)) < (0 : Int) then (0 : Int) else IntKind.i64.wrap ((s11.2 : Int) - (1 : Int))) ∧
 (if IntKind.i64.wrap ((s11.n : Int) - (1 : Int)) < (0 : Int) then (0 : Int) else IntKind.i64.wrap ((s11.2 : Int) - (1 : Int))) < (s17.2 : Int)) ∧
 ∃ (s20 : Sl),
 w7.drew.cell? ({ block := b18, off := b19 + (if IntKind.i64.wrap ((s11.n : Int) - (1 : Int)) < (0 : Int) then (0 : Int) else IntKind.i64.wrap ((s11.2 : Int) - (1 : Int))).toNat } : Addr) =
 some (Value.slice s20.1 s20.2 s20.3) ∧
 ∃ (n21 : Int),
 w7.drew.cell? ({ block := b1, off := (0 : Nat) } : Addr) = some (Value.int IntKind.i64 n21) ∧
 CX Try.prog (100 : Nat) #[Value.slice s20.1 s20.2 s20.3, Value.int IntKind.i64 n21, Value.func (Fn.func (101 : Nat)) #[] #[]] w7.drew
 fun (v22 : Value) (w23 : World) =>
 ∃ (x24 : Int × Bool),
 v22 = Value.tuple #[Value.int IntKind.i64 x24.1, Value.bool x24.2] ∧
 R
 (Value.tuple
 #[Value.int IntKind.i64 (if IntKind.i64.wrap ((s11.n : Int) - (1 : Int)) < (0 : Int) then (0 : Int) else IntKind.i64.wrap ((s11.2 : Int) - (1 : Int))), Value.int IntKind.i64 x24.1, Value.bool x24.2])
 w23))
 (∃ (b25 : Nat),
 ∃ (b26 : Nat),
 t0 = some ({ block := b25, off := b26 } : Addr) ∧
 ∃ (s27 : Sl),
 w7.cell? ({ block := b25, off := b26 + (0 : Nat) } : Addr) = some (Value.slice s27.1 s27.2 s27.3) ∧
 IfB ((if IntKind.i64.wrap (n8 - (1 : Int)) < (0 : Int) then (0 : Int) else IntKind.i64.wrap (n8 - (1 : Int))) == (s27.2 : Int))
 (R (Value.tuple #[Value.int IntKind.i64 (0 : Int), Value.int IntKind.i64 (0 : Int), Value.bool false]) w7)
 (∃ (b28 : Nat),
 ∃ (b29 : Nat),
 t0 = some ({ block := b28, off := b29 } : Addr) ∧
 ∃ (s30 : Sl),
 w7.drew.cell? ({ block := b28, off := b29 + (0 : Nat) } : Addr) = some (Value.slice s30.1 s30.2 s30.3) ∧
 ∃ (b31 : Nat),
 ∃ (b32 : Nat),
 s30.1 = some ({ block := b31, off := b32 } : Addr) ∧
 (((0 : Int) ≤ if IntKind.i64.wrap (n8 - (1 : Int)) < (0 : Int) then (0 : Int) else IntKind.i64.wrap (n8 - (1 : Int))) ∧
 (if IntKind.i64.wrap (n8 - (1 : Int)) < (0 : Int) then (0 : Int) else IntKind.i64.wrap (n8 - (1 : Int))) < (s30.2 : Int)) ∧
 ∃ (s33 : Sl),
 w7.drew.cell? ({ block := b31, off := b32 + (if IntKind.i64.wrap (n8 - (1 : Int)) < (0 : Int) then (0 : Int) else IntKind.i64.wrap (n8 - (1 : Int))).toNat } : Addr) = some (Value.slice s33.1 s33.2 s33.3) ∧
 ∃ (n34 : Int),
 w7.drew.cell? ({ block := b1, off := (0 : Nat) } : Addr) = some (Value.int IntKind.i64 n34) ∧
 CX Try.prog (100 : Nat) #[Value.slice s33.1 s33.2 s33.3, Value.int IntKind.i64 n34, Value.func (Fn.func (101 : Nat)) #[] #[]] w7.drew
 fun (v35 : Value) (w36 : World) =>
 ∃ (x37 : Int × Bool),
 v35 = Value.tuple #[Value.int IntKind.i64 x37.1, Value.bool x37.2] ∧
 R
 (Value.tuple
 #[Value.int IntKind.i64 (if IntKind.i64.wrap (n8 - (1 : Int)) < (0 : Int) then (0 : Int) else IntKind.i64.wrap (n8 - (1 : Int))), Value.int IntKind.i64 x37.1, Value.bool x37.2])
 w36))
theorem F69_ok (t0 : Option Addr) (t1 : Int) (w : World) (R : Value → World → Prop) (h : F69 t0 t1 w R) : CW Try.prog 69 #[Value.pointer t0, Value.int IntKind.i64 t1] w R :=
  call_of tbOk mixed en69 Try.func69 rfl (.node (.nil) (.node (.nil) (.node (.nil) (.node (.nil) (.node (.nil) (.node (.nil) (.node (.draw (.st 0 (.st 1 (.st 2 (.st 3 (.st 4 (.st 5 (.st 6 (.st 7 (.ac 8 [] (.st 9 (.st 10 (.st 11 (.st 12 (.st 13 (.fin)))))) (.non))))))))))) (.nil)))))))) (by kernel_rfl) (Nat.le_of_ble_eq_true (by kernel_rfl)) (Eq.mp (α := F69 t0 t1 w R) (by kernel_rfl) h)

def F70 (t0 : Sl) (t1 : Int) (t2 : Int) (w : World) (R : Value → World → Prop) : Prop :=
 ((0 : Int) ≤ t1 ∧ t1 ≤ t2 ∧ t2 ≤ (t0.2 : Int) ∧ (t0.2 : Int) ≤ (t0.3 : Int)) ∧
 IfB (t1 == t2) (R (Value.slice t0.1 t0.2 t0.3) w)
 (((0 : Int) ≤ t1 ∧ t1 ≤ (t0.3 : Int)) ∧
 ((0 : Int) ≤ t2 ∧ t2 ≤ (t0.2 : Int)) ∧
 ∃ (l1 : List Value),
 ReadC w.drew (slAddr t0.1 t0.3 t2.toNat (2 : Nat)) ((t0.2 - t2.toNat) * (2 : Nat)) l1 ∧
 AppendP tt37 (37 : Nat) w.drew (slAddr t0.1 t0.3 (0 : Nat) (2 : Nat)) t1.toNat t0.3 (t0.2 - t2.toNat) l1 fun (s2 : Sl) (w3 : World) =>
 ((0 : Int) ≤ (s2.2 : Int) ∧ (s2.2 : Int) ≤ (t0.2 : Int) ∧ (t0.2 : Int) ≤ (s2.3 : Int)) ∧
 match slAddr s2.1 s2.3 ((s2.2 : Int)).toNat (2 : Nat) with
 | none => R (Value.slice s2.1 s2.2 s2.3) w3
 | some ({ block := b5, off := b6, spot := none } : Addr) =>
 StoreP w3 b5 b6 (zc #[Value.int IntKind.i64 (0 : Int), Value.int IntKind.i64 (0 : Int)] (((t0.2 : Int)).toNat - ((s2.2 : Int)).toNat)) fun (w7 : World) => R (Value.slice s2.1 s2.2 s2.3) w7
 | some y8 => False)
theorem F70_ok (t0 : Sl) (t1 : Int) (t2 : Int) (w : World) (R : Value → World → Prop) (h : F70 t0 t1 t2 w R) : CW Try.prog 70 #[Value.slice t0.1 t0.2 t0.3, Value.int IntKind.i64 t1, Value.int IntKind.i64 t2] w R :=
  call_of tbOk mixed en70 Try.func70 rfl (.node (.nil) (.node (.nil) (.node (.nil) (.node (.nil) (.node (.draw (.st 0 (.st 1 (.st 2 (.st 3 (.st 4 (.st 5 (.ac 6 [] (.st 7 (.fin)) (.non))))))))) (.nil)))))) (by kernel_rfl) (Nat.le_of_ble_eq_true (by kernel_rfl)) (Eq.mp (α := F70 t0 t1 t2 w R) (by kernel_rfl) h)

def F71 (t0 : Sl) (t1 : Int) (t2 : Int) (w : World) (R : Value → World → Prop) : Prop :=
 ((0 : Int) ≤ t1 ∧ t1 ≤ t2 ∧ t2 ≤ (t0.2 : Int) ∧ (t0.2 : Int) ≤ (t0.3 : Int)) ∧
 IfB (t1 == t2) (R (Value.slice t0.1 t0.2 t0.3) w)
 (((0 : Int) ≤ t1 ∧ t1 ≤ (t0.3 : Int)) ∧
 ((0 : Int) ≤ t2 ∧ t2 ≤ (t0.2 : Int)) ∧
 ∃ (l1 : List Value),
 ReadC w.drew (slAddr t0.1 t0.3 t2.toNat (1 : Nat)) ((t0.2 - t2.toNat) * (1 : Nat)) l1 ∧
 AppendP tt121 (121 : Nat) w.drew
 (slAddr t0.1 t0.3 (0 : Nat) (1 : Nat)) t1.toNat t0.3 (t0.2 - t2.toNat) l1 fun (s2 : Sl) (w3 : World) =>
 ((0 : Int) ≤ (s2.2 : Int) ∧ (s2.2 : Int) ≤ (t0.2 : Int) ∧ (t0.2 : Int) ≤ (s2.3 : Int)) ∧
 match slAddr s2.1 s2.3 ((s2.2 : Int)).toNat (1 : Nat) with
 | none => R (Value.slice s2.1 s2.2 s2.3) w3
 | some ({ block := b5, off := b6, spot := none } : Addr) =>
 StoreP w3 b5 b6 (zc #[Value.slice none (0 : Nat) (0 : Nat)] (((t0.2 : Int)).toNat - ((s2.2 : Int)).toNat)) fun (w7 : World) => R (Value.slice s2.1 s2.2 s2.3) w7
 | some y8 => False)
theorem F71_ok (t0 : Sl) (t1 : Int) (t2 : Int) (w : World) (R : Value → World → Prop) (h : F71 t0 t1 t2 w R) : CW Try.prog 71 #[Value.slice t0.1 t0.2 t0.3, Value.int IntKind.i64 t1, Value.int IntKind.i64 t2] w R :=
  call_of tbOk mixed en71 Try.func71 rfl (.node (.nil) (.node (.nil) (.node (.nil) (.node (.nil) (.node (.draw (.st 0 (.st 1 (.st 2 (.st 3 (.st 4 (.st 5 (.ac 6 [] (.st 7 (.fin)) (.non))))))))) (.nil)))))) (by kernel_rfl) (Nat.le_of_ble_eq_true (by kernel_rfl)) (Eq.mp (α := F71 t0 t1 t2 w R) (by kernel_rfl) h)

def F72k1 (t0 : Option Addr) (w : World) (t1 : Int) (R : Value → World → Prop) : Prop :=
 ∃ (b4 : Nat),
 ∃ (b5 : Nat),
 t0 = some ({ block := b4, off := b5 } : Addr) ∧
 ∃ (s6 : Sl),
 w.drew.cell? ({ block := b4, off := b5 + (0 : Nat) } : Addr) = some (Value.slice s6.1 s6.2 s6.3) ∧
 ∃ (b7 : Nat),
 ∃ (b8 : Nat),
 s6.1 = some ({ block := b7, off := b8 } : Addr) ∧
 ((0 : Int) ≤ t1 ∧ t1 < (s6.2 : Int)) ∧
 ∃ (s9 : Sl),
 w.drew.cell? ({ block := b7, off := b8 + t1.toNat } : Addr) = some (Value.slice s9.1 s9.2 s9.3) ∧
 ∃ (b10 : Nat),
 ∃ (b11 : Nat),
 t0 = some ({ block := b10, off := b11 } : Addr) ∧
 ∃ (s12 : Sl),
 w.drew.cell? ({ block := b10, off := b11 + (0 : Nat) } : Addr) = some (Value.slice s12.1 s12.2 s12.3) ∧
 ∃ (b13 : Nat),
 ∃ (b14 : Nat),
 s12.1 = some ({ block := b13, off := b14 } : Addr) ∧
 ((0 : Int) ≤ IntKind.i64.wrap (t1 + (1 : Int)) ∧ IntKind.i64.wrap (t1 + (1 : Int)) < (s12.2 : Int)) ∧
 ∃ (s15 : Sl),
 w.drew.cell? ({ block := b13, off := b14 + (IntKind.i64.wrap (t1 + (1 : Int))).toNat } : Addr) = some (Value.slice s15.1 s15.2 s15.3) ∧
 IfB (decide ((4 : Int) < IntKind.i64.wrap ((s9.n : Int) + (s15.n : Int)))) (R (Value.bool false) w.drew)
 (∃ (b16 : Nat),
 ∃ (b17 : Nat),
 t0 = some ({ block := b16, off := b17 } : Addr) ∧
 ∃ (s18 : Sl),
 w.drew.drew.cell? ({ block := b16, off := b17 + (0 : Nat) } : Addr) = some (Value.slice s18.1 s18.2 s18.3) ∧
 ∃ (b19 : Nat),
 ∃ (b20 : Nat),
 t0 = some ({ block := b19, off := b20 } : Addr) ∧
 ∃ (s21 : Sl),
 w.drew.drew.cell? ({ block := b19, off := b20 + (0 : Nat) } : Addr) = some (Value.slice s21.1 s21.2 s21.3) ∧
 ∃ (b22 : Nat),
 ∃ (b23 : Nat),
 s21.1 = some ({ block := b22, off := b23 } : Addr) ∧
 ((0 : Int) ≤ t1 ∧ t1 < (s21.2 : Int)) ∧
 ∃ (s24 : Sl),
 w.drew.drew.cell? ({ block := b22, off := b23 + t1.toNat } : Addr) = some (Value.slice s24.1 s24.2 s24.3) ∧
 ∃ (b25 : Nat),
 ∃ (b26 : Nat),
 t0 = some ({ block := b25, off := b26 } : Addr) ∧
 ∃ (s27 : Sl),
 w.drew.drew.cell? ({ block := b25, off := b26 + (0 : Nat) } : Addr) = some (Value.slice s27.1 s27.2 s27.3) ∧
 ∃ (b28 : Nat),
 ∃ (b29 : Nat),
 s27.1 = some ({ block := b28, off := b29 } : Addr) ∧
 ((0 : Int) ≤ IntKind.i64.wrap (t1 + (1 : Int)) ∧ IntKind.i64.wrap (t1 + (1 : Int)) < (s27.2 : Int)) ∧
 ∃ (s30 : Sl),
 w.drew.drew.cell? ({ block := b28, off := b29 + (IntKind.i64.wrap (t1 + (1 : Int))).toNat } : Addr) = some (Value.slice s30.1 s30.2 s30.3) ∧
 (2 : Nat) * (1 : Nat) ≤ (16777216 : Nat) ∧
 AllocP w.drew.drew (Obj.cells #[Value.slice s24.1 s24.2 s24.3, Value.slice s30.1 s30.2 s30.3] (121 : Nat)) fun (b31 : Nat) (w32 : World) =>
 w32.cell? ({ block := b16, off := b17 + (0 : Nat) } : Addr) = some (Value.slice s18.1 s18.2 s18.3) ∧
 CX Try.prog (102 : Nat) #[Value.slice (some ({ block := b31, off := (0 : Nat) } : Addr)) (2 : Nat) (2 : Nat)] w32 fun (v33 : Value) (w34 : World) =>
 ∃ (s35 : Sl),
 v33 = Value.slice s35.1 s35.2 s35.3 ∧
 w34.cell? ({ block := b16, off := b17 + (0 : Nat) } : Addr) = some (Value.slice s18.1 s18.2 s18.3) ∧
 ∃ (b36 : Nat),
 ∃ (b37 : Nat),
 s18.1 = some ({ block := b36, off := b37 } : Addr) ∧
 ((0 : Int) ≤ t1 ∧ t1 < (s18.2 : Int)) ∧
 #[Value.slice s35.1 s35.2 s35.3].size = (1 : Nat) ∧
 StoreP w34 b36 (b37 + t1.toNat) [Value.slice s35.1 s35.2 s35.3] fun (w38 : World) =>
 ∃ (b39 : Nat),
 ∃ (b40 : Nat),
 t0 = some ({ block := b39, off := b40 } : Addr) ∧
 ∃ (s41 : Sl),
 w38.cell? ({ block := b39, off := b40 + (0 : Nat) } : Addr) = some (Value.slice s41.1 s41.2 s41.3) ∧
 CX Try.prog (71 : Nat) #[Value.slice s41.1 s41.2 s41.3, Value.int IntKind.i64 (IntKind.i64.wrap (t1 + (1 : Int))), Value.int IntKind.i64 (IntKind.i64.wrap (t1 + (2 : Int)))] w38
 fun (v42 : Value) (w43 : World) =>
 ∃ (s44 : Sl),
 v42 = Value.slice s44.1 s44.2 s44.3 ∧
 ∃ (b45 : Nat),
 ∃ (b46 : Nat),
 t0 = some ({ block := b45, off := b46 } : Addr) ∧
 #[Value.slice s44.1 s44.2 s44.3].size = (1 : Nat) ∧ StoreP w43 b45 (b46 + (0 : Nat)) [Value.slice s44.1 s44.2 s44.3] fun (w47 : World) => R (Value.bool true) w47)
def F72 (t0 : Option Addr) (t1 : Int) (w : World) (R : Value → World → Prop) : Prop :=
 IfB (decide (t1 < (0 : Int))) (R (Value.bool false) w.drew)
 (∃ (b1 : Nat),
 ∃ (b2 : Nat),
 t0 = some ({ block := b1, off := b2 } : Addr) ∧
 ∃ (s3 : Sl),
 w.drew.cell? ({ block := b1, off := b2 + (0 : Nat) } : Addr) = some (Value.slice s3.1 s3.2 s3.3) ∧
 IfB (decide ((s3.n : Int) ≤ IntKind.i64.wrap (t1 + (1 : Int)))) (R (Value.bool false) w.drew)
 (F72k1 t0 w t1 R))
theorem F72_ok (t0 : Option Addr) (t1 : Int) (w : World) (R : Value → World → Prop) (h : F72 t0 t1 w R) : CW Try.prog 72 #[Value.pointer t0, Value.int IntKind.i64 t1] w R :=
  call_of tbOk mixed en72 Try.func72 rfl (.node (.nil) (.node (.node (.draw (.st 0 (.st 1 (.st 2 (.st 3 (.st 4 (.st 5 (.st 6 (.st 7 (.st 8 (.st 9 (.st 10 (.st 11 (.st 12 (.st 13 (.st 14 (.st 15 (.st 16 (.st 17 (.st 18 (.st 19 (.st 20 (.st 21 (.st 22 (.st 23 (.st 24 (.st 25 (.st 26 (.st 27 (.st 28 (.st 29 (.st 30 (.st 31 (.st 32 (.fin))))))))))))))))))))))))))))))))))) (.nil)) (.node (.draw (.st 0 (.st 1 (.st 2 (.st 3 (.st 4 (.st 5 (.st 6 (.st 7 (.st 8 (.st 9 (.st 10 (.st 11 (.st 12 (.st 13 (.st 14 (.st 15 (.st 16 (.st 17 (.st 18 (.st 19 (.ac 20 [4, 3, 2, 1, 0] (.ac 21 [4, 3, 2, 1, 0] (.st 22 (.ac 23 [] (.fin) (.non))) (.non)) (.non))))))))))))))))))))))) (.nil)))) (by kernel_rfl) (Nat.le_of_ble_eq_true (by kernel_rfl)) (Eq.mp (α := F72 t0 t1 w R) (by kernel_rfl) h)

def F73k1 (t0 : Sl) (t2 : Sl) (t1 : Int) (w : World) (R : Value → World → Prop) : Prop :=
 IfB (decide ((t0.c : Int) < IntKind.i64.wrap ((t0.n : Int) + (t2.n : Int))))
 (((0 : Int) ≤ t1 ∧ t1 ≤ (t0.3 : Int)) ∧
 ((0 : Int) ≤ IntKind.i64.wrap (IntKind.i64.wrap ((t0.2 : Int) + (t2.2 : Int)) - t1) ∧
 IntKind.i64.wrap (IntKind.i64.wrap ((t0.2 : Int) + (t2.2 : Int)) - t1) ≤ (281474976710656 : Int) ∧ IntKind.i64.wrap (IntKind.i64.wrap ((t0.2 : Int) + (t2.2 : Int)) - t1) * ((16 : Nat) : Int) ≤ (281474976710656 : Int)) ∧
 AppendP tt37 (37 : Nat) w (slAddr t0.1 t0.3 (0 : Nat) (2 : Nat)) t1.toNat t0.3 (IntKind.i64.wrap (IntKind.i64.wrap ((t0.2 : Int) + (t2.2 : Int)) - t1)).toNat
 (zc #[Value.int IntKind.i64 (0 : Int), Value.int IntKind.i64 (0 : Int)] (IntKind.i64.wrap (IntKind.i64.wrap ((t0.2 : Int) + (t2.2 : Int)) - t1)).toNat) fun (s4 : Sl) (w5 : World) =>
 ((0 : Int) ≤ t1 ∧ t1 ≤ (s4.2 : Int)) ∧
 CopyP w5 (2 : Nat) (slAddr s4.1 s4.3 t1.toNat (2 : Nat)) (s4.2 - t1.toNat) t2.1 t2.2 fun (n6 : Int) (w7 : World) =>
 ((0 : Int) ≤ IntKind.i64.wrap (t1 + (t2.2 : Int)) ∧ IntKind.i64.wrap (t1 + (t2.2 : Int)) ≤ (s4.2 : Int)) ∧
 ((0 : Int) ≤ t1 ∧ t1 ≤ (t0.2 : Int)) ∧
 CopyP w7.drew (2 : Nat) (slAddr s4.1 s4.3 (IntKind.i64.wrap (t1 + (t2.2 : Int))).toNat (2 : Nat)) (s4.2 - (IntKind.i64.wrap (t1 + (t2.2 : Int))).toNat) (slAddr t0.1 t0.3 t1.toNat (2 : Nat)) (t0.2 - t1.toNat)
 fun (n8 : Int) (w9 : World) => R (Value.slice s4.1 s4.2 s4.3) w9)
 (((0 : Int) ≤ IntKind.i64.wrap ((t0.2 : Int) + (t2.2 : Int)) ∧ IntKind.i64.wrap ((t0.2 : Int) + (t2.2 : Int)) ≤ (t0.3 : Int)) ∧
 ((0 : Int) ≤ IntKind.i64.wrap (t1 + (t2.2 : Int)) ∧ IntKind.i64.wrap (t1 + (t2.2 : Int)) ≤ ((IntKind.i64.wrap ((t0.2 : Int) + (t2.2 : Int))) : Int).toNat) ∧
 CX Try.prog (103 : Nat)
 #[Value.slice t2.1 t2.2 t2.3,
 Value.slice (slAddr (slAddr t0.1 t0.3 (0 : Nat) (2 : Nat)) t0.3 (IntKind.i64.wrap (t1 + (t2.2 : Int))).toNat (2 : Nat)) ((IntKind.i64.wrap ((t0.2 : Int) + (t2.2 : Int))).toNat - (IntKind.i64.wrap (t1 + (t2.2 : Int))).toNat)
 (t0.3 - (IntKind.i64.wrap (t1 + (t2.2 : Int))).toNat)]
 w fun (v10 : Value) (w11 : World) =>
 ∃ (t12 : Bool),
 v10 = Value.bool t12 ∧
 IfB (!t12)
 (((0 : Int) ≤ IntKind.i64.wrap (t1 + (t2.2 : Int)) ∧ IntKind.i64.wrap (t1 + (t2.2 : Int)) ≤ ((IntKind.i64.wrap ((t0.2 : Int) + (t2.2 : Int))) : Int).toNat) ∧
 ((0 : Int) ≤ t1 ∧ t1 ≤ ((IntKind.i64.wrap ((t0.2 : Int) + (t2.2 : Int))) : Int).toNat) ∧
 CopyP w11.drew (2 : Nat) (slAddr (slAddr t0.1 t0.3 (0 : Nat) (2 : Nat)) t0.3 (IntKind.i64.wrap (t1 + (t2.2 : Int))).toNat (2 : Nat))
 ((IntKind.i64.wrap ((t0.2 : Int) + (t2.2 : Int))).toNat - (IntKind.i64.wrap (t1 + (t2.2 : Int))).toNat) (slAddr (slAddr t0.1 t0.3 (0 : Nat) (2 : Nat)) t0.3 t1.toNat (2 : Nat))
 ((IntKind.i64.wrap ((t0.2 : Int) + (t2.2 : Int))).toNat - t1.toNat) fun (n13 : Int) (w14 : World) =>
 ((0 : Int) ≤ t1 ∧ t1 ≤ ((IntKind.i64.wrap ((t0.2 : Int) + (t2.2 : Int))) : Int).toNat) ∧
 CopyP w14 (2 : Nat) (slAddr (slAddr t0.1 t0.3 (0 : Nat) (2 : Nat)) t0.3 t1.toNat (2 : Nat)) ((IntKind.i64.wrap ((t0.2 : Int) + (t2.2 : Int))).toNat - t1.toNat) t2.1 t2.2 fun (n15 : Int) (w16 : World) =>
 R (Value.slice (slAddr t0.1 t0.3 (0 : Nat) (2 : Nat)) (IntKind.i64.wrap ((t0.2 : Int) + (t2.2 : Int))).toNat t0.3) w16)
 (((0 : Int) ≤ (t0.2 : Int) ∧ (t0.2 : Int) ≤ ((IntKind.i64.wrap ((t0.2 : Int) + (t2.2 : Int))) : Int).toNat) ∧
 CopyP w11 (2 : Nat) (slAddr (slAddr t0.1 t0.3 (0 : Nat) (2 : Nat)) t0.3 ((t0.2 : Int)).toNat (2 : Nat)) ((IntKind.i64.wrap ((t0.2 : Int) + (t2.2 : Int))).toNat - ((t0.2 : Int)).toNat) t2.1 t2.2 fun (n17 : Int) (w18 : World) =>
 ((0 : Int) ≤ t1 ∧ t1 ≤ ((IntKind.i64.wrap ((t0.2 : Int) + (t2.2 : Int))) : Int).toNat) ∧
 CX Try.prog (104 : Nat)
 #[Value.slice (slAddr (slAddr t0.1 t0.3 (0 : Nat) (2 : Nat)) t0.3 t1.toNat (2 : Nat)) ((IntKind.i64.wrap ((t0.2 : Int) + (t2.2 : Int))).toNat - t1.toNat) (t0.3 - t1.toNat), Value.int IntKind.i64 (t2.2 : Int)]
 w18 fun (v19 : Value) (w20 : World) =>
 ∃ (y21 : Unit), v19 = Value.tuple #[] ∧ R (Value.slice (slAddr t0.1 t0.3 (0 : Nat) (2 : Nat)) (IntKind.i64.wrap ((t0.2 : Int) + (t2.2 : Int))).toNat t0.3) w20))
def F73 (t0 : Sl) (t1 : Int) (t2 : Sl) (w : World) (R : Value → World → Prop) : Prop :=
 ((0 : Int) ≤ t1 ∧ t1 ≤ (t0.2 : Int)) ∧
 IfB ((t2.2 : Int) == (0 : Int)) (R (Value.slice t0.1 t0.2 t0.3) w)
 (IfB (t1 == (t0.2 : Int))
 (∃ (l1 : List Value),
 ReadC w t2.1 (t2.2 * (2 : Nat)) l1 ∧
 AppendP tt37 (37 : Nat) w t0.1 t0.2 t0.3 t2.2 l1 fun (s2 : Sl) (w3 : World) => R (Value.slice s2.1 s2.2 s2.3) w3)
 (F73k1 t0 t2 t1 w R))
theorem F73_ok (t0 : Sl) (t1 : Int) (t2 : Sl) (w : World) (R : Value → World → Prop) (h : F73 t0 t1 t2 w R) : CW Try.prog 73 #[Value.slice t0.1 t0.2 t0.3, Value.int IntKind.i64 t1, Value.slice t2.1 t2.2 t2.3] w R :=
  call_of tbOk mixed en73 Try.func73 rfl (.node (.nil) (.node (.nil) (.node (.nil) (.node (.nil) (.node (.nil) (.node (.nil) (.node (.node (.nil) (.node (.node (.nil) (.node (.nil) (.node (.draw (.st 0 (.st 1 (.st 2 (.st 3 (.st 4 (.st 5 (.st 6 (.st 7 (.ac 8 [] (.fin) (.non))))))))))) (.nil)))) (.nil))) (.node (.nil) (.node (.node (.nil) (.node (.node (.draw (.st 0 (.st 1 (.st 2 (.st 3 (.st 4 (.st 5 (.st 6 (.st 7 (.ac 8 [] (.fin) (.non))))))))))) (.nil)) (.nil))) (.nil)))))))))) (by kernel_rfl) (Nat.le_of_ble_eq_true (by kernel_rfl)) (Eq.mp (α := F73 t0 t1 t2 w R) (by kernel_rfl) h)

def F74 (t0 : Sl) (w : World) (R : Value → World → Prop) : Prop :=
 IfB t0.1.isNone (R (Value.slice none (0 : Nat) (0 : Nat)) w)
 ((0 : Nat) * (2 : Nat) ≤ (16777216 : Nat) ∧
 AllocP w (Obj.cells #[] (37 : Nat)) fun (b1 : Nat) (w2 : World) =>
 ∃ (l3 : List Value),
 ReadC w2 t0.1 (t0.2 * (2 : Nat)) l3 ∧
 AppendP tt37 (37 : Nat) w2 (some ({ block := b1, off := (0 : Nat) } : Addr)) (0 : Nat) (0 : Nat) t0.2 l3 fun (s4 : Sl) (w5 : World) => R (Value.slice s4.1 s4.2 s4.3) w5)
theorem F74_ok (t0 : Sl) (w : World) (R : Value → World → Prop) (h : F74 t0 w R) : CW Try.prog 74 #[Value.slice t0.1 t0.2 t0.3] w R :=
  call_of tbOk mixed en74 Try.func74 rfl (.nil) (by kernel_rfl) (Nat.le_of_ble_eq_true (by kernel_rfl)) (Eq.mp (α := F74 t0 w R) (by kernel_rfl) h)

def F75k1 (t0 : Sl) (t2 : Sl) (t1 : Int) (w : World) (R : Value → World → Prop) : Prop :=
 IfB (decide ((t0.c : Int) < IntKind.i64.wrap ((t0.n : Int) + (t2.n : Int))))
 (((0 : Int) ≤ t1 ∧ t1 ≤ (t0.3 : Int)) ∧
 ((0 : Int) ≤ IntKind.i64.wrap (IntKind.i64.wrap ((t0.2 : Int) + (t2.2 : Int)) - t1) ∧
 IntKind.i64.wrap (IntKind.i64.wrap ((t0.2 : Int) + (t2.2 : Int)) - t1) ≤ (281474976710656 : Int) ∧ IntKind.i64.wrap (IntKind.i64.wrap ((t0.2 : Int) + (t2.2 : Int)) - t1) * ((24 : Nat) : Int) ≤ (281474976710656 : Int)) ∧
 AppendP tt121 (121 : Nat) w (slAddr t0.1 t0.3 (0 : Nat) (1 : Nat))
 t1.toNat t0.3 (IntKind.i64.wrap (IntKind.i64.wrap ((t0.2 : Int) + (t2.2 : Int)) - t1)).toNat
 (zc #[Value.slice none (0 : Nat) (0 : Nat)] (IntKind.i64.wrap (IntKind.i64.wrap ((t0.2 : Int) + (t2.2 : Int)) - t1)).toNat) fun (s4 : Sl) (w5 : World) =>
 ((0 : Int) ≤ t1 ∧ t1 ≤ (s4.2 : Int)) ∧
 CopyP w5 (1 : Nat) (slAddr s4.1 s4.3 t1.toNat (1 : Nat)) (s4.2 - t1.toNat) t2.1 t2.2 fun (n6 : Int) (w7 : World) =>
 ((0 : Int) ≤ IntKind.i64.wrap (t1 + (t2.2 : Int)) ∧ IntKind.i64.wrap (t1 + (t2.2 : Int)) ≤ (s4.2 : Int)) ∧
 ((0 : Int) ≤ t1 ∧ t1 ≤ (t0.2 : Int)) ∧
 CopyP w7.drew (1 : Nat) (slAddr s4.1 s4.3 (IntKind.i64.wrap (t1 + (t2.2 : Int))).toNat (1 : Nat)) (s4.2 - (IntKind.i64.wrap (t1 + (t2.2 : Int))).toNat) (slAddr t0.1 t0.3 t1.toNat (1 : Nat)) (t0.2 - t1.toNat)
 fun (n8 : Int) (w9 : World) => R (Value.slice s4.1 s4.2 s4.3) w9)
 (((0 : Int) ≤ IntKind.i64.wrap ((t0.2 : Int) + (t2.2 : Int)) ∧ IntKind.i64.wrap ((t0.2 : Int) + (t2.2 : Int)) ≤ (t0.3 : Int)) ∧
 ((0 : Int) ≤ IntKind.i64.wrap (t1 + (t2.2 : Int)) ∧ IntKind.i64.wrap (t1 + (t2.2 : Int)) ≤ ((IntKind.i64.wrap ((t0.2 : Int) + (t2.2 : Int))) : Int).toNat) ∧
 CX Try.prog (105 : Nat)
 #[Value.slice t2.1 t2.2 t2.3,
 Value.slice (slAddr (slAddr t0.1 t0.3 (0 : Nat) (1 : Nat)) t0.3 (IntKind.i64.wrap (t1 + (t2.2 : Int))).toNat (1 : Nat)) ((IntKind.i64.wrap ((t0.2 : Int) + (t2.2 : Int))).toNat - (IntKind.i64.wrap (t1 + (t2.2 : Int))).toNat)
 (t0.3 - (IntKind.i64.wrap (t1 + (t2.2 : Int))).toNat)]
 w fun (v10 : Value) (w11 : World) =>
 ∃ (t12 : Bool),
 v10 = Value.bool t12 ∧
 IfB (!t12)
 (((0 : Int) ≤ IntKind.i64.wrap (t1 + (t2.2 : Int)) ∧ IntKind.i64.wrap (t1 + (t2.2 : Int)) ≤ ((IntKind.i64.wrap ((t0.2 : Int) + (t2.2 : Int))) : Int).toNat) ∧
 ((0 : Int) ≤ t1 ∧ t1 ≤ ((IntKind.i64.wrap ((t0.2 : Int) + (t2.2 : Int))) : Int).toNat) ∧
 CopyP w11.drew (1 : Nat) (slAddr (slAddr t0.1 t0.3 (0 : Nat) (1 : Nat)) t0.3 (IntKind.i64.wrap (t1 + (t2.2 : Int))).toNat (1 : Nat))
 ((IntKind.i64.wrap ((t0.2 : Int) + (t2.2 : Int))).toNat - (IntKind.i64.wrap (t1 + (t2.2 : Int))).toNat) (slAddr (slAddr t0.1 t0.3 (0 : Nat) (1 : Nat)) t0.3 t1.toNat (1 : Nat))
 ((IntKind.i64.wrap ((t0.2 : Int) + (t2.2 : Int))).toNat - t1.toNat) fun (n13 : Int) (w14 : World) =>
 ((0 : Int) ≤ t1 ∧ t1 ≤ ((IntKind.i64.wrap ((t0.2 : Int) + (t2.2 : Int))) : Int).toNat) ∧
 CopyP w14 (1 : Nat) (slAddr (slAddr t0.1 t0.3 (0 : Nat) (1 : Nat)) t0.3 t1.toNat (1 : Nat)) ((IntKind.i64.wrap ((t0.2 : Int) + (t2.2 : Int))).toNat - t1.toNat) t2.1 t2.2 fun (n15 : Int) (w16 : World) =>
 R (Value.slice (slAddr t0.1 t0.3 (0 : Nat) (1 : Nat)) (IntKind.i64.wrap ((t0.2 : Int) + (t2.2 : Int))).toNat t0.3) w16)
 (((0 : Int) ≤ (t0.2 : Int) ∧ (t0.2 : Int) ≤ ((IntKind.i64.wrap ((t0.2 : Int) + (t2.2 : Int))) : Int).toNat) ∧
 CopyP w11 (1 : Nat) (slAddr (slAddr t0.1 t0.3 (0 : Nat) (1 : Nat)) t0.3 ((t0.2 : Int)).toNat (1 : Nat)) ((IntKind.i64.wrap ((t0.2 : Int) + (t2.2 : Int))).toNat - ((t0.2 : Int)).toNat) t2.1 t2.2 fun (n17 : Int) (w18 : World) =>
 ((0 : Int) ≤ t1 ∧ t1 ≤ ((IntKind.i64.wrap ((t0.2 : Int) + (t2.2 : Int))) : Int).toNat) ∧
 CX Try.prog (106 : Nat)
 #[Value.slice (slAddr (slAddr t0.1 t0.3 (0 : Nat) (1 : Nat)) t0.3 t1.toNat (1 : Nat)) ((IntKind.i64.wrap ((t0.2 : Int) + (t2.2 : Int))).toNat - t1.toNat) (t0.3 - t1.toNat), Value.int IntKind.i64 (t2.2 : Int)]
 w18 fun (v19 : Value) (w20 : World) =>
 ∃ (y21 : Unit), v19 = Value.tuple #[] ∧ R (Value.slice (slAddr t0.1 t0.3 (0 : Nat) (1 : Nat)) (IntKind.i64.wrap ((t0.2 : Int) + (t2.2 : Int))).toNat t0.3) w20))
def F75 (t0 : Sl) (t1 : Int) (t2 : Sl) (w : World) (R : Value → World → Prop) : Prop :=
 ((0 : Int) ≤ t1 ∧ t1 ≤ (t0.2 : Int)) ∧
 IfB ((t2.2 : Int) == (0 : Int)) (R (Value.slice t0.1 t0.2 t0.3) w)
 (IfB (t1 == (t0.2 : Int))
 (∃ (l1 : List Value),
 ReadC w t2.1 (t2.2 * (1 : Nat)) l1 ∧
 AppendP tt121 (121 : Nat) w t0.1 t0.2 t0.3 t2.2 l1
 fun (s2 : Sl) (w3 : World) => R (Value.slice s2.1 s2.2 s2.3) w3)
 (F75k1 t0 t2 t1 w R))
theorem F75_ok (t0 : Sl) (t1 : Int) (t2 : Sl) (w : World) (R : Value → World → Prop) (h : F75 t0 t1 t2 w R) : CW Try.prog 75 #[Value.slice t0.1 t0.2 t0.3, Value.int IntKind.i64 t1, Value.slice t2.1 t2.2 t2.3] w R :=
  call_of tbOk mixed en75 Try.func75 rfl (.node (.nil) (.node (.nil) (.node (.nil) (.node (.nil) (.node (.nil) (.node (.nil) (.node (.node (.nil) (.node (.node (.nil) (.node (.nil) (.node (.draw (.st 0 (.st 1 (.st 2 (.st 3 (.st 4 (.st 5 (.st 6 (.st 7 (.ac 8 [] (.fin) (.non))))))))))) (.nil)))) (.nil))) (.node (.nil) (.node (.node (.nil) (.node (.node (.draw (.st 0 (.st 1 (.st 2 (.st 3 (.st 4 (.st 5 (.st 6 (.st 7 (.ac 8 [] (.fin) (.non))))))))))) (.nil)) (.nil))) (.nil)))))))))) (by kernel_rfl) (Nat.le_of_ble_eq_true (by kernel_rfl)) (Eq.mp (α := F75 t0 t1 t2 w R) (by kernel_rfl) h)

def F96j2 (t0 : Nat) (R : Value → World → Prop) (y6 : Nat → Int → World → Prop) (b8 : Nat) (n9 : Int) (s15 : Sl) (y16 : Nat → Int → World → Prop) (b18 : Nat) (n19 : Int) (w20 : World) : Prop :=
 IfB (decide (n19 < (s15.n : Int)))
 (∃ (b23 : Nat),
 ∃ (b24 : Nat),
 s15.1 = some ({ block := b23, off := b24 } : Addr) ∧
 ((0 : Int) ≤ n19 ∧ n19 < (s15.2 : Int)) ∧
 ∃ (x25 : Int × Int),
 CellsAt w20 b23 (b24 + n19.toNat * (2 : Nat)) [Value.int IntKind.i64 x25.1, Value.int IntKind.i64 x25.2] ∧
 AllocP w20 (Obj.cells #[Value.int IntKind.i64 (0 : Int), Value.int IntKind.i64 (0 : Int)] (37 : Nat)) fun (b26 : Nat) (w27 : World) =>
 #[Value.int IntKind.i64 x25.1, Value.int IntKind.i64 x25.2].size = (2 : Nat) ∧
 StoreP w27 b26 (0 : Nat) [Value.int IntKind.i64 x25.1, Value.int IntKind.i64 x25.2] fun (w28 : World) =>
 ∃ (x29 : Int × Int),
 CellsAt w28 b26 (0 : Nat) [Value.int IntKind.i64 x29.1, Value.int IntKind.i64 x29.2] ∧
 YW Try.prog t0 #[Value.agg #[Value.int IntKind.i64 x29.1, Value.int IntKind.i64 x29.2]] w28 fun (t30 : Bool) (w31 : World) =>
 IfB (!t30) (R (Value.tuple #[]) w31) (([] : List Nat) = [] ∧ ∃ (b32 : Nat), b32 < b18 ∧ y16 b32 (IntKind.i64.wrap (n19 + (1 : Int))) w31))
 (([] : List Nat) = [] ∧ ∃ (b33 : Nat), b33 < b8 ∧ y6 b33 (IntKind.i64.wrap (n9 + (1 : Int))) w20)
def F96j1 (t0 : Nat) (R : Value → World → Prop) (s5 : Sl) (y6 : Nat → Int → World → Prop) (b8 : Nat) (n9 : Int) (w10 : World) : Prop :=
 IfB (decide (n9 < (s5.n : Int)))
 (∃ (b13 : Nat),
 ∃ (b14 : Nat),
 s5.1 = some ({ block := b13, off := b14 } : Addr) ∧
 ((0 : Int) ≤ n9 ∧ n9 < (s5.2 : Int)) ∧
 ∃ (s15 : Sl),
 w10.cell? ({ block := b13, off := b14 + n9.toNat } : Addr) = some (Value.slice s15.1 s15.2 s15.3) ∧
 ∃ (y16 : Nat → Int → World → Prop),
 (∃ (b17 : Nat), y16 b17 (0 : Int) w10) ∧
 ∀ (b18 : Nat) (n19 : Int) (w20 : World) (y21 : Nat → Value),
 y16 b18 n19 w20 →
 (F96j2 t0 R y6 b8 n9 s15 y16 b18 n19 w20))
 (R (Value.tuple #[]) w10)
def F96 (t0 : Nat) (t1 : Nat) (w : World) (R : Value → World → Prop) : Prop :=
 ∃ (p1 : Option Addr),
 w.cell? ({ block := t1, off := (0 : Nat) } : Addr) = some (Value.pointer p1) ∧
 IfB p1.isNone (R (Value.tuple #[]) w)
 (∃ (p2 : Option Addr),
 w.cell? ({ block := t1, off := (0 : Nat) } : Addr) = some (Value.pointer p2) ∧
 ∃ (b3 : Nat),
 ∃ (b4 : Nat),
 p2 = some ({ block := b3, off := b4 } : Addr) ∧
 ∃ (s5 : Sl),
 w.cell? ({ block := b3, off := b4 + (0 : Nat) } : Addr) = some (Value.slice s5.1 s5.2 s5.3) ∧
 ∃ (y6 : Nat → Int → World → Prop),
 (∃ (b7 : Nat), y6 b7 (0 : Int) w) ∧
 ∀ (b8 : Nat) (n9 : Int) (w10 : World) (y11 : Nat → Value),
 y6 b8 n9 w10 →
 (F96j1 t0 R s5 y6 b8 n9 w10))
theorem F96_ok (t0 : Nat) (t1 : Nat) (w : World) (R : Value → World → Prop) (h : F96 t0 t1 w R) : CW Try.prog 96 #[Value.func (Fn.yield t0) #[] #[], Value.pointer (some ({ block := t1, off := 0 } : Addr))] w R :=
  call_of tbOk mixed en96 Try.func96 rfl (.node (.nil) (.node (.nil) (.loop [(14, .one (.int .i64))] [15, 16, 17, 4, 18, 19, 20, 21, 22, 23, 6, 24, 25, 26, 27, 28, 29, 14] (.node (.nil) (.node (.nil) (.node (.node (.nil) (.node (.nil) (.loop [(20, .one (.int .i64))] [21, 22, 23, 6, 24, 25, 26, 27, 28, 20] (.nil)))) (.nil))))))) (by kernel_rfl) (Nat.le_of_ble_eq_true (by kernel_rfl)) (Eq.mp (α := F96 t0 t1 w R) (by kernel_rfl) h)

noncomputable def R97_0 : Code := codeAt [1, 0, 1, 0] (bodyOf Try.f97)
def R97_0a : An := .nil
theorem R97_0ok1 : okC tb Try.f97.ntmps (rA R97_0) .nil = true := by kernel_rfl
theorem R97_0ok2 : okC tb Try.f97.ntmps (rB R97_0) R97_0a = true := by kernel_rfl
theorem R97_0okp : (rP R97_0).toList.all (fun p => Nat.blt p Try.f97.ntmps) = true := by kernel_rfl
def F97 (t0 : Sl) (t1 : Nat × Array Value) (w : World) (R : Value → World → Prop) : Prop :=
 AllocP w (Obj.cells #[Value.slice t0.1 t0.2 t0.3] (28 : Nat)) fun (b1 : Nat) (w2 : World) =>
 ∀ (y3 : Nat → Value),
 RangeP Try.prog tb (nat_lit 13) none R97_0a (rG R97_0) (rP R97_0) (rA R97_0) (rB R97_0)
 (frC y3 [((2 : Nat), Value.pointer (some ({ block := b1, off := (0 : Nat) } : Addr))), ((4 : Nat), Value.slice none (0 : Nat) (0 : Nat)), ((6 : Nat), Value.func (Fn.func t1.1) #[] t1.2)]) [] w2
 (fun (l4 : List Nat) (w5 : World) => ∃ (s6 : Sl), w5.cell? ({ block := b1, off := (0 : Nat) } : Addr) = some (Value.slice s6.1 s6.2 s6.3) ∧ marksP w5 l4 fun (w7 : World) => R (Value.slice s6.1 s6.2 s6.3) w7)
 (fun (l8 : List Nat) (w9 : World) => marksP w9 l8 fun (w10 : World) => R (Value.slice none (0 : Nat) (0 : Nat)) w10) fun (b11 : Nat) (l12 : List Nat) (w13 : World) =>
 match b11.beq (0 : Nat) with
 | true => ∃ (s15 : Sl), w13.cell? ({ block := b1, off := (0 : Nat) } : Addr) = some (Value.slice s15.1 s15.2 s15.3) ∧ marksP w13 l12 fun (w16 : World) => R (Value.slice s15.1 s15.2 s15.3) w16
 | false => False
theorem F97_ok (t0 : Sl) (t1 : Nat × Array Value) (w : World) (R : Value → World → Prop) (h : F97 t0 t1 w R) : CW Try.prog 97 #[Value.slice t0.1 t0.2 t0.3, Value.func (Fn.func t1.1) #[] t1.2] w R :=
  call_of tbOk mixed en97 Try.func97 rfl (.node (.nil) (.node (.node (.nil) (.rng [(2, .one (.box)), (4, .one (.sl)), (6, .one (.clo))] (.nil))) (.nil))) (by kernel_rfl) (Nat.le_of_ble_eq_true (by kernel_rfl)) (Eq.mp (α := F97 t0 t1 w R) (by kernel_rfl) h)

def F97b0 (t2 : Nat) (t4 : Sl) (t6 : Nat × Array Value) (x7 : (Leaf.int IntKind.i64).den × dens [Leaf.int IntKind.i64]) (l D n₀ : Nat) (Jn : World → Prop) (Jx : Code → World → Prop) (W : World) : Prop :=
  AllocP W (Obj.cells #[Value.int IntKind.i64 (0 : Int), Value.int IntKind.i64 (0 : Int)] (37 : Nat)) fun (b1 : Nat) (w2 : World) =>
 #[Value.int IntKind.i64 x7.1, Value.int IntKind.i64 x7.2].size = (2 : Nat) ∧
 StoreP w2 b1 (0 : Nat) [Value.int IntKind.i64 x7.1, Value.int IntKind.i64 x7.2] fun (w3 : World) =>
 ([] : List Nat) = [] ∧
 (w3.1[l]? = W.1[l]? ∧ w3.1[D]? = W.1[D]?) ∧
 ∀ (w12 : World),
 Stb n₀ w3 w12 →
 (∃ (y14 : Loop), w12.1[l]? = some (Obj.loop y14)) →
 ∃ (s18 : Sl),
 w12.cell? ({ block := t2, off := (0 : Nat) } : Addr) = some (Value.slice s18.1 s18.2 s18.3) ∧
 ∃ (x19 : Int × Int),
 CellsAt w12 b1 (0 : Nat) [Value.int IntKind.i64 x19.1, Value.int IntKind.i64 x19.2] ∧
 (1 : Nat) * (2 : Nat) ≤ (16777216 : Nat) ∧
 AllocP w12 (Obj.cells #[Value.int IntKind.i64 x19.1, Value.int IntKind.i64 x19.2] (37 : Nat)) fun (b20 : Nat) (w21 : World) =>
 ∃ (l22 : List Value),
 ReadC w21 (some ({ block := b20, off := (0 : Nat) } : Addr)) ((1 : Nat) * (2 : Nat)) l22 ∧
 AppendP tt37 (37 : Nat) w21 s18.1 s18.2 s18.3 (1 : Nat) l22 fun (s23 : Sl) (w24 : World) =>
 #[Value.slice s23.1 s23.2 s23.3].size = (1 : Nat) ∧ StoreP w24 t2 (0 : Nat) [Value.slice s23.1 s23.2 s23.3] fun (w25 : World) => (w25.1[l]? = w12.1[l]? ∧ w25.1[D]? = w12.1[D]?) ∧ Jn w25
theorem F97b0_ok (t2 : Nat) (t4 : Sl) (t6 : Nat × Array Value) (x7 : (Leaf.int IntKind.i64).den × dens [Leaf.int IntKind.i64]) (l D n₀ : Nat) (Jn : World → Prop) (Jx : Code → World → Prop) (W : World) {g : Nat → Value} (h : F97b0 t2 t4 t6 x7 l D n₀ Jn Jx W) :
    BodyP Try.prog tb Try.f97.ntmps l D n₀ R97_0a (rP R97_0) (rA R97_0) (rB R97_0) (frC g [(2, Value.pointer (some ({ block := t2, off := 0 } : Addr))), (4, Value.slice t4.1 t4.2 t4.3), (6, Value.func (Fn.func t6.1) #[] t6.2)]) Jn Jx [Value.agg #[Value.int IntKind.i64 x7.1, Value.int IntKind.i64 x7.2]] W :=
  Eq.mp (α := F97b0 t2 t4 t6 x7 l D n₀ Jn Jx W) (by kernel_rfl) h

def F98 (t0 : Sl) (t1 : Nat) (w : World) (R : Value → World → Prop) : Prop :=
 ∃ (b1 : Nat),
 ∃ (b2 : Nat),
 t0.1 = some ({ block := b1, off := b2 } : Addr) ∧
 ((0 : Int) ≤ (0 : Int) ∧ (0 : Int) < (t0.2 : Int)) ∧
 ∃ (n3 : Int),
 w.drew.cell? ({ block := b1, off := b2 + Int.toNat (0 : Int) * (2 : Nat) + (0 : Nat) } : Addr) = some (Value.int IntKind.i64 n3) ∧
 ∃ (n4 : Int), w.drew.cell? ({ block := t1, off := (0 : Nat) } : Addr) = some (Value.int IntKind.i64 n4) ∧ R (Value.bool (decide (n4 < n3))) w.drew
theorem F98_ok (t0 : Sl) (t1 : Nat) (w : World) (R : Value → World → Prop) (h : F98 t0 t1 w R) : CW Try.prog 98 #[Value.slice t0.1 t0.2 t0.3, Value.pointer (some ({ block := t1, off := 0 } : Addr))] w R :=
  call_of tbOk mixed en98 Try.func98 rfl (.node (.nil) (.node (.draw (.st 0 (.st 1 (.st 2 (.st 3 (.st 4 (.st 5 (.st 6 (.fin))))))))) (.nil))) (by kernel_rfl) (Nat.le_of_ble_eq_true (by kernel_rfl)) (Eq.mp (α := F98 t0 t1 w R) (by kernel_rfl) h)

def F99j1 (t0 : Sl) (t1 : Nat × Array Value) (R : Value → World → Prop) (y1 : Nat → Int → World → Prop) (b3 : Nat) (n4 : Int) (w5 : World) : Prop :=
 IfB (decide (n4 < (t0.n : Int)))
 (∃ (b8 : Nat),
 ∃ (b9 : Nat),
 t0.1 = some ({ block := b8, off := b9 } : Addr) ∧
 ((0 : Int) ≤ n4 ∧ n4 < (t0.2 : Int)) ∧
 ∃ (s10 : Sl),
 w5.cell? ({ block := b8, off := b9 + n4.toNat } : Addr) = some (Value.slice s10.1 s10.2 s10.3) ∧
 CX Try.prog t1.1 { toList := Value.slice s10.1 s10.2 s10.3 :: t1.snd.1 } w5 fun (v11 : Value) (w12 : World) =>
 ∃ (t13 : Bool), v11 = Value.bool t13 ∧ IfB t13 (R (Value.int IntKind.i64 n4) w12) (([] : List Nat) = [] ∧ ∃ (b14 : Nat), b14 < b3 ∧ y1 b14 (IntKind.i64.wrap (n4 + (1 : Int))) w12))
 (R (Value.int IntKind.i64 (-1 : Int)) w5)
def F99 (t0 : Sl) (t1 : Nat × Array Value) (w : World) (R : Value → World → Prop) : Prop :=
 ∃ (y1 : Nat → Int → World → Prop),
 (∃ (b2 : Nat), y1 b2 (0 : Int) w) ∧
 ∀ (b3 : Nat) (n4 : Int) (w5 : World) (y6 : Nat → Value),
 y1 b3 n4 w5 →
 (F99j1 t0 t1 R y1 b3 n4 w5)
theorem F99_ok (t0 : Sl) (t1 : Nat × Array Value) (w : World) (R : Value → World → Prop) (h : F99 t0 t1 w R) : CW Try.prog 99 #[Value.slice t0.1 t0.2 t0.3, Value.func (Fn.func t1.1) #[] t1.2] w R :=
  call_of tbOk mixed en99 Try.func99 rfl (.node (.nil) (.node (.node (.nil) (.loop [(8, .one (.int .i64))] [9, 10, 5, 11, 12, 13, 14, 15, 16, 17, 4, 18, 8] (.nil))) (.nil))) (by kernel_rfl) (Nat.le_of_ble_eq_true (by kernel_rfl)) (Eq.mp (α := F99 t0 t1 w R) (by kernel_rfl) h)

def F100j1 (t0 : Sl) (t1 : Int) (t2 : Nat × Array Value) (R : Value → World → Prop) (y1 : Nat → Int × Int → World → Prop) (b3 : Nat) (x4 : Int × Int) (w5 : World) : Prop :=
 IfB (decide (x4.fst < x4.snd))
 ((0 : Int) ≤ (1 : Int) ∧
 ∃ (b8 : Nat),
 ∃ (b9 : Nat),
 t0.1 = some ({ block := b8, off := b9 } : Addr) ∧
 ((0 : Int) ≤ IntKind.i64.wrap ((IntKind.u64.wrap (IntKind.i64.wrap (x4.1 + x4.2))).fdiv ((2 : Int) ^ min (Int.toNat (1 : Int)) IntKind.u64.bits)) ∧
 IntKind.i64.wrap ((IntKind.u64.wrap (IntKind.i64.wrap (x4.1 + x4.2))).fdiv ((2 : Int) ^ min (Int.toNat (1 : Int)) IntKind.u64.bits)) < (t0.2 : Int)) ∧
 ∃ (x10 : Int × Int),
 CellsAt w5 b8 (b9 + (IntKind.i64.wrap ((IntKind.u64.wrap (IntKind.i64.wrap (x4.1 + x4.2))).fdiv ((2 : Int) ^ min (Int.toNat (1 : Int)) IntKind.u64.bits))).toNat * (2 : Nat))
 [Value.int IntKind.i64 x10.1, Value.int IntKind.i64 x10.2] ∧
 CX Try.prog t2.1 { toList := Value.agg #[Value.int IntKind.i64 x10.1, Value.int IntKind.i64 x10.2] :: Value.int IntKind.i64 t1 :: t2.snd.1 } w5 fun (v11 : Value) (w12 : World) =>
 ∃ (n13 : Int),
 v11 = Value.int IntKind.i64 n13 ∧
 IfB (decide (n13 < (0 : Int)))
 (([] : List Nat) = [] ∧
 ∃ (b14 : Nat),
 b14 < b3 ∧ y1 b14 (IntKind.i64.wrap (IntKind.i64.wrap ((IntKind.u64.wrap (IntKind.i64.wrap (x4.1 + x4.2))).fdiv ((2 : Int) ^ min (Int.toNat (1 : Int)) IntKind.u64.bits)) + (1 : Int)), x4.2) w12)
 (([] : List Nat) = [] ∧ ∃ (b15 : Nat), b15 < b3 ∧ y1 b15 (x4.1, IntKind.i64.wrap ((IntKind.u64.wrap (IntKind.i64.wrap (x4.1 + x4.2))).fdiv ((2 : Int) ^ min (Int.toNat (1 : Int)) IntKind.u64.bits))) w12))
 (IfB (decide (x4.fst < (t0.n : Int)))
 (∃ (b16 : Nat),
 ∃ (b17 : Nat),
 t0.1 = some ({ block := b16, off := b17 } : Addr) ∧
 ((0 : Int) ≤ x4.1 ∧ x4.1 < (t0.2 : Int)) ∧
 ∃ (x18 : Int × Int),
 CellsAt w5 b16 (b17 + x4.1.toNat * (2 : Nat)) [Value.int IntKind.i64 x18.1, Value.int IntKind.i64 x18.2] ∧
 CX Try.prog t2.1 { toList := Value.agg #[Value.int IntKind.i64 x18.1, Value.int IntKind.i64 x18.2] :: Value.int IntKind.i64 t1 :: t2.snd.1 } w5 fun (v19 : Value) (w20 : World) =>
 ∃ (n21 : Int), v19 = Value.int IntKind.i64 n21 ∧ R (Value.tuple #[Value.int IntKind.i64 x4.1, Value.bool (n21 == (0 : Int))]) w20)
 (R (Value.tuple #[Value.int IntKind.i64 x4.1, Value.bool false]) w5))
def F100 (t0 : Sl) (t1 : Int) (t2 : Nat × Array Value) (w : World) (R : Value → World → Prop) : Prop :=
 ∃ (y1 : Nat → Int × Int → World → Prop),
 (∃ (b2 : Nat), y1 b2 ((0 : Int), (t0.2 : Int)) w) ∧
 ∀ (b3 : Nat) (x4 : Int × Int) (w5 : World) (y6 : Nat → Value),
 y1 b3 x4 w5 →
 (F100j1 t0 t1 t2 R y1 b3 x4 w5)
theorem F100_ok (t0 : Sl) (t1 : Int) (t2 : Nat × Array Value) (w : World) (R : Value → World → Prop) (h : F100 t0 t1 t2 w R) : CW Try.prog 100 #[Value.slice t0.1 t0.2 t0.3, Value.int IntKind.i64 t1, Value.func (Fn.func t2.1) #[] t2.2] w R :=
  call_of tbOk mixed en100 Try.func100 rfl (.node (.nil) (.node (.nil) (.node (.nil) (.node (.loop [(9, .one (.int .i64)), (10, .one (.int .i64))] [15, 16, 17, 18, 19, 20, 21, 22, 23, 11, 24, 25, 26, 27, 28, 29, 30, 31, 32, 33, 9, 34, 10] (.nil)) (.nil))))) (by kernel_rfl) (Nat.le_of_ble_eq_true (by kernel_rfl)) (Eq.mp (α := F100 t0 t1 t2 w R) (by kernel_rfl) h)

def F101 (t0 : (Leaf.int IntKind.i64).den × dens [Leaf.int IntKind.i64]) (t1 : Int) (w : World) (R : Value → World → Prop) : Prop :=
 AllocP w (Obj.cells #[Value.int IntKind.i64 t0.1, Value.int IntKind.i64 t0.2] (37 : Nat)) fun (b1 : Nat) (w2 : World) =>
 ∃ (n3 : Int), w2.cell? ({ block := b1, off := (0 : Nat) + (0 : Nat) } : Addr) = some (Value.int IntKind.i64 n3) ∧ R (Value.int IntKind.i64 (IntKind.i64.wrap (n3 - t1))) w2
theorem F101_ok (t0 : (Leaf.int IntKind.i64).den × dens [Leaf.int IntKind.i64]) (t1 : Int) (w : World) (R : Value → World → Prop) (h : F101 t0 t1 w R) : CW Try.prog 101 #[Value.agg #[Value.int IntKind.i64 t0.1, Value.int IntKind.i64 t0.2], Value.int IntKind.i64 t1] w R :=
  call_of tbOk mixed en101 Try.func101 rfl (.nil) (by kernel_rfl) (Nat.le_of_ble_eq_true (by kernel_rfl)) (Eq.mp (α := F101 t0 t1 w R) (by kernel_rfl) h)

def F102j2 (t0 : Sl) (R : Value → World → Prop) (y15 : Nat → Sl × Int → World → Prop) (b17 : Nat) (x18 : Sl × Int) (w19 : World) : Prop :=
 IfB (decide (x18.snd < (t0.n : Int)))
 (∃ (b22 : Nat),
 ∃ (b23 : Nat),
 t0.1 = some ({ block := b22, off := b23 } : Addr) ∧
 ((0 : Int) ≤ x18.2 ∧ x18.2 < (t0.2 : Int)) ∧
 ∃ (s24 : Sl),
 w19.cell? ({ block := b22, off := b23 + x18.2.toNat } : Addr) = some (Value.slice s24.1 s24.2 s24.3) ∧
 ∃ (l25 : List Value),
 ReadC w19 s24.1 (s24.2 * (2 : Nat)) l25 ∧
 AppendP tt37 (37 : Nat) w19 x18.fst.1 x18.fst.2 x18.fst.3 s24.2 l25 fun (s26 : Sl) (w27 : World) =>
 ([] : List Nat) = [] ∧ ∃ (b28 : Nat), b28 < b17 ∧ y15 b28 ({ p := s26.1, n := s26.2, c := s26.3 }, IntKind.i64.wrap (x18.2 + (1 : Int))) w27)
 (R (Value.slice x18.fst.1 x18.fst.2 x18.fst.3) w19)
def F102j1 (t0 : Sl) (R : Value → World → Prop) (y1 : Nat → Int × Int → World → Prop) (b3 : Nat) (x4 : Int × Int) (w5 : World) : Prop :=
 IfB (decide (x4.snd < (t0.n : Int)))
 (∃ (b8 : Nat),
 ∃ (b9 : Nat),
 t0.1 = some ({ block := b8, off := b9 } : Addr) ∧
 ((0 : Int) ≤ x4.2 ∧ x4.2 < (t0.2 : Int)) ∧
 ∃ (s10 : Sl),
 w5.cell? ({ block := b8, off := b9 + x4.2.toNat } : Addr) = some (Value.slice s10.1 s10.2 s10.3) ∧
 IfB (decide (IntKind.i64.wrap (x4.fst + (s10.n : Int)) < (0 : Int))) False (([] : List Nat) = [] ∧ ∃ (b11 : Nat), b11 < b3 ∧ y1 b11 (IntKind.i64.wrap (x4.1 + (s10.2 : Int)), IntKind.i64.wrap (x4.2 + (1 : Int))) w5))
 (CX Try.prog (116 : Nat) #[Value.slice none (0 : Nat) (0 : Nat), Value.int IntKind.i64 x4.1] w5 fun (v12 : Value) (w13 : World) =>
 ∃ (s14 : Sl),
 v12 = Value.slice s14.1 s14.2 s14.3 ∧
 ∃ (y15 : Nat → Sl × Int → World → Prop),
 (∃ (b16 : Nat), y15 b16 ({ p := s14.1, n := s14.2, c := s14.3 }, (0 : Int)) w13) ∧
 ∀ (b17 : Nat) (x18 : Sl × Int) (w19 : World) (y20 : Nat → Value),
 y15 b17 x18 w19 →
 (F102j2 t0 R y15 b17 x18 w19))
def F102 (t0 : Sl) (w : World) (R : Value → World → Prop) : Prop :=
 ∃ (y1 : Nat → Int × Int → World → Prop),
 (∃ (b2 : Nat), y1 b2 ((0 : Int), (0 : Int)) w) ∧
 ∀ (b3 : Nat) (x4 : Int × Int) (w5 : World) (y6 : Nat → Value),
 y1 b3 x4 w5 →
 (F102j1 t0 R y1 b3 x4 w5)
theorem F102_ok (t0 : Sl) (w : World) (R : Value → World → Prop) (h : F102 t0 w R) : CW Try.prog 102 #[Value.slice t0.1 t0.2 t0.3] w R :=
  call_of tbOk mixed en102 Try.func102 rfl (.node (.nil) (.node (.nil) (.node (.node (.nil) (.loop [(3, .one (.int .i64)), (11, .one (.int .i64))] [12, 13, 14, 5, 15, 16, 17, 18, 3, 19, 20, 21, 22, 11] (.nil))) (.node (.nil) (.node (.node (.nil) (.loop [(6, .one (.sl)), (27, .one (.int .i64))] [28, 29, 30, 8, 31, 32, 33, 6, 34, 27] (.nil))) (.nil)))))) (by kernel_rfl) (Nat.le_of_ble_eq_true (by kernel_rfl)) (Eq.mp (α := F102 t0 w R) (by kernel_rfl) h)

end Go.Proofs.Ytopecljhehcldaa.Gx
