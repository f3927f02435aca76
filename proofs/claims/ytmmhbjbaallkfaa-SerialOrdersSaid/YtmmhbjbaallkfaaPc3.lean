/- Merged by pack.py: GxLS, Srt, WaitA, GxH, SrS, GxU, KeyA. -/
import Derived.Test.YtmmhbjbaallkfaaPc1
import Derived.Test.YtmmhbjbaallkfaaPc2

/- Written by mkf.py: what is to be shown of functions, as Gx reckons it from their code. -/
namespace Go.Proofs.Ytmmhbjbaallkfaa.Gx
open Go
def GxLSby0 : ByteArray := (ByteArray.mk (Array.mk (([(0 : UInt8), (1 : UInt8), (2 : UInt8), (2 : UInt8), (3 : UInt8), (3 : UInt8), (3 : UInt8), (3 : UInt8), (4 : UInt8), (4 : UInt8), (4 : UInt8), (4 : UInt8), (4 : UInt8), (4 : UInt8), (4 : UInt8), (4 : UInt8), (5 : UInt8), (5 : UInt8), (5 : UInt8), (5 : UInt8), (5 : UInt8), (5 : UInt8), (5 : UInt8), (5 : UInt8), (5 : UInt8), (5 : UInt8), (5 : UInt8), (5 : UInt8), (5 : UInt8), (5 : UInt8), (5 : UInt8), (5 : UInt8), (6 : UInt8), (6 : UInt8), (6 : UInt8), (6 : UInt8), (6 : UInt8), (6 : UInt8), (6 : UInt8), (6 : UInt8), (6 : UInt8), (6 : UInt8), (6 : UInt8), (6 : UInt8), (6 : UInt8), (6 : UInt8), (6 : UInt8), (6 : UInt8), (6 : UInt8), (6 : UInt8), (6 : UInt8), (6 : UInt8), (6 : UInt8), (6 : UInt8), (6 : UInt8), (6 : UInt8), (6 : UInt8), (6 : UInt8), (6 : UInt8), (6 : UInt8), (6 : UInt8), (6 : UInt8), (6 : UInt8), (6 : UInt8)].append [(7 : UInt8), (7 : UInt8), (7 : UInt8), (7 : UInt8), (7 : UInt8), (7 : UInt8), (7 : UInt8), (7 : UInt8), (7 : UInt8), (7 : UInt8), (7 : UInt8), (7 : UInt8), (7 : UInt8), (7 : UInt8), (7 : UInt8), (7 : UInt8), (7 : UInt8), (7 : UInt8), (7 : UInt8), (7 : UInt8), (7 : UInt8), (7 : UInt8), (7 : UInt8), (7 : UInt8), (7 : UInt8), (7 : UInt8), (7 : UInt8), (7 : UInt8), (7 : UInt8), (7 : UInt8), (7 : UInt8), (7 : UInt8), (7 : UInt8), (7 : UInt8), (7 : UInt8), (7 : UInt8), (7 : UInt8), (7 : UInt8), (7 : UInt8), (7 : UInt8), (7 : UInt8), (7 : UInt8), (7 : UInt8), (7 : UInt8), (7 : UInt8), (7 : UInt8), (7 : UInt8), (7 : UInt8), (7 : UInt8), (7 : UInt8), (7 : UInt8), (7 : UInt8), (7 : UInt8), (7 : UInt8), (7 : UInt8), (7 : UInt8), (7 : UInt8), (7 : UInt8), (7 : UInt8), (7 : UInt8), (7 : UInt8), (7 : UInt8), (7 : UInt8), (7 : UInt8)]).append ([(8 : UInt8), (8 : UInt8), (8 : UInt8), (8 : UInt8), (8 : UInt8), (8 : UInt8), (8 : UInt8), (8 : UInt8), (8 : UInt8), (8 : UInt8), (8 : UInt8), (8 : UInt8), (8 : UInt8), (8 : UInt8), (8 : UInt8), (8 : UInt8), (8 : UInt8), (8 : UInt8), (8 : UInt8), (8 : UInt8), (8 : UInt8), (8 : UInt8), (8 : UInt8), (8 : UInt8), (8 : UInt8), (8 : UInt8), (8 : UInt8), (8 : UInt8), (8 : UInt8), (8 : UInt8), (8 : UInt8), (8 : UInt8), (8 : UInt8), (8 : UInt8), (8 : UInt8), (8 : UInt8), (8 : UInt8), (8 : UInt8), (8 : UInt8), (8 : UInt8), (8 : UInt8), (8 : UInt8), (8 : UInt8), (8 : UInt8), (8 : UInt8), (8 : UInt8), (8 : UInt8), (8 : UInt8), (8 : UInt8), (8 : UInt8), (8 : UInt8), (8 : UInt8), (8 : UInt8), (8 : UInt8), (8 : UInt8), (8 : UInt8), (8 : UInt8), (8 : UInt8), (8 : UInt8), (8 : UInt8), (8 : UInt8), (8 : UInt8), (8 : UInt8), (8 : UInt8)].append [(8 : UInt8), (8 : UInt8), (8 : UInt8), (8 : UInt8), (8 : UInt8), (8 : UInt8), (8 : UInt8), (8 : UInt8), (8 : UInt8), (8 : UInt8), (8 : UInt8), (8 : UInt8), (8 : UInt8), (8 : UInt8), (8 : UInt8), (8 : UInt8), (8 : UInt8), (8 : UInt8), (8 : UInt8), (8 : UInt8), (8 : UInt8), (8 : UInt8), (8 : UInt8), (8 : UInt8), (8 : UInt8), (8 : UInt8), (8 : UInt8), (8 : UInt8), (8 : UInt8), (8 : UInt8), (8 : UInt8), (8 : UInt8), (8 : UInt8), (8 : UInt8), (8 : UInt8), (8 : UInt8), (8 : UInt8), (8 : UInt8), (8 : UInt8), (8 : UInt8), (8 : UInt8), (8 : UInt8), (8 : UInt8), (8 : UInt8), (8 : UInt8), (8 : UInt8), (8 : UInt8), (8 : UInt8), (8 : UInt8), (8 : UInt8), (8 : UInt8), (8 : UInt8), (8 : UInt8), (8 : UInt8), (8 : UInt8), (8 : UInt8), (8 : UInt8), (8 : UInt8), (8 : UInt8), (8 : UInt8), (8 : UInt8), (8 : UInt8), (8 : UInt8), (8 : UInt8)]) )))
set_option linter.unusedVariables false
set_option maxRecDepth 100000
def F49 (t0 : Sl) (w : World) (R : Value → World → Prop) : Prop :=
 CX Try.prog (62 : Nat) #[Value.int IntKind.u64 (IntKind.u64.wrap (t0.2 : Int))] w fun (v1 : Value) (w2 : World) =>
 ∃ (n3 : Int),
 v1 = Value.int IntKind.i64 n3 ∧
 CX Try.prog (68 : Nat) #[Value.slice t0.1 t0.2 t0.3, Value.int IntKind.i64 (0 : Int), Value.int IntKind.i64 (t0.2 : Int), Value.int IntKind.i64 n3] w2 fun (v4 : Value) (w5 : World) =>
 ∃ (y6 : Unit), v4 = Value.tuple #[] ∧ R (Value.tuple #[]) w5
theorem F49_ok (t0 : Sl) (w : World) (R : Value → World → Prop) (h : F49 t0 w R) : CW Try.prog 49 #[Value.slice t0.1 t0.2 t0.3] w R :=
  call_of tbOk mixed en49 Try.func49 rfl (.nil) (by kernel_rfl) (Nat.le_of_ble_eq_true (by kernel_rfl)) (Eq.mp (α := F49 t0 w R) (by kernel_rfl) h)
def F68k2 (t0 : Sl) (x4 : Int × Int × Int × Bool × Bool) (x56 : Int × Bool) (n18 : Int) (w55 : World) (b3 : Nat) (y1 : Nat → Int × Int × Int × Bool × Bool → World → Prop) : Prop :=
 CX Try.prog (68 : Nat) #[Value.slice t0.1 t0.2 t0.3, Value.int IntKind.i64 x4.1, Value.int IntKind.i64 x56.1, Value.int IntKind.i64 n18] w55 fun (v57 : Value) (w58 : World) =>
 ∃ (y59 : Unit),
 v57 = Value.tuple #[] ∧
 ([] : List Nat) = [] ∧
 ∃ (b60 : Nat),
 b60 < b3 ∧
 y1 b60 (IntKind.i64.wrap (x56.1 + (1 : Int)), x4.snd.1, n18, decide (IntKind.i64.wrap ((IntKind.i64.wrap (x4.snd.fst - x4.fst)).tdiv (8 : Int)) ≤ IntKind.i64.wrap (x56.fst - x4.fst)), x56.2) w58
def F68k1 (t0 : Sl) (x56 : Int × Bool) (x4 : Int × Int × Int × Bool × Bool) (n18 : Int) (w55 : World) (b3 : Nat) (y1 : Nat → Int × Int × Int × Bool × Bool → World → Prop) : Prop :=
 CX Try.prog (68 : Nat) #[Value.slice t0.1 t0.2 t0.3, Value.int IntKind.i64 (IntKind.i64.wrap (x56.1 + (1 : Int))), Value.int IntKind.i64 x4.snd.1, Value.int IntKind.i64 n18] w55
 fun (v61 : Value) (w62 : World) =>
 ∃ (y63 : Unit),
 v61 = Value.tuple #[] ∧
 ([] : List Nat) = [] ∧
 ∃ (b64 : Nat), b64 < b3 ∧ y1 b64 (x4.1, x56.1, n18, decide (IntKind.i64.wrap ((IntKind.i64.wrap (x4.snd.fst - x4.fst)).tdiv (8 : Int)) ≤ IntKind.i64.wrap (x4.snd.fst - x56.fst)), x56.2) w62
def F68j4 (t0 : Sl) (y1 : Nat → Int × Int × Int × Bool × Bool → World → Prop) (b3 : Nat) (x4 : Int × Int × Int × Bool × Bool) (n18 : Int) (x29 : Int × Int) (w38 : World) : Prop :=
 IfB (decide ((0 : Int) < x4.fst))
 (∃ (b41 : Nat),
 ∃ (b42 : Nat),
 t0.1 = some ({ block := b41, off := b42 } : Addr) ∧
 ((0 : Int) ≤ IntKind.i64.wrap (x4.1 - (1 : Int)) ∧ IntKind.i64.wrap (x4.1 - (1 : Int)) < (t0.2 : Int)) ∧
 ∃ (n43 : Int),
 w38.drew.cell? ({ block := b41, off := b42 + (IntKind.i64.wrap (x4.1 - (1 : Int))).toNat } : Addr) = some (Value.int IntKind.i64 n43) ∧
 ∃ (b44 : Nat),
 ∃ (b45 : Nat),
 t0.1 = some ({ block := b44, off := b45 } : Addr) ∧
 ((0 : Int) ≤ x29.1 ∧ x29.1 < (t0.2 : Int)) ∧
 ∃ (n46 : Int),
 w38.drew.cell? ({ block := b44, off := b45 + x29.1.toNat } : Addr) = some (Value.int IntKind.i64 n46) ∧
 CX Try.prog (92 : Nat) #[Value.int IntKind.i64 n43, Value.int IntKind.i64 n46] w38.drew fun (v47 : Value) (w48 : World) =>
 ∃ (t49 : Bool),
 v47 = Value.bool t49 ∧
 IfB (!t49)
 (CX Try.prog (93 : Nat) #[Value.slice t0.1 t0.2 t0.3, Value.int IntKind.i64 x4.1, Value.int IntKind.i64 x4.snd.1, Value.int IntKind.i64 x29.1] w48 fun (v50 : Value) (w51 : World) =>
 ∃ (n52 : Int), v50 = Value.int IntKind.i64 n52 ∧ ([] : List Nat) = [] ∧ ∃ (b53 : Nat), b53 < b3 ∧ y1 b53 (n52, x4.snd.1, n18, x4.snd.snd.snd.1, x4.snd.snd.snd.2) w51)
 (CX Try.prog (94 : Nat) #[Value.slice t0.1 t0.2 t0.3, Value.int IntKind.i64 x4.1, Value.int IntKind.i64 x4.snd.1, Value.int IntKind.i64 x29.1] w48 fun (v54 : Value) (w55 : World) =>
 ∃ (x56 : Int × Bool),
 v54 = Value.tuple #[Value.int IntKind.i64 x56.1, Value.bool x56.2] ∧
 ¬(8 : Int) = (0 : Int) ∧
 IfB (decide (IntKind.i64.wrap (x56.fst - x4.fst) < IntKind.i64.wrap (x4.snd.fst - x56.fst)))
 (F68k2 t0 x4 x56 n18 w55 b3 y1)
 (F68k1 t0 x56 x4 n18 w55 b3 y1)))
 (CX Try.prog (94 : Nat) #[Value.slice t0.1 t0.2 t0.3, Value.int IntKind.i64 x4.1, Value.int IntKind.i64 x4.snd.1, Value.int IntKind.i64 x29.1] w38.drew fun (v65 : Value) (w66 : World) =>
 ∃ (x67 : Int × Bool),
 v65 = Value.tuple #[Value.int IntKind.i64 x67.1, Value.bool x67.2] ∧
 ¬(8 : Int) = (0 : Int) ∧
 IfB (decide (IntKind.i64.wrap (x67.fst - x4.fst) < IntKind.i64.wrap (x4.snd.fst - x67.fst)))
 (F68k2 t0 x4 x67 n18 w66 b3 y1)
 (F68k1 t0 x67 x4 n18 w66 b3 y1))
def F68j3 (t0 : Sl) (R : Value → World → Prop) (y1 : Nat → Int × Int × Int × Bool × Bool → World → Prop) (b3 : Nat) (x4 : Int × Int × Int × Bool × Bool) (n18 : Int) (x29 : Int × Int) (w30 : World) : Prop :=
 ∃ (y33 : Unit → World → Prop),
 IfB x4.snd.snd.snd.1
 (IfB x4.snd.snd.snd.2
 (IfB (x29.2 == (1 : Int))
 (CX Try.prog (91 : Nat) #[Value.slice t0.1 t0.2 t0.3, Value.int IntKind.i64 x4.1, Value.int IntKind.i64 x4.snd.1] w30 fun (v34 : Value) (w35 : World) =>
 ∃ (t36 : Bool), v34 = Value.bool t36 ∧ IfB t36 (R (Value.tuple #[]) w35) (([] : List Nat) = [] ∧ y33 PUnit.unit w35))
 (([] : List Nat) = [] ∧ y33 PUnit.unit w30))
 (([] : List Nat) = [] ∧ y33 PUnit.unit w30))
 (([] : List Nat) = [] ∧ y33 PUnit.unit w30) ∧
 ∀ (y37 : Unit) (w38 : World) (y39 : Nat → Value),
 y33 y37 w38 →
 (F68j4 t0 y1 b3 x4 n18 x29 w38)
def F68j2 (t0 : Sl) (R : Value → World → Prop) (y1 : Nat → Int × Int × Int × Bool × Bool → World → Prop) (b3 : Nat) (x4 : Int × Int × Int × Bool × Bool) (n18 : Int) (w19 : World) : Prop :=
 CX Try.prog (89 : Nat) #[Value.slice t0.1 t0.2 t0.3, Value.int IntKind.i64 x4.1, Value.int IntKind.i64 x4.snd.1] w19 fun (v22 : Value) (w23 : World) =>
 ∃ (x24 : Int × Int),
 v22 = Value.tuple #[Value.int IntKind.i64 x24.1, Value.int IntKind.i64 x24.2] ∧
 ∃ (y25 : Int × Int → World → Prop),
 IfB (x24.2 == (2 : Int))
 (CX Try.prog (90 : Nat) #[Value.slice t0.1 t0.2 t0.3, Value.int IntKind.i64 x4.1, Value.int IntKind.i64 x4.snd.1] w23 fun (v26 : Value) (w27 : World) =>
 ∃ (y28 : Unit), v26 = Value.tuple #[] ∧ ([] : List Nat) = [] ∧ y25 (IntKind.i64.wrap (IntKind.i64.wrap (x4.snd.1 - (1 : Int)) - IntKind.i64.wrap (x24.1 - x4.1)), (1 : Int)) w27)
 (([] : List Nat) = [] ∧ y25 (x24.1, x24.2) w23) ∧
 ∀ (x29 : Int × Int) (w30 : World) (y31 : Nat → Value),
 y25 x29 w30 →
 (F68j3 t0 R y1 b3 x4 n18 x29 w30)
def F68j1 (t0 : Sl) (R : Value → World → Prop) (y1 : Nat → Int × Int × Int × Bool × Bool → World → Prop) (b3 : Nat) (x4 : Int × Int × Int × Bool × Bool) (w5 : World) : Prop :=
 IfB (decide (IntKind.i64.wrap (x4.snd.fst - x4.fst) ≤ (12 : Int)))
 (CX Try.prog (86 : Nat) #[Value.slice t0.1 t0.2 t0.3, Value.int IntKind.i64 x4.1, Value.int IntKind.i64 x4.snd.1] w5 fun (v8 : Value) (w9 : World) =>
 ∃ (y10 : Unit), v8 = Value.tuple #[] ∧ R (Value.tuple #[]) w9)
 (IfB (x4.snd.snd.1 == (0 : Int))
 (CX Try.prog (87 : Nat) #[Value.slice t0.1 t0.2 t0.3, Value.int IntKind.i64 x4.1, Value.int IntKind.i64 x4.snd.1] w5 fun (v11 : Value) (w12 : World) =>
 ∃ (y13 : Unit), v11 = Value.tuple #[] ∧ R (Value.tuple #[]) w12)
 (∃ (y14 : Int → World → Prop),
 IfB (!x4.snd.snd.snd.1)
 (CX Try.prog (88 : Nat) #[Value.slice t0.1 t0.2 t0.3, Value.int IntKind.i64 x4.1, Value.int IntKind.i64 x4.snd.1] w5 fun (v15 : Value) (w16 : World) =>
 ∃ (y17 : Unit), v15 = Value.tuple #[] ∧ ([] : List Nat) = [] ∧ y14 (IntKind.i64.wrap (x4.snd.snd.1 - (1 : Int))) w16)
 (([] : List Nat) = [] ∧ y14 x4.snd.snd.1 w5) ∧
 ∀ (n18 : Int) (w19 : World) (y20 : Nat → Value),
 y14 n18 w19 →
 (F68j2 t0 R y1 b3 x4 n18 w19)))
def F68 (t0 : Sl) (t1 : Int) (t2 : Int) (t3 : Int) (w : World) (R : Value → World → Prop) : Prop :=
 ∃ (y1 : Nat → Int × Int × Int × Bool × Bool → World → Prop),
 (∃ (b2 : Nat), y1 b2 (t1, t2, t3, true, true) w) ∧
 ∀ (b3 : Nat) (x4 : Int × Int × Int × Bool × Bool) (w5 : World) (y6 : Nat → Value),
 y1 b3 x4 w5 →
 (F68j1 t0 R y1 b3 x4 w5)
theorem F68_ok (t0 : Sl) (t1 : Int) (t2 : Int) (t3 : Int) (w : World) (R : Value → World → Prop) (h : F68 t0 t1 t2 t3 w R) : CW Try.prog 68 #[Value.slice t0.1 t0.2 t0.3, Value.int IntKind.i64 t1, Value.int IntKind.i64 t2, Value.int IntKind.i64 t3] w R :=
  call_of tbOk mixed en68 Try.func68 rfl (.node (.nil) (.node (.nil) (.loop [(1, .one (.int .i64)), (2, .one (.int .i64)), (3, .one (.int .i64)), (8, .one (.bool)), (9, .one (.bool))] [19, 20, 21, 10, 22, 23, 24, 25, 26, 27, 28, 29, 30, 31, 32, 33, 34, 35, 36, 37, 38, 39, 40, 41, 3, 43, 44, 45, 46, 42, 47, 48, 11, 12, 49, 50, 51, 52, 53, 54, 55, 56, 57, 58, 59, 60, 61, 62, 63, 64, 65, 66, 67, 68, 69, 70, 71, 72, 73, 74, 75, 76, 77, 78, 79, 80, 81, 82, 83, 84, 85, 86, 87, 88, 89, 90, 91, 92, 13, 93, 1, 95, 96, 97, 98, 99, 94, 100, 101, 14, 15, 102, 9, 103, 104, 105, 106, 107, 108, 16, 17, 109, 110, 18, 111, 112, 113, 114, 115, 116, 8, 117, 118, 119, 120, 121, 122, 123, 124, 125, 126, 127, 128, 129, 130, 131, 132, 133, 2] (.node (.nil) (.node (.nil) (.node (.nil) (.join [(3, .one (.int .i64))] [34, 35, 36, 37, 38, 39, 40, 41, 3] (.nil) (.node (.nil) (.join [(11, .one (.int .i64)), (12, .one (.int .i64))] [49, 50, 51, 52, 53, 54, 55, 56, 57, 58, 59, 60, 11, 12] (.nil) (.join [] [61, 62, 63, 64, 65, 66, 67, 68, 69, 70, 71, 72] (.nil) (.node (.node (.draw (.st 0 (.st 1 (.st 2 (.st 3 (.st 4 (.st 5 (.st 6 (.st 7 (.st 8 (.st 9 (.st 10 (.st 11 (.ac 12 [] (.st 13 (.st 14 (.fin))) (.non))))))))))))))) (.nil)) (.nil)))))))))))) (by kernel_rfl) (Nat.le_of_ble_eq_true (by kernel_rfl)) (Eq.mp (α := F68 t0 t1 t2 t3 w R) (by kernel_rfl) h)
def F62 (t0 : Int) (w : World) (R : Value → World → Prop) : Prop :=
 CX Try.prog (84 : Nat) #[Value.int IntKind.u64 t0] w fun (v1 : Value) (w2 : World) => ∃ (n3 : Int), v1 = Value.int IntKind.i64 n3 ∧ R (Value.int IntKind.i64 n3) w2
theorem F62_ok (t0 : Int) (w : World) (R : Value → World → Prop) (h : F62 t0 w R) : CW Try.prog 62 #[Value.int IntKind.u64 t0] w R :=
  call_of tbOk mixed en62 Try.func62 rfl (.nil) (by kernel_rfl) (Nat.le_of_ble_eq_true (by kernel_rfl)) (Eq.mp (α := F62 t0 w R) (by kernel_rfl) h)
def F86j2 (t0 : Sl) (t1 : Int) (y1 : Nat → Int → World → Prop) (b3 : Nat) (n4 : Int) (y8 : Nat → Int → World → Prop) (b10 : Nat) (n11 : Int) (w12 : World) : Prop :=
 IfB (decide (t1 < n11))
 (∃ (b15 : Nat),
 ∃ (b16 : Nat),
 t0.1 = some ({ block := b15, off := b16 } : Addr) ∧
 ((0 : Int) ≤ n11 ∧ n11 < (t0.2 : Int)) ∧
 ∃ (n17 : Int),
 w12.drew.cell? ({ block := b15, off := b16 + n11.toNat } : Addr) = some (Value.int IntKind.i64 n17) ∧
 ∃ (b18 : Nat),
 ∃ (b19 : Nat),
 t0.1 = some ({ block := b18, off := b19 } : Addr) ∧
 ((0 : Int) ≤ IntKind.i64.wrap (n11 - (1 : Int)) ∧ IntKind.i64.wrap (n11 - (1 : Int)) < (t0.2 : Int)) ∧
 ∃ (n20 : Int),
 w12.drew.cell? ({ block := b18, off := b19 + (IntKind.i64.wrap (n11 - (1 : Int))).toNat } : Addr) = some (Value.int IntKind.i64 n20) ∧
 CX Try.prog (92 : Nat) #[Value.int IntKind.i64 n17, Value.int IntKind.i64 n20] w12.drew fun (v21 : Value) (w22 : World) =>
 ∃ (t23 : Bool),
 v21 = Value.bool t23 ∧
 IfB t23
 (∃ (b24 : Nat),
 ∃ (b25 : Nat),
 t0.1 = some ({ block := b24, off := b25 } : Addr) ∧
 ((0 : Int) ≤ IntKind.i64.wrap (n11 - (1 : Int)) ∧ IntKind.i64.wrap (n11 - (1 : Int)) < (t0.2 : Int)) ∧
 ∃ (n26 : Int),
 w22.drew.cell? ({ block := b24, off := b25 + (IntKind.i64.wrap (n11 - (1 : Int))).toNat } : Addr) = some (Value.int IntKind.i64 n26) ∧
 ∃ (b27 : Nat),
 ∃ (b28 : Nat),
 t0.1 = some ({ block := b27, off := b28 } : Addr) ∧
 ((0 : Int) ≤ n11 ∧ n11 < (t0.2 : Int)) ∧
 ∃ (n29 : Int),
 w22.drew.cell? ({ block := b27, off := b28 + n11.toNat } : Addr) = some (Value.int IntKind.i64 n29) ∧
 ∃ (b30 : Nat),
 ∃ (b31 : Nat),
 t0.1 = some ({ block := b30, off := b31 } : Addr) ∧
 ((0 : Int) ≤ n11 ∧ n11 < (t0.2 : Int)) ∧
 #[Value.int IntKind.i64 n26].size = (1 : Nat) ∧
 StoreP w22.drew b30 (b31 + n11.toNat) [Value.int IntKind.i64 n26] fun (w32 : World) =>
 ∃ (b33 : Nat),
 ∃ (b34 : Nat),
 t0.1 = some ({ block := b33, off := b34 } : Addr) ∧
 ((0 : Int) ≤ IntKind.i64.wrap (n11 - (1 : Int)) ∧ IntKind.i64.wrap (n11 - (1 : Int)) < (t0.2 : Int)) ∧
 #[Value.int IntKind.i64 n29].size = (1 : Nat) ∧
 StoreP w32 b33 (b34 + (IntKind.i64.wrap (n11 - (1 : Int))).toNat) [Value.int IntKind.i64 n29] fun (w35 : World) => ([] : List Nat) = [] ∧ ∃ (b36 : Nat), b36 < b10 ∧ y8 b36 (IntKind.i64.wrap (n11 - (1 : Int))) w35)
 (([] : List Nat) = [] ∧ ∃ (b37 : Nat), b37 < b3 ∧ y1 b37 (IntKind.i64.wrap (n4 + (1 : Int))) w22))
 (([] : List Nat) = [] ∧ ∃ (b38 : Nat), b38 < b3 ∧ y1 b38 (IntKind.i64.wrap (n4 + (1 : Int))) w12.drew)
def F86 (t0 : Sl) (t1 : Int) (t2 : Int) (w : World) (R : Value → World → Prop) : Prop :=
 ∃ (y1 : Nat → Int → World → Prop),
 (∃ (b2 : Nat), y1 b2 (IntKind.i64.wrap (t1 + (1 : Int))) w) ∧
 ∀ (b3 : Nat) (n4 : Int) (w5 : World) (y6 : Nat → Value),
 y1 b3 n4 w5 →
 IfB (decide (n4 < t2))
 (∃ (y8 : Nat → Int → World → Prop),
 (∃ (b9 : Nat), y8 b9 n4 w5) ∧
 ∀ (b10 : Nat) (n11 : Int) (w12 : World) (y13 : Nat → Value),
 y8 b10 n11 w12 →
 (F86j2 t0 t1 y1 b3 n4 y8 b10 n11 w12))
 (R (Value.tuple #[]) w5)
theorem F86_ok (t0 : Sl) (t1 : Int) (t2 : Int) (w : World) (R : Value → World → Prop) (h : F86 t0 t1 t2 w R) : CW Try.prog 86 #[Value.slice t0.1 t0.2 t0.3, Value.int IntKind.i64 t1, Value.int IntKind.i64 t2] w R :=
  call_of tbOk mixed en86 Try.func86 rfl (.node (.nil) (.loop [(6, .one (.int .i64))] [10, 11, 12, 15, 7, 16, 17, 18, 19, 20, 21, 22, 23, 24, 25, 26, 27, 28, 29, 30, 33, 34, 35, 36, 37, 38, 39, 40, 41, 42, 43, 44, 45, 46, 47, 48, 31, 32, 13, 14, 6] (.node (.nil) (.node (.node (.nil) (.loop [(7, .one (.int .i64))] [16, 17, 18, 19, 20, 21, 22, 23, 24, 25, 26, 27, 28, 29, 30, 33, 34, 35, 36, 37, 38, 39, 40, 41, 42, 43, 44, 45, 46, 47, 48, 31, 32, 7] (.node (.node (.draw (.st 0 (.st 1 (.st 2 (.st 3 (.st 4 (.st 5 (.st 6 (.st 7 (.st 8 (.st 9 (.st 10 (.st 11 (.st 12 (.ac 13 [] (.st 14 (.fin)) (.non)))))))))))))))) (.nil)) (.node (.draw (.st 0 (.st 1 (.st 2 (.st 3 (.st 4 (.st 5 (.st 6 (.st 7 (.st 8 (.st 9 (.st 10 (.st 11 (.st 12 (.st 13 (.st 14 (.ac 15 [4, 3, 2] (.st 16 (.ac 17 [] (.fin) (.non))) (.non)))))))))))))))))) (.nil))))) (.nil))))) (by kernel_rfl) (Nat.le_of_ble_eq_true (by kernel_rfl)) (Eq.mp (α := F86 t0 t1 t2 w R) (by kernel_rfl) h)
def F87j2 (t0 : Sl) (t1 : Int) (R : Value → World → Prop) (y12 : Nat → Int → World → Prop) (b14 : Nat) (n15 : Int) (w16 : World) : Prop :=
 IfB (decide ((0 : Int) ≤ n15))
 (∃ (b19 : Nat),
 ∃ (b20 : Nat),
 t0.1 = some ({ block := b19, off := b20 } : Addr) ∧
 ((0 : Int) ≤ IntKind.i64.wrap (t1 + n15) ∧ IntKind.i64.wrap (t1 + n15) < (t0.2 : Int)) ∧
 ∃ (n21 : Int),
 w16.drew.cell? ({ block := b19, off := b20 + (IntKind.i64.wrap (t1 + n15)).toNat } : Addr) = some (Value.int IntKind.i64 n21) ∧
 ∃ (b22 : Nat),
 ∃ (b23 : Nat),
 t0.1 = some ({ block := b22, off := b23 } : Addr) ∧
 ((0 : Int) ≤ t1 ∧ t1 < (t0.2 : Int)) ∧
 ∃ (n24 : Int),
 w16.drew.cell? ({ block := b22, off := b23 + t1.toNat } : Addr) = some (Value.int IntKind.i64 n24) ∧
 ∃ (b25 : Nat),
 ∃ (b26 : Nat),
 t0.1 = some ({ block := b25, off := b26 } : Addr) ∧
 ((0 : Int) ≤ t1 ∧ t1 < (t0.2 : Int)) ∧
 #[Value.int IntKind.i64 n21].size = (1 : Nat) ∧
 StoreP w16.drew b25 (b26 + t1.toNat) [Value.int IntKind.i64 n21] fun (w27 : World) =>
 ∃ (b28 : Nat),
 ∃ (b29 : Nat),
 t0.1 = some ({ block := b28, off := b29 } : Addr) ∧
 ((0 : Int) ≤ IntKind.i64.wrap (t1 + n15) ∧ IntKind.i64.wrap (t1 + n15) < (t0.2 : Int)) ∧
 #[Value.int IntKind.i64 n24].size = (1 : Nat) ∧
 StoreP w27 b28 (b29 + (IntKind.i64.wrap (t1 + n15)).toNat) [Value.int IntKind.i64 n24] fun (w30 : World) =>
 CX Try.prog (108 : Nat) #[Value.slice t0.1 t0.2 t0.3, Value.int IntKind.i64 (0 : Int), Value.int IntKind.i64 n15, Value.int IntKind.i64 t1] w30 fun (v31 : Value) (w32 : World) =>
 ∃ (y33 : Unit), v31 = Value.tuple #[] ∧ ([] : List Nat) = [] ∧ ∃ (b34 : Nat), b34 < b14 ∧ y12 b34 (IntKind.i64.wrap (n15 - (1 : Int))) w32)
 (R (Value.tuple #[]) w16)
def F87j1 (t0 : Sl) (t1 : Int) (t2 : Int) (R : Value → World → Prop) (y1 : Nat → Int → World → Prop) (b3 : Nat) (n4 : Int) (w5 : World) : Prop :=
 IfB (decide ((0 : Int) ≤ n4))
 (CX Try.prog (108 : Nat) #[Value.slice t0.1 t0.2 t0.3, Value.int IntKind.i64 n4, Value.int IntKind.i64 (IntKind.i64.wrap (t2 - t1)), Value.int IntKind.i64 t1] w5
 fun (v8 : Value) (w9 : World) => ∃ (y10 : Unit), v8 = Value.tuple #[] ∧ ([] : List Nat) = [] ∧ ∃ (b11 : Nat), b11 < b3 ∧ y1 b11 (IntKind.i64.wrap (n4 - (1 : Int))) w9)
 (∃ (y12 : Nat → Int → World → Prop),
 (∃ (b13 : Nat), y12 b13 (IntKind.i64.wrap (IntKind.i64.wrap (t2 - t1) - (1 : Int))) w5) ∧
 ∀ (b14 : Nat) (n15 : Int) (w16 : World) (y17 : Nat → Value),
 y12 b14 n15 w16 →
 (F87j2 t0 t1 R y12 b14 n15 w16))
def F87 (t0 : Sl) (t1 : Int) (t2 : Int) (w : World) (R : Value → World → Prop) : Prop :=
 ¬(2 : Int) = (0 : Int) ∧
 ∃ (y1 : Nat → Int → World → Prop),
 (∃ (b2 : Nat), y1 b2 (IntKind.i64.wrap ((IntKind.i64.wrap (IntKind.i64.wrap (t2 - t1) - (1 : Int))).tdiv (2 : Int))) w) ∧
 ∀ (b3 : Nat) (n4 : Int) (w5 : World) (y6 : Nat → Value),
 y1 b3 n4 w5 →
 (F87j1 t0 t1 t2 R y1 b3 n4 w5)
theorem F87_ok (t0 : Sl) (t1 : Int) (t2 : Int) (w : World) (R : Value → World → Prop) (h : F87 t0 t1 t2 w R) : CW Try.prog 87 #[Value.slice t0.1 t0.2 t0.3, Value.int IntKind.i64 t1, Value.int IntKind.i64 t2] w R :=
  call_of tbOk mixed en87 Try.func87 rfl (.node (.nil) (.node (.nil) (.node (.nil) (.node (.node (.nil) (.loop [(9, .one (.int .i64))] [18, 19, 22, 23, 24, 25, 26, 20, 21, 9] (.nil))) (.node (.nil) (.loop [(10, .one (.int .i64))] [29, 30, 33, 34, 35, 36, 37, 38, 39, 40, 41, 42, 43, 44, 45, 46, 47, 48, 49, 50, 51, 52, 53, 54, 55, 31, 32, 10] (.node (.nil) (.node (.node (.draw (.st 0 (.st 1 (.st 2 (.st 3 (.st 4 (.st 5 (.st 6 (.st 7 (.st 8 (.st 9 (.st 10 (.st 11 (.st 12 (.st 13 (.st 14 (.st 15 (.st 16 (.ac 17 [5, 4, 3, 2] (.st 18 (.ac 19 [] (.fin) (.non))) (.non)))))))))))))))))))) (.nil)) (.nil))))))))) (by kernel_rfl) (Nat.le_of_ble_eq_true (by kernel_rfl)) (Eq.mp (α := F87 t0 t1 t2 w R) (by kernel_rfl) h)
def F88j2 (t0 : Sl) (t1 : Int) (y7 : Nat → Int → World → Prop) (b9 : Nat) (n10 : Int) (n18 : Int) (w19 : World) : Prop :=
 ∃ (b22 : Nat),
 ∃ (b23 : Nat),
 t0.1 = some ({ block := b22, off := b23 } : Addr) ∧
 ((0 : Int) ≤ IntKind.i64.wrap (t1 + n18) ∧ IntKind.i64.wrap (t1 + n18) < (t0.2 : Int)) ∧
 ∃ (n24 : Int),
 w19.drew.cell? ({ block := b22, off := b23 + (IntKind.i64.wrap (t1 + n18)).toNat } : Addr) = some (Value.int IntKind.i64 n24) ∧
 ∃ (b25 : Nat),
 ∃ (b26 : Nat),
 t0.1 = some ({ block := b25, off := b26 } : Addr) ∧
 ((0 : Int) ≤ n10 ∧ n10 < (t0.2 : Int)) ∧
 ∃ (n27 : Int),
 w19.drew.cell? ({ block := b25, off := b26 + n10.toNat } : Addr) = some (Value.int IntKind.i64 n27) ∧
 ∃ (b28 : Nat),
 ∃ (b29 : Nat),
 t0.1 = some ({ block := b28, off := b29 } : Addr) ∧
 ((0 : Int) ≤ n10 ∧ n10 < (t0.2 : Int)) ∧
 #[Value.int IntKind.i64 n24].size = (1 : Nat) ∧
 StoreP w19.drew b28 (b29 + n10.toNat) [Value.int IntKind.i64 n24] fun (w30 : World) =>
 ∃ (b31 : Nat),
 ∃ (b32 : Nat),
 t0.1 = some ({ block := b31, off := b32 } : Addr) ∧
 ((0 : Int) ≤ IntKind.i64.wrap (t1 + n18) ∧ IntKind.i64.wrap (t1 + n18) < (t0.2 : Int)) ∧
 #[Value.int IntKind.i64 n27].size = (1 : Nat) ∧
 StoreP w30 b31 (b32 + (IntKind.i64.wrap (t1 + n18)).toNat) [Value.int IntKind.i64 n27] fun (w33 : World) => ([] : List Nat) = [] ∧ ∃ (b34 : Nat), b34 < b9 ∧ y7 b34 (IntKind.i64.wrap (n10 + (1 : Int))) w33
def F88j1 (t0 : Sl) (t1 : Int) (t2 : Int) (R : Value → World → Prop) (b1 : Nat) (n6 : Int) (y7 : Nat → Int → World → Prop) (b9 : Nat) (n10 : Int) (w11 : World) : Prop :=
 ¬(4 : Int) = (0 : Int) ∧
 IfB (decide (n10 ≤ IntKind.i64.wrap (IntKind.i64.wrap (t1 + IntKind.i64.wrap (IntKind.i64.wrap ((IntKind.i64.wrap (t2 - t1)).tdiv (4 : Int)) * (2 : Int))) + (1 : Int))))
 (CX Try.prog (105 : Nat) #[Value.pointer (some ({ block := b1, off := (0 : Nat) } : Addr))] w11 fun (v14 : Value) (w15 : World) =>
 ∃ (n16 : Int),
 v14 = Value.int IntKind.u64 n16 ∧
 ∃ (y17 : Int → World → Prop),
 IfB (decide (IntKind.i64.wrap (t2 - t1) ≤ IntKind.i64.wrap (bitsI BinOp.and IntKind.u64 n16 (IntKind.u64.wrap (n6 - (1 : Int))))))
 (([] : List Nat) = [] ∧ y17 (IntKind.i64.wrap (IntKind.i64.wrap (bitsI BinOp.and IntKind.u64 n16 (IntKind.u64.wrap (n6 - (1 : Int)))) - IntKind.i64.wrap (t2 - t1))) w15)
 (([] : List Nat) = [] ∧ y17 (IntKind.i64.wrap (bitsI BinOp.and IntKind.u64 n16 (IntKind.u64.wrap (n6 - (1 : Int))))) w15) ∧
 ∀ (n18 : Int) (w19 : World) (y20 : Nat → Value),
 y17 n18 w19 →
 (F88j2 t0 t1 y7 b9 n10 n18 w19))
 (R (Value.tuple #[]) w11)
def F88 (t0 : Sl) (t1 : Int) (t2 : Int) (w : World) (R : Value → World → Prop) : Prop :=
 IfB (decide ((8 : Int) ≤ IntKind.i64.wrap (t2 - t1)))
 (AllocP w (Obj.cells #[Value.int IntKind.u64 (0 : Int)] (121 : Nat)) fun (b1 : Nat) (w2 : World) =>
 #[Value.int IntKind.u64 (IntKind.u64.wrap (IntKind.i64.wrap (t2 - t1)))].size = (1 : Nat) ∧
 StoreP w2 b1 (0 : Nat) [Value.int IntKind.u64 (IntKind.u64.wrap (IntKind.i64.wrap (t2 - t1)))] fun (w3 : World) =>
 CX Try.prog (104 : Nat) #[Value.int IntKind.i64 (IntKind.i64.wrap (t2 - t1))] w3 fun (v4 : Value) (w5 : World) =>
 ∃ (n6 : Int),
 v4 = Value.int IntKind.u64 n6 ∧
 ¬(4 : Int) = (0 : Int) ∧
 ∃ (y7 : Nat → Int → World → Prop),
 (∃ (b8 : Nat), y7 b8 (IntKind.i64.wrap (IntKind.i64.wrap (t1 + IntKind.i64.wrap (IntKind.i64.wrap ((IntKind.i64.wrap (t2 - t1)).tdiv (4 : Int)) * (2 : Int))) - (1 : Int))) w5) ∧
 ∀ (b9 : Nat) (n10 : Int) (w11 : World) (y12 : Nat → Value),
 y7 b9 n10 w11 →
 (F88j1 t0 t1 t2 R b1 n6 y7 b9 n10 w11))
 (R (Value.tuple #[]) w)
theorem F88_ok (t0 : Sl) (t1 : Int) (t2 : Int) (w : World) (R : Value → World → Prop) (h : F88 t0 t1 t2 w R) : CW Try.prog 88 #[Value.slice t0.1 t0.2 t0.3, Value.int IntKind.i64 t1, Value.int IntKind.i64 t2] w R :=
  call_of tbOk mixed en88 Try.func88 rfl (.node (.nil) (.node (.nil) (.node (.node (.nil) (.node (.nil) (.node (.nil) (.loop [(9, .one (.int .i64))] [26, 27, 28, 29, 30, 31, 32, 33, 36, 37, 38, 39, 40, 10, 41, 42, 43, 44, 45, 46, 47, 48, 49, 50, 51, 52, 53, 54, 55, 56, 57, 58, 59, 60, 61, 62, 63, 64, 34, 35, 9] (.node (.nil) (.node (.node (.nil) (.join [(10, .one (.int .i64))] [41, 42, 43, 44, 45, 46, 10] (.nil) (.draw (.st 0 (.st 1 (.st 2 (.st 3 (.st 4 (.st 5 (.st 6 (.st 7 (.st 8 (.st 9 (.st 10 (.st 11 (.st 12 (.st 13 (.st 14 (.st 15 (.st 16 (.ac 17 [5, 4, 3, 2] (.st 18 (.ac 19 [] (.fin) (.non))) (.non)))))))))))))))))))))) (.nil))))))) (.nil)))) (by kernel_rfl) (Nat.le_of_ble_eq_true (by kernel_rfl)) (Eq.mp (α := F88 t0 t1 t2 w R) (by kernel_rfl) h)
def F89j2 (R : Value → World → Prop) (b1 : Nat) (n21 : Int) (w22 : World) : Prop :=
 ∃ (n25 : Int),
 w22.cell? ({ block := b1, off := (0 : Nat) } : Addr) = some (Value.int IntKind.i64 n25) ∧
 IfB (n25 == (0 : Int)) (R (Value.tuple #[Value.int IntKind.i64 n21, Value.int IntKind.i64 (1 : Int)]) w22)
 (IfB (n25 == (12 : Int)) (R (Value.tuple #[Value.int IntKind.i64 n21, Value.int IntKind.i64 (2 : Int)]) w22)
 (R (Value.tuple #[Value.int IntKind.i64 n21, Value.int IntKind.i64 (0 : Int)]) w22))
def F89 (t0 : Sl) (t1 : Int) (t2 : Int) (w : World) (R : Value → World → Prop) : Prop :=
 AllocP w (Obj.cells #[Value.int IntKind.i64 (0 : Int)] (3 : Nat)) fun (b1 : Nat) (w2 : World) =>
 ¬(4 : Int) = (0 : Int) ∧
 ¬(4 : Int) = (0 : Int) ∧
 ¬(4 : Int) = (0 : Int) ∧
 ∃ (y3 : Int → World → Prop),
 IfB (decide ((8 : Int) ≤ IntKind.i64.wrap (t2 - t1)))
 (∃ (y4 : Int × Int × Int → World → Prop),
 IfB (decide ((50 : Int) ≤ IntKind.i64.wrap (t2 - t1)))
 (CX Try.prog (109 : Nat)
 #[Value.slice t0.1 t0.2 t0.3, Value.int IntKind.i64 (IntKind.i64.wrap (t1 + IntKind.i64.wrap (IntKind.i64.wrap ((IntKind.i64.wrap (t2 - t1)).tdiv (4 : Int)) * (1 : Int)))),
 Value.pointer (some ({ block := b1, off := (0 : Nat) } : Addr))]
 w2 fun (v5 : Value) (w6 : World) =>
 ∃ (n7 : Int),
 v5 = Value.int IntKind.i64 n7 ∧
 CX Try.prog (109 : Nat)
 #[Value.slice t0.1 t0.2 t0.3, Value.int IntKind.i64 (IntKind.i64.wrap (t1 + IntKind.i64.wrap (IntKind.i64.wrap ((IntKind.i64.wrap (t2 - t1)).tdiv (4 : Int)) * (2 : Int)))),
 Value.pointer (some ({ block := b1, off := (0 : Nat) } : Addr))]
 w6 fun (v8 : Value) (w9 : World) =>
 ∃ (n10 : Int),
 v8 = Value.int IntKind.i64 n10 ∧
 CX Try.prog (109 : Nat)
 #[Value.slice t0.1 t0.2 t0.3, Value.int IntKind.i64 (IntKind.i64.wrap (t1 + IntKind.i64.wrap (IntKind.i64.wrap ((IntKind.i64.wrap (t2 - t1)).tdiv (4 : Int)) * (3 : Int)))),
 Value.pointer (some ({ block := b1, off := (0 : Nat) } : Addr))]
 w9 fun (v11 : Value) (w12 : World) => ∃ (n13 : Int), v11 = Value.int IntKind.i64 n13 ∧ ([] : List Nat) = [] ∧ y4 (n7, n10, n13) w12)
 (([] : List Nat) = [] ∧
 y4
 (IntKind.i64.wrap (t1 + IntKind.i64.wrap (IntKind.i64.wrap ((IntKind.i64.wrap (t2 - t1)).tdiv (4 : Int)) * (1 : Int))),
 IntKind.i64.wrap (t1 + IntKind.i64.wrap (IntKind.i64.wrap ((IntKind.i64.wrap (t2 - t1)).tdiv (4 : Int)) * (2 : Int))),
 IntKind.i64.wrap (t1 + IntKind.i64.wrap (IntKind.i64.wrap ((IntKind.i64.wrap (t2 - t1)).tdiv (4 : Int)) * (3 : Int))))
 w2) ∧
 ∀ (x14 : Int × Int × Int) (w15 : World) (y16 : Nat → Value),
 y4 x14 w15 →
 CX Try.prog (110 : Nat)
 #[Value.slice t0.1 t0.2 t0.3, Value.int IntKind.i64 x14.1, Value.int IntKind.i64 x14.snd.1, Value.int IntKind.i64 x14.snd.2, Value.pointer (some ({ block := b1, off := (0 : Nat) } : Addr))] w15
 fun (v18 : Value) (w19 : World) => ∃ (n20 : Int), v18 = Value.int IntKind.i64 n20 ∧ ([] : List Nat) = [] ∧ y3 n20 w19)
 (([] : List Nat) = [] ∧ y3 (IntKind.i64.wrap (t1 + IntKind.i64.wrap (IntKind.i64.wrap ((IntKind.i64.wrap (t2 - t1)).tdiv (4 : Int)) * (2 : Int)))) w2) ∧
 ∀ (n21 : Int) (w22 : World) (y23 : Nat → Value),
 y3 n21 w22 →
 (F89j2 R b1 n21 w22)
theorem F89_ok (t0 : Sl) (t1 : Int) (t2 : Int) (w : World) (R : Value → World → Prop) (h : F89 t0 t1 t2 w R) : CW Try.prog 89 #[Value.slice t0.1 t0.2 t0.3, Value.int IntKind.i64 t1, Value.int IntKind.i64 t2] w R :=
  call_of tbOk mixed en89 Try.func89 rfl (.node (.nil) (.node (.nil) (.node (.nil) (.node (.nil) (.node (.nil) (.node (.nil) (.join [(11, .one (.int .i64))] [31, 32, 33, 34, 35, 36, 37, 10, 38, 39, 40, 11, 41, 42, 43, 12, 44, 45, 46, 47, 48] (.node (.nil) (.node (.join [(10, .one (.int .i64)), (11, .one (.int .i64)), (12, .one (.int .i64))] [33, 34, 35, 36, 37, 10, 38, 39, 40, 11, 41, 42, 43, 12] (.nil) (.nil)) (.nil))) (.nil)))))))) (by kernel_rfl) (Nat.le_of_ble_eq_true (by kernel_rfl)) (Eq.mp (α := F89 t0 t1 t2 w R) (by kernel_rfl) h)
def F90j1 (t0 : Sl) (R : Value → World → Prop) (y1 : Nat → Int × Int → World → Prop) (b3 : Nat) (x4 : Int × Int) (w5 : World) : Prop :=
 IfB (decide (x4.fst < x4.snd))
 (∃ (b8 : Nat),
 ∃ (b9 : Nat),
 t0.1 = some ({ block := b8, off := b9 } : Addr) ∧
 ((0 : Int) ≤ x4.2 ∧ x4.2 < (t0.2 : Int)) ∧
 ∃ (n10 : Int),
 w5.drew.cell? ({ block := b8, off := b9 + x4.2.toNat } : Addr) = some (Value.int IntKind.i64 n10) ∧
 ∃ (b11 : Nat),
 ∃ (b12 : Nat),
 t0.1 = some ({ block := b11, off := b12 } : Addr) ∧
 ((0 : Int) ≤ x4.1 ∧ x4.1 < (t0.2 : Int)) ∧
 ∃ (n13 : Int),
 w5.drew.cell? ({ block := b11, off := b12 + x4.1.toNat } : Addr) = some (Value.int IntKind.i64 n13) ∧
 ∃ (b14 : Nat),
 ∃ (b15 : Nat),
 t0.1 = some ({ block := b14, off := b15 } : Addr) ∧
 ((0 : Int) ≤ x4.1 ∧ x4.1 < (t0.2 : Int)) ∧
 #[Value.int IntKind.i64 n10].size = (1 : Nat) ∧
 StoreP w5.drew b14 (b15 + x4.1.toNat) [Value.int IntKind.i64 n10] fun (w16 : World) =>
 ∃ (b17 : Nat),
 ∃ (b18 : Nat),
 t0.1 = some ({ block := b17, off := b18 } : Addr) ∧
 ((0 : Int) ≤ x4.2 ∧ x4.2 < (t0.2 : Int)) ∧
 #[Value.int IntKind.i64 n13].size = (1 : Nat) ∧
 StoreP w16 b17 (b18 + x4.2.toNat) [Value.int IntKind.i64 n13] fun (w19 : World) =>
 ([] : List Nat) = [] ∧ ∃ (b20 : Nat), b20 < b3 ∧ y1 b20 (IntKind.i64.wrap (x4.1 + (1 : Int)), IntKind.i64.wrap (x4.2 - (1 : Int))) w19)
 (R (Value.tuple #[]) w5)
def F90 (t0 : Sl) (t1 : Int) (t2 : Int) (w : World) (R : Value → World → Prop) : Prop :=
 ∃ (y1 : Nat → Int × Int → World → Prop),
 (∃ (b2 : Nat), y1 b2 (t1, IntKind.i64.wrap (t2 - (1 : Int))) w) ∧
 ∀ (b3 : Nat) (x4 : Int × Int) (w5 : World) (y6 : Nat → Value),
 y1 b3 x4 w5 →
 (F90j1 t0 R y1 b3 x4 w5)
theorem F90_ok (t0 : Sl) (t1 : Int) (t2 : Int) (w : World) (R : Value → World → Prop) (h : F90 t0 t1 t2 w R) : CW Try.prog 90 #[Value.slice t0.1 t0.2 t0.3, Value.int IntKind.i64 t1, Value.int IntKind.i64 t2] w R :=
  call_of tbOk mixed en90 Try.func90 rfl (.node (.nil) (.node (.nil) (.loop [(6, .one (.int .i64)), (7, .one (.int .i64))] [11, 12, 13, 14, 15, 16, 17, 18, 19, 20, 21, 22, 23, 24, 25, 26, 27, 28, 29, 6, 30, 31, 7] (.node (.nil) (.node (.draw (.st 0 (.st 1 (.st 2 (.st 3 (.st 4 (.st 5 (.st 6 (.st 7 (.st 8 (.st 9 (.st 10 (.st 11 (.st 12 (.ac 13 [3, 2] (.st 14 (.ac 15 [] (.fin) (.non))) (.non)))))))))))))))) (.nil)))))) (by kernel_rfl) (Nat.le_of_ble_eq_true (by kernel_rfl)) (Eq.mp (α := F90 t0 t1 t2 w R) (by kernel_rfl) h)
def F91j2 (t0 : Sl) (t2 : Int) (y8 : Int → World → Prop) (y9 : Nat → Int → World → Prop) (b11 : Nat) (n12 : Int) (w13 : World) : Prop :=
 IfB (decide (n12 < t2))
 (∃ (b16 : Nat),
 ∃ (b17 : Nat),
 t0.1 = some ({ block := b16, off := b17 } : Addr) ∧
 ((0 : Int) ≤ n12 ∧ n12 < (t0.2 : Int)) ∧
 ∃ (n18 : Int),
 w13.drew.cell? ({ block := b16, off := b17 + n12.toNat } : Addr) = some (Value.int IntKind.i64 n18) ∧
 ∃ (b19 : Nat),
 ∃ (b20 : Nat),
 t0.1 = some ({ block := b19, off := b20 } : Addr) ∧
 ((0 : Int) ≤ IntKind.i64.wrap (n12 - (1 : Int)) ∧ IntKind.i64.wrap (n12 - (1 : Int)) < (t0.2 : Int)) ∧
 ∃ (n21 : Int),
 w13.drew.cell? ({ block := b19, off := b20 + (IntKind.i64.wrap (n12 - (1 : Int))).toNat } : Addr) = some (Value.int IntKind.i64 n21) ∧
 CX Try.prog (92 : Nat) #[Value.int IntKind.i64 n18, Value.int IntKind.i64 n21] w13.drew fun (v22 : Value) (w23 : World) =>
 ∃ (t24 : Bool), v22 = Value.bool t24 ∧ IfB (!t24) (([] : List Nat) = [] ∧ ∃ (b25 : Nat), b25 < b11 ∧ y9 b25 (IntKind.i64.wrap (n12 + (1 : Int))) w23) (([] : List Nat) = [] ∧ y8 n12 w23))
 (([] : List Nat) = [] ∧ y8 n12 w13.drew)
def F91j4 (t0 : Sl) (y42 : Unit → World → Prop) (y43 : Nat → Int → World → Prop) (b45 : Nat) (n46 : Int) (w47 : World) : Prop :=
 IfB (decide ((1 : Int) ≤ n46))
 (∃ (b50 : Nat),
 ∃ (b51 : Nat),
 t0.1 = some ({ block := b50, off := b51 } : Addr) ∧
 ((0 : Int) ≤ n46 ∧ n46 < (t0.2 : Int)) ∧
 ∃ (n52 : Int),
 w47.drew.cell? ({ block := b50, off := b51 + n46.toNat } : Addr) = some (Value.int IntKind.i64 n52) ∧
 ∃ (b53 : Nat),
 ∃ (b54 : Nat),
 t0.1 = some ({ block := b53, off := b54 } : Addr) ∧
 ((0 : Int) ≤ IntKind.i64.wrap (n46 - (1 : Int)) ∧ IntKind.i64.wrap (n46 - (1 : Int)) < (t0.2 : Int)) ∧
 ∃ (n55 : Int),
 w47.drew.cell? ({ block := b53, off := b54 + (IntKind.i64.wrap (n46 - (1 : Int))).toNat } : Addr) = some (Value.int IntKind.i64 n55) ∧
 CX Try.prog (92 : Nat) #[Value.int IntKind.i64 n52, Value.int IntKind.i64 n55] w47.drew fun (v56 : Value) (w57 : World) =>
 ∃ (t58 : Bool),
 v56 = Value.bool t58 ∧
 IfB (!t58) (([] : List Nat) = [] ∧ y42 PUnit.unit w57)
 (∃ (b59 : Nat),
 ∃ (b60 : Nat),
 t0.1 = some ({ block := b59, off := b60 } : Addr) ∧
 ((0 : Int) ≤ IntKind.i64.wrap (n46 - (1 : Int)) ∧ IntKind.i64.wrap (n46 - (1 : Int)) < (t0.2 : Int)) ∧
 ∃ (n61 : Int),
 w57.drew.cell? ({ block := b59, off := b60 + (IntKind.i64.wrap (n46 - (1 : Int))).toNat } : Addr) = some (Value.int IntKind.i64 n61) ∧
 ∃ (b62 : Nat),
 ∃ (b63 : Nat),
 t0.1 = some ({ block := b62, off := b63 } : Addr) ∧
 ((0 : Int) ≤ n46 ∧ n46 < (t0.2 : Int)) ∧
 ∃ (n64 : Int),
 w57.drew.cell? ({ block := b62, off := b63 + n46.toNat } : Addr) = some (Value.int IntKind.i64 n64) ∧
 ∃ (b65 : Nat),
 ∃ (b66 : Nat),
 t0.1 = some ({ block := b65, off := b66 } : Addr) ∧
 ((0 : Int) ≤ n46 ∧ n46 < (t0.2 : Int)) ∧
 #[Value.int IntKind.i64 n61].size = (1 : Nat) ∧
 StoreP w57.drew b65 (b66 + n46.toNat) [Value.int IntKind.i64 n61] fun (w67 : World) =>
 ∃ (b68 : Nat),
 ∃ (b69 : Nat),
 t0.1 = some ({ block := b68, off := b69 } : Addr) ∧
 ((0 : Int) ≤ IntKind.i64.wrap (n46 - (1 : Int)) ∧ IntKind.i64.wrap (n46 - (1 : Int)) < (t0.2 : Int)) ∧
 #[Value.int IntKind.i64 n64].size = (1 : Nat) ∧
 StoreP w67 b68 (b69 + (IntKind.i64.wrap (n46 - (1 : Int))).toNat) [Value.int IntKind.i64 n64] fun (w70 : World) =>
 ([] : List Nat) = [] ∧ ∃ (b71 : Nat), b71 < b45 ∧ y43 b71 (IntKind.i64.wrap (n46 - (1 : Int))) w70))
 (([] : List Nat) = [] ∧ y42 PUnit.unit w47)
def F91j7 (t0 : Sl) (t2 : Int) (y1 : Nat → Int × Int → World → Prop) (b3 : Nat) (x4 : Int × Int) (n26 : Int) (y81 : Nat → Int → World → Prop) (b83 : Nat) (n84 : Int) (w85 : World) : Prop :=
 IfB (decide (n84 < t2))
 (∃ (b88 : Nat),
 ∃ (b89 : Nat),
 t0.1 = some ({ block := b88, off := b89 } : Addr) ∧
 ((0 : Int) ≤ n84 ∧ n84 < (t0.2 : Int)) ∧
 ∃ (n90 : Int),
 w85.drew.cell? ({ block := b88, off := b89 + n84.toNat } : Addr) = some (Value.int IntKind.i64 n90) ∧
 ∃ (b91 : Nat),
 ∃ (b92 : Nat),
 t0.1 = some ({ block := b91, off := b92 } : Addr) ∧
 ((0 : Int) ≤ IntKind.i64.wrap (n84 - (1 : Int)) ∧ IntKind.i64.wrap (n84 - (1 : Int)) < (t0.2 : Int)) ∧
 ∃ (n93 : Int),
 w85.drew.cell? ({ block := b91, off := b92 + (IntKind.i64.wrap (n84 - (1 : Int))).toNat } : Addr) = some (Value.int IntKind.i64 n93) ∧
 CX Try.prog (92 : Nat) #[Value.int IntKind.i64 n90, Value.int IntKind.i64 n93] w85.drew fun (v94 : Value) (w95 : World) =>
 ∃ (t96 : Bool),
 v94 = Value.bool t96 ∧
 IfB (!t96) (([] : List Nat) = [] ∧ ∃ (b97 : Nat), b97 < b3 ∧ y1 b97 (n26, IntKind.i64.wrap (x4.2 + (1 : Int))) w95)
 (∃ (b98 : Nat),
 ∃ (b99 : Nat),
 t0.1 = some ({ block := b98, off := b99 } : Addr) ∧
 ((0 : Int) ≤ IntKind.i64.wrap (n84 - (1 : Int)) ∧ IntKind.i64.wrap (n84 - (1 : Int)) < (t0.2 : Int)) ∧
 ∃ (n100 : Int),
 w95.drew.cell? ({ block := b98, off := b99 + (IntKind.i64.wrap (n84 - (1 : Int))).toNat } : Addr) = some (Value.int IntKind.i64 n100) ∧
 ∃ (b101 : Nat),
 ∃ (b102 : Nat),
 t0.1 = some ({ block := b101, off := b102 } : Addr) ∧
 ((0 : Int) ≤ n84 ∧ n84 < (t0.2 : Int)) ∧
 ∃ (n103 : Int),
 w95.drew.cell? ({ block := b101, off := b102 + n84.toNat } : Addr) = some (Value.int IntKind.i64 n103) ∧
 ∃ (b104 : Nat),
 ∃ (b105 : Nat),
 t0.1 = some ({ block := b104, off := b105 } : Addr) ∧
 ((0 : Int) ≤ n84 ∧ n84 < (t0.2 : Int)) ∧
 #[Value.int IntKind.i64 n100].size = (1 : Nat) ∧
 StoreP w95.drew b104 (b105 + n84.toNat) [Value.int IntKind.i64 n100] fun (w106 : World) =>
 ∃ (b107 : Nat),
 ∃ (b108 : Nat),
 t0.1 = some ({ block := b107, off := b108 } : Addr) ∧
 ((0 : Int) ≤ IntKind.i64.wrap (n84 - (1 : Int)) ∧ IntKind.i64.wrap (n84 - (1 : Int)) < (t0.2 : Int)) ∧
 #[Value.int IntKind.i64 n103].size = (1 : Nat) ∧
 StoreP w106 b107 (b108 + (IntKind.i64.wrap (n84 - (1 : Int))).toNat) [Value.int IntKind.i64 n103] fun (w109 : World) =>
 ([] : List Nat) = [] ∧ ∃ (b110 : Nat), b110 < b83 ∧ y81 b110 (IntKind.i64.wrap (n84 + (1 : Int))) w109))
 (([] : List Nat) = [] ∧ ∃ (b111 : Nat), b111 < b3 ∧ y1 b111 (n26, IntKind.i64.wrap (x4.2 + (1 : Int))) w85)
def F91j5 (t0 : Sl) (t2 : Int) (y1 : Nat → Int × Int → World → Prop) (b3 : Nat) (x4 : Int × Int) (n26 : Int) (w73 : World) : Prop :=
 ∃ (y76 : Bool → World → Prop),
 (([] : List Nat) = [] ∧ y76 (decide ((2 : Int) ≤ IntKind.i64.wrap (t2 - n26))) w73) ∧
 ∀ (t77 : Bool) (w78 : World) (y79 : Nat → Value),
 y76 t77 w78 →
 IfB t77
 (∃ (y81 : Nat → Int → World → Prop),
 (∃ (b82 : Nat), y81 b82 (IntKind.i64.wrap (n26 + (1 : Int))) w78) ∧
 ∀ (b83 : Nat) (n84 : Int) (w85 : World) (y86 : Nat → Value),
 y81 b83 n84 w85 →
 (F91j7 t0 t2 y1 b3 x4 n26 y81 b83 n84 w85))
 (([] : List Nat) = [] ∧ ∃ (b112 : Nat), b112 < b3 ∧ y1 b112 (n26, IntKind.i64.wrap (x4.2 + (1 : Int))) w78)
def F91j3 (t0 : Sl) (t1 : Int) (t2 : Int) (R : Value → World → Prop) (y1 : Nat → Int × Int → World → Prop) (b3 : Nat) (x4 : Int × Int) (n26 : Int) (w27 : World) : Prop :=
 IfB (n26 == t2) (R (Value.bool true) w27)
 (IfB (decide (IntKind.i64.wrap (t2 - t1) < (50 : Int))) (R (Value.bool false) w27)
 (∃ (b30 : Nat),
 ∃ (b31 : Nat),
 t0.1 = some ({ block := b30, off := b31 } : Addr) ∧
 ((0 : Int) ≤ IntKind.i64.wrap (n26 - (1 : Int)) ∧ IntKind.i64.wrap (n26 - (1 : Int)) < (t0.2 : Int)) ∧
 ∃ (n32 : Int),
 w27.drew.cell? ({ block := b30, off := b31 + (IntKind.i64.wrap (n26 - (1 : Int))).toNat } : Addr) = some (Value.int IntKind.i64 n32) ∧
 ∃ (b33 : Nat),
 ∃ (b34 : Nat),
 t0.1 = some ({ block := b33, off := b34 } : Addr) ∧
 ((0 : Int) ≤ n26 ∧ n26 < (t0.2 : Int)) ∧
 ∃ (n35 : Int),
 w27.drew.cell? ({ block := b33, off := b34 + n26.toNat } : Addr) = some (Value.int IntKind.i64 n35) ∧
 ∃ (b36 : Nat),
 ∃ (b37 : Nat),
 t0.1 = some ({ block := b36, off := b37 } : Addr) ∧
 ((0 : Int) ≤ n26 ∧ n26 < (t0.2 : Int)) ∧
 #[Value.int IntKind.i64 n32].size = (1 : Nat) ∧
 StoreP w27.drew b36 (b37 + n26.toNat) [Value.int IntKind.i64 n32] fun (w38 : World) =>
 ∃ (b39 : Nat),
 ∃ (b40 : Nat),
 t0.1 = some ({ block := b39, off := b40 } : Addr) ∧
 ((0 : Int) ≤ IntKind.i64.wrap (n26 - (1 : Int)) ∧ IntKind.i64.wrap (n26 - (1 : Int)) < (t0.2 : Int)) ∧
 #[Value.int IntKind.i64 n35].size = (1 : Nat) ∧
 StoreP w38 b39 (b40 + (IntKind.i64.wrap (n26 - (1 : Int))).toNat) [Value.int IntKind.i64 n35] fun (w41 : World) =>
 ∃ (y42 : Unit → World → Prop),
 IfB (decide ((2 : Int) ≤ IntKind.i64.wrap (n26 - t1)))
 (∃ (y43 : Nat → Int → World → Prop),
 (∃ (b44 : Nat), y43 b44 (IntKind.i64.wrap (n26 - (1 : Int))) w41) ∧
 ∀ (b45 : Nat) (n46 : Int) (w47 : World) (y48 : Nat → Value),
 y43 b45 n46 w47 →
 (F91j4 t0 y42 y43 b45 n46 w47))
 (([] : List Nat) = [] ∧ y42 PUnit.unit w41) ∧
 ∀ (y72 : Unit) (w73 : World) (y74 : Nat → Value),
 y42 y72 w73 →
 (F91j5 t0 t2 y1 b3 x4 n26 w73)))
def F91 (t0 : Sl) (t1 : Int) (t2 : Int) (w : World) (R : Value → World → Prop) : Prop :=
 ∃ (y1 : Nat → Int × Int → World → Prop),
 (∃ (b2 : Nat), y1 b2 (IntKind.i64.wrap (t1 + (1 : Int)), (0 : Int)) w) ∧
 ∀ (b3 : Nat) (x4 : Int × Int) (w5 : World) (y6 : Nat → Value),
 y1 b3 x4 w5 →
 IfB (decide (x4.snd < (5 : Int)))
 (∃ (y8 : Int → World → Prop),
 (∃ (y9 : Nat → Int → World → Prop),
 (∃ (b10 : Nat), y9 b10 x4.1 w5) ∧
 ∀ (b11 : Nat) (n12 : Int) (w13 : World) (y14 : Nat → Value),
 y9 b11 n12 w13 →
 (F91j2 t0 t2 y8 y9 b11 n12 w13)) ∧
 ∀ (n26 : Int) (w27 : World) (y28 : Nat → Value),
 y8 n26 w27 →
 (F91j3 t0 t1 t2 R y1 b3 x4 n26 w27))
 (R (Value.bool false) w5)
theorem F91_ok (t0 : Sl) (t1 : Int) (t2 : Int) (w : World) (R : Value → World → Prop) (h : F91 t0 t1 t2 w R) : CW Try.prog 91 #[Value.slice t0.1 t0.2 t0.3, Value.int IntKind.i64 t1, Value.int IntKind.i64 t2] w R :=
  call_of tbOk mixed en91 Try.func91 rfl (.node (.nil) (.node (.nil) (.node (.node (.nil) (.loop [(7, .one (.int .i64)), (8, .one (.int .i64))] [13, 14, 17, 18, 19, 20, 21, 22, 23, 24, 25, 26, 27, 28, 29, 30, 31, 32, 33, 34, 7, 35, 36, 37, 6, 38, 39, 40, 41, 42, 43, 44, 45, 46, 47, 48, 49, 50, 51, 52, 53, 54, 55, 56, 57, 58, 59, 60, 61, 62, 63, 9, 64, 65, 68, 69, 70, 71, 72, 73, 74, 75, 76, 77, 78, 79, 80, 81, 82, 83, 84, 85, 86, 87, 88, 89, 90, 91, 92, 93, 94, 66, 67, 95, 96, 97, 98, 99, 100, 10, 101, 102, 103, 106, 107, 108, 109, 110, 111, 112, 113, 114, 115, 116, 117, 118, 119, 120, 121, 122, 123, 124, 125, 126, 127, 128, 129, 130, 131, 132, 104, 105, 15, 16, 8] (.node (.nil) (.node (.join [(7, .one (.int .i64))] [17, 18, 19, 20, 21, 22, 23, 24, 25, 26, 27, 28, 29, 30, 31, 32, 33, 34, 7] (.loop [(7, .one (.int .i64))] [17, 18, 19, 20, 21, 22, 23, 24, 25, 26, 27, 28, 29, 30, 31, 32, 33, 34, 7] (.node (.node (.draw (.st 0 (.st 1 (.st 2 (.st 3 (.st 4 (.st 5 (.st 6 (.st 7 (.st 8 (.st 9 (.st 10 (.st 11 (.st 12 (.ac 13 [] (.st 14 (.st 15 (.fin))) (.non)))))))))))))))) (.nil)) (.nil))) (.node (.nil) (.node (.nil) (.node (.draw (.st 0 (.st 1 (.st 2 (.st 3 (.st 4 (.st 5 (.st 6 (.st 7 (.st 8 (.st 9 (.st 10 (.st 11 (.st 12 (.st 13 (.st 14 (.ac 15 [4, 3, 2] (.st 16 (.ac 17 [] (.fin) (.non))) (.non)))))))))))))))))) (.join [] [58, 59, 60, 61, 62, 63, 9, 64, 65, 68, 69, 70, 71, 72, 73, 74, 75, 76, 77, 78, 79, 80, 81, 82, 83, 84, 85, 86, 87, 88, 89, 90, 91, 92, 93, 94, 66, 67] (.node (.nil) (.node (.node (.nil) (.loop [(9, .one (.int .i64))] [64, 65, 68, 69, 70, 71, 72, 73, 74, 75, 76, 77, 78, 79, 80, 81, 82, 83, 84, 85, 86, 87, 88, 89, 90, 91, 92, 93, 94, 66, 67, 9] (.node (.nil) (.node (.node (.node (.draw (.st 0 (.st 1 (.st 2 (.st 3 (.st 4 (.st 5 (.st 6 (.st 7 (.st 8 (.ac 9 [] (.st 10 (.fin)) (.non)))))))))))) (.nil)) (.draw (.st 0 (.st 1 (.st 2 (.st 3 (.st 4 (.st 5 (.st 6 (.st 7 (.st 8 (.st 9 (.st 10 (.st 11 (.st 12 (.st 13 (.st 14 (.ac 15 [4, 3, 2] (.st 16 (.ac 17 [] (.fin) (.non))) (.non))))))))))))))))))) (.nil))))) (.nil))) (.join [(98, .one (.bool))] [95, 96, 97, 98] (.nil) (.node (.node (.nil) (.loop [(10, .one (.int .i64))] [101, 102, 103, 106, 107, 108, 109, 110, 111, 112, 113, 114, 115, 116, 117, 118, 119, 120, 121, 122, 123, 124, 125, 126, 127, 128, 129, 130, 131, 132, 104, 105, 10] (.node (.nil) (.node (.node (.node (.draw (.st 0 (.st 1 (.st 2 (.st 3 (.st 4 (.st 5 (.st 6 (.st 7 (.st 8 (.ac 9 [] (.st 10 (.fin)) (.non)))))))))))) (.nil)) (.draw (.st 0 (.st 1 (.st 2 (.st 3 (.st 4 (.st 5 (.st 6 (.st 7 (.st 8 (.st 9 (.st 10 (.st 11 (.st 12 (.st 13 (.st 14 (.ac 15 [4, 3, 2] (.st 16 (.ac 17 [] (.fin) (.non))) (.non))))))))))))))))))) (.nil))))) (.nil)))))))) (.nil))))) (.nil)))) (by kernel_rfl) (Nat.le_of_ble_eq_true (by kernel_rfl)) (Eq.mp (α := F91 t0 t1 t2 w R) (by kernel_rfl) h)
def F92 (t0 : Int) (t1 : Int) (w : World) (R : Value → World → Prop) : Prop :=
 CX Try.prog (63 : Nat) #[Value.int IntKind.i64 t0] w fun (v1 : Value) (w2 : World) =>
 ∃ (t3 : Bool),
 v1 = Value.bool t3 ∧
 IfB t3
 (CX Try.prog (63 : Nat) #[Value.int IntKind.i64 t1] w2 fun (v4 : Value) (w5 : World) =>
 ∃ (t6 : Bool), v4 = Value.bool t6 ∧ IfB (!t6) (R (Value.bool true) w5) (R (Value.bool (decide (t0 < t1))) w5))
 (R (Value.bool (decide (t0 < t1))) w2)
theorem F92_ok (t0 : Int) (t1 : Int) (w : World) (R : Value → World → Prop) (h : F92 t0 t1 w R) : CW Try.prog 92 #[Value.int IntKind.i64 t0, Value.int IntKind.i64 t1] w R :=
  call_of tbOk mixed en92 Try.func92 rfl (.nil) (by kernel_rfl) (Nat.le_of_ble_eq_true (by kernel_rfl)) (Eq.mp (α := F92 t0 t1 w R) (by kernel_rfl) h)
def F93j2 (t0 : Sl) (t1 : Int) (x16 : Int × Int) (y20 : Int → World → Prop) (y21 : Nat → Int → World → Prop) (b23 : Nat) (n24 : Int) (w25 : World) : Prop :=
 IfB (decide (n24 ≤ x16.snd))
 (∃ (b28 : Nat),
 ∃ (b29 : Nat),
 t0.1 = some ({ block := b28, off := b29 } : Addr) ∧
 ((0 : Int) ≤ t1 ∧ t1 < (t0.2 : Int)) ∧
 ∃ (n30 : Int),
 w25.drew.cell? ({ block := b28, off := b29 + t1.toNat } : Addr) = some (Value.int IntKind.i64 n30) ∧
 ∃ (b31 : Nat),
 ∃ (b32 : Nat),
 t0.1 = some ({ block := b31, off := b32 } : Addr) ∧
 ((0 : Int) ≤ n24 ∧ n24 < (t0.2 : Int)) ∧
 ∃ (n33 : Int),
 w25.drew.cell? ({ block := b31, off := b32 + n24.toNat } : Addr) = some (Value.int IntKind.i64 n33) ∧
 CX Try.prog (92 : Nat) #[Value.int IntKind.i64 n30, Value.int IntKind.i64 n33] w25.drew fun (v34 : Value) (w35 : World) =>
 ∃ (t36 : Bool), v34 = Value.bool t36 ∧ IfB (!t36) (([] : List Nat) = [] ∧ ∃ (b37 : Nat), b37 < b23 ∧ y21 b37 (IntKind.i64.wrap (n24 + (1 : Int))) w35) (([] : List Nat) = [] ∧ y20 n24 w35))
 (([] : List Nat) = [] ∧ y20 n24 w25.drew)
def F93j4 (t0 : Sl) (t1 : Int) (n38 : Int) (y42 : Int → World → Prop) (y43 : Nat → Int → World → Prop) (b45 : Nat) (n46 : Int) (w47 : World) : Prop :=
 IfB (decide (n38 ≤ n46))
 (∃ (b50 : Nat),
 ∃ (b51 : Nat),
 t0.1 = some ({ block := b50, off := b51 } : Addr) ∧
 ((0 : Int) ≤ t1 ∧ t1 < (t0.2 : Int)) ∧
 ∃ (n52 : Int),
 w47.drew.cell? ({ block := b50, off := b51 + t1.toNat } : Addr) = some (Value.int IntKind.i64 n52) ∧
 ∃ (b53 : Nat),
 ∃ (b54 : Nat),
 t0.1 = some ({ block := b53, off := b54 } : Addr) ∧
 ((0 : Int) ≤ n46 ∧ n46 < (t0.2 : Int)) ∧
 ∃ (n55 : Int),
 w47.drew.cell? ({ block := b53, off := b54 + n46.toNat } : Addr) = some (Value.int IntKind.i64 n55) ∧
 CX Try.prog (92 : Nat) #[Value.int IntKind.i64 n52, Value.int IntKind.i64 n55] w47.drew fun (v56 : Value) (w57 : World) =>
 ∃ (t58 : Bool), v56 = Value.bool t58 ∧ IfB t58 (([] : List Nat) = [] ∧ ∃ (b59 : Nat), b59 < b45 ∧ y43 b59 (IntKind.i64.wrap (n46 - (1 : Int))) w57) (([] : List Nat) = [] ∧ y42 n46 w57))
 (([] : List Nat) = [] ∧ y42 n46 w47.drew)
def F93j5 (t0 : Sl) (R : Value → World → Prop) (y13 : Nat → Int × Int → World → Prop) (b15 : Nat) (n38 : Int) (n60 : Int) (w61 : World) : Prop :=
 IfB (decide (n60 < n38)) (R (Value.int IntKind.i64 n38) w61)
 (∃ (b64 : Nat),
 ∃ (b65 : Nat),
 t0.1 = some ({ block := b64, off := b65 } : Addr) ∧
 ((0 : Int) ≤ n60 ∧ n60 < (t0.2 : Int)) ∧
 ∃ (n66 : Int),
 w61.drew.cell? ({ block := b64, off := b65 + n60.toNat } : Addr) = some (Value.int IntKind.i64 n66) ∧
 ∃ (b67 : Nat),
 ∃ (b68 : Nat),
 t0.1 = some ({ block := b67, off := b68 } : Addr) ∧
 ((0 : Int) ≤ n38 ∧ n38 < (t0.2 : Int)) ∧
 ∃ (n69 : Int),
 w61.drew.cell? ({ block := b67, off := b68 + n38.toNat } : Addr) = some (Value.int IntKind.i64 n69) ∧
 ∃ (b70 : Nat),
 ∃ (b71 : Nat),
 t0.1 = some ({ block := b70, off := b71 } : Addr) ∧
 ((0 : Int) ≤ n38 ∧ n38 < (t0.2 : Int)) ∧
 #[Value.int IntKind.i64 n66].size = (1 : Nat) ∧
 StoreP w61.drew b70 (b71 + n38.toNat) [Value.int IntKind.i64 n66] fun (w72 : World) =>
 ∃ (b73 : Nat),
 ∃ (b74 : Nat),
 t0.1 = some ({ block := b73, off := b74 } : Addr) ∧
 ((0 : Int) ≤ n60 ∧ n60 < (t0.2 : Int)) ∧
 #[Value.int IntKind.i64 n69].size = (1 : Nat) ∧
 StoreP w72 b73 (b74 + n60.toNat) [Value.int IntKind.i64 n69] fun (w75 : World) =>
 ([] : List Nat) = [] ∧ ∃ (b76 : Nat), b76 < b15 ∧ y13 b76 (IntKind.i64.wrap (n38 + (1 : Int)), IntKind.i64.wrap (n60 - (1 : Int))) w75)
def F93j1 (t0 : Sl) (t1 : Int) (R : Value → World → Prop) (y13 : Nat → Int × Int → World → Prop) (b15 : Nat) (x16 : Int × Int) (w17 : World) : Prop :=
 ∃ (y20 : Int → World → Prop),
 (∃ (y21 : Nat → Int → World → Prop),
 (∃ (b22 : Nat), y21 b22 x16.1 w17) ∧
 ∀ (b23 : Nat) (n24 : Int) (w25 : World) (y26 : Nat → Value),
 y21 b23 n24 w25 →
 (F93j2 t0 t1 x16 y20 y21 b23 n24 w25)) ∧
 ∀ (n38 : Int) (w39 : World) (y40 : Nat → Value),
 y20 n38 w39 →
 ∃ (y42 : Int → World → Prop),
 (∃ (y43 : Nat → Int → World → Prop),
 (∃ (b44 : Nat), y43 b44 x16.2 w39) ∧
 ∀ (b45 : Nat) (n46 : Int) (w47 : World) (y48 : Nat → Value),
 y43 b45 n46 w47 →
 (F93j4 t0 t1 n38 y42 y43 b45 n46 w47)) ∧
 ∀ (n60 : Int) (w61 : World) (y62 : Nat → Value),
 y42 n60 w61 →
 (F93j5 t0 R y13 b15 n38 n60 w61)
def F93 (t0 : Sl) (t1 : Int) (t2 : Int) (t3 : Int) (w : World) (R : Value → World → Prop) : Prop :=
 ∃ (b1 : Nat),
 ∃ (b2 : Nat),
 t0.1 = some ({ block := b1, off := b2 } : Addr) ∧
 ((0 : Int) ≤ t3 ∧ t3 < (t0.2 : Int)) ∧
 ∃ (n3 : Int),
 w.drew.cell? ({ block := b1, off := b2 + t3.toNat } : Addr) = some (Value.int IntKind.i64 n3) ∧
 ∃ (b4 : Nat),
 ∃ (b5 : Nat),
 t0.1 = some ({ block := b4, off := b5 } : Addr) ∧
 ((0 : Int) ≤ t1 ∧ t1 < (t0.2 : Int)) ∧
 ∃ (n6 : Int),
 w.drew.cell? ({ block := b4, off := b5 + t1.toNat } : Addr) = some (Value.int IntKind.i64 n6) ∧
 ∃ (b7 : Nat),
 ∃ (b8 : Nat),
 t0.1 = some ({ block := b7, off := b8 } : Addr) ∧
 ((0 : Int) ≤ t1 ∧ t1 < (t0.2 : Int)) ∧
 #[Value.int IntKind.i64 n3].size = (1 : Nat) ∧
 StoreP w.drew b7 (b8 + t1.toNat) [Value.int IntKind.i64 n3] fun (w9 : World) =>
 ∃ (b10 : Nat),
 ∃ (b11 : Nat),
 t0.1 = some ({ block := b10, off := b11 } : Addr) ∧
 ((0 : Int) ≤ t3 ∧ t3 < (t0.2 : Int)) ∧
 #[Value.int IntKind.i64 n6].size = (1 : Nat) ∧
 StoreP w9 b10 (b11 + t3.toNat) [Value.int IntKind.i64 n6] fun (w12 : World) =>
 ∃ (y13 : Nat → Int × Int → World → Prop),
 (∃ (b14 : Nat), y13 b14 (IntKind.i64.wrap (t1 + (1 : Int)), IntKind.i64.wrap (t2 - (1 : Int))) w12) ∧
 ∀ (b15 : Nat) (x16 : Int × Int) (w17 : World) (y18 : Nat → Value),
 y13 b15 x16 w17 →
 (F93j1 t0 t1 R y13 b15 x16 w17)
theorem F93_ok (t0 : Sl) (t1 : Int) (t2 : Int) (t3 : Int) (w : World) (R : Value → World → Prop) (h : F93 t0 t1 t2 t3 w R) : CW Try.prog 93 #[Value.slice t0.1 t0.2 t0.3, Value.int IntKind.i64 t1, Value.int IntKind.i64 t2, Value.int IntKind.i64 t3] w R :=
  call_of tbOk mixed en93 Try.func93 rfl (.node (.nil) (.node (.draw (.st 0 (.st 1 (.st 2 (.st 3 (.st 4 (.st 5 (.st 6 (.st 7 (.st 8 (.st 9 (.st 10 (.st 11 (.st 12 (.ac 13 [3, 2] (.st 14 (.ac 15 [] (.fin) (.non))) (.non)))))))))))))))) (.node (.nil) (.node (.loop [(9, .one (.int .i64)), (10, .one (.int .i64))] [29, 30, 31, 32, 33, 34, 35, 36, 37, 38, 39, 40, 41, 42, 43, 44, 45, 9, 46, 47, 48, 49, 50, 51, 52, 53, 54, 55, 56, 57, 58, 59, 60, 61, 10, 62, 63, 64, 65, 66, 67, 68, 69, 70, 71, 72, 73, 74, 75, 76, 77, 78, 79, 80, 81, 82] (.join [(9, .one (.int .i64))] [29, 30, 31, 32, 33, 34, 35, 36, 37, 38, 39, 40, 41, 42, 43, 44, 45, 9] (.loop [(9, .one (.int .i64))] [29, 30, 31, 32, 33, 34, 35, 36, 37, 38, 39, 40, 41, 42, 43, 44, 45, 9] (.node (.node (.draw (.st 0 (.st 1 (.st 2 (.st 3 (.st 4 (.st 5 (.st 6 (.st 7 (.st 8 (.st 9 (.st 10 (.st 11 (.ac 12 [] (.st 13 (.st 14 (.fin))) (.non))))))))))))))) (.nil)) (.nil))) (.join [(10, .one (.int .i64))] [46, 47, 48, 49, 50, 51, 52, 53, 54, 55, 56, 57, 58, 59, 60, 61, 10] (.loop [(10, .one (.int .i64))] [46, 47, 48, 49, 50, 51, 52, 53, 54, 55, 56, 57, 58, 59, 60, 61, 10] (.node (.node (.draw (.st 0 (.st 1 (.st 2 (.st 3 (.st 4 (.st 5 (.st 6 (.st 7 (.st 8 (.st 9 (.st 10 (.st 11 (.ac 12 [] (.st 13 (.fin)) (.non))))))))))))))) (.nil)) (.nil))) (.node (.nil) (.node (.draw (.st 0 (.st 1 (.st 2 (.st 3 (.st 4 (.st 5 (.st 6 (.st 7 (.st 8 (.st 9 (.st 10 (.st 11 (.st 12 (.ac 13 [3, 2] (.st 14 (.ac 15 [] (.fin) (.non))) (.non)))))))))))))))) (.nil)))))) (.nil))))) (by kernel_rfl) (Nat.le_of_ble_eq_true (by kernel_rfl)) (Eq.mp (α := F93 t0 t1 t2 t3 w R) (by kernel_rfl) h)
def F94k2 (t0 : Sl) (n92 : Int) (w93 : World) (t1 : Int) (b91 : Nat) (y89 : Nat → Int → World → Prop) (y88 : Int → World → Prop) : Prop :=
 ∃ (b96 : Nat),
 ∃ (b97 : Nat),
 t0.1 = some ({ block := b96, off := b97 } : Addr) ∧
 ((0 : Int) ≤ n92 ∧ n92 < (t0.2 : Int)) ∧
 ∃ (n98 : Int),
 w93.drew.cell? ({ block := b96, off := b97 + n92.toNat } : Addr) = some (Value.int IntKind.i64 n98) ∧
 ∃ (b99 : Nat),
 ∃ (b100 : Nat),
 t0.1 = some ({ block := b99, off := b100 } : Addr) ∧
 ((0 : Int) ≤ t1 ∧ t1 < (t0.2 : Int)) ∧
 ∃ (n101 : Int),
 w93.drew.cell? ({ block := b99, off := b100 + t1.toNat } : Addr) = some (Value.int IntKind.i64 n101) ∧
 CX Try.prog (92 : Nat) #[Value.int IntKind.i64 n98, Value.int IntKind.i64 n101] w93.drew fun (v102 : Value) (w103 : World) =>
 ∃ (t104 : Bool), v102 = Value.bool t104 ∧ IfB t104 (([] : List Nat) = [] ∧ ∃ (b105 : Nat), b105 < b91 ∧ y89 b105 (IntKind.i64.wrap (n92 + (1 : Int))) w103) (([] : List Nat) = [] ∧ y88 n92 w103)
def F94j1 (t0 : Sl) (t1 : Int) (t2 : Int) (y13 : Int → World → Prop) (y14 : Nat → Int → World → Prop) (b16 : Nat) (n17 : Int) (w18 : World) : Prop :=
 IfB (decide (n17 ≤ IntKind.i64.wrap (t2 - (1 : Int))))
 (F94k2 t0 n17 w18 t1 b16 y14 y13)
 (([] : List Nat) = [] ∧ y13 n17 w18.drew)
def F94k1 (t0 : Sl) (n114 : Int) (w115 : World) (t1 : Int) (b113 : Nat) (y111 : Nat → Int → World → Prop) (y110 : Int → World → Prop) : Prop :=
 ∃ (b118 : Nat),
 ∃ (b119 : Nat),
 t0.1 = some ({ block := b118, off := b119 } : Addr) ∧
 ((0 : Int) ≤ n114 ∧ n114 < (t0.2 : Int)) ∧
 ∃ (n120 : Int),
 w115.drew.cell? ({ block := b118, off := b119 + n114.toNat } : Addr) = some (Value.int IntKind.i64 n120) ∧
 ∃ (b121 : Nat),
 ∃ (b122 : Nat),
 t0.1 = some ({ block := b121, off := b122 } : Addr) ∧
 ((0 : Int) ≤ t1 ∧ t1 < (t0.2 : Int)) ∧
 ∃ (n123 : Int),
 w115.drew.cell? ({ block := b121, off := b122 + t1.toNat } : Addr) = some (Value.int IntKind.i64 n123) ∧
 CX Try.prog (92 : Nat) #[Value.int IntKind.i64 n120, Value.int IntKind.i64 n123] w115.drew fun (v124 : Value) (w125 : World) =>
 ∃ (t126 : Bool), v124 = Value.bool t126 ∧ IfB (!t126) (([] : List Nat) = [] ∧ ∃ (b127 : Nat), b127 < b113 ∧ y111 b127 (IntKind.i64.wrap (n114 - (1 : Int))) w125) (([] : List Nat) = [] ∧ y110 n114 w125)
def F94j3 (t0 : Sl) (t1 : Int) (n31 : Int) (y35 : Int → World → Prop) (y36 : Nat → Int → World → Prop) (b38 : Nat) (n39 : Int) (w40 : World) : Prop :=
 IfB (decide (n31 ≤ n39))
 (F94k1 t0 n39 w40 t1 b38 y36 y35)
 (([] : List Nat) = [] ∧ y35 n39 w40.drew)
def F94j6 (t0 : Sl) (t1 : Int) (x84 : Int × Int) (y88 : Int → World → Prop) (y89 : Nat → Int → World → Prop) (b91 : Nat) (n92 : Int) (w93 : World) : Prop :=
 IfB (decide (n92 ≤ x84.snd))
 (F94k2 t0 n92 w93 t1 b91 y89 y88)
 (([] : List Nat) = [] ∧ y88 n92 w93.drew)
def F94j8 (t0 : Sl) (t1 : Int) (n106 : Int) (y110 : Int → World → Prop) (y111 : Nat → Int → World → Prop) (b113 : Nat) (n114 : Int) (w115 : World) : Prop :=
 IfB (decide (n106 ≤ n114))
 (F94k1 t0 n114 w115 t1 b113 y111 y110)
 (([] : List Nat) = [] ∧ y110 n114 w115.drew)
def F94j9 (t0 : Sl) (t1 : Int) (R : Value → World → Prop) (y81 : Nat → Int × Int → World → Prop) (b83 : Nat) (n106 : Int) (n128 : Int) (w129 : World) : Prop :=
 IfB (decide (n128 < n106))
 (∃ (b132 : Nat),
 ∃ (b133 : Nat),
 t0.1 = some ({ block := b132, off := b133 } : Addr) ∧
 ((0 : Int) ≤ t1 ∧ t1 < (t0.2 : Int)) ∧
 ∃ (n134 : Int),
 w129.drew.cell? ({ block := b132, off := b133 + t1.toNat } : Addr) = some (Value.int IntKind.i64 n134) ∧
 ∃ (b135 : Nat),
 ∃ (b136 : Nat),
 t0.1 = some ({ block := b135, off := b136 } : Addr) ∧
 ((0 : Int) ≤ n128 ∧ n128 < (t0.2 : Int)) ∧
 ∃ (n137 : Int),
 w129.drew.cell? ({ block := b135, off := b136 + n128.toNat } : Addr) = some (Value.int IntKind.i64 n137) ∧
 ∃ (b138 : Nat),
 ∃ (b139 : Nat),
 t0.1 = some ({ block := b138, off := b139 } : Addr) ∧
 ((0 : Int) ≤ n128 ∧ n128 < (t0.2 : Int)) ∧
 #[Value.int IntKind.i64 n134].size = (1 : Nat) ∧
 StoreP w129.drew b138 (b139 + n128.toNat) [Value.int IntKind.i64 n134] fun (w140 : World) =>
 ∃ (b141 : Nat),
 ∃ (b142 : Nat),
 t0.1 = some ({ block := b141, off := b142 } : Addr) ∧
 ((0 : Int) ≤ t1 ∧ t1 < (t0.2 : Int)) ∧
 #[Value.int IntKind.i64 n137].size = (1 : Nat) ∧
 StoreP w140 b141 (b142 + t1.toNat) [Value.int IntKind.i64 n137] fun (w143 : World) => R (Value.tuple #[Value.int IntKind.i64 n128, Value.bool false]) w143)
 (∃ (b144 : Nat),
 ∃ (b145 : Nat),
 t0.1 = some ({ block := b144, off := b145 } : Addr) ∧
 ((0 : Int) ≤ n128 ∧ n128 < (t0.2 : Int)) ∧
 ∃ (n146 : Int),
 w129.drew.cell? ({ block := b144, off := b145 + n128.toNat } : Addr) = some (Value.int IntKind.i64 n146) ∧
 ∃ (b147 : Nat),
 ∃ (b148 : Nat),
 t0.1 = some ({ block := b147, off := b148 } : Addr) ∧
 ((0 : Int) ≤ n106 ∧ n106 < (t0.2 : Int)) ∧
 ∃ (n149 : Int),
 w129.drew.cell? ({ block := b147, off := b148 + n106.toNat } : Addr) = some (Value.int IntKind.i64 n149) ∧
 ∃ (b150 : Nat),
 ∃ (b151 : Nat),
 t0.1 = some ({ block := b150, off := b151 } : Addr) ∧
 ((0 : Int) ≤ n106 ∧ n106 < (t0.2 : Int)) ∧
 #[Value.int IntKind.i64 n146].size = (1 : Nat) ∧
 StoreP w129.drew b150 (b151 + n106.toNat) [Value.int IntKind.i64 n146] fun (w152 : World) =>
 ∃ (b153 : Nat),
 ∃ (b154 : Nat),
 t0.1 = some ({ block := b153, off := b154 } : Addr) ∧
 ((0 : Int) ≤ n128 ∧ n128 < (t0.2 : Int)) ∧
 #[Value.int IntKind.i64 n149].size = (1 : Nat) ∧
 StoreP w152 b153 (b154 + n128.toNat) [Value.int IntKind.i64 n149] fun (w155 : World) =>
 ([] : List Nat) = [] ∧ ∃ (b156 : Nat), b156 < b83 ∧ y81 b156 (IntKind.i64.wrap (n106 + (1 : Int)), IntKind.i64.wrap (n128 - (1 : Int))) w155)
def F94j5 (t0 : Sl) (t1 : Int) (R : Value → World → Prop) (y81 : Nat → Int × Int → World → Prop) (b83 : Nat) (x84 : Int × Int) (w85 : World) : Prop :=
 ∃ (y88 : Int → World → Prop),
 (∃ (y89 : Nat → Int → World → Prop),
 (∃ (b90 : Nat), y89 b90 x84.1 w85) ∧
 ∀ (b91 : Nat) (n92 : Int) (w93 : World) (y94 : Nat → Value),
 y89 b91 n92 w93 →
 (F94j6 t0 t1 x84 y88 y89 b91 n92 w93)) ∧
 ∀ (n106 : Int) (w107 : World) (y108 : Nat → Value),
 y88 n106 w107 →
 ∃ (y110 : Int → World → Prop),
 (∃ (y111 : Nat → Int → World → Prop),
 (∃ (b112 : Nat), y111 b112 x84.2 w107) ∧
 ∀ (b113 : Nat) (n114 : Int) (w115 : World) (y116 : Nat → Value),
 y111 b113 n114 w115 →
 (F94j8 t0 t1 n106 y110 y111 b113 n114 w115)) ∧
 ∀ (n128 : Int) (w129 : World) (y130 : Nat → Value),
 y110 n128 w129 →
 (F94j9 t0 t1 R y81 b83 n106 n128 w129)
def F94j4 (t0 : Sl) (t1 : Int) (R : Value → World → Prop) (n31 : Int) (n53 : Int) (w54 : World) : Prop :=
 IfB (decide (n53 < n31))
 (∃ (b57 : Nat),
 ∃ (b58 : Nat),
 t0.1 = some ({ block := b57, off := b58 } : Addr) ∧
 ((0 : Int) ≤ t1 ∧ t1 < (t0.2 : Int)) ∧
 ∃ (n59 : Int),
 w54.drew.cell? ({ block := b57, off := b58 + t1.toNat } : Addr) = some (Value.int IntKind.i64 n59) ∧
 ∃ (b60 : Nat),
 ∃ (b61 : Nat),
 t0.1 = some ({ block := b60, off := b61 } : Addr) ∧
 ((0 : Int) ≤ n53 ∧ n53 < (t0.2 : Int)) ∧
 ∃ (n62 : Int),
 w54.drew.cell? ({ block := b60, off := b61 + n53.toNat } : Addr) = some (Value.int IntKind.i64 n62) ∧
 ∃ (b63 : Nat),
 ∃ (b64 : Nat),
 t0.1 = some ({ block := b63, off := b64 } : Addr) ∧
 ((0 : Int) ≤ n53 ∧ n53 < (t0.2 : Int)) ∧
 #[Value.int IntKind.i64 n59].size = (1 : Nat) ∧
 StoreP w54.drew b63 (b64 + n53.toNat) [Value.int IntKind.i64 n59] fun (w65 : World) =>
 ∃ (b66 : Nat),
 ∃ (b67 : Nat),
 t0.1 = some ({ block := b66, off := b67 } : Addr) ∧
 ((0 : Int) ≤ t1 ∧ t1 < (t0.2 : Int)) ∧
 #[Value.int IntKind.i64 n62].size = (1 : Nat) ∧
 StoreP w65 b66 (b67 + t1.toNat) [Value.int IntKind.i64 n62] fun (w68 : World) => R (Value.tuple #[Value.int IntKind.i64 n53, Value.bool true]) w68)
 (∃ (b69 : Nat),
 ∃ (b70 : Nat),
 t0.1 = some ({ block := b69, off := b70 } : Addr) ∧
 ((0 : Int) ≤ n53 ∧ n53 < (t0.2 : Int)) ∧
 ∃ (n71 : Int),
 w54.drew.cell? ({ block := b69, off := b70 + n53.toNat } : Addr) = some (Value.int IntKind.i64 n71) ∧
 ∃ (b72 : Nat),
 ∃ (b73 : Nat),
 t0.1 = some ({ block := b72, off := b73 } : Addr) ∧
 ((0 : Int) ≤ n31 ∧ n31 < (t0.2 : Int)) ∧
 ∃ (n74 : Int),
 w54.drew.cell? ({ block := b72, off := b73 + n31.toNat } : Addr) = some (Value.int IntKind.i64 n74) ∧
 ∃ (b75 : Nat),
 ∃ (b76 : Nat),
 t0.1 = some ({ block := b75, off := b76 } : Addr) ∧
 ((0 : Int) ≤ n31 ∧ n31 < (t0.2 : Int)) ∧
 #[Value.int IntKind.i64 n71].size = (1 : Nat) ∧
 StoreP w54.drew b75 (b76 + n31.toNat) [Value.int IntKind.i64 n71] fun (w77 : World) =>
 ∃ (b78 : Nat),
 ∃ (b79 : Nat),
 t0.1 = some ({ block := b78, off := b79 } : Addr) ∧
 ((0 : Int) ≤ n53 ∧ n53 < (t0.2 : Int)) ∧
 #[Value.int IntKind.i64 n74].size = (1 : Nat) ∧
 StoreP w77 b78 (b79 + n53.toNat) [Value.int IntKind.i64 n74] fun (w80 : World) =>
 ∃ (y81 : Nat → Int × Int → World → Prop),
 (∃ (b82 : Nat), y81 b82 (IntKind.i64.wrap (n31 + (1 : Int)), IntKind.i64.wrap (n53 - (1 : Int))) w80) ∧
 ∀ (b83 : Nat) (x84 : Int × Int) (w85 : World) (y86 : Nat → Value),
 y81 b83 x84 w85 →
 (F94j5 t0 t1 R y81 b83 x84 w85))
def F94 (t0 : Sl) (t1 : Int) (t2 : Int) (t3 : Int) (w : World) (R : Value → World → Prop) : Prop :=
 ∃ (b1 : Nat),
 ∃ (b2 : Nat),
 t0.1 = some ({ block := b1, off := b2 } : Addr) ∧
 ((0 : Int) ≤ t3 ∧ t3 < (t0.2 : Int)) ∧
 ∃ (n3 : Int),
 w.drew.cell? ({ block := b1, off := b2 + t3.toNat } : Addr) = some (Value.int IntKind.i64 n3) ∧
 ∃ (b4 : Nat),
 ∃ (b5 : Nat),
 t0.1 = some ({ block := b4, off := b5 } : Addr) ∧
 ((0 : Int) ≤ t1 ∧ t1 < (t0.2 : Int)) ∧
 ∃ (n6 : Int),
 w.drew.cell? ({ block := b4, off := b5 + t1.toNat } : Addr) = some (Value.int IntKind.i64 n6) ∧
 ∃ (b7 : Nat),
 ∃ (b8 : Nat),
 t0.1 = some ({ block := b7, off := b8 } : Addr) ∧
 ((0 : Int) ≤ t1 ∧ t1 < (t0.2 : Int)) ∧
 #[Value.int IntKind.i64 n3].size = (1 : Nat) ∧
 StoreP w.drew b7 (b8 + t1.toNat) [Value.int IntKind.i64 n3] fun (w9 : World) =>
 ∃ (b10 : Nat),
 ∃ (b11 : Nat),
 t0.1 = some ({ block := b10, off := b11 } : Addr) ∧
 ((0 : Int) ≤ t3 ∧ t3 < (t0.2 : Int)) ∧
 #[Value.int IntKind.i64 n6].size = (1 : Nat) ∧
 StoreP w9 b10 (b11 + t3.toNat) [Value.int IntKind.i64 n6] fun (w12 : World) =>
 ∃ (y13 : Int → World → Prop),
 (∃ (y14 : Nat → Int → World → Prop),
 (∃ (b15 : Nat), y14 b15 (IntKind.i64.wrap (t1 + (1 : Int))) w12) ∧
 ∀ (b16 : Nat) (n17 : Int) (w18 : World) (y19 : Nat → Value),
 y14 b16 n17 w18 →
 (F94j1 t0 t1 t2 y13 y14 b16 n17 w18)) ∧
 ∀ (n31 : Int) (w32 : World) (y33 : Nat → Value),
 y13 n31 w32 →
 ∃ (y35 : Int → World → Prop),
 (∃ (y36 : Nat → Int → World → Prop),
 (∃ (b37 : Nat), y36 b37 (IntKind.i64.wrap (t2 - (1 : Int))) w32) ∧
 ∀ (b38 : Nat) (n39 : Int) (w40 : World) (y41 : Nat → Value),
 y36 b38 n39 w40 →
 (F94j3 t0 t1 n31 y35 y36 b38 n39 w40)) ∧
 ∀ (n53 : Int) (w54 : World) (y55 : Nat → Value),
 y35 n53 w54 →
 (F94j4 t0 t1 R n31 n53 w54)
theorem F94_ok (t0 : Sl) (t1 : Int) (t2 : Int) (t3 : Int) (w : World) (R : Value → World → Prop) (h : F94 t0 t1 t2 t3 w R) : CW Try.prog 94 #[Value.slice t0.1 t0.2 t0.3, Value.int IntKind.i64 t1, Value.int IntKind.i64 t2, Value.int IntKind.i64 t3] w R :=
  call_of tbOk mixed en94 Try.func94 rfl (.node (.nil) (.node (.draw (.st 0 (.st 1 (.st 2 (.st 3 (.st 4 (.st 5 (.st 6 (.st 7 (.st 8 (.st 9 (.st 10 (.st 11 (.st 12 (.ac 13 [3, 2] (.st 14 (.ac 15 [] (.fin) (.non))) (.non)))))))))))))))) (.node (.nil) (.join [(10, .one (.int .i64))] [30, 31, 32, 33, 34, 35, 36, 37, 38, 39, 40, 41, 42, 43, 44, 45, 10] (.loop [(10, .one (.int .i64))] [30, 31, 32, 33, 34, 35, 36, 37, 38, 39, 40, 41, 42, 43, 44, 45, 10] (.node (.node (.draw (.st 0 (.st 1 (.st 2 (.st 3 (.st 4 (.st 5 (.st 6 (.st 7 (.st 8 (.st 9 (.st 10 (.st 11 (.ac 12 [] (.st 13 (.fin)) (.non))))))))))))))) (.nil)) (.nil))) (.join [(11, .one (.int .i64))] [46, 47, 48, 49, 50, 51, 52, 53, 54, 55, 56, 57, 58, 59, 60, 61, 62, 11] (.loop [(11, .one (.int .i64))] [46, 47, 48, 49, 50, 51, 52, 53, 54, 55, 56, 57, 58, 59, 60, 61, 62, 11] (.node (.node (.draw (.st 0 (.st 1 (.st 2 (.st 3 (.st 4 (.st 5 (.st 6 (.st 7 (.st 8 (.st 9 (.st 10 (.st 11 (.ac 12 [] (.st 13 (.st 14 (.fin))) (.non))))))))))))))) (.nil)) (.nil))) (.node (.node (.nil) (.node (.node (.draw (.st 0 (.st 1 (.st 2 (.st 3 (.st 4 (.st 5 (.st 6 (.st 7 (.st 8 (.st 9 (.st 10 (.st 11 (.st 12 (.ac 13 [3, 2] (.st 14 (.ac 15 [] (.fin) (.non))) (.non)))))))))))))))) (.nil)) (.nil))) (.node (.draw (.st 0 (.st 1 (.st 2 (.st 3 (.st 4 (.st 5 (.st 6 (.st 7 (.st 8 (.st 9 (.st 10 (.st 11 (.st 12 (.ac 13 [3, 2] (.st 14 (.ac 15 [] (.fin) (.non))) (.non)))))))))))))))) (.node (.nil) (.node (.nil) (.node (.loop [(10, .one (.int .i64)), (11, .one (.int .i64))] [99, 100, 101, 102, 103, 104, 105, 106, 107, 108, 109, 110, 111, 112, 113, 114, 10, 115, 116, 117, 118, 119, 120, 121, 122, 123, 124, 125, 126, 127, 128, 129, 130, 131, 11, 132, 133, 134, 135, 136, 137, 138, 139, 140, 141, 142, 143, 144, 145, 146, 147, 148, 149, 150, 151, 152] (.join [(10, .one (.int .i64))] [99, 100, 101, 102, 103, 104, 105, 106, 107, 108, 109, 110, 111, 112, 113, 114, 10] (.loop [(10, .one (.int .i64))] [99, 100, 101, 102, 103, 104, 105, 106, 107, 108, 109, 110, 111, 112, 113, 114, 10] (.node (.node (.draw (.st 0 (.st 1 (.st 2 (.st 3 (.st 4 (.st 5 (.st 6 (.st 7 (.st 8 (.st 9 (.st 10 (.st 11 (.ac 12 [] (.st 13 (.fin)) (.non))))))))))))))) (.nil)) (.nil))) (.join [(11, .one (.int .i64))] [115, 116, 117, 118, 119, 120, 121, 122, 123, 124, 125, 126, 127, 128, 129, 130, 131, 11] (.loop [(11, .one (.int .i64))] [115, 116, 117, 118, 119, 120, 121, 122, 123, 124, 125, 126, 127, 128, 129, 130, 131, 11] (.node (.node (.draw (.st 0 (.st 1 (.st 2 (.st 3 (.st 4 (.st 5 (.st 6 (.st 7 (.st 8 (.st 9 (.st 10 (.st 11 (.ac 12 [] (.st 13 (.st 14 (.fin))) (.non))))))))))))))) (.nil)) (.nil))) (.node (.nil) (.node (.draw (.st 0 (.st 1 (.st 2 (.st 3 (.st 4 (.st 5 (.st 6 (.st 7 (.st 8 (.st 9 (.st 10 (.st 11 (.st 12 (.ac 13 [3, 2] (.st 14 (.ac 15 [] (.fin) (.non))) (.non)))))))))))))))) (.nil)))))) (.node (.draw (.st 0 (.st 1 (.st 2 (.st 3 (.st 4 (.st 5 (.st 6 (.st 7 (.st 8 (.st 9 (.st 10 (.st 11 (.st 12 (.ac 13 [3, 2] (.st 14 (.ac 15 [] (.fin) (.non))) (.non)))))))))))))))) (.nil)))))))))))) (by kernel_rfl) (Nat.le_of_ble_eq_true (by kernel_rfl)) (Eq.mp (α := F94 t0 t1 t2 t3 w R) (by kernel_rfl) h)
def F84k8 (t0 : Int) (R : Value → World → Prop) (w : World) : Prop :=
 (0 : Int) ≤ (8 : Int) ∧
 ∃ (y1 : UInt8),
 (0 : Int) ≤
 IntKind.u8.wrap
 (((t0.fdiv ((2 : Int) ^ min (Int.toNat (32 : Int)) IntKind.u64.bits)).fdiv ((2 : Int) ^ min (Int.toNat (16 : Int)) IntKind.u64.bits)).fdiv ((2 : Int) ^ min (Int.toNat (8 : Int)) IntKind.u64.bits)) ∧
 GxLSby0[(IntKind.u8.wrap
 (((t0.fdiv ((2 : Int) ^ min (Int.toNat (32 : Int)) IntKind.u64.bits)).fdiv ((2 : Int) ^ min (Int.toNat (16 : Int)) IntKind.u64.bits)).fdiv
 ((2 : Int) ^ min (Int.toNat (8 : Int)) IntKind.u64.bits))).toNat]? =
 some y1 ∧
 R (Value.int IntKind.i64 (IntKind.i64.wrap (IntKind.i64.wrap (IntKind.i64.wrap ((32 : Int) + (16 : Int)) + (8 : Int)) + IntKind.i64.wrap (y1.toNat : Int)))) w
def F84k5 (t0 : Int) (R : Value → World → Prop) (w : World) : Prop :=
 ∃ (y4 : UInt8),
 (0 : Int) ≤ IntKind.u8.wrap ((t0.fdiv ((2 : Int) ^ min (Int.toNat (32 : Int)) IntKind.u64.bits)).fdiv ((2 : Int) ^ min (Int.toNat (16 : Int)) IntKind.u64.bits)) ∧
 GxLSby0[(IntKind.u8.wrap ((t0.fdiv ((2 : Int) ^ min (Int.toNat (32 : Int)) IntKind.u64.bits)).fdiv ((2 : Int) ^ min (Int.toNat (16 : Int)) IntKind.u64.bits))).toNat]? =
 some y4 ∧
 R (Value.int IntKind.i64 (IntKind.i64.wrap (IntKind.i64.wrap ((32 : Int) + (16 : Int)) + IntKind.i64.wrap (y4.toNat : Int)))) w
def F84k6 (t0 : Int) (R : Value → World → Prop) (w : World) : Prop :=
 (0 : Int) ≤ (8 : Int) ∧
 ∃ (y7 : UInt8),
 (0 : Int) ≤ IntKind.u8.wrap ((t0.fdiv ((2 : Int) ^ min (Int.toNat (32 : Int)) IntKind.u64.bits)).fdiv ((2 : Int) ^ min (Int.toNat (8 : Int)) IntKind.u64.bits)) ∧
 GxLSby0[(IntKind.u8.wrap ((t0.fdiv ((2 : Int) ^ min (Int.toNat (32 : Int)) IntKind.u64.bits)).fdiv ((2 : Int) ^ min (Int.toNat (8 : Int)) IntKind.u64.bits))).toNat]? =
 some y7 ∧
 R (Value.int IntKind.i64 (IntKind.i64.wrap (IntKind.i64.wrap ((32 : Int) + (8 : Int)) + IntKind.i64.wrap (y7.toNat : Int)))) w
def F84k2 (t0 : Int) (R : Value → World → Prop) (w : World) : Prop :=
 ∃ (y10 : UInt8),
 (0 : Int) ≤ IntKind.u8.wrap (t0.fdiv ((2 : Int) ^ min (Int.toNat (32 : Int)) IntKind.u64.bits)) ∧
 GxLSby0[(IntKind.u8.wrap (t0.fdiv ((2 : Int) ^ min (Int.toNat (32 : Int)) IntKind.u64.bits))).toNat]? =
 some y10 ∧
 R (Value.int IntKind.i64 (IntKind.i64.wrap ((32 : Int) + IntKind.i64.wrap (y10.toNat : Int)))) w
def F84k7 (t0 : Int) (R : Value → World → Prop) (w : World) : Prop :=
 (0 : Int) ≤ (8 : Int) ∧
 ∃ (y13 : UInt8),
 (0 : Int) ≤ IntKind.u8.wrap ((t0.fdiv ((2 : Int) ^ min (Int.toNat (16 : Int)) IntKind.u64.bits)).fdiv ((2 : Int) ^ min (Int.toNat (8 : Int)) IntKind.u64.bits)) ∧
 GxLSby0[(IntKind.u8.wrap ((t0.fdiv ((2 : Int) ^ min (Int.toNat (16 : Int)) IntKind.u64.bits)).fdiv ((2 : Int) ^ min (Int.toNat (8 : Int)) IntKind.u64.bits))).toNat]? =
 some y13 ∧
 R (Value.int IntKind.i64 (IntKind.i64.wrap (IntKind.i64.wrap (IntKind.i64.wrap ((0 : Int) + (16 : Int)) + (8 : Int)) + IntKind.i64.wrap (y13.toNat : Int)))) w
def F84k3 (t0 : Int) (R : Value → World → Prop) (w : World) : Prop :=
 ∃ (y16 : UInt8),
 (0 : Int) ≤ IntKind.u8.wrap (t0.fdiv ((2 : Int) ^ min (Int.toNat (16 : Int)) IntKind.u64.bits)) ∧
 GxLSby0[(IntKind.u8.wrap (t0.fdiv ((2 : Int) ^ min (Int.toNat (16 : Int)) IntKind.u64.bits))).toNat]? =
 some y16 ∧
 R (Value.int IntKind.i64 (IntKind.i64.wrap (IntKind.i64.wrap ((0 : Int) + (16 : Int)) + IntKind.i64.wrap (y16.toNat : Int)))) w
def F84k4 (t0 : Int) (R : Value → World → Prop) (w : World) : Prop :=
 (0 : Int) ≤ (8 : Int) ∧
 ∃ (y19 : UInt8),
 (0 : Int) ≤ IntKind.u8.wrap (t0.fdiv ((2 : Int) ^ min (Int.toNat (8 : Int)) IntKind.u64.bits)) ∧
 GxLSby0[(IntKind.u8.wrap (t0.fdiv ((2 : Int) ^ min (Int.toNat (8 : Int)) IntKind.u64.bits))).toNat]? =
 some y19 ∧
 R (Value.int IntKind.i64 (IntKind.i64.wrap (IntKind.i64.wrap ((0 : Int) + (8 : Int)) + IntKind.i64.wrap (y19.toNat : Int)))) w
def F84k1 (t0 : Int) (R : Value → World → Prop) (w : World) : Prop :=
 ∃ (y22 : UInt8),
 (0 : Int) ≤ IntKind.u8.wrap t0 ∧
 GxLSby0[(IntKind.u8.wrap t0).toNat]? =
 some y22 ∧
 R (Value.int IntKind.i64 (IntKind.i64.wrap ((0 : Int) + IntKind.i64.wrap (y22.toNat : Int)))) w
def F84 (t0 : Int) (w : World) (R : Value → World → Prop) : Prop :=
 IfB (decide ((4294967296 : Int) ≤ t0))
 ((0 : Int) ≤ (32 : Int) ∧
 IfB (decide ((65536 : Int) ≤ t0.fdiv ((2 : Int) ^ min (Int.toNat (32 : Int)) IntKind.u64.bits)))
 ((0 : Int) ≤ (16 : Int) ∧
 IfB (decide ((256 : Int) ≤ (t0.fdiv ((2 : Int) ^ min (Int.toNat (32 : Int)) IntKind.u64.bits)).fdiv ((2 : Int) ^ min (Int.toNat (16 : Int)) IntKind.u64.bits)))
 (F84k8 t0 R w)
 (F84k5 t0 R w))
 (IfB (decide ((256 : Int) ≤ t0.fdiv ((2 : Int) ^ min (Int.toNat (32 : Int)) IntKind.u64.bits)))
 (F84k6 t0 R w)
 (F84k2 t0 R w)))
 (IfB (decide ((65536 : Int) ≤ t0))
 ((0 : Int) ≤ (16 : Int) ∧
 IfB (decide ((256 : Int) ≤ t0.fdiv ((2 : Int) ^ min (Int.toNat (16 : Int)) IntKind.u64.bits)))
 (F84k7 t0 R w)
 (F84k3 t0 R w))
 (IfB (decide ((256 : Int) ≤ t0))
 (F84k4 t0 R w)
 (F84k1 t0 R w)))
theorem F84_ok (t0 : Int) (w : World) (R : Value → World → Prop) (h : F84 t0 w R) : CW Try.prog 84 #[Value.int IntKind.u64 t0] w R :=
  call_of tbOk mixed en84 Try.func84 rfl (.nil) (by kernel_rfl) (Nat.le_of_ble_eq_true (by kernel_rfl)) (Eq.mp (α := F84 t0 w R) (by kernel_rfl) h)
def F108j2 (t0 : Sl) (t3 : Int) (R : Value → World → Prop) (y1 : Nat → Int → World → Prop) (b3 : Nat) (n4 : Int) (n18 : Int) (w19 : World) : Prop :=
 ∃ (b22 : Nat),
 ∃ (b23 : Nat),
 t0.1 = some ({ block := b22, off := b23 } : Addr) ∧
 ((0 : Int) ≤ IntKind.i64.wrap (t3 + n4) ∧ IntKind.i64.wrap (t3 + n4) < (t0.2 : Int)) ∧
 ∃ (n24 : Int),
 w19.drew.cell? ({ block := b22, off := b23 + (IntKind.i64.wrap (t3 + n4)).toNat } : Addr) = some (Value.int IntKind.i64 n24) ∧
 ∃ (b25 : Nat),
 ∃ (b26 : Nat),
 t0.1 = some ({ block := b25, off := b26 } : Addr) ∧
 ((0 : Int) ≤ IntKind.i64.wrap (t3 + n18) ∧ IntKind.i64.wrap (t3 + n18) < (t0.2 : Int)) ∧
 ∃ (n27 : Int),
 w19.drew.cell? ({ block := b25, off := b26 + (IntKind.i64.wrap (t3 + n18)).toNat } : Addr) = some (Value.int IntKind.i64 n27) ∧
 CX Try.prog (92 : Nat) #[Value.int IntKind.i64 n24, Value.int IntKind.i64 n27] w19.drew fun (v28 : Value) (w29 : World) =>
 ∃ (t30 : Bool),
 v28 = Value.bool t30 ∧
 IfB (!t30) (R (Value.tuple #[]) w29)
 (∃ (b31 : Nat),
 ∃ (b32 : Nat),
 t0.1 = some ({ block := b31, off := b32 } : Addr) ∧
 ((0 : Int) ≤ IntKind.i64.wrap (t3 + n18) ∧ IntKind.i64.wrap (t3 + n18) < (t0.2 : Int)) ∧
 ∃ (n33 : Int),
 w29.drew.cell? ({ block := b31, off := b32 + (IntKind.i64.wrap (t3 + n18)).toNat } : Addr) = some (Value.int IntKind.i64 n33) ∧
 ∃ (b34 : Nat),
 ∃ (b35 : Nat),
 t0.1 = some ({ block := b34, off := b35 } : Addr) ∧
 ((0 : Int) ≤ IntKind.i64.wrap (t3 + n4) ∧ IntKind.i64.wrap (t3 + n4) < (t0.2 : Int)) ∧
 ∃ (n36 : Int),
 w29.drew.cell? ({ block := b34, off := b35 + (IntKind.i64.wrap (t3 + n4)).toNat } : Addr) = some (Value.int IntKind.i64 n36) ∧
 ∃ (b37 : Nat),
 ∃ (b38 : Nat),
 t0.1 = some ({ block := b37, off := b38 } : Addr) ∧
 ((0 : Int) ≤ IntKind.i64.wrap (t3 + n4) ∧ IntKind.i64.wrap (t3 + n4) < (t0.2 : Int)) ∧
 #[Value.int IntKind.i64 n33].size = (1 : Nat) ∧
 StoreP w29.drew b37 (b38 + (IntKind.i64.wrap (t3 + n4)).toNat) [Value.int IntKind.i64 n33] fun (w39 : World) =>
 ∃ (b40 : Nat),
 ∃ (b41 : Nat),
 t0.1 = some ({ block := b40, off := b41 } : Addr) ∧
 ((0 : Int) ≤ IntKind.i64.wrap (t3 + n18) ∧ IntKind.i64.wrap (t3 + n18) < (t0.2 : Int)) ∧
 #[Value.int IntKind.i64 n36].size = (1 : Nat) ∧
 StoreP w39 b40 (b41 + (IntKind.i64.wrap (t3 + n18)).toNat) [Value.int IntKind.i64 n36] fun (w42 : World) => ([] : List Nat) = [] ∧ ∃ (b43 : Nat), b43 < b3 ∧ y1 b43 n18 w42)
def F108j1 (t0 : Sl) (t2 : Int) (t3 : Int) (R : Value → World → Prop) (y1 : Nat → Int → World → Prop) (b3 : Nat) (n4 : Int) (w5 : World) : Prop :=
 IfB (decide (t2 ≤ IntKind.i64.wrap (IntKind.i64.wrap ((2 : Int) * n4) + (1 : Int)))) (R (Value.tuple #[]) w5)
 (∃ (y8 : Int → World → Prop),
 IfB (decide (IntKind.i64.wrap (IntKind.i64.wrap (IntKind.i64.wrap ((2 : Int) * n4) + (1 : Int)) + (1 : Int)) < t2))
 (∃ (b9 : Nat),
 ∃ (b10 : Nat),
 t0.1 = some ({ block := b9, off := b10 } : Addr) ∧
 ((0 : Int) ≤ IntKind.i64.wrap (t3 + IntKind.i64.wrap (IntKind.i64.wrap ((2 : Int) * n4) + (1 : Int))) ∧
 IntKind.i64.wrap (t3 + IntKind.i64.wrap (IntKind.i64.wrap ((2 : Int) * n4) + (1 : Int))) < (t0.2 : Int)) ∧
 ∃ (n11 : Int),
 w5.drew.cell? ({ block := b9, off := b10 + (IntKind.i64.wrap (t3 + IntKind.i64.wrap (IntKind.i64.wrap ((2 : Int) * n4) + (1 : Int)))).toNat } : Addr) = some (Value.int IntKind.i64 n11) ∧
 ∃ (b12 : Nat),
 ∃ (b13 : Nat),
 t0.1 = some ({ block := b12, off := b13 } : Addr) ∧
 ((0 : Int) ≤ IntKind.i64.wrap (IntKind.i64.wrap (t3 + IntKind.i64.wrap (IntKind.i64.wrap ((2 : Int) * n4) + (1 : Int))) + (1 : Int)) ∧
 IntKind.i64.wrap (IntKind.i64.wrap (t3 + IntKind.i64.wrap (IntKind.i64.wrap ((2 : Int) * n4) + (1 : Int))) + (1 : Int)) < (t0.2 : Int)) ∧
 ∃ (n14 : Int),
 w5.drew.cell? ({ block := b12, off := b13 + (IntKind.i64.wrap (IntKind.i64.wrap (t3 + IntKind.i64.wrap (IntKind.i64.wrap ((2 : Int) * n4) + (1 : Int))) + (1 : Int))).toNat } : Addr) =
 some (Value.int IntKind.i64 n14) ∧
 CX Try.prog (92 : Nat) #[Value.int IntKind.i64 n11, Value.int IntKind.i64 n14] w5.drew fun (v15 : Value) (w16 : World) =>
 ∃ (t17 : Bool),
 v15 = Value.bool t17 ∧
 IfB t17 (([] : List Nat) = [] ∧ y8 (IntKind.i64.wrap (IntKind.i64.wrap (IntKind.i64.wrap ((2 : Int) * n4) + (1 : Int)) + (1 : Int))) w16)
 (([] : List Nat) = [] ∧ y8 (IntKind.i64.wrap (IntKind.i64.wrap ((2 : Int) * n4) + (1 : Int))) w16))
 (([] : List Nat) = [] ∧ y8 (IntKind.i64.wrap (IntKind.i64.wrap ((2 : Int) * n4) + (1 : Int))) w5.drew) ∧
 ∀ (n18 : Int) (w19 : World) (y20 : Nat → Value),
 y8 n18 w19 →
 (F108j2 t0 t3 R y1 b3 n4 n18 w19))
def F108 (t0 : Sl) (t1 : Int) (t2 : Int) (t3 : Int) (w : World) (R : Value → World → Prop) : Prop :=
 ∃ (y1 : Nat → Int → World → Prop),
 (∃ (b2 : Nat), y1 b2 t1 w) ∧
 ∀ (b3 : Nat) (n4 : Int) (w5 : World) (y6 : Nat → Value),
 y1 b3 n4 w5 →
 (F108j1 t0 t2 t3 R y1 b3 n4 w5)
theorem F108_ok (t0 : Sl) (t1 : Int) (t2 : Int) (t3 : Int) (w : World) (R : Value → World → Prop) (h : F108 t0 t1 t2 t3 w R) : CW Try.prog 108 #[Value.slice t0.1 t0.2 t0.3, Value.int IntKind.i64 t1, Value.int IntKind.i64 t2, Value.int IntKind.i64 t3] w R :=
  call_of tbOk mixed en108 Try.func108 rfl (.node (.nil) (.loop [(8, .one (.int .i64))] [11, 12, 13, 9, 14, 15, 16, 17, 18, 19, 20, 21, 22, 23, 24, 25, 26, 27, 28, 29, 30, 31, 32, 33, 34, 35, 36, 37, 38, 39, 40, 41, 42, 43, 44, 45, 46, 47, 48, 49, 50, 51, 52, 53, 54, 55, 56, 57, 58, 59, 60, 61, 62, 63, 64, 65, 66, 67, 68, 69, 70, 71, 72, 73, 74, 75, 8] (.node (.nil) (.node (.nil) (.join [(9, .one (.int .i64))] [17, 18, 19, 20, 21, 22, 23, 24, 25, 26, 27, 28, 29, 30, 31, 32, 33, 34, 35, 36, 37, 38, 9] (.node (.draw (.st 0 (.st 1 (.st 2 (.st 3 (.st 4 (.st 5 (.st 6 (.st 7 (.st 8 (.st 9 (.st 10 (.st 11 (.st 12 (.st 13 (.st 14 (.st 15 (.st 16 (.st 17 (.ac 18 [] (.st 19 (.fin)) (.non))))))))))))))))))))) (.nil)) (.node (.node (.draw (.st 0 (.st 1 (.st 2 (.st 3 (.st 4 (.st 5 (.st 6 (.st 7 (.st 8 (.st 9 (.st 10 (.st 11 (.ac 12 [] (.st 13 (.fin)) (.non))))))))))))))) (.nil)) (.node (.draw (.st 0 (.st 1 (.st 2 (.st 3 (.st 4 (.st 5 (.st 6 (.st 7 (.st 8 (.st 9 (.st 10 (.st 11 (.st 12 (.st 13 (.st 14 (.st 15 (.st 16 (.st 17 (.st 18 (.st 19 (.st 20 (.ac 21 [7, 6, 5, 4] (.st 22 (.ac 23 [] (.fin) (.non))) (.non)))))))))))))))))))))))) (.nil)))))))) (by kernel_rfl) (Nat.le_of_ble_eq_true (by kernel_rfl)) (Eq.mp (α := F108 t0 t1 t2 t3 w R) (by kernel_rfl) h)
def F104 (t0 : Int) (w : World) (R : Value → World → Prop) : Prop :=
 CX Try.prog (62 : Nat) #[Value.int IntKind.u64 (IntKind.u64.wrap t0)] w fun (v1 : Value) (w2 : World) =>
 ∃ (n3 : Int), v1 = Value.int IntKind.i64 n3 ∧ (0 : Int) ≤ n3 ∧ R (Value.int IntKind.u64 (IntKind.u64.wrap ((1 : Int) * (2 : Int) ^ min n3.toNat IntKind.u64.bits))) w2
theorem F104_ok (t0 : Int) (w : World) (R : Value → World → Prop) (h : F104 t0 w R) : CW Try.prog 104 #[Value.int IntKind.i64 t0] w R :=
  call_of tbOk mixed en104 Try.func104 rfl (.nil) (by kernel_rfl) (Nat.le_of_ble_eq_true (by kernel_rfl)) (Eq.mp (α := F104 t0 w R) (by kernel_rfl) h)
def F105 (t0 : Option Addr) (w : World) (R : Value → World → Prop) : Prop :=
 ∃ (b1 : Nat),
 ∃ (b2 : Nat),
 t0 = some ({ block := b1, off := b2 } : Addr) ∧
 ∃ (n3 : Int),
 w.drew.cell? ({ block := b1, off := b2 } : Addr) = some (Value.int IntKind.u64 n3) ∧
 ∃ (b4 : Nat),
 ∃ (b5 : Nat),
 t0 = some ({ block := b4, off := b5 } : Addr) ∧
 ∃ (n6 : Int),
 w.drew.cell? ({ block := b4, off := b5 } : Addr) = some (Value.int IntKind.u64 n6) ∧
 (0 : Int) ≤ (13 : Int) ∧
 ∃ (b7 : Nat),
 ∃ (b8 : Nat),
 t0 = some ({ block := b7, off := b8 } : Addr) ∧
 #[Value.int IntKind.u64 (bitsI BinOp.xor IntKind.u64 n3 (IntKind.u64.wrap (n6 * (2 : Int) ^ min (Int.toNat (13 : Int)) IntKind.u64.bits)))].size = (1 : Nat) ∧
 StoreP w.drew b7 b8 [Value.int IntKind.u64 (bitsI BinOp.xor IntKind.u64 n3 (IntKind.u64.wrap (n6 * (2 : Int) ^ min (Int.toNat (13 : Int)) IntKind.u64.bits)))] fun (w9 : World) =>
 ∃ (b10 : Nat),
 ∃ (b11 : Nat),
 t0 = some ({ block := b10, off := b11 } : Addr) ∧
 ∃ (n12 : Int),
 w9.drew.cell? ({ block := b10, off := b11 } : Addr) = some (Value.int IntKind.u64 n12) ∧
 ∃ (b13 : Nat),
 ∃ (b14 : Nat),
 t0 = some ({ block := b13, off := b14 } : Addr) ∧
 ∃ (n15 : Int),
 w9.drew.cell? ({ block := b13, off := b14 } : Addr) = some (Value.int IntKind.u64 n15) ∧
 (0 : Int) ≤ (7 : Int) ∧
 ∃ (b16 : Nat),
 ∃ (b17 : Nat),
 t0 = some ({ block := b16, off := b17 } : Addr) ∧
 #[Value.int IntKind.u64 (bitsI BinOp.xor IntKind.u64 n12 (n15.fdiv ((2 : Int) ^ min (Int.toNat (7 : Int)) IntKind.u64.bits)))].size = (1 : Nat) ∧
 StoreP w9.drew b16 b17 [Value.int IntKind.u64 (bitsI BinOp.xor IntKind.u64 n12 (n15.fdiv ((2 : Int) ^ min (Int.toNat (7 : Int)) IntKind.u64.bits)))] fun (w18 : World) =>
 ∃ (b19 : Nat),
 ∃ (b20 : Nat),
 t0 = some ({ block := b19, off := b20 } : Addr) ∧
 ∃ (n21 : Int),
 w18.drew.cell? ({ block := b19, off := b20 } : Addr) = some (Value.int IntKind.u64 n21) ∧
 ∃ (b22 : Nat),
 ∃ (b23 : Nat),
 t0 = some ({ block := b22, off := b23 } : Addr) ∧
 ∃ (n24 : Int),
 w18.drew.cell? ({ block := b22, off := b23 } : Addr) = some (Value.int IntKind.u64 n24) ∧
 (0 : Int) ≤ (17 : Int) ∧
 ∃ (b25 : Nat),
 ∃ (b26 : Nat),
 t0 = some ({ block := b25, off := b26 } : Addr) ∧
 #[Value.int IntKind.u64 (bitsI BinOp.xor IntKind.u64 n21 (IntKind.u64.wrap (n24 * (2 : Int) ^ min (Int.toNat (17 : Int)) IntKind.u64.bits)))].size = (1 : Nat) ∧
 StoreP w18.drew b25 b26 [Value.int IntKind.u64 (bitsI BinOp.xor IntKind.u64 n21 (IntKind.u64.wrap (n24 * (2 : Int) ^ min (Int.toNat (17 : Int)) IntKind.u64.bits)))] fun (w27 : World) =>
 ∃ (b28 : Nat), ∃ (b29 : Nat), t0 = some ({ block := b28, off := b29 } : Addr) ∧ ∃ (n30 : Int), w27.cell? ({ block := b28, off := b29 } : Addr) = some (Value.int IntKind.u64 n30) ∧ R (Value.int IntKind.u64 n30) w27
theorem F105_ok (t0 : Option Addr) (w : World) (R : Value → World → Prop) (h : F105 t0 w R) : CW Try.prog 105 #[Value.pointer t0] w R :=
  call_of tbOk mixed en105 Try.func105 rfl (.node (.nil) (.node (.draw (.st 0 (.st 1 (.st 2 (.st 3 (.st 4 (.st 5 (.st 6 (.st 7 (.st 8 (.ac 9 [] (.fin) (.non)))))))))))) (.node (.draw (.st 0 (.st 1 (.st 2 (.st 3 (.st 4 (.st 5 (.st 6 (.st 7 (.st 8 (.ac 9 [] (.fin) (.non)))))))))))) (.node (.draw (.st 0 (.st 1 (.st 2 (.st 3 (.st 4 (.st 5 (.st 6 (.st 7 (.st 8 (.ac 9 [] (.fin) (.non)))))))))))) (.nil))))) (by kernel_rfl) (Nat.le_of_ble_eq_true (by kernel_rfl)) (Eq.mp (α := F105 t0 w R) (by kernel_rfl) h)
def F109 (t0 : Sl) (t1 : Int) (t2 : Option Addr) (w : World) (R : Value → World → Prop) : Prop :=
 CX Try.prog (110 : Nat)
 #[Value.slice t0.1 t0.2 t0.3, Value.int IntKind.i64 (IntKind.i64.wrap (t1 - (1 : Int))), Value.int IntKind.i64 t1, Value.int IntKind.i64 (IntKind.i64.wrap (t1 + (1 : Int))), Value.pointer t2]
 w fun (v1 : Value) (w2 : World) => ∃ (n3 : Int), v1 = Value.int IntKind.i64 n3 ∧ R (Value.int IntKind.i64 n3) w2
theorem F109_ok (t0 : Sl) (t1 : Int) (t2 : Option Addr) (w : World) (R : Value → World → Prop) (h : F109 t0 t1 t2 w R) : CW Try.prog 109 #[Value.slice t0.1 t0.2 t0.3, Value.int IntKind.i64 t1, Value.pointer t2] w R :=
  call_of tbOk mixed en109 Try.func109 rfl (.nil) (by kernel_rfl) (Nat.le_of_ble_eq_true (by kernel_rfl)) (Eq.mp (α := F109 t0 t1 t2 w R) (by kernel_rfl) h)
def F110 (t0 : Sl) (t1 : Int) (t2 : Int) (t3 : Int) (t4 : Option Addr) (w : World) (R : Value → World → Prop) : Prop :=
 CX Try.prog (115 : Nat) #[Value.slice t0.1 t0.2 t0.3, Value.int IntKind.i64 t1, Value.int IntKind.i64 t2, Value.pointer t4] w fun (v1 : Value) (w2 : World) =>
 ∃ (x3 : Int × Int),
 v1 = Value.tuple #[Value.int IntKind.i64 x3.1, Value.int IntKind.i64 x3.2] ∧
 CX Try.prog (115 : Nat) #[Value.slice t0.1 t0.2 t0.3, Value.int IntKind.i64 x3.2, Value.int IntKind.i64 t3, Value.pointer t4] w2 fun (v4 : Value) (w5 : World) =>
 ∃ (x6 : Int × Int),
 v4 = Value.tuple #[Value.int IntKind.i64 x6.1, Value.int IntKind.i64 x6.2] ∧
 CX Try.prog (115 : Nat) #[Value.slice t0.1 t0.2 t0.3, Value.int IntKind.i64 x3.1, Value.int IntKind.i64 x6.1, Value.pointer t4] w5 fun (v7 : Value) (w8 : World) =>
 ∃ (x9 : Int × Int), v7 = Value.tuple #[Value.int IntKind.i64 x9.1, Value.int IntKind.i64 x9.2] ∧ R (Value.int IntKind.i64 x9.2) w8
theorem F110_ok (t0 : Sl) (t1 : Int) (t2 : Int) (t3 : Int) (t4 : Option Addr) (w : World) (R : Value → World → Prop) (h : F110 t0 t1 t2 t3 t4 w R) : CW Try.prog 110 #[Value.slice t0.1 t0.2 t0.3, Value.int IntKind.i64 t1, Value.int IntKind.i64 t2, Value.int IntKind.i64 t3, Value.pointer t4] w R :=
  call_of tbOk mixed en110 Try.func110 rfl (.nil) (by kernel_rfl) (Nat.le_of_ble_eq_true (by kernel_rfl)) (Eq.mp (α := F110 t0 t1 t2 t3 t4 w R) (by kernel_rfl) h)
def F63 (t0 : Int) (w : World) (R : Value → World → Prop) : Prop :=
 R (Value.bool (t0 != t0)) w
theorem F63_ok (t0 : Int) (w : World) (R : Value → World → Prop) (h : F63 t0 w R) : CW Try.prog 63 #[Value.int IntKind.i64 t0] w R :=
  call_of tbOk mixed en63 Try.func63 rfl (.nil) (by kernel_rfl) (Nat.le_of_ble_eq_true (by kernel_rfl)) (Eq.mp (α := F63 t0 w R) (by kernel_rfl) h)
def F115 (t0 : Sl) (t1 : Int) (t2 : Int) (t3 : Option Addr) (w : World) (R : Value → World → Prop) : Prop :=
 ∃ (b1 : Nat),
 ∃ (b2 : Nat),
 t0.1 = some ({ block := b1, off := b2 } : Addr) ∧
 ((0 : Int) ≤ t2 ∧ t2 < (t0.2 : Int)) ∧
 ∃ (n3 : Int),
 w.drew.cell? ({ block := b1, off := b2 + t2.toNat } : Addr) = some (Value.int IntKind.i64 n3) ∧
 ∃ (b4 : Nat),
 ∃ (b5 : Nat),
 t0.1 = some ({ block := b4, off := b5 } : Addr) ∧
 ((0 : Int) ≤ t1 ∧ t1 < (t0.2 : Int)) ∧
 ∃ (n6 : Int),
 w.drew.cell? ({ block := b4, off := b5 + t1.toNat } : Addr) = some (Value.int IntKind.i64 n6) ∧
 CX Try.prog (92 : Nat) #[Value.int IntKind.i64 n3, Value.int IntKind.i64 n6] w.drew fun (v7 : Value) (w8 : World) =>
 ∃ (t9 : Bool),
 v7 = Value.bool t9 ∧
 IfB t9
 (∃ (b10 : Nat),
 ∃ (b11 : Nat),
 t3 = some ({ block := b10, off := b11 } : Addr) ∧
 ∃ (n12 : Int),
 w8.cell? ({ block := b10, off := b11 } : Addr) = some (Value.int IntKind.i64 n12) ∧
 ∃ (b13 : Nat),
 ∃ (b14 : Nat),
 t3 = some ({ block := b13, off := b14 } : Addr) ∧
 #[Value.int IntKind.i64 (IntKind.i64.wrap (n12 + (1 : Int)))].size = (1 : Nat) ∧
 StoreP w8 b13 b14 [Value.int IntKind.i64 (IntKind.i64.wrap (n12 + (1 : Int)))] fun (w15 : World) => R (Value.tuple #[Value.int IntKind.i64 t2, Value.int IntKind.i64 t1]) w15)
 (R (Value.tuple #[Value.int IntKind.i64 t1, Value.int IntKind.i64 t2]) w8)
theorem F115_ok (t0 : Sl) (t1 : Int) (t2 : Int) (t3 : Option Addr) (w : World) (R : Value → World → Prop) (h : F115 t0 t1 t2 t3 w R) : CW Try.prog 115 #[Value.slice t0.1 t0.2 t0.3, Value.int IntKind.i64 t1, Value.int IntKind.i64 t2, Value.pointer t3] w R :=
  call_of tbOk mixed en115 Try.func115 rfl (.node (.nil) (.node (.node (.draw (.st 0 (.st 1 (.st 2 (.st 3 (.st 4 (.st 5 (.st 6 (.st 7 (.ac 8 [] (.fin) (.non))))))))))) (.nil)) (.nil))) (by kernel_rfl) (Nat.le_of_ble_eq_true (by kernel_rfl)) (Eq.mp (α := F115 t0 t1 t2 t3 w R) (by kernel_rfl) h)
end Go.Proofs.Ytmmhbjbaallkfaa.Gx

/- Merged: SrtA, SrtB, SrtC, SrtD, SrtE, SrtF, SrtG, SrtH, SrtI. -/
namespace Go.Proofs.Ytmmhbjbaallkfaa.Gx
open Go
set_option linter.unusedSimpArgs false
set_option linter.unusedVariables false
abbrev iv (n : Int) : Value := .int .i64 n
def g (xs : List Int) (i : Nat) : Int := xs.getD i 0
def swp (xs : List Int) (p q : Nat) : List Int := (xs.set p (g xs q)).set q (g xs p)
theorem swp_len (xs : List Int) (p q : Nat) : (swp xs p q).length = xs.length := by simp [swp]
theorem g_eq {xs : List Int} {i : Nat} (h : i < xs.length) : xs[i]? = some (g xs i) := by
  unfold g; rw [List.getElem?_eq_getElem h, List.getElem_eq_getD (fallback := 0)]
theorem g_swp {xs : List Int} {p q : Nat} (hp : p < xs.length) (hq : q < xs.length) (i : Nat) : g (swp xs p q) i = if i = q then g xs p else if i = p then g xs q else g xs i := by
  show ((xs.set p (g xs q)).set q (g xs p)).getD i 0 = _
  rw [List.getD_eq_getElem?_getD, List.getElem?_set, List.getElem?_set]
  by_cases h1 : q = i
  · subst h1; simp [hq]
  · by_cases h2 : p = i
    · subst h2; simp [h1, hp, Ne.symm h1]
    · simp only [if_neg h1, if_neg h2, if_neg (Ne.symm h1), if_neg (Ne.symm h2)]
      unfold g; rw [List.getD_eq_getElem?_getD]
theorem g_swq {xs : List Int} {p q : Nat} (hp : p < xs.length) (hq : q < xs.length) : g (swp xs p q) q = g xs p := by rw [g_swp hp hq, if_pos rfl]
theorem g_swl {xs : List Int} {p q : Nat} (hp : p < xs.length) (hq : q < xs.length) : g (swp xs p q) p = g xs q := by
  rw [g_swp hp hq]
  split
  · rename_i h; rw [h]
  · rw [if_pos rfl]
theorem g_swo {xs : List Int} {p q i : Nat} (hp : p < xs.length) (hq : q < xs.length) (h1 : i ≠ p) (h2 : i ≠ q) : g (swp xs p q) i = g xs i := by rw [g_swp hp hq, if_neg h2, if_neg h1]
theorem swp_perm {xs : List Int} {p q : Nat} (hp : p < xs.length) (hq : q < xs.length) : (swp xs p q).Perm xs := by
  have h := (Array.swap_perm (xs := xs.toArray) (i := p) (j := q) (by simpa using hp) (by simpa using hq)).toList
  have e : (xs.toArray.swap p q (by simpa using hp) (by simpa using hq)).toList = swp xs p q := by
    apply List.ext_getElem?
    intro i
    simp only [Array.swap, swp, Array.toList_set, List.getElem_toArray, g, List.getD_eq_getElem?_getD, List.getElem?_eq_getElem hp, List.getElem?_eq_getElem hq, Option.getD_some]
  rw [e] at h
  exact h
/-- Turned inside [a, b) alone, by swaps. -/
inductive PI (a b : Nat) (xs : List Int) : List Int → Prop
  | refl : PI a b xs xs
  | step {ys : List Int} {p q : Nat} : PI a b xs ys → a ≤ p → p < b → a ≤ q → q < b → b ≤ ys.length → PI a b xs (swp ys p q)
theorem PI.len {a b : Nat} {xs ys : List Int} (h : PI a b xs ys) : ys.length = xs.length := by
  induction h with
  | refl => rfl
  | step _ _ _ _ _ _ ih => rw [swp_len, ih]
theorem PI.perm {a b : Nat} {xs ys : List Int} (h : PI a b xs ys) : ys.Perm xs := by
  induction h with
  | refl => exact .refl _
  | step _ _ h2 _ h4 h5 ih => exact (swp_perm (by omega) (by omega)).trans ih
theorem PI.out {a b : Nat} {xs ys : List Int} (h : PI a b xs ys) {i : Nat} (hi : i < a ∨ b ≤ i) : g ys i = g xs i := by
  induction h with
  | refl => rfl
  | step _ h1 h2 h3 h4 h5 ih => rw [g_swp (by omega) (by omega), if_neg (by omega), if_neg (by omega), ih]
theorem PI.all {a b : Nat} {xs ys : List Int} (h : PI a b xs ys) {Q : Int → Prop} (hq : ∀ i, a ≤ i → i < b → Q (g xs i)) : ∀ i, a ≤ i → i < b → Q (g ys i) := by
  induction h with
  | refl => exact hq
  | step _ h1 h2 h3 h4 h5 ih =>
    intro i hi hi2
    rw [g_swp (by omega) (by omega)]
    split
    · exact ih _ h1 h2
    · split
      · exact ih _ h3 h4
      · exact ih _ hi hi2
theorem PI.mono {a b a' b' : Nat} {xs ys : List Int} (h : PI a b xs ys) (ha : a' ≤ a) (hb : b ≤ b') (hl : b' ≤ xs.length) : PI a' b' xs ys := by
  induction h with
  | refl => exact .refl
  | step h h1 h2 h3 h4 h5 ih => exact .step ih (by omega) (by omega) (by omega) (by omega) (by rw [h.len]; exact hl)
theorem PI.trans {a b : Nat} {xs ys zs : List Int} (h : PI a b xs ys) (k : PI a b ys zs) : PI a b xs zs := by
  induction k with
  | refl => exact h
  | step _ h1 h2 h3 h4 h5 ih => exact .step ih h1 h2 h3 h4 h5
/-- Sorted from a, ahead of b. -/
def SO (xs : List Int) (a b : Nat) : Prop := ∀ i j, a ≤ i → i < j → j < b → g xs i ≤ g xs j
def Ar (s : Sl) (b : Nat) (H : Array Obj) (xs : List Int) : Prop :=
  s.p = some ⟨b, 0, none⟩ ∧ s.n = xs.length ∧ xs.length ≤ 1000000 ∧ ∃ arr T, H[b]? = some (.cells arr T (0, 0)) ∧ arr.size = s.c ∧ s.n ≤ s.c ∧ arr.toList.take s.n = xs.map iv
abbrev CB (b : Nat) (w w' : World) : Prop := Ch (fun i => i = b) w w'
theorem Ar.own {s : Sl} {b : Nat} {w : World} {xs : List Int} (h : Ar s b w.heap xs) : OwS w s 1 (xs.map iv) := by
  obtain ⟨h1, h2, _, arr, T, h3, h4, h5, h6⟩ := h
  exact .inr ⟨b, arr, T, h1, h3, by omega, h5, by rw [Nat.mul_one]; exact h6⟩
theorem Ar.of {s : Sl} {w : World} {xs : List Int} (h : OwS w s 1 (xs.map iv)) (h0 : 0 < xs.length) (hl : xs.length ≤ 1000000) : ∃ b, Ar s b w.heap xs ∧ blk s = [b] := by
  have hn := h.len1
  rw [List.length_map] at hn
  rcases h with ⟨rfl, h⟩ | ⟨b, arr, T, h1, h3, h4, h5, h6⟩
  · rw [List.map_eq_nil_iff] at h; subst h; cases h0
  · exact ⟨b, ⟨h1, hn, hl, arr, T, h3, by omega, h5, by rw [Nat.mul_one] at h6; exact h6⟩, by simp [blk, h1]⟩
theorem Ar.lt {s : Sl} {b : Nat} {w : World} {xs : List Int} (h : Ar s b w.heap xs) : b < w.heap.size := by
  obtain ⟨_, _, _, _, _, h3, _⟩ := h
  exact heap_lt h3
theorem rd {s : Sl} {b : Nat} {w : World} {xs : List Int} (h : Ar s b w.heap xs) {i : Int} (h0 : 0 ≤ i) (h1 : i < xs.length) {K : Int → Prop} (k : K (g xs i.toNat)) :
    ∃ b1 b2 : Nat, s.1 = some ⟨b1, b2, none⟩ ∧ ((0 : Int) ≤ i ∧ i < (s.2 : Int)) ∧ ∃ n, w.cell? ⟨b1, b2 + i.toNat, none⟩ = some (.int .i64 n) ∧ K n := by
  obtain ⟨e1, e2, _, arr, T, e3, e4, e5, e6⟩ := h
  refine ⟨b, 0, e1, ⟨h0, by show i < (s.n : Int); omega⟩, _, ?_, k⟩
  rw [cell_of e3, Nat.zero_add, ← Array.getElem?_toList]
  have : (arr.toList.take s.n)[i.toNat]? = some (iv (g xs i.toNat)) := by rw [e6, List.getElem?_map, g_eq (by omega)]; rfl
  rw [List.getElem?_take, if_pos (by omega)] at this
  exact this
theorem wr {s : Sl} {b : Nat} {w : World} {xs : List Int} (h : Ar s b w.heap xs) {i x : Int} (h0 : 0 ≤ i) (h1 : i < xs.length) {K : World → Prop} (k : ∀ w', Ar s b w'.heap (xs.set i.toNat x) → CB b w w' → K w') :
    ∃ b1 b2 : Nat, s.1 = some ⟨b1, b2, none⟩ ∧ ((0 : Int) ≤ i ∧ i < (s.2 : Int)) ∧ #[Value.int .i64 x].size = 1 ∧ StoreP w b1 (b2 + i.toNat) [.int .i64 x] K := by
  obtain ⟨e1, e2, el, arr, T, e3, e4, e5, e6⟩ := h
  refine ⟨b, 0, e1, ⟨h0, by show i < (s.n : Int); omega⟩, rfl, store_one e3 (by omega) rfl fun w' hw => k w' ⟨e1, by rw [List.length_set]; exact e2, by rw [List.length_set]; exact el, _, T, hw.new, by rw [Array.size_setIfInBounds]; exact e4, e5, ?_⟩ hw.ch⟩
  rw [Nat.zero_add, Array.toList_setIfInBounds, List.take_set, e6, List.map_set]
/-- data[p], data[q] = data[q], data[p] -/
theorem sw {s : Sl} {b : Nat} {w : World} {xs : List Int} (h : Ar s b w.heap xs) {p q : Int} (hp0 : 0 ≤ p) (hp1 : p < xs.length) (hq0 : 0 ≤ q) (hq1 : q < xs.length) {K : World → Prop} (k : ∀ w', Ar s b w'.heap (swp xs p.toNat q.toNat) → CB b w w' → K w') :
    ∃ b1 b2 : Nat, s.1 = some ⟨b1, b2, none⟩ ∧ ((0 : Int) ≤ q ∧ q < (s.2 : Int)) ∧ ∃ n, w.cell? ⟨b1, b2 + q.toNat, none⟩ = some (.int .i64 n) ∧
    ∃ b3 b4 : Nat, s.1 = some ⟨b3, b4, none⟩ ∧ ((0 : Int) ≤ p ∧ p < (s.2 : Int)) ∧ ∃ m, w.cell? ⟨b3, b4 + p.toNat, none⟩ = some (.int .i64 m) ∧
    ∃ b5 b6 : Nat, s.1 = some ⟨b5, b6, none⟩ ∧ ((0 : Int) ≤ p ∧ p < (s.2 : Int)) ∧ #[Value.int .i64 n].size = 1 ∧ StoreP w b5 (b6 + p.toNat) [.int .i64 n] fun w1 =>
    ∃ b7 b8 : Nat, s.1 = some ⟨b7, b8, none⟩ ∧ ((0 : Int) ≤ q ∧ q < (s.2 : Int)) ∧ #[Value.int .i64 m].size = 1 ∧ StoreP w1 b7 (b8 + q.toNat) [.int .i64 m] K := by
  refine rd h hq0 hq1 (rd h hp0 hp1 (wr h hp0 hp1 fun w1 h1 c1 => wr h1 hq0 (by rw [List.length_set]; exact hq1) fun w2 h2 c2 => k w2 h2 (c1.trans c2)))
theorem c63 (x : Int) (w : World) : CW Try.prog 63 #[.int .i64 x] w fun v w' => v = .bool false ∧ w = w' :=
  F63_ok _ _ _ ⟨by simp, rfl⟩
theorem c92 (x y : Int) (w : World) : CW Try.prog 92 #[.int .i64 x, .int .i64 y] w fun v w' => v = .bool (decide (x < y)) ∧ w = w' := by
  refine F92_ok _ _ _ _ ((c63 x w).use ?_)
  rintro _ _ ⟨rfl, rfl⟩
  exact ⟨false, rfl, IfB.no rfl ⟨rfl, rfl⟩⟩
/-- cmp.Less(data[i], data[j]) -/
theorem ls {s : Sl} {b : Nat} {w : World} {xs : List Int} (h : Ar s b w.heap xs) {i j : Int} (hi0 : 0 ≤ i) (hi1 : i < xs.length) (hj0 : 0 ≤ j) (hj1 : j < xs.length) {K : Bool → World → Prop} (k : K (decide (g xs i.toNat < g xs j.toNat)) w) :
    ∃ b1 b2 : Nat, s.1 = some ⟨b1, b2, none⟩ ∧ ((0 : Int) ≤ i ∧ i < (s.2 : Int)) ∧ ∃ n, w.cell? ⟨b1, b2 + i.toNat, none⟩ = some (.int .i64 n) ∧
    ∃ b3 b4 : Nat, s.1 = some ⟨b3, b4, none⟩ ∧ ((0 : Int) ≤ j ∧ j < (s.2 : Int)) ∧ ∃ m, w.cell? ⟨b3, b4 + j.toNat, none⟩ = some (.int .i64 m) ∧
    CX Try.prog 92 #[.int .i64 n, .int .i64 m] w fun v w' => ∃ t, v = .bool t ∧ K t w' := by
  refine rd h hi0 hi1 (rd h hj0 hj1 ((c92 _ _ w).use ?_))
  rintro _ _ ⟨rfl, rfl⟩
  exact ⟨_, rfl, k⟩
end Go.Proofs.Ytmmhbjbaallkfaa.Gx
namespace Go.Proofs.Ytmmhbjbaallkfaa.Gx
open Go
set_option linter.unusedSimpArgs false
set_option linter.unusedVariables false
theorem wp1 {i : Nat} (h : i ≤ 1000000000000) : IntKind.i64.wrap ((i : Int) + (1 : Int)) = ((i + 1 : Nat) : Int) := by rw [wrap_of (by omega) (by omega)]; rfl
theorem wm1 {i : Nat} (h0 : 1 ≤ i) (h : i ≤ 1000000000000) : IntKind.i64.wrap ((i : Int) - (1 : Int)) = ((i - 1 : Nat) : Int) := by rw [wrap_of (by omega) (by omega)]; omega
theorem wad {i j : Nat} (h : i + j ≤ 1000000000000) : IntKind.i64.wrap ((i : Int) + (j : Int)) = ((i + j : Nat) : Int) := by rw [wrap_of (by omega) (by omega)]; rfl
theorem wsb {i j : Nat} (h0 : j ≤ i) (h : i ≤ 1000000000000) : IntKind.i64.wrap ((i : Int) - (j : Int)) = ((i - j : Nat) : Int) := by rw [wrap_of (by omega) (by omega)]; omega
theorem wdb {i : Nat} (h : i ≤ 100000000000) : IntKind.i64.wrap ((2 : Int) * (i : Int)) = ((2 * i : Nat) : Int) := by rw [wrap_of (by omega) (by omega)]; omega
theorem c86 {s : Sl} {b : Nat} {w : World} {xs : List Int} {a e : Nat} (h : Ar s b w.heap xs) (he : e ≤ xs.length) (ha : a ≤ xs.length) :
    CW Try.prog 86 #[slV s, iv a, iv e] w fun v w' => v = .tuple #[] ∧ ∃ ys, PI a e xs ys ∧ SO ys a e ∧ Ar s b w'.heap ys ∧ CB b w w' := by
  have hl : xs.length ≤ 1000000 := h.2.2.1
  refine F86_ok s a e w _ ⟨fun n x W => ∃ (i : Nat) (ys : List Int), n = e + 1 - i ∧ x = (i : Int) ∧ a + 1 ≤ i ∧ (i = a + 1 ∨ i ≤ e) ∧ PI a e xs ys ∧ SO ys a i ∧ Ar s b W.heap ys ∧ CB b w W, ⟨_, a + 1, xs, rfl, wp1 (by omega), Nat.le_refl _, .inl rfl, .refl, fun i j _ _ _ => by omega, h, Ch.refl _ _⟩, ?_⟩
  rintro n _ W _ ⟨i, ys, rfl, rfl, hai, hi, hP, hS, hA, hC⟩
  have hyl := hP.len
  refine IfB.dec (fun hlt => ?_) (fun hge => ⟨rfl, ys, hP, fun p q h1 h2 h3 => hS p q h1 h2 (by omega), hA, hC⟩)
  have hie : i < e := by omega
  refine ⟨fun m x W' => ∃ (j : Nat) (zs : List Int), j = m ∧ x = (j : Int) ∧ a ≤ j ∧ j ≤ i ∧ PI a e xs zs ∧ (∀ p q, a ≤ p → p < q → q ≤ i → q ≠ j → g zs p ≤ g zs q) ∧ Ar s b W'.heap zs ∧ CB b w W', ⟨_, i, ys, rfl, rfl, by omega, Nat.le_refl _, hP, fun p q h1 h2 h3 h4 => hS p q h1 h2 (by omega), hA, hC⟩, ?_⟩
  rintro m _ W1 _ ⟨j, zs, rfl, rfl, haj, hji, hP1, hS1, hA1, hC1⟩
  have hzl := hP1.len
  have hCd : CB b w W1.drew := hC1.then (extDrew W1) fun _ _ h => h.elim
  have done : (∀ p, a ≤ p → p < j → g zs p ≤ g zs j) → ∀ W2 : World, W2 = W1.drew → ([] : List Nat) = [] ∧ ∃ b38, b38 < e + 1 - i ∧ ∃ (i' : Nat) (ys : List Int), b38 = e + 1 - i' ∧ IntKind.i64.wrap ((i : Int) + (1 : Int)) = (i' : Int) ∧ a + 1 ≤ i' ∧ (i' = a + 1 ∨ i' ≤ e) ∧ PI a e xs ys ∧ SO ys a i' ∧ Ar s b W2.heap ys ∧ CB b w W2 := by
    rintro hj W2 rfl
    refine ⟨rfl, e + 1 - (i + 1), by omega, i + 1, zs, rfl, wp1 (by omega), by omega, .inr (by omega), hP1, fun p q h1 h2 h3 => ?_, hA1, hCd⟩
    by_cases hq : q = j
    · subst hq; exact hj p h1 h2
    · exact hS1 p q h1 h2 (by omega) hq
  unfold F86j2
  refine IfB.dec (fun hlt2 => ?_) (fun hge2 => done (fun p h1 h2 => by omega) _ rfl)
  have hj : a < j := by omega
  have hw := wm1 (i := j) (by omega) (by omega)
  rw [hw]
  refine ls (w := W1.drew) hA1 (by omega) (by omega) (by omega) (by omega) (IfB.dec (fun hl1 => ?_) (fun hl1 => done (fun p h1 h2 => ?_) _ rfl))
  · rw [Int.toNat_natCast, Int.toNat_natCast] at hl1
    refine sw (w := W1.drew.drew) hA1 (by omega) (by omega) (by omega) (by omega) fun W3 hA3 hC3 => ⟨rfl, j - 1, by omega, j - 1, _, rfl, rfl, by omega, by omega, .step hP1 (p := j) (q := j - 1) (by omega) (by omega) (by omega) (by omega) (by omega), ?_, hA3, (hCd.then (extDrew _) fun _ _ h => h.elim).trans hC3⟩
    intro p q h1 h2 h3 h4
    rw [g_swp (by omega) (by omega), g_swp (by omega) (by omega)]
    have A1 := hS1 p (j - 1) h1
    have A2 := hS1 p q h1 h2 h3
    have A3 := hS1 j q (by omega)
    have A4 := hS1 (j - 1) q (by omega)
    split <;> split <;> (try split) <;> (try split) <;> first | omega | skip
  · rw [Int.toNat_natCast, Int.toNat_natCast] at hl1
    have := hS1 p (j - 1) h1
    by_cases hp : p = j - 1
    · subst hp; omega
    · have := this (by omega) (by omega) (by omega)
      omega
/-- From k on none of the children of a node of the heap at f is more than it. -/
def HpAt (xs : List Int) (f hi k : Nat) : Prop := ∀ c, c = 2 * k + 1 ∨ c = 2 * k + 2 → c < hi → g xs (f + c) ≤ g xs (f + k)
theorem c108 {s : Sl} {b : Nat} {w : World} {xs : List Int} {lo hi f : Nat} (h : Ar s b w.heap xs) (hl : f + hi ≤ xs.length) (hlo : lo ≤ 1000000) (hh : ∀ k, lo < k → HpAt xs f hi k) :
    CW Try.prog 108 #[slV s, iv lo, iv hi, iv f] w fun v w' => v = .tuple #[] ∧ ∃ ys, PI f (f + hi) xs ys ∧ (∀ k, lo ≤ k → HpAt ys f hi k) ∧ Ar s b w'.heap ys ∧ CB b w w' := by
  have hll : xs.length ≤ 1000000 := h.2.2.1
  refine F108_ok s lo hi f w _ ⟨fun n x W => ∃ (r : Nat) (ys : List Int), n = hi - r ∧ x = (r : Int) ∧ lo ≤ r ∧ (r = lo ∨ r < hi) ∧ PI f (f + hi) xs ys ∧ (∀ k, lo ≤ k → k ≠ r → HpAt ys f hi k) ∧
    (∀ k, lo ≤ k → r = 2 * k + 1 ∨ r = 2 * k + 2 → ∀ c, c = 2 * r + 1 ∨ c = 2 * r + 2 → c < hi → g ys (f + c) ≤ g ys (f + k)) ∧ Ar s b W.heap ys ∧ CB b w W, ⟨_, lo, xs, rfl, rfl, Nat.le_refl _, .inl rfl, .refl, fun k h1 h2 => hh k (by omega), fun k h1 h2 => by omega, h, Ch.refl _ _⟩, ?_⟩
  rintro n _ W _ ⟨r, ys, rfl, rfl, hlr, hr, hP, hH, hG, hA, hC⟩
  have hyl := hP.len
  unfold F108j1
  rw [wdb (by omega), wp1 (by omega)]
  refine IfB.dec (fun hge => ⟨rfl, ys, hP, fun k hk => ?_, hA, hC⟩) (fun hlt => ?_)
  · by_cases hkr : k = r
    · subst hkr; intro c hc1 hc2; omega
    · exact hH k hk hkr
  have hc1 : 2 * r + 1 < hi := by omega
  rw [wp1 (by omega), wad (by omega), wp1 (by omega)]
  have hCd : CB b w W.drew := hC.then (extDrew W) fun _ _ h => h.elim
  refine ⟨fun x W' => ∃ c : Nat, x = (c : Int) ∧ (c = 2 * r + 1 ∨ c = 2 * r + 2) ∧ c < hi ∧ (∀ d, d = 2 * r + 1 ∨ d = 2 * r + 2 → d < hi → g ys (f + d) ≤ g ys (f + c)) ∧ W' = W.drew, ?_, ?_⟩
  · refine IfB.dec (fun h2 => ?_) (fun h2 => ⟨rfl, 2 * r + 1, rfl, .inl rfl, hc1, fun d hd1 hd2 => ?_, rfl⟩)
    · refine ls (w := W.drew) hA (by omega) (by omega) (by omega) (by omega) (IfB.dec (fun hl1 => ⟨rfl, 2 * r + 1 + 1, rfl, .inr rfl, by omega, fun d hd1 hd2 => ?_, rfl⟩) (fun hl1 => ⟨rfl, 2 * r + 1, rfl, .inl rfl, hc1, fun d hd1 hd2 => ?_, rfl⟩))
      · rw [Int.toNat_natCast, Int.toNat_natCast] at hl1
        rcases hd1 with rfl | rfl
        · rw [show f + (2 * r + 1 + 1) = f + (2 * r + 1) + 1 by omega]; omega
        · exact Int.le_refl _
      · rw [Int.toNat_natCast, Int.toNat_natCast] at hl1
        rcases hd1 with rfl | rfl
        · exact Int.le_refl _
        · rw [show f + (2 * r + 2) = f + (2 * r + 1) + 1 by omega]; omega
    · have : d = 2 * r + 1 := by omega
      subst this; exact Int.le_refl _
  rintro _ _ _ ⟨c, rfl, hc2, hc3, hc4, rfl⟩
  unfold F108j2
  rw [wad (by omega), wad (by omega)]
  have hCd2 : CB b w W.drew.drew := hCd.then (extDrew _) fun _ _ h => h.elim
  have hCd3 : CB b w W.drew.drew.drew := hCd2.then (extDrew _) fun _ _ h => h.elim
  refine ls (w := W.drew.drew) hA (by omega) (by omega) (by omega) (by omega) (IfB.intro (fun hl1 => ⟨rfl, ys, hP, fun k hk => ?_, hA, hCd2⟩) fun hl1 => ?_)
  · simp only [Int.toNat_natCast, Bool.not_eq_true', decide_eq_false_iff_not] at hl1
    by_cases hkr : k = r
    · subst hkr
      intro d hd1 hd2
      have := hc4 d hd1 hd2
      omega
    · exact hH k hk hkr
  · simp only [Int.toNat_natCast, Bool.not_eq_false', decide_eq_true_eq] at hl1
    refine sw (w := W.drew.drew.drew) hA (by omega) (by omega) (by omega) (by omega) fun W3 hA3 hC3 => ⟨rfl, hi - c, by omega, c, _, rfl, rfl, by omega, .inr hc3, .step hP (p := f + r) (q := f + c) (by omega) (by omega) (by omega) (by omega) (by omega), ?_, ?_, hA3, hCd3.trans hC3⟩
    · intro k hk hkc d hd1 hd2
      by_cases hkr : k = r
      · subst hkr
        rw [g_swl (by omega) (by omega)]
        by_cases hdc : d = c
        · subst hdc; rw [g_swq (by omega) (by omega)]; omega
        · rw [g_swo (by omega) (by omega) (by omega) (by omega)]; exact hc4 d hd1 hd2
      · rw [g_swo (i := f + k) (by omega) (by omega) (by omega) (by omega)]
        by_cases hdr : d = r
        · subst hdr
          rw [g_swl (by omega) (by omega)]
          exact hG k hk hd1 c hc2 hc3
        · rw [g_swo (by omega) (by omega) (by omega) (by omega)]
          exact hH k hk hkr d hd1 hd2
    · intro k hk hck d hd1 hd2
      have hkr : k = r := by omega
      subst hkr
      rw [g_swl (by omega) (by omega), g_swo (by omega) (by omega) (by omega) (by omega)]
      exact hH c (by omega) (by omega) d hd1 hd2
end Go.Proofs.Ytmmhbjbaallkfaa.Gx
namespace Go.Proofs.Ytmmhbjbaallkfaa.Gx
open Go
set_option linter.unusedSimpArgs false
set_option linter.unusedVariables false
theorem heap_max {xs : List Int} {f hi : Nat} (h : ∀ k, HpAt xs f hi k) (p : Nat) (hp : p < hi) : g xs (f + p) ≤ g xs f := by
  induction p using Nat.strongRecOn with
  | _ p ih =>
    by_cases h0 : p = 0
    · subst h0; exact Int.le_refl _
    · have h1 := h ((p - 1) / 2) p (by omega) hp
      have h2 := ih ((p - 1) / 2) (by omega) (by omega)
      omega
theorem c87 {s : Sl} {b : Nat} {w : World} {xs : List Int} {a e : Nat} (h : Ar s b w.heap xs) (he : e ≤ xs.length) (ha : a ≤ e) :
    CW Try.prog 87 #[slV s, iv a, iv e] w fun v w' => v = .tuple #[] ∧ ∃ ys, PI a e xs ys ∧ SO ys a e ∧ Ar s b w'.heap ys ∧ CB b w w' := by
  have hl : xs.length ≤ 1000000 := h.2.2.1
  refine F87_ok s a e w _ ⟨by decide, ?_⟩
  have hea : a + (e - a) = e := by omega
  rw [wsb ha (by omega)]
  generalize hhi : e - a = hi at hea
  refine ⟨fun n x W => ∃ (i : Nat) (ys : List Int), i = n ∧ x = (i : Int) - 1 ∧ i ≤ hi + 1 ∧ PI a e xs ys ∧ (∀ k, i ≤ k → HpAt ys a hi k) ∧ Ar s b W.heap ys ∧ CB b w W, ⟨_, (if hi = 0 then 1 else (hi - 1) / 2 + 1), xs, rfl, ?_, ?_, .refl, ?_, h, Ch.refl _ _⟩, ?_⟩
  · rw [wrap_of (n := (hi : Int) - 1) (by omega) (by omega)]
    split
    · rename_i h0; subst h0; decide
    · rename_i h0
      rw [Int.tdiv_eq_ediv_of_nonneg (by omega), wrap_of (by omega) (by omega)]
      omega
  · split <;> omega
  · intro k hk c hc1 hc2
    split at hk <;> omega
  rintro n _ W _ ⟨i, ys, rfl, rfl, hi1, hP, hH, hA, hC⟩
  have hyl := hP.len
  unfold F87j1
  refine IfB.dec (fun hge => ?_) (fun hlt => ?_)
  · rw [show ((i : Int) - 1) = ((i - 1 : Nat) : Int) by omega, wsb ha (by omega), hhi]
    refine (c108 hA (by omega) (by omega) fun k hk => hH k (by omega)).use ?_
    rintro _ W2 ⟨rfl, zs, hP2, hH2, hA2, hC2⟩
    rw [hea] at hP2
    exact ⟨(), rfl, rfl, i - 1, by omega, i - 1, zs, rfl, by rw [wrap_of (by omega) (by omega)], by omega, hP.trans hP2, hH2, hA2, hC.trans hC2⟩
  · have hi0 : i = 0 := by omega
    subst hi0
    refine ⟨fun n x W' => ∃ (i : Nat) (zs : List Int), i = n ∧ x = (i : Int) - 1 ∧ i ≤ hi ∧ PI a e xs zs ∧ (∀ k, HpAt zs a i k) ∧ (∀ p q, i ≤ p → p < q → q < hi → g zs (a + p) ≤ g zs (a + q)) ∧ (∀ p q, p < i → i ≤ q → q < hi → g zs (a + p) ≤ g zs (a + q)) ∧ Ar s b W'.heap zs ∧ CB b w W', ⟨_, hi, ys, rfl, ?_, Nat.le_refl _, hP, fun k => hH k (Nat.zero_le _), fun p q _ _ _ => by omega, fun p q _ _ _ => by omega, hA, hC⟩, ?_⟩
    · rw [wsb ha (by omega), hhi, wrap_of (by omega) (by omega)]
    rintro n _ W1 _ ⟨i, zs, rfl, rfl, hi2, hP1, hH1, hS1, hX1, hA1, hC1⟩
    have hzl := hP1.len
    unfold F87j2
    refine IfB.dec (fun hge => ?_) (fun hlt => ⟨rfl, zs, hP1, fun p q h1 h2 h3 => ?_, hA1, hC1⟩)
    · obtain ⟨m, rfl⟩ : ∃ m, i = m + 1 := ⟨i - 1, by omega⟩
      rw [show (((m + 1 : Nat) : Int) - 1) = (m : Int) by omega, wad (by omega)]
      have hCd : CB b w W1.drew := hC1.then (extDrew W1) fun _ _ h => h.elim
      refine sw (w := W1.drew) hA1 (by omega) (by omega) (by omega) (by omega) fun W2 hA2 hC2 => ?_
      rw [Int.toNat_natCast, Int.toNat_natCast] at hA2
      have hP2 : PI a e xs (swp zs a (a + m)) := .step hP1 (by omega) (by omega) (by omega) (by omega) (by omega)
      have g0 : ∀ p, 0 < p → p < m → g (swp zs a (a + m)) (a + p) = g zs (a + p) := fun p h1 h2 => g_swo (by omega) (by omega) (by omega) (by omega)
      have gm : g (swp zs a (a + m)) (a + m) = g zs a := g_swq (by omega) (by omega)
      have gz : g (swp zs a (a + m)) a = g zs (a + m) := g_swl (by omega) (by omega)
      have gb : ∀ q, m < q → g (swp zs a (a + m)) (a + q) = g zs (a + q) := fun q h1 => g_swo (by omega) (by omega) (by omega) (by omega)
      refine (c108 (lo := 0) hA2 (by rw [swp_len]; omega) (by omega) fun k hk c hc1 hc2 => ?_).use ?_
      · rw [g0 k hk (by omega), g0 c (by omega) hc2]
        exact hH1 k c hc1 (by omega)
      rintro _ W3 ⟨rfl, us, hP3, hH3, hA3, hC3⟩
      have hmax := heap_max hH1
      have hP3' : PI a e (swp zs a (a + m)) us := hP3.mono (Nat.le_refl _) (by omega) (by rw [swp_len]; omega)
      have ub : ∀ q, m ≤ q → g us (a + q) = g (swp zs a (a + m)) (a + q) := fun q hq => hP3.out (.inr (by omega))
      refine ⟨(), rfl, rfl, m, by omega, m, us, rfl, by rw [wrap_of (by omega) (by omega)], by omega, hP2.trans hP3', fun k => hH3 k (Nat.zero_le _), ?_, ?_, hA3, (hCd.trans hC2).trans hC3⟩
      · intro p q h1 h2 h3
        rw [ub p h1, ub q (by omega), gb q (by omega)]
        by_cases hp : p = m
        · subst hp; rw [gm]
          have := hX1 0 q (by omega) (by omega) h3
          exact this
        · rw [gb p (by omega)]; exact hS1 p q (by omega) h2 h3
      · intro p q h1 h2 h3
        have hQ : ∀ i, a ≤ i → i < a + m → (fun v => v ≤ g us (a + q)) (g us i) := by
          refine hP3.all (Q := fun v => v ≤ g us (a + q)) fun i h4 h5 => ?_
          show _ ≤ g us (a + q)
          rw [ub q h2]
          obtain ⟨t, rfl⟩ : ∃ t, i = a + t := ⟨i - a, by omega⟩
          have h6 : g (swp zs a (a + m)) (a + t) = g zs (a + t) ∨ g (swp zs a (a + m)) (a + t) = g zs (a + m) := by
            by_cases ht : t = 0
            · subst ht; exact .inr gz
            · exact .inl (g0 t (by omega) (by omega))
          by_cases hq : q = m
          · subst hq
            rw [gm]
            have h7 := hmax t (by omega)
            have h8 := hmax q (by omega)
            rcases h6 with h6 | h6 <;> omega
          · rw [gb q (by omega)]
            have h7 := hX1 t q (by omega) (by omega) h3
            have h8 := hX1 m q (by omega) (by omega) h3
            rcases h6 with h6 | h6 <;> omega
        exact hQ _ (by omega) (by omega)
    · obtain ⟨p', rfl⟩ : ∃ t, p = a + t := ⟨p - a, by omega⟩
      obtain ⟨q', rfl⟩ : ∃ t, q = a + t := ⟨q - a, by omega⟩
      exact hS1 p' q' (by omega) (by omega) (by omega)
theorem c90 {s : Sl} {b : Nat} {w : World} {xs : List Int} {a e : Nat} (h : Ar s b w.heap xs) (he : e ≤ xs.length) (ha : a < e) :
    CW Try.prog 90 #[slV s, iv a, iv e] w fun v w' => v = .tuple #[] ∧ ∃ ys, PI a e xs ys ∧ Ar s b w'.heap ys ∧ CB b w w' := by
  have hl : xs.length ≤ 1000000 := h.2.2.1
  refine F90_ok s a e w _ ⟨fun n x W => ∃ (i j : Nat) (ys : List Int), n = j ∧ x = ((i : Int), (j : Int)) ∧ a ≤ i ∧ j < e ∧ i ≤ j + 1 ∧ PI a e xs ys ∧ Ar s b W.heap ys ∧ CB b w W, ⟨_, a, e - 1, xs, rfl, by rw [wm1 (by omega) (by omega)], Nat.le_refl _, by omega, by omega, .refl, h, Ch.refl _ _⟩, ?_⟩
  rintro n _ W _ ⟨i, j, ys, rfl, rfl, hai, hje, hij, hP, hA, hC⟩
  have hyl := hP.len
  unfold F90j1
  refine IfB.dec (fun hlt => ?_) (fun hge => ⟨rfl, ys, hP, hA, hC⟩)
  have hlt : i < n := by
    have : (i : Int) < (n : Int) := hlt
    omega
  have hCd : CB b w W.drew := hC.then (extDrew W) fun _ _ h => h.elim
  refine sw (w := W.drew) hA (p := (i : Int)) (q := (n : Int)) (by omega) (by omega) (by omega) (by omega) fun W2 hA2 hC2 => ?_
  rw [Int.toNat_natCast, Int.toNat_natCast] at hA2
  exact ⟨rfl, n - 1, by omega, i + 1, n - 1, _, rfl, by rw [← wp1 (by omega), ← wm1 (by omega) (by omega)], by omega, by omega, by omega, .step hP (by omega) (by omega) (by omega) (by omega) (by omega), hA2, hCd.trans hC2⟩
end Go.Proofs.Ytmmhbjbaallkfaa.Gx
namespace Go.Proofs.Ytmmhbjbaallkfaa.Gx
open Go
set_option linter.unusedSimpArgs false
set_option linter.unusedVariables false
theorem Ar.ch {F : Nat → Prop} {s : Sl} {b : Nat} {w w' : World} {xs : List Int} (h : Ar s b w.heap xs) (hc : Ch F w w') (hF : ¬ F b) : Ar s b w'.heap xs := by
  obtain ⟨e1, e2, e3, arr, T, e4, e5⟩ := h
  exact ⟨e1, e2, e3, arr, T, hc.at e4 hF, e5⟩
def Ct (k : IntKind) (b1 : Nat) (w : World) : Prop := ∃ T n, w.heap[b1]? = some (.cells #[.int k n] T (0, 0))
theorem c115 {s : Sl} {b b1 : Nat} {w : World} {xs : List Int} {i j : Nat} (h : Ar s b w.heap xs) (hc : Ct .i64 b1 w) (hne : b1 ≠ b) (hi : i < xs.length) (hj : j < xs.length) :
    CW Try.prog 115 #[slV s, iv i, iv j, .pointer (some ⟨b1, 0, none⟩)] w fun v w' => ∃ x y : Nat, v = .tuple #[iv x, iv y] ∧ (x = i ∧ y = j ∨ x = j ∧ y = i) ∧ Ar s b w'.heap xs ∧ Ct .i64 b1 w' ∧ Ch (fun q => q = b1) w w' := by
  have hd : Ch (fun q => q = b1) w w.drew := (extDrew w).mono fun _ _ h => h.elim
  refine F115_ok s i j _ w _ (ls (w := w.drew) h (by omega) (by omega) (by omega) (by omega) (IfB.intro (fun _ => ?_) (fun _ => ⟨i, j, rfl, .inl ⟨rfl, rfl⟩, h, hc, hd⟩)))
  obtain ⟨T, n, hn⟩ := hc
  refine ⟨b1, 0, rfl, n, by rw [cell_of (w := w.drew) hn]; rfl, b1, 0, rfl, rfl, store_one (w := w.drew) hn (by simp) rfl fun w2 h2 => ⟨j, i, rfl, .inr ⟨rfl, rfl⟩, ?_, ⟨T, _, h2.new⟩, hd.trans h2.ch⟩⟩
  exact Ar.ch (w := w.drew) h h2.ch (Ne.symm hne)
theorem c110 {s : Sl} {b b1 : Nat} {w : World} {xs : List Int} {i j k : Nat} (h : Ar s b w.heap xs) (hc : Ct .i64 b1 w) (hne : b1 ≠ b) (hi : i < xs.length) (hj : j < xs.length) (hk : k < xs.length) :
    CW Try.prog 110 #[slV s, iv i, iv j, iv k, .pointer (some ⟨b1, 0, none⟩)] w fun v w' => ∃ x : Nat, v = iv x ∧ (x = i ∨ x = j ∨ x = k) ∧ Ar s b w'.heap xs ∧ Ct .i64 b1 w' ∧ Ch (fun q => q = b1) w w' := by
  refine F110_ok s i j k _ w _ ((c115 h hc hne hi hj).use ?_)
  rintro _ w2 ⟨x1, y1, rfl, e1, h2, k2, l2⟩
  refine ⟨((x1 : Int), (y1 : Int)), rfl, (c115 h2 k2 hne (by omega) hk).use ?_⟩
  rintro _ w3 ⟨x2, y2, rfl, e2, h3, k3, l3⟩
  refine ⟨((x2 : Int), (y2 : Int)), rfl, (c115 h3 k3 hne (by omega) (by omega)).use ?_⟩
  rintro _ w4 ⟨x3, y3, rfl, e3, h4, k4, l4⟩
  exact ⟨((x3 : Int), (y3 : Int)), rfl, y3, rfl, by omega, h4, k4, (l2.trans l3).trans l4⟩
theorem c109 {s : Sl} {b b1 : Nat} {w : World} {xs : List Int} {i : Nat} (h : Ar s b w.heap xs) (hc : Ct .i64 b1 w) (hne : b1 ≠ b) (h0 : 0 < i) (hi : i + 1 < xs.length) :
    CW Try.prog 109 #[slV s, iv i, .pointer (some ⟨b1, 0, none⟩)] w fun v w' => ∃ x : Nat, v = iv x ∧ (i ≤ x + 1 ∧ x ≤ i + 1) ∧ Ar s b w'.heap xs ∧ Ct .i64 b1 w' ∧ Ch (fun q => q = b1) w w' := by
  have hl := h.2.2.1
  refine F109_ok s i _ w _ ?_
  unfold F109
  rw [wm1 (by omega) (by omega), wp1 (by omega)]
  refine (c110 h hc hne (by omega) (by omega) hi).use ?_
  rintro _ w2 ⟨x, rfl, e, h2, k2, l2⟩
  exact ⟨_, rfl, x, rfl, by omega, h2, k2, l2⟩
theorem wmul {i : Nat} {k : Int} {m : Nat} (hk : k = (m : Int)) (hm : m ≤ 4) (hi : i ≤ 1000000) : IntKind.i64.wrap ((i : Int) * k) = ((i * m : Nat) : Int) := by
  subst hk
  have : i * m ≤ 4000000 := Nat.le_trans (Nat.mul_le_mul hi hm) (by decide)
  rw [← Int.natCast_mul, wrap_of (by omega) (by omega)]
theorem c89 {s : Sl} {b : Nat} {w : World} {xs : List Int} {a e : Nat} (h : Ar s b w.heap xs) (he : e ≤ xs.length) (ha : a + 12 < e) :
    CW Try.prog 89 #[slV s, iv a, iv e] w fun v w' => ∃ (p : Nat) (t : Int), v = .tuple #[iv p, iv t] ∧ (a ≤ p ∧ p < e) ∧ Ar s b w'.heap xs ∧ Ext w w' := by
  have hl := h.2.2.1
  have hlt := h.lt
  refine F89_ok s a e w _ ?_
  intro b1 w2 h2
  have e2 : Ext w w2 := h2.ch _
  have p2 := h2.here
  have hA2 := h.ch e2 id
  have hc2 : Ct .i64 b1 w2 := ⟨_, _, h2.new⟩
  have hne : b1 ≠ b := by omega
  have hq : IntKind.i64.wrap ((IntKind.i64.wrap ((e : Int) - (a : Int))).tdiv (4 : Int)) = (((e - a) / 4 : Nat) : Int) := by
    rw [wsb (by omega) (by omega), Int.tdiv_eq_ediv_of_nonneg (by omega), wrap_of (by omega) (by omega)]; omega
  rw [hq, wmul (k := (1 : Int)) (m := 1) rfl (by omega) (by omega), wmul (k := (2 : Int)) (m := 2) rfl (by omega) (by omega), wmul (k := (3 : Int)) (m := 3) rfl (by omega) (by omega), wad (by omega), wad (by omega), wad (by omega), wsb (by omega) (by omega)]
  generalize hqq : (e - a) / 4 = q
  have hx : ∀ {w' : World}, Ch (fun i => i = b1) w2 w' → Ext w w' := fun hc => e2.then hc fun i hi h => by omega
  refine ⟨by decide, by decide, by decide, fun x W => ∃ p : Nat, x = (p : Int) ∧ (a ≤ p ∧ p < e) ∧ Ar s b W.heap xs ∧ Ct .i64 b1 W ∧ Ch (fun i => i = b1) w2 W, ?_, ?_⟩
  · refine IfB.yes (decide_eq_true (by omega)) ⟨fun x W => ∃ i j k : Nat, x = ((i : Int), (j : Int), (k : Int)) ∧ (a ≤ i ∧ i < e) ∧ (a ≤ j ∧ j < e) ∧ (a ≤ k ∧ k < e) ∧ Ar s b W.heap xs ∧ Ct .i64 b1 W ∧ Ch (fun i => i = b1) w2 W, ?_, ?_⟩
    · refine IfB.dec (fun h50 => ?_) (fun _ => ⟨rfl, _, _, _, rfl, by omega, by omega, by omega, hA2, hc2, Ch.refl _ _⟩)
      have h50 : 50 ≤ e - a := by omega
      refine (c109 hA2 hc2 hne (by omega) (by omega)).use ?_
      rintro _ w6 ⟨i, rfl, hi, h6, k6, l6⟩
      refine ⟨_, rfl, (c109 h6 k6 hne (by omega) (by omega)).use ?_⟩
      rintro _ w9 ⟨j, rfl, hj, h9, k9, l9⟩
      refine ⟨_, rfl, (c109 h9 k9 hne (by omega) (by omega)).use ?_⟩
      rintro _ w12 ⟨k, rfl, hk, h12, k12, l12⟩
      exact ⟨_, rfl, rfl, i, j, k, rfl, by omega, by omega, by omega, h12, k12, (l6.trans l9).trans l12⟩
    · rintro _ w15 _ ⟨i, j, k, rfl, hi, hj, hk, h15, k15, l15⟩
      refine (c110 h15 k15 hne (by omega) (by omega) (by omega)).use ?_
      rintro _ w19 ⟨x, rfl, hx, h19, k19, l19⟩
      exact ⟨_, rfl, rfl, x, rfl, by omega, h19, k19, l15.trans l19⟩
  · rintro _ w22 _ ⟨p, rfl, hp, h22, ⟨T, n, hn⟩, l22⟩
    refine ⟨n, by rw [cell_of hn]; rfl, IfB.intro (fun _ => ⟨p, 1, rfl, hp, h22, hx l22⟩) fun _ => IfB.intro (fun _ => ⟨p, 2, rfl, hp, h22, hx l22⟩) fun _ => ⟨p, 0, rfl, hp, h22, hx l22⟩⟩
end Go.Proofs.Ytmmhbjbaallkfaa.Gx
namespace Go.Proofs.Ytmmhbjbaallkfaa.Gx
open Go
set_option linter.unusedSimpArgs false
set_option linter.unusedVariables false
structure Pt (a e : Nat) (xs ys : List Int) (v : Int) (Lo : Int → Prop) (i j : Nat) : Prop where
  pi : PI a e xs ys
  len : e ≤ xs.length
  v : g ys a = v
  ai : a + 1 ≤ i
  ij : i ≤ j + 1
  je : j + 1 ≤ e
  lo : ∀ k, a < k → k < i → Lo (g ys k)
  hi : ∀ k, j < k → k < e → ¬ Lo (g ys k)
theorem Pt.up {a e i j : Nat} {xs ys : List Int} {v : Int} {Lo : Int → Prop} (h : Pt a e xs ys v Lo i j) (hij : i ≤ j) (hl : Lo (g ys i)) : Pt a e xs ys v Lo (i + 1) j := by
  have h1 := h.ai
  refine ⟨h.pi, h.len, h.v, by omega, by omega, h.je, fun k h1 h2 => ?_, h.hi⟩
  by_cases hk : k = i
  · subst hk; exact hl
  · exact h.lo k h1 (by omega)
theorem Pt.dn {a e i j : Nat} {xs ys : List Int} {v : Int} {Lo : Int → Prop} (h : Pt a e xs ys v Lo i j) (hij : i ≤ j) (hl : ¬ Lo (g ys j)) : Pt a e xs ys v Lo i (j - 1) := by
  have h1 := h.ai; have h2 := h.je
  refine ⟨h.pi, h.len, h.v, h1, by omega, by omega, h.lo, fun k h1 h2 => ?_⟩
  by_cases hk : k = j
  · subst hk; exact hl
  · exact h.hi k (by omega) h2
theorem Pt.sw {a e i j : Nat} {xs ys : List Int} {v : Int} {Lo : Int → Prop} (h : Pt a e xs ys v Lo i j) (hij : i ≤ j) (h1 : ¬ Lo (g ys i)) (h2 : Lo (g ys j)) : Pt a e xs (swp ys i j) v Lo (i + 1) (j - 1) := by
  have hne : i ≠ j := fun e => h1 (e ▸ h2)
  have hl := h.pi.len; have h3 := h.len; have h4 := h.ai; have h5 := h.je
  refine ⟨.step h.pi (by omega) (by omega) (by omega) (by omega) (by omega), h3, ?_, by omega, by omega, by omega, fun k h6 h7 => ?_, fun k h6 h7 => ?_⟩
  · rw [g_swo (by omega) (by omega) (by omega) (by omega)]; exact h.v
  · by_cases hk : k = i
    · subst hk; rw [g_swl (by omega) (by omega)]; exact h2
    · rw [g_swo (by omega) (by omega) (by omega) (by omega)]; exact h.lo k h6 (by omega)
  · by_cases hk : k = j
    · subst hk; rw [g_swq (by omega) (by omega)]; exact h1
    · rw [g_swo (by omega) (by omega) (by omega) (by omega)]; exact h.hi k (by omega) h7
theorem upPart {s : Sl} {b a e i j : Nat} {w : World} {xs ys : List Int} {v : Int} {y : Int → World → Prop} (hP : Pt a e xs ys v (fun x => x < v) i j) (hA : Ar s b w.heap ys)
    (hy : ∀ (i' : Nat) (w' : World), Pt a e xs ys v (fun x => x < v) i' j → (j < i' ∨ ¬ g ys i' < v) → i ≤ i' → Ext w w' → y (i' : Int) w') :
    ∃ y14 : Nat → Int → World → Prop, (∃ b15, y14 b15 (i : Int) w) ∧ ∀ (b16 : Nat) (n17 : Int) (w18 : World) (_ : Nat → Value), y14 b16 n17 w18 → IfB (decide (n17 ≤ (j : Int))) (F94k2 s n17 w18 a b16 y14 y) (([] : List Nat) = [] ∧ y n17 w18.drew) := by
  refine ⟨fun n x W => ∃ i' : Nat, n = j + 1 - i' ∧ x = (i' : Int) ∧ i ≤ i' ∧ Pt a e xs ys v (fun x => x < v) i' j ∧ Ext w W, ⟨_, i, rfl, rfl, Nat.le_refl _, hP, Ch.refl _ _⟩, ?_⟩
  rintro _ _ W _ ⟨i', rfl, rfl, hii, hP', hW⟩
  have hl := hP'.pi.len; have h3 := hP'.len; have h4 := hP'.ai; have h5 := hP'.je; have h6 := hA.2.2.1
  have hd := hW.trans (extDrew W)
  refine IfB.dec (fun hle => ?_) (fun hgt => ⟨rfl, hy i' _ hP' (.inl (by omega)) hii hd⟩)
  have hle : i' ≤ j := by omega
  refine ls (w := W.drew) (hA.ch hd id) (by omega) (by omega) (by omega) (by omega) (IfB.dec (fun hl1 => ?_) (fun hl1 => ⟨rfl, hy i' _ hP' (.inr ?_) hii hd⟩))
  · rw [Int.toNat_natCast, Int.toNat_natCast, hP'.v] at hl1
    exact ⟨rfl, _, by omega, i' + 1, rfl, wp1 (by omega), by omega, hP'.up hle hl1, hd⟩
  · rw [Int.toNat_natCast, Int.toNat_natCast, hP'.v] at hl1; exact hl1
theorem dnPart {s : Sl} {b a e i j : Nat} {w : World} {xs ys : List Int} {v : Int} {y : Int → World → Prop} (hP : Pt a e xs ys v (fun x => x < v) i j) (hA : Ar s b w.heap ys)
    (hy : ∀ (j' : Nat) (w' : World), Pt a e xs ys v (fun x => x < v) i j' → (j' < i ∨ g ys j' < v) → j' ≤ j → Ext w w' → y (j' : Int) w') :
    ∃ y14 : Nat → Int → World → Prop, (∃ b15, y14 b15 (j : Int) w) ∧ ∀ (b16 : Nat) (n17 : Int) (w18 : World) (_ : Nat → Value), y14 b16 n17 w18 → IfB (decide ((i : Int) ≤ n17)) (F94k1 s n17 w18 a b16 y14 y) (([] : List Nat) = [] ∧ y n17 w18.drew) := by
  refine ⟨fun n x W => ∃ j' : Nat, j' = n ∧ x = (j' : Int) ∧ j' ≤ j ∧ Pt a e xs ys v (fun x => x < v) i j' ∧ Ext w W, ⟨_, j, rfl, rfl, Nat.le_refl _, hP, Ch.refl _ _⟩, ?_⟩
  rintro _ _ W _ ⟨j', rfl, rfl, hjj, hP', hW⟩
  have hl := hP'.pi.len; have h3 := hP'.len; have h4 := hP'.ai; have h5 := hP'.je; have h6 := hA.2.2.1
  have hd := hW.trans (extDrew W)
  refine IfB.dec (fun hle => ?_) (fun hgt => ⟨rfl, hy j' _ hP' (.inl (by omega)) hjj hd⟩)
  have hle : i ≤ j' := by omega
  refine ls (w := W.drew) (hA.ch hd id) (by omega) (by omega) (by omega) (by omega) (IfB.intro (fun hl1 => ?_) (fun hl1 => ⟨rfl, hy j' _ hP' (.inr ?_) hjj hd⟩))
  · simp only [Int.toNat_natCast, hP'.v, Bool.not_eq_true', decide_eq_false_iff_not] at hl1
    exact ⟨rfl, j' - 1, by omega, j' - 1, rfl, wm1 (by omega) (by omega), by omega, hP'.dn hle hl1, hd⟩
  · simp only [Int.toNat_natCast, hP'.v, Bool.not_eq_false', decide_eq_true_eq] at hl1; exact hl1
theorem c94 {s : Sl} {b : Nat} {w : World} {xs : List Int} {a e p : Nat} (h : Ar s b w.heap xs) (he : e ≤ xs.length) (hp : a ≤ p ∧ p < e) :
    CW Try.prog 94 #[slV s, iv a, iv e, iv p] w fun v w' => ∃ (m : Nat) (t : Bool), v = .tuple #[iv m, .bool t] ∧ (a ≤ m ∧ m < e) ∧ ∃ ys, PI a e xs ys ∧ (∀ k, a ≤ k → k < m → g ys k < g ys m) ∧ (∀ k, m < k → k < e → g ys m ≤ g ys k) ∧ Ar s b w'.heap ys ∧ CB b w w' := by
  have hl := h.2.2.1
  refine F94_ok s a e p w _ ?_
  have hCd : CB b w w.drew := (extDrew w).mono fun _ _ h => h.elim
  refine sw (w := w.drew) h (by omega) (by omega) (by omega) (by omega) fun w12 h12 C12 => ?_
  rw [Int.toNat_natCast, Int.toNat_natCast] at h12
  have C12 := hCd.trans C12
  have hP0 : Pt a e xs (swp xs a p) (g (swp xs a p) a) (fun x => x < g (swp xs a p) a) (a + 1) (e - 1) :=
    ⟨.step .refl (by omega) (by omega) (by omega) (by omega) he, he, rfl, by omega, by omega, by omega, fun k h1 h2 => by omega, fun k h1 h2 => by omega⟩
  generalize swp xs a p = ys0 at hP0 h12
  generalize g ys0 a = v at hP0
  have fin : ∀ {ys : List Int} {j : Nat} {W : World} {t : Bool}, Pt a e xs ys v (fun x => x < v) (j + 1) j → Ar s b W.heap ys → CB b w W →
      ∀ W2 : World, Ar s b W2.heap (swp ys j a) → CB b W W2 → ∃ (m : Nat) (t' : Bool), Value.tuple #[iv j, .bool t] = .tuple #[iv m, .bool t'] ∧ (a ≤ m ∧ m < e) ∧ ∃ ys, PI a e xs ys ∧ (∀ k, a ≤ k → k < m → g ys k < g ys m) ∧ (∀ k, m < k → k < e → g ys m ≤ g ys k) ∧ Ar s b W2.heap ys ∧ CB b w W2 := by
    intro ys j W t hP hA hC W2 hA2 hC2
    have hyl := hP.pi.len; have h4 := hP.ai; have h5 := hP.je
    have gj : g (swp ys j a) j = v := by rw [g_swl (by omega) (by omega)]; exact hP.v
    refine ⟨j, t, rfl, by omega, _, .step hP.pi (by omega) (by omega) (by omega) (by omega) (by omega), fun k h1 h2 => ?_, fun k h1 h2 => ?_, hA2, hC.trans hC2⟩
    · rw [gj]
      by_cases hk : k = a
      · subst hk; rw [g_swq (by omega) (by omega)]; exact hP.lo j (by omega) (by omega)
      · rw [g_swo (by omega) (by omega) (by omega) (by omega)]; exact hP.lo k (by omega) (by omega)
    · rw [gj, g_swo (by omega) (by omega) (by omega) (by omega)]
      have := hP.hi k h1 h2
      omega
  refine ⟨fun x W => ∃ i : Nat, x = (i : Int) ∧ Pt a e xs ys0 v (fun x => x < v) i (e - 1) ∧ (e - 1 < i ∨ ¬ g ys0 i < v) ∧ Ar s b W.heap ys0 ∧ CB b w W, ?_, ?_⟩
  · unfold F94j1
    rw [wp1 (by omega), wm1 (by omega) (by omega)]
    exact upPart hP0 h12 fun i' w' h1 h2 _ h3 => ⟨i', rfl, h1, h2, h12.ch h3 id, C12.then h3 fun _ _ h => h.elim⟩
  rintro _ W _ ⟨i, rfl, hP, hi, hA, hC⟩
  refine ⟨fun x W' => ∃ j : Nat, x = (j : Int) ∧ Pt a e xs ys0 v (fun x => x < v) i j ∧ (j < i ∨ g ys0 j < v) ∧ (j < i ∨ ¬ g ys0 i < v) ∧ Ar s b W'.heap ys0 ∧ CB b w W', ?_, ?_⟩
  · unfold F94j3
    rw [wm1 (by omega) (by omega)]
    exact dnPart hP hA fun j' w' h1 h2 h3 h4 => ⟨j', rfl, h1, h2, by omega, hA.ch h4 id, hC.then h4 fun _ _ h => h.elim⟩
  rintro _ W1 _ ⟨j, rfl, hP1, hj1, hj2, hA1, hC1⟩
  have hyl := hP1.pi.len; have h4 := hP1.ai; have h5 := hP1.je; have h6 := hP1.ij
  have hC1d : CB b w W1.drew := hC1.then (extDrew W1) fun _ _ h => h.elim
  unfold F94j4
  refine IfB.dec (fun hlt => ?_) (fun hge => ?_)
  · have hij : i = j + 1 := by omega
    subst hij
    refine sw (w := W1.drew) hA1 (by omega) (by omega) (by omega) (by omega) fun W2 h2 C2 => ?_
    rw [Int.toNat_natCast, Int.toNat_natCast] at h2
    exact fin (W := W1.drew) hP1 hA1 hC1d W2 h2 C2
  · have hij : i ≤ j := by omega
    refine sw (w := W1.drew) hA1 (by omega) (by omega) (by omega) (by omega) fun W2 h2 C2 => ?_
    rw [Int.toNat_natCast, Int.toNat_natCast] at h2
    have hP2 := hP1.sw hij (by omega) (by omega)
    have C2 := hC1d.trans C2
    refine ⟨fun n x W => ∃ (i j : Nat) (ys : List Int), n = j + 1 - i ∧ x = ((i : Int), (j : Int)) ∧ Pt a e xs ys v (fun x => x < v) i j ∧ Ar s b W.heap ys ∧ CB b w W, ⟨_, i + 1, j - 1, _, rfl, by rw [wp1 (by omega), wm1 (by omega) (by omega)], hP2, h2, C2⟩, ?_⟩
    rintro _ _ W3 _ ⟨i3, j3, ys3, rfl, rfl, hP3, hA3, hC3⟩
    unfold F94j5
    refine ⟨fun x W => ∃ i : Nat, x = (i : Int) ∧ i3 ≤ i ∧ Pt a e xs ys3 v (fun x => x < v) i j3 ∧ (j3 < i ∨ ¬ g ys3 i < v) ∧ Ar s b W.heap ys3 ∧ CB b w W, ?_, ?_⟩
    · exact upPart hP3 hA3 fun i' w' h1 h2 h3 h4 => ⟨i', rfl, h3, h1, h2, hA3.ch h4 id, hC3.then h4 fun _ _ h => h.elim⟩
    rintro _ W4 _ ⟨i4, rfl, hi34, hP4, hi4, hA4, hC4⟩
    refine ⟨fun x W' => ∃ j : Nat, x = (j : Int) ∧ j ≤ j3 ∧ Pt a e xs ys3 v (fun x => x < v) i4 j ∧ (j < i4 ∨ g ys3 j < v) ∧ (j < i4 ∨ ¬ g ys3 i4 < v) ∧ Ar s b W'.heap ys3 ∧ CB b w W', ?_, ?_⟩
    · exact dnPart hP4 hA4 fun j' w' h1 h2 h3 h4 => ⟨j', rfl, h3, h1, h2, by omega, hA4.ch h4 id, hC4.then h4 fun _ _ h => h.elim⟩
    rintro _ W5 _ ⟨j5, rfl, hj5, hP5, hj51, hj52, hA5, hC5⟩
    have hyl := hP5.pi.len; have h4 := hP5.ai; have h5 := hP5.je; have h6 := hP5.ij
    have hC5d : CB b w W5.drew := hC5.then (extDrew W5) fun _ _ h => h.elim
    unfold F94j9
    refine IfB.dec (fun hlt => ?_) (fun hge => ?_)
    · have hij : i4 = j5 + 1 := by omega
      subst hij
      refine sw (w := W5.drew) hA5 (by omega) (by omega) (by omega) (by omega) fun W6 h6 C6 => ?_
      rw [Int.toNat_natCast, Int.toNat_natCast] at h6
      exact fin (W := W5.drew) hP5 hA5 hC5d W6 h6 C6
    · have hij : i4 ≤ j5 := by omega
      refine sw (w := W5.drew) hA5 (by omega) (by omega) (by omega) (by omega) fun W6 h6 C6 => ?_
      rw [Int.toNat_natCast, Int.toNat_natCast] at h6
      exact ⟨rfl, _, by omega, i4 + 1, j5 - 1, _, rfl, by rw [wp1 (by omega), wm1 (by omega) (by omega)], hP5.sw hij (by omega) (by omega), h6, hC5d.trans C6⟩
end Go.Proofs.Ytmmhbjbaallkfaa.Gx
namespace Go.Proofs.Ytmmhbjbaallkfaa.Gx
open Go
set_option linter.unusedSimpArgs false
set_option linter.unusedVariables false
theorem c93 {s : Sl} {b : Nat} {w : World} {xs : List Int} {a e p : Nat} (h : Ar s b w.heap xs) (he : e ≤ xs.length) (hp : a ≤ p ∧ p < e) :
    CW Try.prog 93 #[slV s, iv a, iv e, iv p] w fun v w' => ∃ m : Nat, v = iv m ∧ (a < m ∧ m ≤ e) ∧ ∃ ys, PI a e xs ys ∧ g ys a = g xs p ∧ (∀ k, a ≤ k → k < m → ¬ g xs p < g ys k) ∧ (∀ k, m ≤ k → k < e → g xs p < g ys k) ∧ Ar s b w'.heap ys ∧ CB b w w' := by
  have hl := h.2.2.1
  refine F93_ok s a e p w _ ?_
  have hCd : CB b w w.drew := (extDrew w).mono fun _ _ h => h.elim
  refine sw (w := w.drew) h (by omega) (by omega) (by omega) (by omega) fun w12 h12 C12 => ?_
  rw [Int.toNat_natCast, Int.toNat_natCast] at h12
  have C12 := hCd.trans C12
  have hv : g (swp xs a p) a = g xs p := g_swl (by omega) (by omega)
  have hP0 : Pt a e xs (swp xs a p) (g xs p) (fun x => ¬ g xs p < x) (a + 1) (e - 1) :=
    ⟨.step .refl (by omega) (by omega) (by omega) (by omega) he, he, hv, by omega, by omega, by omega, fun k h1 h2 => by omega, fun k h1 h2 => by omega⟩
  generalize swp xs a p = ys0 at hP0 h12
  clear hv
  generalize g xs p = v at hP0
  refine ⟨fun n x W => ∃ (i j : Nat) (ys : List Int), n = j + 1 - i ∧ x = ((i : Int), (j : Int)) ∧ Pt a e xs ys v (fun x => ¬ v < x) i j ∧ Ar s b W.heap ys ∧ CB b w W, ⟨_, a + 1, e - 1, _, rfl, by rw [wp1 (by omega), wm1 (by omega) (by omega)], hP0, h12, C12⟩, ?_⟩
  rintro _ _ W3 _ ⟨i3, j3, ys3, rfl, rfl, hP3, hA3, hC3⟩
  unfold F93j1
  refine ⟨fun x W => ∃ i : Nat, x = (i : Int) ∧ i3 ≤ i ∧ Pt a e xs ys3 v (fun x => ¬ v < x) i j3 ∧ (j3 < i ∨ v < g ys3 i) ∧ Ar s b W.heap ys3 ∧ CB b w W, ?_, ?_⟩
  · refine ⟨fun n x W => ∃ i : Nat, n = j3 + 1 - i ∧ x = (i : Int) ∧ i3 ≤ i ∧ Pt a e xs ys3 v (fun x => ¬ v < x) i j3 ∧ Ar s b W.heap ys3 ∧ CB b w W, ⟨_, i3, rfl, rfl, Nat.le_refl _, hP3, hA3, hC3⟩, ?_⟩
    rintro _ _ W _ ⟨i, rfl, rfl, hii, hP, hA, hC⟩
    have hyl := hP.pi.len; have h4 := hP.ai; have h5 := hP.je; have h6 := hP.ij
    have hd : CB b w W.drew := hC.then (extDrew W) fun _ _ h => h.elim
    unfold F93j2
    refine IfB.dec (fun hle => ?_) (fun hgt => ⟨rfl, i, rfl, hii, hP, .inl ?_, hA, hd⟩)
    · have hle : i ≤ j3 := by
        have : (i : Int) ≤ (j3 : Int) := hle
        omega
      refine ls (w := W.drew) hA (by omega) (by omega) (by omega) (by omega) (IfB.intro (fun hl1 => ?_) (fun hl1 => ⟨rfl, i, rfl, hii, hP, .inr ?_, hA, hd⟩))
      · simp only [Int.toNat_natCast, hP.v, Bool.not_eq_true', decide_eq_false_iff_not] at hl1
        exact ⟨rfl, _, by omega, i + 1, rfl, wp1 (by omega), by omega, hP.up hle hl1, hA, hd⟩
      · simp only [Int.toNat_natCast, hP.v, Bool.not_eq_false', decide_eq_true_eq] at hl1; exact hl1
    · have : ¬ (i : Int) ≤ (j3 : Int) := hgt
      omega
  rintro _ W4 _ ⟨i4, rfl, hi34, hP4, hi4, hA4, hC4⟩
  refine ⟨fun x W' => ∃ j : Nat, x = (j : Int) ∧ j ≤ j3 ∧ Pt a e xs ys3 v (fun x => ¬ v < x) i4 j ∧ (j < i4 ∨ ¬ v < g ys3 j) ∧ (j < i4 ∨ v < g ys3 i4) ∧ Ar s b W'.heap ys3 ∧ CB b w W', ?_, ?_⟩
  · refine ⟨fun n x W => ∃ j : Nat, j = n ∧ x = (j : Int) ∧ j ≤ j3 ∧ Pt a e xs ys3 v (fun x => ¬ v < x) i4 j ∧ (j < i4 ∨ v < g ys3 i4) ∧ Ar s b W.heap ys3 ∧ CB b w W, ⟨_, j3, rfl, rfl, Nat.le_refl _, hP4, by omega, hA4, hC4⟩, ?_⟩
    rintro _ _ W _ ⟨j, rfl, rfl, hjj, hP, hi, hA, hC⟩
    have hyl := hP.pi.len; have h4 := hP.ai; have h5 := hP.je; have h6 := hP.ij
    have hd : CB b w W.drew := hC.then (extDrew W) fun _ _ h => h.elim
    unfold F93j4
    refine IfB.dec (fun hle => ?_) (fun hgt => ⟨rfl, j, rfl, hjj, hP, .inl (by omega), hi, hA, hd⟩)
    have hle : i4 ≤ j := by omega
    refine ls (w := W.drew) hA (by omega) (by omega) (by omega) (by omega) (IfB.dec (fun hl1 => ?_) (fun hl1 => ⟨rfl, j, rfl, hjj, hP, .inr ?_, hi, hA, hd⟩))
    · rw [Int.toNat_natCast, Int.toNat_natCast, hP.v] at hl1
      exact ⟨rfl, j - 1, by omega, j - 1, rfl, wm1 (by omega) (by omega), by omega, hP.dn hle (by omega), by omega, hA, hd⟩
    · rw [Int.toNat_natCast, Int.toNat_natCast, hP.v] at hl1; exact hl1
  rintro _ W5 _ ⟨j5, rfl, hj5, hP5, hj51, hj52, hA5, hC5⟩
  have hyl := hP5.pi.len; have h4 := hP5.ai; have h5 := hP5.je; have h6 := hP5.ij
  have hC5d : CB b w W5.drew := hC5.then (extDrew W5) fun _ _ h => h.elim
  unfold F93j5
  refine IfB.dec (fun hlt => ?_) (fun hge => ?_)
  · refine ⟨i4, rfl, by omega, ys3, hP5.pi, hP5.v, fun k h1 h2 => ?_, fun k h1 h2 => ?_, hA5, hC5⟩
    · by_cases hk : k = a
      · subst hk; rw [hP5.v]; omega
      · exact hP5.lo k (by omega) h2
    · have := hP5.hi k (by omega) h2
      omega
  · have hij : i4 ≤ j5 := by omega
    refine sw (w := W5.drew) hA5 (by omega) (by omega) (by omega) (by omega) fun W6 h6 C6 => ?_
    rw [Int.toNat_natCast, Int.toNat_natCast] at h6
    exact ⟨rfl, _, by omega, i4 + 1, j5 - 1, _, rfl, by rw [wp1 (by omega), wm1 (by omega) (by omega)], hP5.sw hij (by omega) (by omega), h6, hC5d.trans C6⟩
end Go.Proofs.Ytmmhbjbaallkfaa.Gx
namespace Go.Proofs.Ytmmhbjbaallkfaa.Gx
open Go
set_option linter.unusedSimpArgs false
set_option linter.unusedVariables false
theorem CB.drew {b : Nat} {w W : World} (h : CB b w W) : CB b w W.drew := Ch.then h (extDrew W) fun _ _ h => h.elim
theorem c91 {s : Sl} {b : Nat} {w : World} {xs : List Int} {a e : Nat} (h : Ar s b w.heap xs) (he : e ≤ xs.length) (ha : a < e) (hb : 0 < a → ∀ k, a ≤ k → k < e → g xs (a - 1) ≤ g xs k) :
    CW Try.prog 91 #[slV s, iv a, iv e] w fun v w' => ∃ t, v = .bool t ∧ ∃ ys, PI a e xs ys ∧ (t = true → SO ys a e) ∧ Ar s b w'.heap ys ∧ CB b w w' := by
  have hl := h.2.2.1
  have lb : ∀ {ys}, PI a e xs ys → 0 < a → ∀ k, a ≤ k → k < e → g ys (a - 1) ≤ g ys k := fun {ys} hP h0 k h1 h2 => by
    rw [hP.out (.inl (by omega))]
    exact hP.all (Q := fun v => g xs (a - 1) ≤ v) (fun i h3 h4 => hb h0 i h3 h4) k h1 h2
  refine F91_ok s a e w _ ⟨fun n x W => ∃ (i j : Nat) (ys : List Int), n = 5 - j ∧ x = ((i : Int), (j : Int)) ∧ j ≤ 5 ∧ (a + 1 ≤ i ∧ i ≤ e) ∧ PI a e xs ys ∧ SO ys a i ∧ Ar s b W.heap ys ∧ CB b w W, ⟨_, a + 1, 0, xs, rfl, by rw [wp1 (by omega)]; rfl, by omega, by omega, .refl, fun p q _ _ _ => by omega, h, Ch.refl _ _⟩, ?_⟩
  rintro _ _ W _ ⟨i0, j0, ys, rfl, rfl, hj0, hi0, hP, hS0, hA, hC⟩
  have hyl := hP.len
  refine IfB.dec (fun hlt => ?_) (fun hge => ⟨false, rfl, ys, hP, (fun h => by cases h), hA, hC⟩)
  have hj5 : j0 < 5 := by
    have : (j0 : Int) < 5 := hlt
    omega
  refine ⟨fun x W => ∃ i : Nat, x = (i : Int) ∧ (a + 1 ≤ i ∧ i ≤ e) ∧ SO ys a i ∧ Ar s b W.heap ys ∧ CB b w W, ?_, ?_⟩
  · refine ⟨fun n x W => ∃ i : Nat, n = e - i ∧ x = (i : Int) ∧ (a + 1 ≤ i ∧ i ≤ e) ∧ SO ys a i ∧ Ar s b W.heap ys ∧ CB b w W, ⟨_, i0, rfl, rfl, hi0, hS0, hA, hC⟩, ?_⟩
    rintro _ _ W1 _ ⟨i, rfl, rfl, hi, hS, hA1, hC1⟩
    unfold F91j2
    refine IfB.dec (fun hlt => ?_) (fun hge => ⟨rfl, i, rfl, hi, hS, hA1, hC1.drew⟩)
    rw [wm1 (by omega) (by omega)]
    refine ls (w := W1.drew) hA1 (by omega) (by omega) (by omega) (by omega) (IfB.intro (fun hl1 => ?_) (fun hl1 => ⟨rfl, i, rfl, hi, hS, hA1, hC1.drew⟩))
    simp only [Int.toNat_natCast, Bool.not_eq_true', decide_eq_false_iff_not] at hl1
    refine ⟨rfl, _, by omega, i + 1, rfl, wp1 (by omega), by omega, fun p q h1 h2 h3 => ?_, hA1, hC1.drew⟩
    by_cases hq : q = i
    · subst hq
      by_cases hp : p = q - 1
      · subst hp; omega
      · have := hS p (q - 1) h1 (by omega) (by omega)
        omega
    · exact hS p q h1 h2 (by omega)
  rintro _ W2 _ ⟨i, rfl, hi, hS, hA2, hC2⟩
  unfold F91j3
  refine IfB.intro (fun hi3 => ?_) (fun hi3 => ?_)
  · have hi3 : (i : Int) = (e : Int) := by simpa using hi3
    have : i = e := by omega
    subst this
    exact ⟨true, rfl, ys, hP, fun _ => hS, hA2, hC2⟩
  have hie : i < e := by
    have : (i : Int) ≠ (e : Int) := by simpa using hi3
    omega
  rw [wsb (by omega) (by omega)]
  refine @IfB.dec (((e - a : Nat) : Int) < (50 : Int)) _ _ _ (fun _ => ⟨false, rfl, ys, hP, (fun h => by cases h), hA2, hC2⟩) (fun _ => ?_)
  rw [wm1 (by omega) (by omega)]
  refine sw (w := W2.drew) hA2 (by omega) (by omega) (by omega) (by omega) fun W3 hA3 hC3 => ?_
  rw [Int.toNat_natCast, Int.toNat_natCast] at hA3
  have hP3 : PI a e xs (swp ys i (i - 1)) := .step hP (by omega) (by omega) (by omega) (by omega) (by omega)
  have hC3 := (CB.drew hC2).trans hC3
  rw [wsb (by omega) (by omega)]
  refine ⟨fun _ W => ∃ zs, PI a e xs zs ∧ SO zs a i ∧ Ar s b W.heap zs ∧ CB b w W, ?_, ?_⟩
  · refine IfB.dec (fun h2 => ?_) (fun h2 => ⟨rfl, _, hP3, fun p q _ _ _ => by omega, hA3, hC3⟩)
    refine ⟨fun n x W => ∃ (j : Nat) (zs : List Int), j = n ∧ x = (j : Int) ∧ (a ≤ j ∧ j ≤ i - 1) ∧ PI a e xs zs ∧ (∀ p q, a ≤ p → p < q → q < i → q ≠ j → g zs p ≤ g zs q) ∧ Ar s b W.heap zs ∧ CB b w W, ⟨_, i - 1, _, rfl, rfl, by omega, hP3, fun p q h1 h2 h3 h4 => ?_, hA3, hC3⟩, ?_⟩
    · rw [g_swo (by omega) (by omega) (by omega) (by omega), g_swo (by omega) (by omega) (by omega) (by omega)]
      exact hS p q h1 h2 h3
    rintro _ _ W4 _ ⟨j, zs, rfl, rfl, hj, hP4, hS4, hA4, hC4⟩
    have hzl := hP4.len
    unfold F91j4
    refine IfB.dec (fun hj1 => ?_) (fun hj1 => ⟨rfl, zs, hP4, fun p q h1 h2 h3 => hS4 p q h1 h2 h3 (by omega), hA4, hC4⟩)
    rw [wm1 (by omega) (by omega)]
    refine ls (w := W4.drew) hA4 (by omega) (by omega) (by omega) (by omega) (IfB.intro (fun hl1 => ?_) (fun hl1 => ?_))
    · simp only [Int.toNat_natCast, Bool.not_eq_true', decide_eq_false_iff_not] at hl1
      refine ⟨rfl, zs, hP4, fun p q h1 h2 h3 => ?_, hA4, hC4.drew⟩
      by_cases hq : q = j
      · subst hq
        by_cases hp : p = q - 1
        · subst hp; omega
        · have := hS4 p (q - 1) h1 (by omega) (by omega) (by omega)
          omega
      · exact hS4 p q h1 h2 h3 hq
    · simp only [Int.toNat_natCast, Bool.not_eq_false', decide_eq_true_eq] at hl1
      have haj : a < j := by
        rcases Nat.lt_or_ge a j with h | h
        · exact h
        · have : a = j := by omega
          subst this
          have := lb hP4 (by omega) a (Nat.le_refl _) (by omega)
          omega
      refine sw (w := W4.drew.drew) hA4 (by omega) (by omega) (by omega) (by omega) fun W5 hA5 hC5 => ?_
      rw [Int.toNat_natCast, Int.toNat_natCast] at hA5
      refine ⟨rfl, j - 1, by omega, j - 1, _, rfl, rfl, by omega, .step hP4 (by omega) (by omega) (by omega) (by omega) (by omega), fun p q h1 h2 h3 h4 => ?_, hA5, (CB.drew (CB.drew hC4)).trans hC5⟩
      rw [g_swp (by omega) (by omega), g_swp (by omega) (by omega)]
      have A1 := hS4 p (j - 1) h1
      have A2 := hS4 p q h1 h2 h3
      have A3 := hS4 j q (by omega)
      have A4 := hS4 (j - 1) q (by omega)
      split <;> split <;> (try split) <;> (try split) <;> first | omega | skip
  rintro _ W6 _ ⟨zs, hP6, hS6, hA6, hC6⟩
  have hzl := hP6.len
  have next : ∀ {us : List Int} {W : World}, PI a e xs us → SO us a i → Ar s b W.heap us → CB b w W → ([] : List Nat) = [] ∧ ∃ b112, b112 < 5 - j0 ∧ ∃ (i' j' : Nat) (ys : List Int), b112 = 5 - j' ∧ ((i : Int), IntKind.i64.wrap ((j0 : Int) + (1 : Int))) = ((i' : Int), (j' : Int)) ∧ j' ≤ 5 ∧ (a + 1 ≤ i' ∧ i' ≤ e) ∧ PI a e xs ys ∧ SO ys a i' ∧ Ar s b W.heap ys ∧ CB b w W :=
    fun h1 h2 h3 h4 => ⟨rfl, 5 - (j0 + 1), by omega, i, j0 + 1, _, rfl, by rw [wp1 (by omega)], by omega, by omega, h1, h2, h3, h4⟩
  unfold F91j5
  refine ⟨fun t W => W = W6, ⟨rfl, rfl⟩, ?_⟩
  rintro t _ _ rfl
  refine IfB.intro (fun _ => ?_) (fun _ => next hP6 hS6 hA6 hC6)
  refine ⟨fun n x W => ∃ (j : Nat) (us : List Int), n = e - j ∧ x = (j : Int) ∧ (i + 1 ≤ j ∧ j ≤ e) ∧ PI a e xs us ∧ SO us a i ∧ Ar s b W.heap us ∧ CB b w W, ⟨_, i + 1, zs, rfl, wp1 (by omega), by omega, hP6, hS6, hA6, hC6⟩, ?_⟩
  rintro _ _ W7 _ ⟨j, us, rfl, rfl, hj, hP7, hS7, hA7, hC7⟩
  have hul := hP7.len
  unfold F91j7
  refine IfB.dec (fun hlt => ?_) (fun _ => next hP7 hS7 hA7 hC7)
  rw [wm1 (by omega) (by omega)]
  refine ls (w := W7.drew) hA7 (by omega) (by omega) (by omega) (by omega) (IfB.intro (fun _ => next hP7 hS7 hA7 hC7.drew) (fun _ => ?_))
  refine sw (w := W7.drew.drew) hA7 (by omega) (by omega) (by omega) (by omega) fun W8 hA8 hC8 => ?_
  rw [Int.toNat_natCast, Int.toNat_natCast] at hA8
  refine ⟨rfl, _, by omega, j + 1, _, rfl, wp1 (by omega), by omega, .step hP7 (by omega) (by omega) (by omega) (by omega) (by omega), fun p q h1 h2 h3 => ?_, hA8, (CB.drew (CB.drew hC7)).trans hC8⟩
  rw [g_swo (by omega) (by omega) (by omega) (by omega), g_swo (by omega) (by omega) (by omega) (by omega)]
  exact hS7 p q h1 h2 h3
end Go.Proofs.Ytmmhbjbaallkfaa.Gx
namespace Go.Proofs.Ytmmhbjbaallkfaa.Gx
open Go
set_option linter.unusedSimpArgs false
set_option linter.unusedVariables false
theorem tab_all : ((List.range 256).all fun i => match GxLSby0[i]? with | some y => decide (i < 2 ^ y.toNat) && (decide (i = 0) || decide (2 ^ (y.toNat - 1) ≤ i)) && decide (y.toNat ≤ 8) && (decide (i = 0) || decide (1 ≤ y.toNat)) | none => false) = true := by kernel_rfl
theorem tab_get {i : Nat} (hi : i < 256) : ∃ y, GxLSby0[i]? = some y ∧ i < 2 ^ y.toNat ∧ (0 < i → 2 ^ (y.toNat - 1) ≤ i ∧ 1 ≤ y.toNat) ∧ y.toNat ≤ 8 := by
  have h := List.all_eq_true.1 tab_all i (List.mem_range.2 hi)
  cases hy : GxLSby0[i]? with
  | none => rw [hy] at h; cases h
  | some y =>
    rw [hy] at h
    simp only [Bool.and_eq_true, Bool.or_eq_true, decide_eq_true_eq] at h
    exact ⟨y, rfl, h.1.1.1, fun h0 => ⟨by omega, by omega⟩, h.1.2⟩
theorem wu8 {i : Nat} (h : i < 256) : IntKind.u8.wrap (i : Int) = (i : Int) := by
  unfold IntKind.wrap; simp [IntKind.signed, IntKind.bits]; omega
/-- How many bits: L with x < 2 ^ L, and 2 ^ (L - 1) <= x. -/
def LenIs (x L : Nat) : Prop := x < 2 ^ L ∧ (0 < x → 2 ^ (L - 1) ≤ x ∧ 1 ≤ L) ∧ L ≤ 24
theorem LenIs.shift {x L k : Nat} (h : LenIs (x / 2 ^ k) L) (h0 : 0 < x / 2 ^ k) (hL : L + k ≤ 24) : LenIs x (k + L) := by
  obtain ⟨h1, h2, h3⟩ := h
  obtain ⟨h4, h5⟩ := h2 h0
  have hp : 0 < 2 ^ k := Nat.pow_pos (by decide)
  refine ⟨?_, fun _ => ⟨?_, by omega⟩, by omega⟩
  · rw [Nat.pow_add, Nat.mul_comm]; exact (Nat.div_lt_iff_lt_mul hp).1 h1
  · rw [show k + L - 1 = (L - 1) + k by omega, Nat.pow_add]
    exact (Nat.le_div_iff_mul_le hp).1 h4
theorem fdv {x k : Nat} {n : Int} (hk : min (Int.toNat n) IntKind.u64.bits = k) : (x : Int).fdiv ((2 : Int) ^ min (Int.toNat n) IntKind.u64.bits) = ((x / 2 ^ k : Nat) : Int) := by
  rw [hk, Int.fdiv_eq_ediv_of_nonneg _ (Int.pow_nonneg (by decide))]
  simp
theorem c84 {x : Nat} (hx : x ≤ 1000000) (w : World) : CW Try.prog 84 #[.int .u64 x] w fun v w' => ∃ L : Nat, v = iv L ∧ LenIs x L ∧ w = w' := by
  refine F84_ok _ _ _ (IfB.no (decide_eq_false (by omega)) (IfB.dec (fun h1 => ⟨by decide, ?_⟩) (fun h1 => IfB.dec (fun h2 => ?_) (fun h2 => ?_))))
  · rw [fdv (n := (16 : Int)) (k := 16) rfl]
    refine IfB.no (decide_eq_false (by omega)) ?_
    unfold F84k3
    rw [fdv (n := (16 : Int)) (k := 16) rfl, wu8 (by omega)]
    obtain ⟨y, hy, h3, h4, h5⟩ := tab_get (i := x / 2 ^ 16) (by omega)
    refine ⟨y, by omega, by rw [Int.toNat_natCast]; exact hy, 16 + y.toNat, ?_, LenIs.shift ⟨h3, h4, by omega⟩ (by omega) (by omega), rfl⟩
    rw [wrap_of (n := ((y.toNat : Nat) : Int)) (by omega) (by omega), wrap_of (n := (0 : Int) + 16) (by omega) (by omega), wrap_of (by omega) (by omega)]; rfl
  · unfold F84k4
    rw [fdv (n := (8 : Int)) (k := 8) rfl, wu8 (by omega)]
    obtain ⟨y, hy, h3, h4, h5⟩ := tab_get (i := x / 2 ^ 8) (by omega)
    refine ⟨by decide, y, by omega, by rw [Int.toNat_natCast]; exact hy, 8 + y.toNat, ?_, LenIs.shift ⟨h3, h4, by omega⟩ (by omega) (by omega), rfl⟩
    rw [wrap_of (n := ((y.toNat : Nat) : Int)) (by omega) (by omega), wrap_of (n := (0 : Int) + 8) (by omega) (by omega), wrap_of (by omega) (by omega)]; rfl
  · unfold F84k1
    rw [wu8 (by omega)]
    obtain ⟨y, hy, h3, h4, h5⟩ := tab_get (i := x) (by omega)
    refine ⟨y, by omega, by rw [Int.toNat_natCast]; exact hy, y.toNat, ?_, ⟨h3, h4, by omega⟩, rfl⟩
    rw [wrap_of (n := ((y.toNat : Nat) : Int)) (by omega) (by omega), wrap_of (by omega) (by omega)]; simp
theorem c62 {x : Nat} (hx : x ≤ 1000000) (w : World) : CW Try.prog 62 #[.int .u64 x] w fun v w' => ∃ L : Nat, v = iv L ∧ LenIs x L ∧ w = w' := by
  refine F62_ok _ _ _ ((c84 hx w).use ?_)
  rintro _ _ ⟨L, rfl, hL, rfl⟩
  exact ⟨_, rfl, L, rfl, hL, rfl⟩
theorem wu64 {i : Nat} (h : i < 2 ^ 64) : IntKind.u64.wrap (i : Int) = (i : Int) := by
  unfold IntKind.wrap; simp [IntKind.signed, IntKind.bits]; omega
theorem c104 {x : Nat} (hx : x ≤ 1000000) (w : World) : CW Try.prog 104 #[iv x] w fun v w' => ∃ L : Nat, v = .int .u64 ((2 ^ L : Nat) : Int) ∧ LenIs x L ∧ w = w' := by
  refine F104_ok _ _ _ ?_
  unfold F104
  rw [wu64 (by omega)]
  refine (c62 hx w).use ?_
  rintro _ _ ⟨L, rfl, hL, rfl⟩
  refine ⟨_, rfl, by omega, L, ?_, hL, rfl⟩
  have h24 := hL.2.2
  rw [Int.toNat_natCast, show min L IntKind.u64.bits = L from Nat.min_eq_left (by show L ≤ 64; omega), Int.one_mul]
  have : 2 ^ L < 2 ^ 64 := Nat.pow_lt_pow_right (by decide) (by omega)
  rw [← wu64 this]; simp
theorem c105 {b1 : Nat} {w : World} (h : Ct .u64 b1 w) : CW Try.prog 105 #[.pointer (some ⟨b1, 0, none⟩)] w fun v w' => ∃ n, v = .int .u64 n ∧ Ct .u64 b1 w' ∧ Ch (fun q => q = b1) w w' := by
  obtain ⟨T, n, hn⟩ := h
  refine F105_ok _ w _ ⟨b1, 0, rfl, n, by rw [cell_of (w := w.drew) hn]; rfl, b1, 0, rfl, n, by rw [cell_of (w := w.drew) hn]; rfl, by decide, b1, 0, rfl, rfl, store_one (w := w.drew) hn (by simp) rfl fun w9 h9 => ?_⟩
  have hn9 := h9.new
  refine ⟨b1, 0, rfl, _, by rw [cell_of (w := w9.drew) hn9]; rfl, b1, 0, rfl, _, by rw [cell_of (w := w9.drew) hn9]; rfl, by decide, b1, 0, rfl, rfl, store_one (w := w9.drew) hn9 (by simp) rfl fun w18 h18 => ?_⟩
  have hn18 := h18.new
  refine ⟨b1, 0, rfl, _, by rw [cell_of (w := w18.drew) hn18]; rfl, b1, 0, rfl, _, by rw [cell_of (w := w18.drew) hn18]; rfl, by decide, b1, 0, rfl, rfl, store_one (w := w18.drew) hn18 (by simp) rfl fun w27 h27 => ?_⟩
  have hn27 := h27.new
  exact ⟨b1, 0, rfl, _, by rw [cell_of hn27]; rfl, _, rfl, ⟨T, _, hn27⟩, ((CB.drew (CB.drew (CB.drew (Ch.refl _ w) |>.trans h9.ch) |>.trans h18.ch)).trans h27.ch)⟩
theorem and_le {n : Int} {m : Nat} (hm : m < 2 ^ 64) : ∃ k : Nat, bitsI BinOp.and IntKind.u64 n (m : Int) = (k : Int) ∧ k ≤ m := by
  refine ⟨(BitVec.ofInt 64 n &&& BitVec.ofInt 64 (m : Int)).toNat, ?_, ?_⟩
  · show IntKind.u64.wrap _ = _
    exact wu64 (BitVec.isLt _)
  · rw [BitVec.toNat_and]
    refine Nat.le_trans Nat.and_le_right ?_
    rw [BitVec.ofInt_natCast, BitVec.toNat_ofNat, Nat.mod_eq_of_lt hm]
    exact Nat.le_refl _
end Go.Proofs.Ytmmhbjbaallkfaa.Gx
namespace Go.Proofs.Ytmmhbjbaallkfaa.Gx
open Go
set_option linter.unusedSimpArgs false
set_option linter.unusedVariables false
theorem c88 {s : Sl} {b : Nat} {w : World} {xs : List Int} {a e : Nat} (h : Ar s b w.heap xs) (he : e ≤ xs.length) (ha : a + 12 < e) :
    CW Try.prog 88 #[slV s, iv a, iv e] w fun v w' => v = .tuple #[] ∧ ∃ ys, PI a e xs ys ∧ Ar s b w'.heap ys ∧ CB b w w' := by
  have hl := h.2.2.1
  have hlt := h.lt
  refine F88_ok s a e w _ ?_
  unfold F88
  rw [wsb (by omega) (by omega)]
  refine IfB.yes (decide_eq_true (by omega)) ?_
  intro b1 w2 h2
  have p2 := h2.here; have z2 := h2.size
  rw [wu64 (by omega)]
  refine ⟨rfl, store_all h2.new rfl (by intro u hu; simp at hu; subst hu; rfl) fun w3 h3 => ?_⟩
  have e3 : Ext w w3 := Ext.fresh h2 h3
  have hne : b1 ≠ b := by omega
  refine (c104 (x := e - a) (by omega) w3).use ?_
  rintro _ _ ⟨L, rfl, hL, rfl⟩
  have hq : IntKind.i64.wrap ((((e - a : Nat) : Int)).tdiv (4 : Int)) = (((e - a) / 4 : Nat) : Int) := by
    rw [Int.tdiv_eq_ediv_of_nonneg (by omega), wrap_of (by omega) (by omega)]; omega
  obtain ⟨hL1, hL2, hL3⟩ := hL
  obtain ⟨hL4, hL5⟩ := hL2 (by omega)
  have h2L : 2 ^ L ≤ 2 * (e - a) := by
    have : 2 ^ L = 2 ^ (L - 1) * 2 := by rw [← Nat.pow_succ]; congr 1; omega
    omega
  have hLpos : 0 < 2 ^ L := Nat.pow_pos (by decide)
  generalize 2 ^ L = M at *
  rw [hq, wmul (k := (2 : Int)) (m := 2) rfl (by omega) (by omega), wad (by omega), wm1 (by omega) (by omega)]
  generalize hqq : (e - a) / 4 = q at *
  refine ⟨_, rfl, by decide, fun n x W => ∃ (i : Nat) (ys : List Int), n = a + q * 2 + 2 - i ∧ x = (i : Int) ∧ (a + q * 2 - 1 ≤ i ∧ i ≤ a + q * 2 + 2) ∧ PI a e xs ys ∧ Ar s b W.heap ys ∧ Ct .u64 b1 W ∧ CB b w W, ⟨_, _, xs, rfl, rfl, by omega, .refl, h.ch e3 id, ⟨_, _, h3.new⟩, e3.mono fun _ _ h => h.elim⟩, ?_⟩
  rintro _ _ W _ ⟨i, ys, rfl, rfl, hi, hP, hA, hK, hC⟩
  have hyl := hP.len
  unfold F88j1
  rw [wsb (by omega) (by omega), hq, wmul (k := (2 : Int)) (m := 2) rfl (by omega) (by omega), wad (by omega), wp1 (by omega)]
  refine ⟨by decide, IfB.dec (fun hle => ?_) (fun hgt => ⟨rfl, ys, hP, hA, hC⟩)⟩
  refine (c105 hK).use ?_
  rintro _ w15 ⟨n16, rfl, hK2, hC2⟩
  have hA2 := hA.ch hC2 (Ne.symm hne)
  have hC3 : CB b w w15 := hC.then hC2 fun j hj h => by omega
  have hm : IntKind.u64.wrap ((M : Int) - (1 : Int)) = ((M - 1 : Nat) : Int) := by
    rw [show ((M : Int) - (1 : Int)) = ((M - 1 : Nat) : Int) by omega, wu64 (by omega)]
  obtain ⟨k, hk, hkM⟩ := and_le (n := n16) (m := M - 1) (by omega)
  refine ⟨n16, rfl, fun x W => ∃ t : Nat, x = (t : Int) ∧ t < e - a ∧ w15 = W, ?_, ?_⟩
  · rw [hm, hk, wrap_of (n := (k : Int)) (by omega) (by omega)]
    refine IfB.dec (fun h1 => ⟨rfl, k - (e - a), wsb (by omega) (by omega), by omega, rfl⟩) (fun h1 => ⟨rfl, k, rfl, by omega, rfl⟩)
  rintro _ _ _ ⟨t, rfl, ht, rfl⟩
  unfold F88j2
  rw [wad (by omega)]
  refine sw (w := w15.drew) hA2 (by omega) (by omega) (by omega) (by omega) fun W5 hA5 hC5 => ?_
  rw [Int.toNat_natCast, Int.toNat_natCast] at hA5
  exact ⟨rfl, _, by omega, i + 1, _, rfl, wp1 (by omega), by omega, .step hP (by omega) (by omega) (by omega) (by omega) (by omega), hA5, by
    obtain ⟨T, n, hn⟩ := hK2
    exact ⟨T, n, hC5.at (w := w15.drew) hn hne⟩, hC3.drew.trans hC5⟩
theorem SO.split {ys : List Int} {a m e : Nat} (h1 : SO ys a m) (h2 : SO ys (m + 1) e) (hl : ∀ k, a ≤ k → k < m → g ys k ≤ g ys m) (hr : ∀ k, m < k → k < e → g ys m ≤ g ys k) : SO ys a e := by
  intro p q hp hpq hq
  rcases Nat.lt_trichotomy p m with h | h | h
  · rcases Nat.lt_trichotomy q m with k | k | k
    · exact h1 p q hp hpq k
    · subst k; exact hl p hp h
    · have := hl p hp h; have := hr q k hq; omega
  · subst h; exact hr q hpq hq
  · exact h2 p q (by omega) hpq hq
theorem PI.trans' {a b a' b' : Nat} {xs ys zs : List Int} (h : PI a b xs ys) (k : PI a' b' ys zs) (h1 : a ≤ a') (h2 : b' ≤ b) (h3 : b ≤ xs.length) : PI a b xs zs :=
  h.trans (k.mono h1 h2 (by rw [h.len]; exact h3))
/-- Nothing of [a, e) is less than what stands ahead of a. -/
def LB (xs : List Int) (a e : Nat) : Prop := 0 < a → ∀ k, a ≤ k → k < e → g xs (a - 1) ≤ g xs k
theorem LB.pi {xs ys : List Int} {a e : Nat} (h : LB xs a e) (hP : PI a e xs ys) : LB ys a e := fun h0 k h1 h2 => by
  rw [hP.out (.inl (by omega))]
  exact hP.all (Q := fun v => g xs (a - 1) ≤ v) (fun i h3 h4 => h h0 i h3 h4) k h1 h2
/-- Parted at m. -/
def Pd (ys : List Int) (a m e : Nat) : Prop := (∀ k, a ≤ k → k < m → g ys k ≤ g ys m) ∧ (∀ k, m < k → k < e → g ys m ≤ g ys k)
theorem Pd.left {ys zs : List Int} {a m e : Nat} (h : Pd ys a m e) (hP : PI a m ys zs) : Pd zs a m e := by
  have em : g zs m = g ys m := hP.out (.inr (Nat.le_refl _))
  refine ⟨fun k h1 h2 => ?_, fun k h1 h2 => ?_⟩
  · rw [em]; exact hP.all (Q := fun v => v ≤ g ys m) (fun i h3 h4 => h.1 i h3 h4) k h1 h2
  · rw [em, hP.out (.inr (by omega))]; exact h.2 k h1 h2
theorem Pd.right {ys zs : List Int} {a m e : Nat} (h : Pd ys a m e) (hP : PI (m + 1) e ys zs) : Pd zs a m e := by
  have em : g zs m = g ys m := hP.out (.inl (by omega))
  refine ⟨fun k h1 h2 => ?_, fun k h1 h2 => ?_⟩
  · rw [em, hP.out (.inl (by omega))]; exact h.1 k h1 h2
  · rw [em]; exact hP.all (Q := fun v => g ys m ≤ v) (fun i h3 h4 => h.2 i (by omega) h4) k (by omega) h2
theorem SO.keep {ys zs : List Int} {a e a' e' : Nat} (h : SO ys a e) (hP : PI a' e' ys zs) (hd : e ≤ a' ∨ e' ≤ a) : SO zs a e := by
  intro p q h1 h2 h3
  rw [hP.out (by omega), hP.out (by omega)]
  exact h p q h1 h2 h3
theorem c68 (n : Nat) : ∀ {s : Sl} {b : Nat} {w : World} {xs : List Int} {a e : Nat} (lim : Int), e - a = n → Ar s b w.heap xs → e ≤ xs.length → a ≤ e → LB xs a e →
    CW Try.prog 68 #[slV s, iv a, iv e, iv lim] w fun v w' => v = .tuple #[] ∧ ∃ ys, PI a e xs ys ∧ SO ys a e ∧ Ar s b w'.heap ys ∧ CB b w w' := by
  induction n using Nat.strongRecOn with
  | _ n ih =>
  intro s b w xs a e lim hn h he hae hLB
  have hl := h.2.2.1
  refine F68_ok s a e lim w _ ⟨fun k x W => ∃ (a' e' : Nat) (lm : Int) (wb wp : Bool) (ys : List Int), k = e' - a' ∧ x = ((a' : Int), (e' : Int), lm, wb, wp) ∧ (a ≤ a' ∧ a' ≤ e' ∧ e' ≤ e) ∧ PI a e xs ys ∧ LB ys a' e' ∧
    (∀ zs, PI a' e' ys zs → SO zs a' e' → SO zs a e) ∧ Ar s b W.heap ys ∧ CB b w W, ⟨_, a, e, lim, true, true, xs, rfl, rfl, by omega, .refl, hLB, fun _ _ h => h, h, Ch.refl _ _⟩, ?_⟩
  rintro _ _ W _ ⟨a', e', lm, wb, wp, ys, rfl, rfl, hae', hP, hB, hG, hA, hC⟩
  have hyl := hP.len
  have up : ∀ {zs}, PI a' e' ys zs → PI a e xs zs := fun k => hP.trans' k (by omega) (by omega) he
  unfold F68j1
  dsimp only
  rw [wsb (by omega) (by omega)]
  refine IfB.dec (fun h12 => ?_) (fun h12 => ?_)
  · refine (c86 hA (by omega) (by omega)).use ?_
    rintro _ W2 ⟨rfl, zs, hP2, hS2, hA2, hC2⟩
    exact ⟨(), rfl, rfl, zs, up hP2, hG zs hP2 hS2, hA2, hC.trans hC2⟩
  have hbig : a' + 12 < e' := by omega
  refine IfB.intro (fun _ => ?_) (fun _ => ?_)
  · refine (c87 hA (by omega) (by omega)).use ?_
    rintro _ W2 ⟨rfl, zs, hP2, hS2, hA2, hC2⟩
    exact ⟨(), rfl, rfl, zs, up hP2, hG zs hP2 hS2, hA2, hC.trans hC2⟩
  refine ⟨fun _ W => ∃ zs, PI a' e' ys zs ∧ Ar s b W.heap zs ∧ CB b w W, ?_, ?_⟩
  · refine IfB.intro (fun _ => ?_) (fun _ => ⟨rfl, ys, .refl, hA, hC⟩)
    refine (c88 hA (by omega) hbig).use ?_
    rintro _ W2 ⟨rfl, zs, hP2, hA2, hC2⟩
    exact ⟨(), rfl, rfl, zs, hP2, hA2, hC.trans hC2⟩
  rintro lm2 W2 _ ⟨zs, hP2, hA2, hC2⟩
  have hzl := hP2.len
  unfold F68j2
  dsimp only
  refine (c89 hA2 (by omega) hbig).use ?_
  rintro _ W3 ⟨p, t, rfl, hp, hA3, e3⟩
  have hC3 : CB b w W3 := hC2.then e3 fun _ _ h => h.elim
  refine ⟨((p : Int), t), rfl, fun x W => ∃ (p : Nat) (us : List Int), x.1 = (p : Int) ∧ (a' ≤ p ∧ p < e') ∧ PI a' e' ys us ∧ Ar s b W.heap us ∧ CB b w W, ?_, ?_⟩
  · refine IfB.intro (fun _ => ?_) (fun _ => ⟨rfl, p, zs, rfl, hp, hP2, hA3, hC3⟩)
    refine (c90 hA3 (by omega) (by omega)).use ?_
    rintro _ W4 ⟨rfl, us, hP4, hA4, hC4⟩
    refine ⟨(), rfl, rfl, e' - 1 - (p - a'), us, ?_, by omega, hP2.trans hP4, hA4, hC3.trans hC4⟩
    show IntKind.i64.wrap (IntKind.i64.wrap ((e' : Int) - 1) - IntKind.i64.wrap ((p : Int) - (a' : Int))) = _
    rw [wm1 (by omega) (by omega), wsb (by omega) (by omega), wsb (by omega) (by omega)]
  rintro ⟨_, t2⟩ W5 _ ⟨p, us, rfl, hp, hP5, hA5, hC5⟩
  have hul := hP5.len
  unfold F68j3
  dsimp only
  refine ⟨fun _ W => ∃ us, PI a' e' ys us ∧ Ar s b W.heap us ∧ CB b w W, ?_, ?_⟩
  · refine IfB.intro (fun _ => IfB.intro (fun _ => IfB.intro (fun _ => ?_) (fun _ => ⟨rfl, us, hP5, hA5, hC5⟩)) (fun _ => ⟨rfl, us, hP5, hA5, hC5⟩)) (fun _ => ⟨rfl, us, hP5, hA5, hC5⟩)
    refine (c91 hA5 (by omega) (by omega) (hB.pi hP5)).use ?_
    rintro _ W6 ⟨t, rfl, vs, hP6, hS6, hA6, hC6⟩
    exact ⟨t, rfl, IfB.intro (fun ht => ⟨rfl, vs, up (hP5.trans hP6), hG vs (hP5.trans hP6) (hS6 ht), hA6, hC5.trans hC6⟩) (fun _ => ⟨rfl, vs, hP5.trans hP6, hA6, hC5.trans hC6⟩)⟩
  rintro _ W7 _ ⟨us, hP7, hA7, hC7⟩
  have hul := hP7.len
  have hB7 := hB.pi hP7
  have hG7 : ∀ zs, PI a' e' us zs → SO zs a' e' → SO zs a e := fun zs k => hG zs (hP7.trans k)
  have part : ∀ {W8 : World}, W8.heap = W7.heap → CB b w W8 → CX Try.prog 94 #[slV s, iv a', iv e', iv p] W8 fun v65 w66 => ∃ x67 : Int × Bool, v65 = .tuple #[.int .i64 x67.1, .bool x67.2] ∧ ¬(8 : Int) = 0 ∧
      IfB (decide (IntKind.i64.wrap (x67.fst - (a' : Int)) < IntKind.i64.wrap ((e' : Int) - x67.fst))) (F68k2 s ((a' : Int), (e' : Int), lm, wb, wp) x67 lm2 w66 (e' - a') (fun k x W => ∃ (a' e' : Nat) (lm : Int) (wb wp : Bool) (ys : List Int), k = e' - a' ∧ x = ((a' : Int), (e' : Int), lm, wb, wp) ∧ (a ≤ a' ∧ a' ≤ e' ∧ e' ≤ e) ∧ PI a e xs ys ∧ LB ys a' e' ∧
    (∀ zs, PI a' e' ys zs → SO zs a' e' → SO zs a e) ∧ Ar s b W.heap ys ∧ CB b w W))
       (F68k1 s x67 ((a' : Int), (e' : Int), lm, wb, wp) lm2 w66 (e' - a') (fun k x W => ∃ (a' e' : Nat) (lm : Int) (wb wp : Bool) (ys : List Int), k = e' - a' ∧ x = ((a' : Int), (e' : Int), lm, wb, wp) ∧ (a ≤ a' ∧ a' ≤ e' ∧ e' ≤ e) ∧ PI a e xs ys ∧ LB ys a' e' ∧
    (∀ zs, PI a' e' ys zs → SO zs a' e' → SO zs a e) ∧ Ar s b W.heap ys ∧ CB b w W)) := by
    intro W8 hW8 hC8
    have hA8 : Ar s b W8.heap us := by rw [hW8]; exact hA7
    refine (c94 hA8 (by omega) hp).use ?_
    rintro _ W9 ⟨m, t, rfl, hm, vs, hP9, h1, h2, hA9, hC9⟩
    have hvl := hP9.len
    have hPd : Pd vs a' m e' := ⟨fun k h3 h4 => Int.le_of_lt (h1 k h3 h4), h2⟩
    have hB9 := hB7.pi hP9
    have hC9 := hC8.trans hC9
    refine ⟨((m : Int), t), rfl, by decide, IfB.intro (fun _ => ?_) (fun _ => ?_)⟩
    · unfold F68k2
      refine (ih (m - a') (by omega) lm2 rfl hA9 (by omega) (by omega) fun h0 k h3 h4 => hB9 h0 k h3 (by omega)).use ?_
      rintro _ W10 ⟨rfl, ts, hP10, hS10, hA10, hC10⟩
      have hPd2 := hPd.left hP10
      refine ⟨(), rfl, rfl, e' - (m + 1), by omega, m + 1, e', _, _, _, ts, rfl, by rw [wp1 (by omega)], by omega, hP.trans' (hP7.trans (hP9.trans' hP10 (by omega) (by omega) (by omega))) (by omega) (by omega) he, fun _ k h3 h4 => hPd2.2 k (by omega) h4, fun zs hz hSz => ?_, hA10, hC9.trans hC10⟩
      have hPz : PI a' e' us zs := (hP9.trans' hP10 (by omega) (by omega) (by omega)).trans' hz (by omega) (by omega) (by omega)
      have hPd3 := hPd2.right hz
      exact hG7 zs hPz ((hS10.keep hz (.inl (by omega))).split hSz hPd3.1 hPd3.2)
    · unfold F68k1
      dsimp only
      rw [wp1 (by omega)]
      refine (ih (e' - (m + 1)) (by omega) lm2 rfl hA9 (by omega) (by omega) fun h0 k h3 h4 => hPd.2 k (by omega) h4).use ?_
      rintro _ W10 ⟨rfl, ts, hP10, hS10, hA10, hC10⟩
      have hPd2 := hPd.right hP10
      have hB10 : LB ts a' m := fun h0 k h3 h4 => by
        rw [hP10.out (.inl (by omega)), hP10.out (.inl (by omega))]
        exact hB9 h0 k h3 (by omega)
      refine ⟨(), rfl, rfl, m - a', by omega, a', m, _, _, _, ts, rfl, rfl, by omega, hP.trans' (hP7.trans (hP9.trans' hP10 (by omega) (by omega) (by omega))) (by omega) (by omega) he, hB10, fun zs hz hSz => ?_, hA10, hC9.trans hC10⟩
      have hPz : PI a' e' us zs := (hP9.trans' hP10 (by omega) (by omega) (by omega)).trans' hz (by omega) (by omega) (by omega)
      have hPd3 := hPd2.left hz
      exact hG7 zs hPz (hSz.split (hS10.keep hz (.inr (by omega))) hPd3.1 hPd3.2)
  unfold F68j4
  dsimp only
  refine IfB.dec (fun h0 => ?_) (fun h0 => part rfl hC7.drew)
  have h0 : 0 < a' := by omega
  rw [wm1 (by omega) (by omega)]
  refine ls (w := W7.drew) hA7 (by omega) (by omega) (by omega) (by omega) (IfB.intro (fun hl1 => ?_) (fun _ => part rfl hC7.drew))
  simp only [Int.toNat_natCast, Bool.not_eq_true', decide_eq_false_iff_not] at hl1
  refine (c93 (w := W7.drew) hA7 (by omega) hp).use ?_
  rintro _ W8 ⟨m, rfl, hm, vs, hP8, hv, h1, h2, hA8, hC8⟩
  have hvl := hP8.len
  have hB8 := hB7.pi hP8
  have ho : g vs (a' - 1) = g us (a' - 1) := hP8.out (.inl (by omega))
  have hv1 : ∀ k, a' ≤ k → k < m → g vs k = g us p := fun k h3 h4 => by
    have := h1 k h3 h4
    have := hB8 h0 k h3 (by omega)
    omega
  refine ⟨_, rfl, rfl, e' - m, by omega, m, e', lm2, wb, wp, vs, rfl, rfl, by omega, up (hP7.trans hP8), fun _ k h3 h4 => ?_, fun zs hz hSz => ?_, hA8, hC7.drew.trans hC8⟩
  · rw [hv1 (m - 1) (by omega) (by omega)]
    have := h2 k h3 h4
    omega
  · have hlow : ∀ k, a' ≤ k → k < m → g zs k = g us p := fun k h3 h4 => by rw [hz.out (.inl h4)]; exact hv1 k h3 h4
    have hhigh : ∀ k, m ≤ k → k < e' → g us p < g zs k := hz.all (Q := fun v => g us p < v) h2
    refine hG7 zs (hP8.trans' hz (by omega) (by omega) (by omega)) fun i j h3 h4 h5 => ?_
    by_cases hj : j < m
    · rw [hlow i h3 (by omega), hlow j (by omega) hj]; exact Int.le_refl _
    · by_cases hi : i < m
      · rw [hlow i h3 hi]
        have := hhigh j (by omega) h5
        omega
      · exact hSz i j (by omega) h4 h5
/-- slices.Sort -/
theorem SO.sorted {ys : List Int} (h : SO ys 0 ys.length) : ys.Pairwise (· ≤ ·) := by
  rw [List.pairwise_iff_getElem]
  intro i j hi hj hij
  have := h i j (Nat.zero_le _) hij hj
  have e1 := g_eq hi; have e2 := g_eq hj
  rw [List.getElem?_eq_getElem hi] at e1
  rw [List.getElem?_eq_getElem hj] at e2
  rw [Option.some.injEq] at e1 e2
  rw [e1, e2]; exact this
theorem c125e (s : Sl) (w : World) : CW Try.prog 86 #[slV s, iv 0, iv 0] w fun v w' => v = .tuple #[] ∧ w = w' := by
  refine F86_ok s (0 : Int) (0 : Int) w _ ⟨fun k x W' => x = (1 : Int) ∧ w = W', ⟨0, by decide, rfl⟩, ?_⟩
  rintro k _ _ _ ⟨rfl, rfl⟩
  exact IfB.no (by decide) ⟨rfl, rfl⟩
theorem c120e (s : Sl) (L : Int) (w : World) : CW Try.prog 68 #[slV s, iv 0, iv 0, iv L] w fun v w' => v = .tuple #[] ∧ w = w' := by
  refine F68_ok s (0 : Int) (0 : Int) L w _ ⟨fun k x W => x = ((0 : Int), (0 : Int), L, true, true) ∧ w = W, ⟨0, rfl, rfl⟩, ?_⟩
  rintro k _ _ _ ⟨rfl, rfl⟩
  unfold F68j1
  refine IfB.yes (show decide (IntKind.i64.wrap ((0 : Int) - (0 : Int)) ≤ (12 : Int)) = true by decide) ((c125e s w).use ?_)
  rintro _ _ ⟨rfl, rfl⟩
  exact ⟨(), rfl, rfl, rfl⟩
theorem c49 {w : World} {s : Sl} {xs : List Int} (h : OwS w s 1 (xs.map iv)) (hl : xs.length ≤ 1000000) :
    CW Try.prog 49 #[slV s] w fun v w' => v = .tuple #[] ∧ ∃ ys : List Int, ys.Perm xs ∧ ys.Pairwise (· ≤ ·) ∧ OwS w' s 1 (ys.map iv) ∧ Ch (fun i => i ∈ blk s) w w' := by
  have hn := h.len1
  rw [List.length_map] at hn
  refine F49_ok s w _ ?_
  unfold F49
  rw [show (s.2 : Int) = ((xs.length : Nat) : Int) by show (s.n : Int) = _; rw [hn], wu64 (by omega)]
  refine (c62 hl w).use ?_
  rintro _ _ ⟨L, rfl, hL, rfl⟩
  refine ⟨_, rfl, ?_⟩
  by_cases h0 : xs.length = 0
  · have : xs = [] := List.length_eq_zero_iff.1 h0
    subst this
    refine (c120e s L w).use ?_
    rintro _ _ ⟨rfl, rfl⟩
    exact ⟨(), rfl, rfl, [], .refl _, .nil, h, Ch.refl _ _⟩
  · obtain ⟨b, hA, hb⟩ := Ar.of h (by omega) hl
    refine (c68 _ (L : Int) rfl hA (Nat.le_refl _) (Nat.zero_le _) (fun h0 => absurd h0 (by decide))).use ?_
    rintro _ W2 ⟨rfl, ys, hP, hS, hA2, hC2⟩
    have hyl := hP.len
    exact ⟨(), rfl, rfl, ys, hP.perm, SO.sorted (by rw [hyl]; exact hS), hA2.own, hC2.mono fun i _ hi => by rw [hb]; simpa using hi⟩
end Go.Proofs.Ytmmhbjbaallkfaa.Gx

/- Relations: what comes of what by a way; without a circle somebody waits for those alone that don't. Lists without neighbours that are the same. -/
namespace Go.Proofs.Ytmmhbjbaallkfaa.Gx
open Go
set_option linter.unusedSimpArgs false
set_option linter.unusedVariables false
/-- A way, of one step or more. -/
inductive TC {α : Type} (E : α → α → Prop) : α → α → Prop
  | one {a b : α} : E a b → TC E a b
  | more {a b c : α} : TC E a b → E b c → TC E a c
section
variable {α : Type} {E E' : α → α → Prop}
theorem TC.trans {a b c : α} (h : TC E a b) (k : TC E b c) : TC E a c := by
  induction k with
  | one e => exact .more h e
  | more _ e ih => exact .more ih e
theorem TC.first {a b : α} (h : TC E a b) : ∃ c, E a c ∧ (c = b ∨ TC E c b) := by
  induction h with
  | one e => exact ⟨_, e, .inl rfl⟩
  | more h e ih =>
    obtain ⟨c, h1, h2⟩ := ih
    refine ⟨c, h1, .inr ?_⟩
    rcases h2 with rfl | h2
    · exact .one e
    · exact .more h2 e
end
def cmp1 : Int → List Int → List Int
  | _, [] => []
  | p, y :: l => if y = p then cmp1 y l else y :: cmp1 y l
def compactL : List Int → List Int
  | [] => []
  | x :: l => x :: cmp1 x l
theorem cmp1_mem : ∀ {l : List Int} {p x : Int}, x ∈ p :: cmp1 p l ↔ x ∈ p :: l
  | [], p, x => Iff.rfl
  | y :: l, p, x => by
    unfold cmp1
    have ih := cmp1_mem (l := l) (p := y) (x := x)
    simp only [List.mem_cons] at ih
    by_cases h : y = p
    · rw [if_pos h]
      subst h
      simp only [List.mem_cons, ih]
      constructor
      · rintro (h | h) <;> simp [h]
      · rintro (h | h | h) <;> simp [h]
    · rw [if_neg h]
      simp only [List.mem_cons, ih]
theorem compactL_mem {l : List Int} {x : Int} : x ∈ compactL l ↔ x ∈ l := by
  cases l with
  | nil => rfl
  | cons y l => exact cmp1_mem
theorem cmp1_sorted : ∀ {l : List Int} {p : Int}, (p :: l).Pairwise (· ≤ ·) → (p :: cmp1 p l).Pairwise (· < ·)
  | [], p, _ => by simp [cmp1]
  | y :: l, p, h => by
    obtain ⟨h1, h2⟩ := List.pairwise_cons.1 h
    unfold cmp1
    have ih := cmp1_sorted h2
    by_cases he : y = p
    · rw [if_pos he]; subst he; exact ih
    · rw [if_neg he]
      refine List.pairwise_cons.2 ⟨fun z hz => ?_, ih⟩
      have hpy := h1 y (by simp)
      have hyz := cmp1_mem.1 hz
      rcases List.mem_cons.1 hyz with rfl | hz'
      · omega
      · have := (List.pairwise_cons.1 h2).1 z hz'; omega
theorem compactL_sorted {l : List Int} (h : l.Pairwise (· ≤ ·)) : (compactL l).Pairwise (· < ·) := by
  cases l with
  | nil => exact .nil
  | cons x l => exact cmp1_sorted h
theorem cmp1_len : ∀ (l : List Int) (p : Int), (cmp1 p l).length ≤ l.length
  | [], _ => Nat.le_refl _
  | y :: l, p => by
    unfold cmp1
    have := cmp1_len l y
    split
    · rw [List.length_cons]; omega
    · rw [List.length_cons, List.length_cons]; omega
theorem compactL_len (l : List Int) : (compactL l).length ≤ l.length := by
  cases l with
  | nil => exact Nat.le_refl _
  | cons x l => have := cmp1_len l x; simp only [compactL, List.length_cons]; omega
/-- One more at the end. -/
theorem cmp1_append : ∀ (l : List Int) (p y : Int), cmp1 p (l ++ [y]) = cmp1 p l ++ if (p :: l).getLast? = some y then [] else [y]
  | [], p, y => by
    simp only [List.nil_append, cmp1, List.getLast?_singleton, Option.some.injEq]
    by_cases h : y = p
    · rw [if_pos h, if_pos h.symm]
    · rw [if_neg h, if_neg fun e => h e.symm]
  | x :: l, p, y => by
    rw [List.cons_append]
    unfold cmp1
    rw [cmp1_append l x y, List.getLast?_cons_cons]
    split <;> rfl
theorem compactL_append {l : List Int} {y : Int} : compactL (l ++ [y]) = compactL l ++ if l.getLast? = some y then [] else [y] := by
  cases l with
  | nil => rfl
  | cons x l =>
    show x :: cmp1 x (l ++ [y]) = (x :: cmp1 x l) ++ _
    rw [cmp1_append]; rfl
end Go.Proofs.Ytmmhbjbaallkfaa.Gx

/- Package slices, of any elements: DeleteFunc; of ints: Compact. -/
namespace Go.Proofs.Ytmmhbjbaallkfaa.Gx
open Go
set_option linter.unusedSimpArgs false
set_option linter.unusedVariables false
section
variable {δ : Type} {sv : δ → List Value} {sz : Nat}
theorem flatLen (h : ∀ x, (sv x).length = sz) : ∀ l : List δ, (l.flatMap sv).length = l.length * sz
  | [] => by simp
  | x :: l => by rw [List.flatMap_cons, List.length_append, flatLen h l, h, List.length_cons, Nat.add_mul]; omega
theorem flatTake (h : ∀ x, (sv x).length = sz) : ∀ (l : List δ) (i : Nat), (l.flatMap sv).take (i * sz) = (l.take i).flatMap sv
  | [], i => by simp
  | x :: l, 0 => by simp
  | x :: l, i + 1 => by
    rw [List.flatMap_cons, List.take_succ_cons, List.flatMap_cons, ← flatTake h l i, Nat.add_mul, Nat.one_mul, Nat.add_comm, ← h x, List.take_length_add_append]
theorem flatDrop (h : ∀ x, (sv x).length = sz) : ∀ (l : List δ) (i : Nat), (l.flatMap sv).drop (i * sz) = (l.drop i).flatMap sv
  | [], i => by simp
  | x :: l, 0 => by simp
  | x :: l, i + 1 => by
    rw [List.flatMap_cons, List.drop_succ_cons, ← flatDrop h l i, Nat.add_mul, Nat.one_mul, Nat.add_comm, ← h x, List.drop_length_add_append]
theorem flatSet (h : ∀ x, (sv x).length = sz) {l : List δ} {i : Nat} {x : δ} (hi : i < l.length) : (l.flatMap sv).take (i * sz) ++ sv x ++ (l.flatMap sv).drop (i * sz + sz) = (l.set i x).flatMap sv := by
  rw [List.set_eq_take_append_cons_drop, if_pos hi, List.flatMap_append, List.flatMap_cons, flatTake h, show i * sz + sz = (i + 1) * sz by rw [Nat.add_mul, Nat.one_mul], flatDrop h]
  simp
theorem flatGet (h : ∀ x, (sv x).length = sz) {l : List δ} {i : Nat} {x : δ} (hx : l[i]? = some x) : ((l.flatMap sv).drop (i * sz)).take sz = sv x := by
  obtain ⟨hi, rfl⟩ := List.getElem?_eq_some_iff.1 hx
  rw [flatDrop h, List.drop_eq_getElem_cons hi, List.flatMap_cons, ← h l[i], List.take_append_of_le_length (Nat.le_refl _), List.take_length]
theorem flatOne (h : ∀ x, One (sv x)) (l : List δ) : One (l.flatMap sv) := by
  intro v hv
  obtain ⟨x, _, hx⟩ := List.mem_flatMap.1 hv
  exact h x v hx
theorem owsN {w : World} {t : Sl} {l : List δ} (h : ∀ x, (sv x).length = sz) (hz : 0 < sz) (ho : OwS w t sz (l.flatMap sv)) : t.n = l.length := by
  have := ho.len
  rw [flatLen h] at this
  exact (Nat.eq_of_mul_eq_mul_right hz this).symm
theorem rdN {w : World} {t : Sl} {l : List δ} (h : ∀ x, (sv x).length = sz) (hz : 0 < sz) (ho : Rd w t sz (l.flatMap sv)) : t.n = l.length := by
  have := ho.1
  rw [flatLen h] at this
  exact (Nat.eq_of_mul_eq_mul_right hz this).symm
end
theorem takeFilter {α : Type} {p : α → Bool} {l : List α} {i : Nat} {x : α} (h : l[i]? = some x) : (l.take (i + 1)).filter p = (l.take i).filter p ++ if p x then [x] else [] := by
  rw [take_succ_get h, List.filter_append]
  cases hp : p x <;> simp [hp]
end Go.Proofs.Ytmmhbjbaallkfaa.Gx

/- slices.SortFunc of spans: by a key of each, which what compares tells. Written by mksrf.py, mksrf2.py out of XSrt. -/
namespace Go.Proofs.Ytmmhbjbaallkfaa.Gx.SfS
open Go Go.Proofs.Ytmmhbjbaallkfaa.Gx
set_option linter.unusedSimpArgs false
set_option linter.unusedVariables false
abbrev El := Int × Int
abbrev sv (x : El) : List Value := [.int .i64 x.1, .int .i64 x.2]
theorem sv_len (x : El) : (sv x).length = 2 := rfl
theorem sv_one (x : El) : One (sv x) := by intro v hv; simp at hv; rcases hv with rfl | rfl <;> rfl
/-- What is compared. -/
def key (x : El) : Int := x.1
def ge (xs : List El) (i : Nat) : El := xs.getD i (0, 0)
def g (xs : List El) (i : Nat) : Int := key (ge xs i)
def swp (xs : List El) (p q : Nat) : List El := (xs.set p (ge xs q)).set q (ge xs p)
theorem swp_len (xs : List El) (p q : Nat) : (swp xs p q).length = xs.length := by simp [swp]
theorem ge_eq {xs : List El} {i : Nat} (h : i < xs.length) : xs[i]? = some (ge xs i) := by
  unfold ge; rw [List.getElem?_eq_getElem h, List.getElem_eq_getD (fallback := (0, 0))]
theorem ge_swp {xs : List El} {p q : Nat} (hp : p < xs.length) (hcp : q < xs.length) (i : Nat) : ge (swp xs p q) i = if i = q then ge xs p else if i = p then ge xs q else ge xs i := by
  show ((xs.set p (ge xs q)).set q (ge xs p)).getD i (0, 0) = _
  rw [List.getD_eq_getElem?_getD, List.getElem?_set, List.getElem?_set]
  by_cases h1 : q = i
  · subst h1; simp [hcp]
  · by_cases h2 : p = i
    · subst h2; simp [h1, hp, Ne.symm h1]
    · simp only [if_neg h1, if_neg h2, if_neg (Ne.symm h1), if_neg (Ne.symm h2)]
      unfold ge; rw [List.getD_eq_getElem?_getD]
theorem g_swp {xs : List El} {p q : Nat} (hp : p < xs.length) (hcp : q < xs.length) (i : Nat) : g (swp xs p q) i = if i = q then g xs p else if i = p then g xs q else g xs i := by
  unfold g; rw [ge_swp hp hcp]
  split
  · rfl
  · split <;> rfl
theorem g_swq {xs : List El} {p q : Nat} (hp : p < xs.length) (hcp : q < xs.length) : g (swp xs p q) q = g xs p := by rw [g_swp hp hcp, if_pos rfl]
theorem g_swl {xs : List El} {p q : Nat} (hp : p < xs.length) (hcp : q < xs.length) : g (swp xs p q) p = g xs q := by
  rw [g_swp hp hcp]
  split
  · rename_i h; rw [h]
  · rw [if_pos rfl]
theorem g_swo {xs : List El} {p q i : Nat} (hp : p < xs.length) (hcp : q < xs.length) (h1 : i ≠ p) (h2 : i ≠ q) : g (swp xs p q) i = g xs i := by rw [g_swp hp hcp, if_neg h2, if_neg h1]
theorem swp_perm {xs : List El} {p q : Nat} (hp : p < xs.length) (hcp : q < xs.length) : (swp xs p q).Perm xs := by
  have h := (Array.swap_perm (xs := xs.toArray) (i := p) (j := q) (by simpa using hp) (by simpa using hcp)).toList
  have e : (xs.toArray.swap p q (by simpa using hp) (by simpa using hcp)).toList = swp xs p q := by
    apply List.ext_getElem?
    intro i
    simp only [Array.swap, swp, Array.toList_set, List.getElem_toArray, ge, List.getD_eq_getElem?_getD, List.getElem?_eq_getElem hp, List.getElem?_eq_getElem hcp, Option.getD_some]
  rw [e] at h
  exact h
/-- Turned inside [a, b) alone, by swaps. -/
inductive PI (a b : Nat) (xs : List El) : List El → Prop
  | refl : PI a b xs xs
  | step {ys : List El} {p q : Nat} : PI a b xs ys → a ≤ p → p < b → a ≤ q → q < b → b ≤ ys.length → PI a b xs (swp ys p q)
theorem PI.len {a b : Nat} {xs ys : List El} (h : PI a b xs ys) : ys.length = xs.length := by
  induction h with
  | refl => rfl
  | step _ _ _ _ _ _ ih => rw [swp_len, ih]
theorem PI.perm {a b : Nat} {xs ys : List El} (h : PI a b xs ys) : ys.Perm xs := by
  induction h with
  | refl => exact .refl _
  | step _ _ h2 _ h4 h5 ih => exact (swp_perm (by omega) (by omega)).trans ih
theorem PI.out {a b : Nat} {xs ys : List El} (h : PI a b xs ys) {i : Nat} (hi : i < a ∨ b ≤ i) : g ys i = g xs i := by
  induction h with
  | refl => rfl
  | step _ h1 h2 h3 h4 h5 ih => rw [g_swp (by omega) (by omega), if_neg (by omega), if_neg (by omega), ih]
theorem PI.all {a b : Nat} {xs ys : List El} (h : PI a b xs ys) {Q : Int → Prop} (hq : ∀ i, a ≤ i → i < b → Q (g xs i)) : ∀ i, a ≤ i → i < b → Q (g ys i) := by
  induction h with
  | refl => exact hq
  | step _ h1 h2 h3 h4 h5 ih =>
    intro i hi hi2
    rw [g_swp (by omega) (by omega)]
    split
    · exact ih _ h1 h2
    · split
      · exact ih _ h3 h4
      · exact ih _ hi hi2
theorem PI.mono {a b a' b' : Nat} {xs ys : List El} (h : PI a b xs ys) (ha : a' ≤ a) (hb : b ≤ b') (hl : b' ≤ xs.length) : PI a' b' xs ys := by
  induction h with
  | refl => exact .refl
  | step h h1 h2 h3 h4 h5 ih => exact .step ih (by omega) (by omega) (by omega) (by omega) (by rw [h.len]; exact hl)
theorem PI.trans {a b : Nat} {xs ys zs : List El} (h : PI a b xs ys) (k : PI a b ys zs) : PI a b xs zs := by
  induction k with
  | refl => exact h
  | step _ h1 h2 h3 h4 h5 ih => exact .step ih h1 h2 h3 h4 h5
/-- Sorted from a, ahead of b. -/
def SO (xs : List El) (a b : Nat) : Prop := ∀ i j, a ≤ i → i < j → j < b → g xs i ≤ g xs j
def Ar (s : Sl) (b : Nat) (H : Array Obj) (xs : List El) : Prop :=
  s.p = some ⟨b, 0, none⟩ ∧ s.n = xs.length ∧ xs.length ≤ 1000000 ∧ ∃ arr T, H[b]? = some (.cells arr T (0, 0)) ∧ arr.size = s.c * 2 ∧ s.n ≤ s.c ∧ arr.toList.take (s.n * 2) = xs.flatMap sv
theorem Ar.own {s : Sl} {b : Nat} {w : World} {xs : List El} (h : Ar s b w.heap xs) : OwS w s 2 (xs.flatMap sv) := by
  obtain ⟨h1, h2, _, arr, T, h3, h4, h5, h6⟩ := h
  exact .inr ⟨b, arr, T, h1, h3, h4, h5, h6⟩
theorem Ar.ofp {s : Sl} {b : Nat} {w : World} {xs : List El} (h : OwS w s 2 (xs.flatMap sv)) (hp : s.p = some ⟨b, 0, none⟩) (hl : xs.length ≤ 1000000) : Ar s b w.heap xs := by
  have hn := owsN sv_len (by omega) h
  rcases h with ⟨rfl, _⟩ | ⟨b', arr, T, h1, h3, h4, h5, h6⟩
  · cases hp
  · rw [h1] at hp; cases hp
    exact ⟨h1, hn, hl, arr, T, h3, h4, h5, h6⟩
theorem Ar.of {s : Sl} {w : World} {xs : List El} (h : OwS w s 2 (xs.flatMap sv)) (h0 : 0 < xs.length) (hl : xs.length ≤ 1000000) : ∃ b, Ar s b w.heap xs ∧ blk s = [b] := by
  have hn := owsN sv_len (by omega) h
  obtain ⟨b, hp⟩ := h.ptr (by omega)
  exact ⟨b, Ar.ofp h hp hl, by simp [blk, hp]⟩
theorem Ar.lt {s : Sl} {b : Nat} {w : World} {xs : List El} (h : Ar s b w.heap xs) : b < w.heap.size := by
  obtain ⟨_, _, _, _, _, h3, _⟩ := h
  exact heap_lt h3
theorem rd {s : Sl} {b : Nat} {w : World} {xs : List El} (h : Ar s b w.heap xs) {i : Int} (h0 : 0 ≤ i) (h1 : i < xs.length) {K : El → Prop} (k : K (ge xs i.toNat)) :
    ∃ b1 b2 : Nat, s.1 = some ⟨b1, b2, none⟩ ∧ ((0 : Int) ≤ i ∧ i < (s.2 : Int)) ∧ ∃ n : El, CellsAt w b1 (b2 + i.toNat * 2) [.int .i64 n.1, .int .i64 n.2] ∧ K n := by
  have e2 := h.2.1
  obtain ⟨b', hp, hc⟩ := h.own.elem (i := i.toNat) (by omega) (flatGet sv_len (ge_eq (xs := xs) (i := i.toNat) (by omega)))
  exact ⟨b', 0, hp, ⟨h0, by show i < (s.n : Int); omega⟩, _, by rw [Nat.zero_add]; exact hc, k⟩
theorem wr {s : Sl} {b : Nat} {w : World} {xs : List El} (h : Ar s b w.heap xs) {i : Int} {x : El} (h0 : 0 ≤ i) (h1 : i < xs.length) {K : World → Prop} (k : ∀ w', Ar s b w'.heap (xs.set i.toNat x) → CB b w w' → K w') :
    ∃ b1 b2 : Nat, s.1 = some ⟨b1, b2, none⟩ ∧ ((0 : Int) ≤ i ∧ i < (s.2 : Int)) ∧ #[Value.int .i64 x.1, Value.int .i64 x.2].size = 2 ∧ StoreP w b1 (b2 + i.toNat * 2) [.int .i64 x.1, .int .i64 x.2] K := by
  have e1 := h.1; have e2 := h.2.1; have el := h.2.2.1
  refine ⟨b, 0, e1, ⟨h0, by show i < (s.n : Int); omega⟩, rfl, ?_⟩
  rw [Nat.zero_add]
  refine h.own.store (vs := sv x) e1 (by rw [sv_len]; omega) (sv_one x) fun w' ho hc => k w' (Ar.ofp ?_ e1 (by rw [List.length_set]; exact el)) hc
  rw [sv_len, flatSet sv_len (by omega)] at ho
  exact ho
/-- data[p], data[q] = data[q], data[p] -/
theorem sw {s : Sl} {b : Nat} {w : World} {xs : List El} (h : Ar s b w.heap xs) {p q : Int} (hp0 : 0 ≤ p) (hp1 : p < xs.length) (hq0 : 0 ≤ q) (hq1 : q < xs.length) {K : World → Prop} (k : ∀ w', Ar s b w'.heap (swp xs p.toNat q.toNat) → CB b w w' → K w') :
    ∃ b1 b2 : Nat, s.1 = some ⟨b1, b2, none⟩ ∧ ((0 : Int) ≤ q ∧ q < (s.2 : Int)) ∧ ∃ n : El, CellsAt w b1 (b2 + q.toNat * 2) [.int .i64 n.1, .int .i64 n.2] ∧
    ∃ b3 b4 : Nat, s.1 = some ⟨b3, b4, none⟩ ∧ ((0 : Int) ≤ p ∧ p < (s.2 : Int)) ∧ ∃ m : El, CellsAt w b3 (b4 + p.toNat * 2) [.int .i64 m.1, .int .i64 m.2] ∧
    ∃ b5 b6 : Nat, s.1 = some ⟨b5, b6, none⟩ ∧ ((0 : Int) ≤ p ∧ p < (s.2 : Int)) ∧ #[Value.int .i64 n.1, Value.int .i64 n.2].size = 2 ∧ StoreP w b5 (b6 + p.toNat * 2) [.int .i64 n.1, .int .i64 n.2] fun w1 =>
    ∃ b7 b8 : Nat, s.1 = some ⟨b7, b8, none⟩ ∧ ((0 : Int) ≤ q ∧ q < (s.2 : Int)) ∧ #[Value.int .i64 m.1, Value.int .i64 m.2].size = 2 ∧ StoreP w1 b7 (b8 + q.toNat * 2) [.int .i64 m.1, .int .i64 m.2] K := by
  refine rd h hq0 hq1 (rd h hp0 hp1 (wr h hp0 hp1 fun w1 h1 c1 => wr h1 hq0 (by rw [List.length_set]; exact hq1) fun w2 h2 c2 => k w2 h2 (c1.trans c2)))
/-- What compares: by its sign, and leaves what was there. -/
def CmpP (cl : Nat × Array Value) : Prop := ∀ (x y : El) (W : World), CW Try.prog cl.1 { toList := Value.agg (sv x).toArray :: Value.agg (sv y).toArray :: cl.2.toList } W fun v w' => ∃ n : Int, v = iv n ∧ (n < 0 ↔ key x < key y) ∧ Ext W w'
theorem ls {cl : Nat × Array Value} (hcp : CmpP cl) {s : Sl} {b : Nat} {w : World} {xs : List El} (h : Ar s b w.heap xs) {i j : Int} (hi0 : 0 ≤ i) (hi1 : i < xs.length) (hj0 : 0 ≤ j) (hj1 : j < xs.length) {K : Int → World → Prop} (k : ∀ (nn : Int) (ww : World), (nn < 0 ↔ g xs i.toNat < g xs j.toNat) → Ext w ww → K nn ww) :
    ∃ b1 b2 : Nat, s.1 = some ⟨b1, b2, none⟩ ∧ ((0 : Int) ≤ i ∧ i < (s.2 : Int)) ∧ ∃ n : El, CellsAt w b1 (b2 + i.toNat * 2) [.int .i64 n.1, .int .i64 n.2] ∧
    ∃ b3 b4 : Nat, s.1 = some ⟨b3, b4, none⟩ ∧ ((0 : Int) ≤ j ∧ j < (s.2 : Int)) ∧ ∃ m : El, CellsAt w b3 (b4 + j.toNat * 2) [.int .i64 m.1, .int .i64 m.2] ∧
    CX Try.prog cl.1 { toList := Value.agg #[.int .i64 n.1, .int .i64 n.2] :: Value.agg #[.int .i64 m.1, .int .i64 m.2] :: cl.2.1 } w fun v w' => ∃ n : Int, v = .int .i64 n ∧ K n w' := by
  refine rd h hi0 hi1 (rd h hj0 hj1 ((hcp _ _ w).use ?_))
  rintro _ ww ⟨n, rfl, hn, e⟩
  exact ⟨n, rfl, k n ww hn e⟩
theorem decC {n : Int} {P : Prop} [Decidable P] {A B : Prop} (hn : n < 0 ↔ P) (h : P → A) (k : ¬ P → B) : IfB (decide (n < 0)) A B := IfB.dec (fun h' => h (hn.1 h')) fun h' => k fun hp => h' (hn.2 hp)
theorem introC {n : Int} {P : Prop} [Decidable P] {A B : Prop} (hn : n < 0 ↔ P) (h : (!decide P) = true → A) (k : (!decide P) = false → B) : IfB (!decide (n < 0)) A B := by
  rw [show decide (n < 0) = decide P from decide_eq_decide.2 hn]
  exact IfB.intro h k
theorem Ar.ch {F : Nat → Prop} {s : Sl} {b : Nat} {w w' : World} {xs : List El} (h : Ar s b w.heap xs) (hc : Ch F w w') (hF : ¬ F b) : Ar s b w'.heap xs := by
  obtain ⟨e1, e2, e3, arr, T, e4, e5⟩ := h
  exact ⟨e1, e2, e3, arr, T, hc.at e4 hF, e5⟩
theorem CBe {b : Nat} {w W W' : World} (h : CB b w W) (e : Ext W W') : CB b w W' := Ch.then h e fun _ _ h => h.elim
theorem c116 {cl : Nat × Array Value} (hcp : CmpP cl) {s : Sl} {b : Nat} {w : World} {xs : List El} {a e : Nat} (h : Ar s b w.heap xs) (he : e ≤ xs.length) (ha : a ≤ xs.length) :
    CW Try.prog 116 #[slV s, iv a, iv e, .func (.func cl.1) #[] cl.2] w fun v w' => v = .tuple #[] ∧ ∃ ys, PI a e xs ys ∧ SO ys a e ∧ Ar s b w'.heap ys ∧ CB b w w' := by
  have hl : xs.length ≤ 1000000 := h.2.2.1
  refine F116_ok s a e cl w _ ⟨fun n x W => ∃ (i : Nat) (ys : List El), n = e + 1 - i ∧ x = (i : Int) ∧ a + 1 ≤ i ∧ (i = a + 1 ∨ i ≤ e) ∧ PI a e xs ys ∧ SO ys a i ∧ Ar s b W.heap ys ∧ CB b w W, ⟨_, a + 1, xs, rfl, wp1 (by omega), Nat.le_refl _, .inl rfl, .refl, fun i j _ _ _ => by omega, h, Ch.refl _ _⟩, ?_⟩
  rintro n _ W _ ⟨i, ys, rfl, rfl, hai, hi, hP, hS, hA, hC⟩
  have hyl := hP.len
  refine IfB.dec (fun hlt => ?_) (fun hge => ⟨rfl, ys, hP, fun p q h1 h2 h3 => hS p q h1 h2 (by omega), hA, hC⟩)
  have hie : i < e := by omega
  refine ⟨fun m x W' => ∃ (j : Nat) (zs : List El), j = m ∧ x = (j : Int) ∧ a ≤ j ∧ j ≤ i ∧ PI a e xs zs ∧ (∀ p q, a ≤ p → p < q → q ≤ i → q ≠ j → g zs p ≤ g zs q) ∧ Ar s b W'.heap zs ∧ CB b w W', ⟨_, i, ys, rfl, rfl, by omega, Nat.le_refl _, hP, fun p q h1 h2 h3 h4 => hS p q h1 h2 (by omega), hA, hC⟩, ?_⟩
  rintro m _ W1 _ ⟨j, zs, rfl, rfl, haj, hji, hP1, hS1, hA1, hC1⟩
  have hzl := hP1.len
  have hCd : CB b w W1.drew := hC1.then (extDrew W1) fun _ _ h => h.elim
  have done : (∀ p, a ≤ p → p < j → g zs p ≤ g zs j) → ∀ W2 : World, Ar s b W2.heap zs → CB b w W2 → ([] : List Nat) = [] ∧ ∃ b38, b38 < e + 1 - i ∧ ∃ (i' : Nat) (ys : List El), b38 = e + 1 - i' ∧ IntKind.i64.wrap ((i : Int) + (1 : Int)) = (i' : Int) ∧ a + 1 ≤ i' ∧ (i' = a + 1 ∨ i' ≤ e) ∧ PI a e xs ys ∧ SO ys a i' ∧ Ar s b W2.heap ys ∧ CB b w W2 := by
    rintro hj W2 hA1 hCd
    refine ⟨rfl, e + 1 - (i + 1), by omega, i + 1, zs, rfl, wp1 (by omega), by omega, .inr (by omega), hP1, fun p q h1 h2 h3 => ?_, hA1, hCd⟩
    by_cases hq : q = j
    · subst hq; exact hj p h1 h2
    · exact hS1 p q h1 h2 (by omega) hq
  unfold F116j2
  refine IfB.dec (fun hlt2 => ?_) (fun hge2 => done (fun p h1 h2 => by omega) W1.drew hA1 hCd)
  have hj : a < j := by omega
  have hw := wm1 (i := j) (by omega) (by omega)
  rw [hw]
  refine ls hcp (w := W1.drew) hA1 (by omega) (by omega) (by omega) (by omega) (fun nn ww hn eC => have hA1 := Ar.ch (w := W1.drew) hA1 eC id; have hCd := CBe hCd eC; decC hn (fun hl1 => ?_) (fun hl1 => done (fun p h1 h2 => ?_) ww hA1 hCd))
  · rw [Int.toNat_natCast, Int.toNat_natCast] at hl1
    refine sw (w := ww.drew) hA1 (by omega) (by omega) (by omega) (by omega) fun W3 hA3 hC3 => ⟨rfl, j - 1, by omega, j - 1, _, rfl, rfl, by omega, by omega, .step hP1 (p := j) (q := j - 1) (by omega) (by omega) (by omega) (by omega) (by omega), ?_, hA3, (hCd.then (extDrew _) fun _ _ h => h.elim).trans hC3⟩
    intro p q h1 h2 h3 h4
    rw [g_swp (by omega) (by omega), g_swp (by omega) (by omega)]
    have A1 := hS1 p (j - 1) h1
    have A2 := hS1 p q h1 h2 h3
    have A3 := hS1 j q (by omega)
    have A4 := hS1 (j - 1) q (by omega)
    split <;> split <;> (try split) <;> (try split) <;> first | omega | skip
  · rw [Int.toNat_natCast, Int.toNat_natCast] at hl1
    have := hS1 p (j - 1) h1
    by_cases hp : p = j - 1
    · subst hp; omega
    · have := this (by omega) (by omega) (by omega)
      omega
/-- From k on none of the children of a node of the heap at f is more than it. -/
def HpAt (xs : List El) (f hi k : Nat) : Prop := ∀ c, c = 2 * k + 1 ∨ c = 2 * k + 2 → c < hi → g xs (f + c) ≤ g xs (f + k)
theorem c124 {cl : Nat × Array Value} (hcp : CmpP cl) {s : Sl} {b : Nat} {w : World} {xs : List El} {lo hi f : Nat} (h : Ar s b w.heap xs) (hl : f + hi ≤ xs.length) (hlo : lo ≤ 1000000) (hh : ∀ k, lo < k → HpAt xs f hi k) :
    CW Try.prog 124 #[slV s, iv lo, iv hi, iv f, .func (.func cl.1) #[] cl.2] w fun v w' => v = .tuple #[] ∧ ∃ ys, PI f (f + hi) xs ys ∧ (∀ k, lo ≤ k → HpAt ys f hi k) ∧ Ar s b w'.heap ys ∧ CB b w w' := by
  have hll : xs.length ≤ 1000000 := h.2.2.1
  refine F124_ok s lo hi f cl w _ ⟨fun n x W => ∃ (r : Nat) (ys : List El), n = hi - r ∧ x = (r : Int) ∧ lo ≤ r ∧ (r = lo ∨ r < hi) ∧ PI f (f + hi) xs ys ∧ (∀ k, lo ≤ k → k ≠ r → HpAt ys f hi k) ∧
    (∀ k, lo ≤ k → r = 2 * k + 1 ∨ r = 2 * k + 2 → ∀ c, c = 2 * r + 1 ∨ c = 2 * r + 2 → c < hi → g ys (f + c) ≤ g ys (f + k)) ∧ Ar s b W.heap ys ∧ CB b w W, ⟨_, lo, xs, rfl, rfl, Nat.le_refl _, .inl rfl, .refl, fun k h1 h2 => hh k (by omega), fun k h1 h2 => by omega, h, Ch.refl _ _⟩, ?_⟩
  rintro n _ W _ ⟨r, ys, rfl, rfl, hlr, hr, hP, hH, hG, hA, hC⟩
  have hyl := hP.len
  unfold F124j1
  rw [wdb (by omega), wp1 (by omega)]
  refine IfB.dec (fun hge => ⟨rfl, ys, hP, fun k hk => ?_, hA, hC⟩) (fun hlt => ?_)
  · by_cases hkr : k = r
    · subst hkr; intro c hc1 hc2; omega
    · exact hH k hk hkr
  have hc1 : 2 * r + 1 < hi := by omega
  rw [wp1 (by omega), wad (by omega), wp1 (by omega)]
  have hCd : CB b w W.drew := hC.then (extDrew W) fun _ _ h => h.elim
  refine ⟨fun x W' => ∃ c : Nat, x = (c : Int) ∧ (c = 2 * r + 1 ∨ c = 2 * r + 2) ∧ c < hi ∧ (∀ d, d = 2 * r + 1 ∨ d = 2 * r + 2 → d < hi → g ys (f + d) ≤ g ys (f + c)) ∧ Ext W.drew W', ?_, ?_⟩
  · refine IfB.dec (fun h2 => ?_) (fun h2 => ⟨rfl, 2 * r + 1, rfl, .inl rfl, hc1, fun d hd1 hd2 => ?_, Ch.refl _ _⟩)
    · refine ls hcp (w := W.drew) hA (by omega) (by omega) (by omega) (by omega) (fun nn ww hn eC => decC hn (fun hl1 => ⟨rfl, 2 * r + 1 + 1, rfl, .inr rfl, by omega, fun d hd1 hd2 => ?_, eC⟩) (fun hl1 => ⟨rfl, 2 * r + 1, rfl, .inl rfl, hc1, fun d hd1 hd2 => ?_, eC⟩))
      · rw [Int.toNat_natCast, Int.toNat_natCast] at hl1
        rcases hd1 with rfl | rfl
        · rw [show f + (2 * r + 1 + 1) = f + (2 * r + 1) + 1 by omega]; omega
        · exact Int.le_refl _
      · rw [Int.toNat_natCast, Int.toNat_natCast] at hl1
        rcases hd1 with rfl | rfl
        · exact Int.le_refl _
        · rw [show f + (2 * r + 2) = f + (2 * r + 1) + 1 by omega]; omega
    · have : d = 2 * r + 1 := by omega
      subst this; exact Int.le_refl _
  rintro _ W' _ ⟨c, rfl, hc2, hc3, hc4, eW⟩
  have hA := Ar.ch (w := W.drew) hA eW id
  have hCd := CBe hCd eW
  unfold F124j2
  rw [wad (by omega), wad (by omega)]
  have hCd2 : CB b w W'.drew := hCd.then (extDrew _) fun _ _ h => h.elim
  refine ls hcp (w := W'.drew) hA (by omega) (by omega) (by omega) (by omega) (fun nn ww hn eC => have hA := Ar.ch (w := W'.drew) hA eC id; have hCd2 := CBe hCd2 eC; introC hn (fun hl1 => ⟨rfl, ys, hP, fun k hk => ?_, hA, hCd2⟩) fun hl1 => ?_)
  · simp only [Int.toNat_natCast, Bool.not_eq_true', decide_eq_false_iff_not] at hl1
    by_cases hkr : k = r
    · subst hkr
      intro d hd1 hd2
      have := hc4 d hd1 hd2
      omega
    · exact hH k hk hkr
  · simp only [Int.toNat_natCast, Bool.not_eq_false', decide_eq_true_eq] at hl1
    refine sw (w := ww.drew) hA (by omega) (by omega) (by omega) (by omega) fun W3 hA3 hC3 => ⟨rfl, hi - c, by omega, c, _, rfl, rfl, by omega, .inr hc3, .step hP (p := f + r) (q := f + c) (by omega) (by omega) (by omega) (by omega) (by omega), ?_, ?_, hA3, (CBe hCd2 (extDrew ww)).trans hC3⟩
    · intro k hk hkc d hd1 hd2
      by_cases hkr : k = r
      · subst hkr
        rw [g_swl (by omega) (by omega)]
        by_cases hdc : d = c
        · subst hdc; rw [g_swq (by omega) (by omega)]; omega
        · rw [g_swo (by omega) (by omega) (by omega) (by omega)]; exact hc4 d hd1 hd2
      · rw [g_swo (i := f + k) (by omega) (by omega) (by omega) (by omega)]
        by_cases hdr : d = r
        · subst hdr
          rw [g_swl (by omega) (by omega)]
          exact hG k hk hd1 c hc2 hc3
        · rw [g_swo (by omega) (by omega) (by omega) (by omega)]
          exact hH k hk hkr d hd1 hd2
    · intro k hk hck d hd1 hd2
      have hkr : k = r := by omega
      subst hkr
      rw [g_swl (by omega) (by omega), g_swo (by omega) (by omega) (by omega) (by omega)]
      exact hH c (by omega) (by omega) d hd1 hd2
theorem heap_max {xs : List El} {f hi : Nat} (h : ∀ k, HpAt xs f hi k) (p : Nat) (hp : p < hi) : g xs (f + p) ≤ g xs f := by
  induction p using Nat.strongRecOn with
  | _ p ih =>
    by_cases h0 : p = 0
    · subst h0; exact Int.le_refl _
    · have h1 := h ((p - 1) / 2) p (by omega) hp
      have h2 := ih ((p - 1) / 2) (by omega) (by omega)
      omega
theorem c117 {cl : Nat × Array Value} (hcp : CmpP cl) {s : Sl} {b : Nat} {w : World} {xs : List El} {a e : Nat} (h : Ar s b w.heap xs) (he : e ≤ xs.length) (ha : a ≤ e) :
    CW Try.prog 117 #[slV s, iv a, iv e, .func (.func cl.1) #[] cl.2] w fun v w' => v = .tuple #[] ∧ ∃ ys, PI a e xs ys ∧ SO ys a e ∧ Ar s b w'.heap ys ∧ CB b w w' := by
  have hl : xs.length ≤ 1000000 := h.2.2.1
  refine F117_ok s a e cl w _ ⟨by decide, ?_⟩
  have hea : a + (e - a) = e := by omega
  rw [wsb ha (by omega)]
  generalize hhi : e - a = hi at hea
  refine ⟨fun n x W => ∃ (i : Nat) (ys : List El), i = n ∧ x = (i : Int) - 1 ∧ i ≤ hi + 1 ∧ PI a e xs ys ∧ (∀ k, i ≤ k → HpAt ys a hi k) ∧ Ar s b W.heap ys ∧ CB b w W, ⟨_, (if hi = 0 then 1 else (hi - 1) / 2 + 1), xs, rfl, ?_, ?_, .refl, ?_, h, Ch.refl _ _⟩, ?_⟩
  · rw [wrap_of (n := (hi : Int) - 1) (by omega) (by omega)]
    split
    · rename_i h0; subst h0; decide
    · rename_i h0
      rw [Int.tdiv_eq_ediv_of_nonneg (by omega), wrap_of (by omega) (by omega)]
      omega
  · split <;> omega
  · intro k hk c hc1 hc2
    split at hk <;> omega
  rintro n _ W _ ⟨i, ys, rfl, rfl, hi1, hP, hH, hA, hC⟩
  have hyl := hP.len
  unfold F117j1
  refine IfB.dec (fun hge => ?_) (fun hlt => ?_)
  · rw [show ((i : Int) - 1) = ((i - 1 : Nat) : Int) by omega, wsb ha (by omega), hhi]
    refine (c124 hcp hA (by omega) (by omega) fun k hk => hH k (by omega)).use ?_
    rintro _ W2 ⟨rfl, zs, hP2, hH2, hA2, hC2⟩
    rw [hea] at hP2
    exact ⟨(), rfl, rfl, i - 1, by omega, i - 1, zs, rfl, by rw [wrap_of (by omega) (by omega)], by omega, hP.trans hP2, hH2, hA2, hC.trans hC2⟩
  · have hi0 : i = 0 := by omega
    subst hi0
    refine ⟨fun n x W' => ∃ (i : Nat) (zs : List El), i = n ∧ x = (i : Int) - 1 ∧ i ≤ hi ∧ PI a e xs zs ∧ (∀ k, HpAt zs a i k) ∧ (∀ p q, i ≤ p → p < q → q < hi → g zs (a + p) ≤ g zs (a + q)) ∧ (∀ p q, p < i → i ≤ q → q < hi → g zs (a + p) ≤ g zs (a + q)) ∧ Ar s b W'.heap zs ∧ CB b w W', ⟨_, hi, ys, rfl, ?_, Nat.le_refl _, hP, fun k => hH k (Nat.zero_le _), fun p q _ _ _ => by omega, fun p q _ _ _ => by omega, hA, hC⟩, ?_⟩
    · rw [wsb ha (by omega), hhi, wrap_of (by omega) (by omega)]
    rintro n _ W1 _ ⟨i, zs, rfl, rfl, hi2, hP1, hH1, hS1, hX1, hA1, hC1⟩
    have hzl := hP1.len
    unfold F117j2
    refine IfB.dec (fun hge => ?_) (fun hlt => ⟨rfl, zs, hP1, fun p q h1 h2 h3 => ?_, hA1, hC1⟩)
    · obtain ⟨m, rfl⟩ : ∃ m, i = m + 1 := ⟨i - 1, by omega⟩
      rw [show (((m + 1 : Nat) : Int) - 1) = (m : Int) by omega, wad (by omega)]
      have hCd : CB b w W1.drew := hC1.then (extDrew W1) fun _ _ h => h.elim
      refine sw (w := W1.drew) hA1 (by omega) (by omega) (by omega) (by omega) fun W2 hA2 hC2 => ?_
      rw [Int.toNat_natCast, Int.toNat_natCast] at hA2
      have hP2 : PI a e xs (swp zs a (a + m)) := .step hP1 (by omega) (by omega) (by omega) (by omega) (by omega)
      have g0 : ∀ p, 0 < p → p < m → g (swp zs a (a + m)) (a + p) = g zs (a + p) := fun p h1 h2 => g_swo (by omega) (by omega) (by omega) (by omega)
      have gm : g (swp zs a (a + m)) (a + m) = g zs a := g_swq (by omega) (by omega)
      have gz : g (swp zs a (a + m)) a = g zs (a + m) := g_swl (by omega) (by omega)
      have gb : ∀ q, m < q → g (swp zs a (a + m)) (a + q) = g zs (a + q) := fun q h1 => g_swo (by omega) (by omega) (by omega) (by omega)
      refine (c124 hcp (lo := 0) hA2 (by rw [swp_len]; omega) (by omega) fun k hk c hc1 hc2 => ?_).use ?_
      · rw [g0 k hk (by omega), g0 c (by omega) hc2]
        exact hH1 k c hc1 (by omega)
      rintro _ W3 ⟨rfl, us, hP3, hH3, hA3, hC3⟩
      have hmax := heap_max hH1
      have hP3' : PI a e (swp zs a (a + m)) us := hP3.mono (Nat.le_refl _) (by omega) (by rw [swp_len]; omega)
      have ub : ∀ q, m ≤ q → g us (a + q) = g (swp zs a (a + m)) (a + q) := fun q hq => hP3.out (.inr (by omega))
      refine ⟨(), rfl, rfl, m, by omega, m, us, rfl, by rw [wrap_of (by omega) (by omega)], by omega, hP2.trans hP3', fun k => hH3 k (Nat.zero_le _), ?_, ?_, hA3, (hCd.trans hC2).trans hC3⟩
      · intro p q h1 h2 h3
        rw [ub p h1, ub q (by omega), gb q (by omega)]
        by_cases hp : p = m
        · subst hp; rw [gm]
          have := hX1 0 q (by omega) (by omega) h3
          exact this
        · rw [gb p (by omega)]; exact hS1 p q (by omega) h2 h3
      · intro p q h1 h2 h3
        have hQ : ∀ i, a ≤ i → i < a + m → (fun v => v ≤ g us (a + q)) (g us i) := by
          refine hP3.all (Q := fun v => v ≤ g us (a + q)) fun i h4 h5 => ?_
          show _ ≤ g us (a + q)
          rw [ub q h2]
          obtain ⟨t, rfl⟩ : ∃ t, i = a + t := ⟨i - a, by omega⟩
          have h6 : g (swp zs a (a + m)) (a + t) = g zs (a + t) ∨ g (swp zs a (a + m)) (a + t) = g zs (a + m) := by
            by_cases ht : t = 0
            · subst ht; exact .inr gz
            · exact .inl (g0 t (by omega) (by omega))
          by_cases hq : q = m
          · subst hq
            rw [gm]
            have h7 := hmax t (by omega)
            have h8 := hmax q (by omega)
            rcases h6 with h6 | h6 <;> omega
          · rw [gb q (by omega)]
            have h7 := hX1 t q (by omega) (by omega) h3
            have h8 := hX1 m q (by omega) (by omega) h3
            rcases h6 with h6 | h6 <;> omega
        exact hQ _ (by omega) (by omega)
    · obtain ⟨p', rfl⟩ : ∃ t, p = a + t := ⟨p - a, by omega⟩
      obtain ⟨q', rfl⟩ : ∃ t, q = a + t := ⟨q - a, by omega⟩
      exact hS1 p' q' (by omega) (by omega) (by omega)
theorem c120 {cl : Nat × Array Value} (hcp : CmpP cl) {s : Sl} {b : Nat} {w : World} {xs : List El} {a e : Nat} (h : Ar s b w.heap xs) (he : e ≤ xs.length) (ha : a < e) :
    CW Try.prog 120 #[slV s, iv a, iv e, .func (.func cl.1) #[] cl.2] w fun v w' => v = .tuple #[] ∧ ∃ ys, PI a e xs ys ∧ Ar s b w'.heap ys ∧ CB b w w' := by
  have hl : xs.length ≤ 1000000 := h.2.2.1
  refine F120_ok s a e cl w _ ⟨fun n x W => ∃ (i j : Nat) (ys : List El), n = j ∧ x = ((i : Int), (j : Int)) ∧ a ≤ i ∧ j < e ∧ i ≤ j + 1 ∧ PI a e xs ys ∧ Ar s b W.heap ys ∧ CB b w W, ⟨_, a, e - 1, xs, rfl, by rw [wm1 (by omega) (by omega)], Nat.le_refl _, by omega, by omega, .refl, h, Ch.refl _ _⟩, ?_⟩
  rintro n _ W _ ⟨i, j, ys, rfl, rfl, hai, hje, hij, hP, hA, hC⟩
  have hyl := hP.len
  unfold F120j1
  refine IfB.dec (fun hlt => ?_) (fun hge => ⟨rfl, ys, hP, hA, hC⟩)
  have hlt : i < n := by
    have : (i : Int) < (n : Int) := hlt
    omega
  have hCd : CB b w W.drew := hC.then (extDrew W) fun _ _ h => h.elim
  refine sw (w := W.drew) hA (p := (i : Int)) (q := (n : Int)) (by omega) (by omega) (by omega) (by omega) fun W2 hA2 hC2 => ?_
  rw [Int.toNat_natCast, Int.toNat_natCast] at hA2
  exact ⟨rfl, n - 1, by omega, i + 1, n - 1, _, rfl, by rw [← wp1 (by omega), ← wm1 (by omega) (by omega)], by omega, by omega, by omega, .step hP (by omega) (by omega) (by omega) (by omega) (by omega), hA2, hCd.trans hC2⟩
theorem c127 {cl : Nat × Array Value} (hcp : CmpP cl) {s : Sl} {b b1 : Nat} {w : World} {xs : List El} {i j : Nat} (h : Ar s b w.heap xs) (hc : Ct .i64 b1 w) (hne : b1 ≠ b) (hi : i < xs.length) (hj : j < xs.length) :
    CW Try.prog 127 #[slV s, iv i, iv j, .pointer (some ⟨b1, 0, none⟩), .func (.func cl.1) #[] cl.2] w fun v w' => ∃ x y : Nat, v = .tuple #[iv x, iv y] ∧ (x = i ∧ y = j ∨ x = j ∧ y = i) ∧ Ar s b w'.heap xs ∧ Ct .i64 b1 w' ∧ Ch (fun q => q = b1) w w' := by
  have hd : Ch (fun q => q = b1) w w.drew := (extDrew w).mono fun _ _ h => h.elim
  refine F127_ok s i j _ cl w _ (ls hcp (w := w.drew) h (by omega) (by omega) (by omega) (by omega) (fun nn ww hn eC => have h := Ar.ch (w := w.drew) h eC id; have hc : Ct .i64 b1 ww := (have ⟨T, n, k⟩ := hc; ⟨T, n, Ch.at (w := w.drew) eC k id⟩); have hd := hd.then eC (fun _ _ h => h.elim); decC hn (fun _ => ?_) (fun _ => ⟨i, j, rfl, .inl ⟨rfl, rfl⟩, h, hc, hd⟩)))
  obtain ⟨T, n, hn⟩ := hc
  refine ⟨b1, 0, rfl, n, by rw [cell_of (w := ww) hn]; rfl, b1, 0, rfl, rfl, store_one (w := ww) hn (by simp) rfl fun w2 h2 => ⟨j, i, rfl, .inr ⟨rfl, rfl⟩, ?_, ⟨T, _, h2.new⟩, hd.trans h2.ch⟩⟩
  exact Ar.ch (w := ww) h h2.ch (Ne.symm hne)
theorem c126 {cl : Nat × Array Value} (hcp : CmpP cl) {s : Sl} {b b1 : Nat} {w : World} {xs : List El} {i j k : Nat} (h : Ar s b w.heap xs) (hc : Ct .i64 b1 w) (hne : b1 ≠ b) (hi : i < xs.length) (hj : j < xs.length) (hk : k < xs.length) :
    CW Try.prog 126 #[slV s, iv i, iv j, iv k, .pointer (some ⟨b1, 0, none⟩), .func (.func cl.1) #[] cl.2] w fun v w' => ∃ x : Nat, v = iv x ∧ (x = i ∨ x = j ∨ x = k) ∧ Ar s b w'.heap xs ∧ Ct .i64 b1 w' ∧ Ch (fun q => q = b1) w w' := by
  refine F126_ok s i j k _ cl w _ ((c127 hcp h hc hne hi hj).use ?_)
  rintro _ w2 ⟨x1, y1, rfl, e1, h2, k2, l2⟩
  refine ⟨((x1 : Int), (y1 : Int)), rfl, (c127 hcp h2 k2 hne (by omega) hk).use ?_⟩
  rintro _ w3 ⟨x2, y2, rfl, e2, h3, k3, l3⟩
  refine ⟨((x2 : Int), (y2 : Int)), rfl, (c127 hcp h3 k3 hne (by omega) (by omega)).use ?_⟩
  rintro _ w4 ⟨x3, y3, rfl, e3, h4, k4, l4⟩
  exact ⟨((x3 : Int), (y3 : Int)), rfl, y3, rfl, by omega, h4, k4, (l2.trans l3).trans l4⟩
theorem c125 {cl : Nat × Array Value} (hcp : CmpP cl) {s : Sl} {b b1 : Nat} {w : World} {xs : List El} {i : Nat} (h : Ar s b w.heap xs) (hc : Ct .i64 b1 w) (hne : b1 ≠ b) (h0 : 0 < i) (hi : i + 1 < xs.length) :
    CW Try.prog 125 #[slV s, iv i, .pointer (some ⟨b1, 0, none⟩), .func (.func cl.1) #[] cl.2] w fun v w' => ∃ x : Nat, v = iv x ∧ (i ≤ x + 1 ∧ x ≤ i + 1) ∧ Ar s b w'.heap xs ∧ Ct .i64 b1 w' ∧ Ch (fun q => q = b1) w w' := by
  have hl := h.2.2.1
  refine F125_ok s i _ cl w _ ?_
  unfold F125
  rw [wm1 (by omega) (by omega), wp1 (by omega)]
  refine (c126 hcp h hc hne (by omega) (by omega) hi).use ?_
  rintro _ w2 ⟨x, rfl, e, h2, k2, l2⟩
  exact ⟨_, rfl, x, rfl, by omega, h2, k2, l2⟩
theorem c119 {cl : Nat × Array Value} (hcp : CmpP cl) {s : Sl} {b : Nat} {w : World} {xs : List El} {a e : Nat} (h : Ar s b w.heap xs) (he : e ≤ xs.length) (ha : a + 12 < e) :
    CW Try.prog 119 #[slV s, iv a, iv e, .func (.func cl.1) #[] cl.2] w fun v w' => ∃ (p : Nat) (t : Int), v = .tuple #[iv p, iv t] ∧ (a ≤ p ∧ p < e) ∧ Ar s b w'.heap xs ∧ Ext w w' := by
  have hl := h.2.2.1
  have hlt := h.lt
  refine F119_ok s a e cl w _ ?_
  intro b1 w2 h2
  have e2 : Ext w w2 := h2.ch _
  have p2 := h2.here
  have hA2 := h.ch e2 id
  have hc2 : Ct .i64 b1 w2 := ⟨_, _, h2.new⟩
  have hne : b1 ≠ b := by omega
  have hq : IntKind.i64.wrap ((IntKind.i64.wrap ((e : Int) - (a : Int))).tdiv (4 : Int)) = (((e - a) / 4 : Nat) : Int) := by
    rw [wsb (by omega) (by omega), Int.tdiv_eq_ediv_of_nonneg (by omega), wrap_of (by omega) (by omega)]; omega
  rw [hq, wmul (k := (1 : Int)) (m := 1) rfl (by omega) (by omega), wmul (k := (2 : Int)) (m := 2) rfl (by omega) (by omega), wmul (k := (3 : Int)) (m := 3) rfl (by omega) (by omega), wad (by omega), wad (by omega), wad (by omega), wsb (by omega) (by omega)]
  generalize hqq : (e - a) / 4 = q
  have hx : ∀ {w' : World}, Ch (fun i => i = b1) w2 w' → Ext w w' := fun hc => e2.then hc fun i hi h => by omega
  refine ⟨by decide, by decide, by decide, fun x W => ∃ p : Nat, x = (p : Int) ∧ (a ≤ p ∧ p < e) ∧ Ar s b W.heap xs ∧ Ct .i64 b1 W ∧ Ch (fun i => i = b1) w2 W, ?_, ?_⟩
  · refine IfB.yes (decide_eq_true (by omega)) ⟨fun x W => ∃ i j k : Nat, x = ((i : Int), (j : Int), (k : Int)) ∧ (a ≤ i ∧ i < e) ∧ (a ≤ j ∧ j < e) ∧ (a ≤ k ∧ k < e) ∧ Ar s b W.heap xs ∧ Ct .i64 b1 W ∧ Ch (fun i => i = b1) w2 W, ?_, ?_⟩
    · refine IfB.dec (fun h50 => ?_) (fun _ => ⟨rfl, _, _, _, rfl, by omega, by omega, by omega, hA2, hc2, Ch.refl _ _⟩)
      have h50 : 50 ≤ e - a := by omega
      refine (c125 hcp hA2 hc2 hne (by omega) (by omega)).use ?_
      rintro _ w6 ⟨i, rfl, hi, h6, k6, l6⟩
      refine ⟨_, rfl, (c125 hcp h6 k6 hne (by omega) (by omega)).use ?_⟩
      rintro _ w9 ⟨j, rfl, hj, h9, k9, l9⟩
      refine ⟨_, rfl, (c125 hcp h9 k9 hne (by omega) (by omega)).use ?_⟩
      rintro _ w12 ⟨k, rfl, hk, h12, k12, l12⟩
      exact ⟨_, rfl, rfl, i, j, k, rfl, by omega, by omega, by omega, h12, k12, (l6.trans l9).trans l12⟩
    · rintro _ w15 _ ⟨i, j, k, rfl, hi, hj, hk, h15, k15, l15⟩
      refine (c126 hcp h15 k15 hne (by omega) (by omega) (by omega)).use ?_
      rintro _ w19 ⟨x, rfl, hx, h19, k19, l19⟩
      exact ⟨_, rfl, rfl, x, rfl, by omega, h19, k19, l15.trans l19⟩
  · rintro _ w22 _ ⟨p, rfl, hp, h22, ⟨T, n, hn⟩, l22⟩
    refine ⟨n, by rw [cell_of hn]; rfl, IfB.intro (fun _ => ⟨p, 1, rfl, hp, h22, hx l22⟩) fun _ => IfB.intro (fun _ => ⟨p, 2, rfl, hp, h22, hx l22⟩) fun _ => ⟨p, 0, rfl, hp, h22, hx l22⟩⟩
structure Pt (a e : Nat) (xs ys : List El) (v : Int) (Lo : Int → Prop) (i j : Nat) : Prop where
  pi : PI a e xs ys
  len : e ≤ xs.length
  v : g ys a = v
  ai : a + 1 ≤ i
  ij : i ≤ j + 1
  je : j + 1 ≤ e
  lo : ∀ k, a < k → k < i → Lo (g ys k)
  hi : ∀ k, j < k → k < e → ¬ Lo (g ys k)
theorem Pt.up {a e i j : Nat} {xs ys : List El} {v : Int} {Lo : Int → Prop} (h : Pt a e xs ys v Lo i j) (hij : i ≤ j) (hl : Lo (g ys i)) : Pt a e xs ys v Lo (i + 1) j := by
  have h1 := h.ai
  refine ⟨h.pi, h.len, h.v, by omega, by omega, h.je, fun k h1 h2 => ?_, h.hi⟩
  by_cases hk : k = i
  · subst hk; exact hl
  · exact h.lo k h1 (by omega)
theorem Pt.dn {a e i j : Nat} {xs ys : List El} {v : Int} {Lo : Int → Prop} (h : Pt a e xs ys v Lo i j) (hij : i ≤ j) (hl : ¬ Lo (g ys j)) : Pt a e xs ys v Lo i (j - 1) := by
  have h1 := h.ai; have h2 := h.je
  refine ⟨h.pi, h.len, h.v, h1, by omega, by omega, h.lo, fun k h1 h2 => ?_⟩
  by_cases hk : k = j
  · subst hk; exact hl
  · exact h.hi k (by omega) h2
theorem Pt.sw {a e i j : Nat} {xs ys : List El} {v : Int} {Lo : Int → Prop} (h : Pt a e xs ys v Lo i j) (hij : i ≤ j) (h1 : ¬ Lo (g ys i)) (h2 : Lo (g ys j)) : Pt a e xs (swp ys i j) v Lo (i + 1) (j - 1) := by
  have hne : i ≠ j := fun e => h1 (e ▸ h2)
  have hl := h.pi.len; have h3 := h.len; have h4 := h.ai; have h5 := h.je
  refine ⟨.step h.pi (by omega) (by omega) (by omega) (by omega) (by omega), h3, ?_, by omega, by omega, by omega, fun k h6 h7 => ?_, fun k h6 h7 => ?_⟩
  · rw [g_swo (by omega) (by omega) (by omega) (by omega)]; exact h.v
  · by_cases hk : k = i
    · subst hk; rw [g_swl (by omega) (by omega)]; exact h2
    · rw [g_swo (by omega) (by omega) (by omega) (by omega)]; exact h.lo k h6 (by omega)
  · by_cases hk : k = j
    · subst hk; rw [g_swq (by omega) (by omega)]; exact h1
    · rw [g_swo (by omega) (by omega) (by omega) (by omega)]; exact h.hi k (by omega) h7
theorem upPart {cl : Nat × Array Value} (hcp : CmpP cl) {s : Sl} {b a e i j : Nat} {w : World} {xs ys : List El} {v : Int} {y : Int → World → Prop} (hP : Pt a e xs ys v (fun x => x < v) i j) (hA : Ar s b w.heap ys)
    (hy : ∀ (i' : Nat) (w' : World), Pt a e xs ys v (fun x => x < v) i' j → (j < i' ∨ ¬ g ys i' < v) → i ≤ i' → Ext w w' → y (i' : Int) w') :
    ∃ y14 : Nat → Int → World → Prop, (∃ b15, y14 b15 (i : Int) w) ∧ ∀ (b16 : Nat) (n17 : Int) (w18 : World) (_ : Nat → Value), y14 b16 n17 w18 → F123j6 s a cl ((0 : Int), (j : Int)) y y14 b16 n17 w18 := by
  refine ⟨fun n x W => ∃ i' : Nat, n = j + 1 - i' ∧ x = (i' : Int) ∧ i ≤ i' ∧ Pt a e xs ys v (fun x => x < v) i' j ∧ Ext w W, ⟨_, i, rfl, rfl, Nat.le_refl _, hP, Ch.refl _ _⟩, ?_⟩
  rintro _ _ W _ ⟨i', rfl, rfl, hii, hP', hW⟩
  have hl := hP'.pi.len; have h3 := hP'.len; have h4 := hP'.ai; have h5 := hP'.je; have h6 := hA.2.2.1
  have hd := hW.trans (extDrew W)
  refine IfB.dec (fun hle => ?_) (fun hgt => ⟨rfl, hy i' _ hP' (.inl (by omega)) hii hd⟩)
  have hle : i' ≤ j := by omega
  refine ls hcp (w := W.drew) (hA.ch hd id) (by omega) (by omega) (by omega) (by omega) (fun nn ww hn eC => have hd := hd.trans eC; decC hn (fun hl1 => ?_) (fun hl1 => ⟨rfl, hy i' _ hP' (.inr ?_) hii hd⟩))
  · rw [Int.toNat_natCast, Int.toNat_natCast, hP'.v] at hl1
    exact ⟨rfl, _, by omega, i' + 1, rfl, wp1 (by omega), by omega, hP'.up hle hl1, hd⟩
  · rw [Int.toNat_natCast, Int.toNat_natCast, hP'.v] at hl1; exact hl1
theorem dnPart {cl : Nat × Array Value} (hcp : CmpP cl) {s : Sl} {b a e i j : Nat} {w : World} {xs ys : List El} {v : Int} {y : Int → World → Prop} (hP : Pt a e xs ys v (fun x => x < v) i j) (hA : Ar s b w.heap ys)
    (hy : ∀ (j' : Nat) (w' : World), Pt a e xs ys v (fun x => x < v) i j' → (j' < i ∨ g ys j' < v) → j' ≤ j → Ext w w' → y (j' : Int) w') :
    ∃ y14 : Nat → Int → World → Prop, (∃ b15, y14 b15 (j : Int) w) ∧ ∀ (b16 : Nat) (n17 : Int) (w18 : World) (_ : Nat → Value), y14 b16 n17 w18 → F123j8 s a cl (i : Int) y y14 b16 n17 w18 := by
  refine ⟨fun n x W => ∃ j' : Nat, j' = n ∧ x = (j' : Int) ∧ j' ≤ j ∧ Pt a e xs ys v (fun x => x < v) i j' ∧ Ext w W, ⟨_, j, rfl, rfl, Nat.le_refl _, hP, Ch.refl _ _⟩, ?_⟩
  rintro _ _ W _ ⟨j', rfl, rfl, hjj, hP', hW⟩
  have hl := hP'.pi.len; have h3 := hP'.len; have h4 := hP'.ai; have h5 := hP'.je; have h6 := hA.2.2.1
  have hd := hW.trans (extDrew W)
  refine IfB.dec (fun hle => ?_) (fun hgt => ⟨rfl, hy j' _ hP' (.inl (by omega)) hjj hd⟩)
  have hle : i ≤ j' := by omega
  refine ls hcp (w := W.drew) (hA.ch hd id) (by omega) (by omega) (by omega) (by omega) (fun nn ww hn eC => have hd := hd.trans eC; introC hn (fun hl1 => ?_) (fun hl1 => ⟨rfl, hy j' _ hP' (.inr ?_) hjj hd⟩))
  · simp only [Int.toNat_natCast, hP'.v, Bool.not_eq_true', decide_eq_false_iff_not] at hl1
    exact ⟨rfl, j' - 1, by omega, j' - 1, rfl, wm1 (by omega) (by omega), by omega, hP'.dn hle hl1, hd⟩
  · simp only [Int.toNat_natCast, hP'.v, Bool.not_eq_false', decide_eq_true_eq] at hl1; exact hl1
theorem c123 {cl : Nat × Array Value} (hcp : CmpP cl) {s : Sl} {b : Nat} {w : World} {xs : List El} {a e p : Nat} (h : Ar s b w.heap xs) (he : e ≤ xs.length) (hp : a ≤ p ∧ p < e) :
    CW Try.prog 123 #[slV s, iv a, iv e, iv p, .func (.func cl.1) #[] cl.2] w fun v w' => ∃ (m : Nat) (t : Bool), v = .tuple #[iv m, .bool t] ∧ (a ≤ m ∧ m < e) ∧ ∃ ys, PI a e xs ys ∧ (∀ k, a ≤ k → k < m → g ys k < g ys m) ∧ (∀ k, m < k → k < e → g ys m ≤ g ys k) ∧ Ar s b w'.heap ys ∧ CB b w w' := by
  have hl := h.2.2.1
  refine F123_ok s a e p cl w _ ?_
  have hCd : CB b w w.drew := (extDrew w).mono fun _ _ h => h.elim
  refine sw (w := w.drew) h (by omega) (by omega) (by omega) (by omega) fun w12 h12 C12 => ?_
  rw [Int.toNat_natCast, Int.toNat_natCast] at h12
  have C12 := hCd.trans C12
  have hP0 : Pt a e xs (swp xs a p) (g (swp xs a p) a) (fun x => x < g (swp xs a p) a) (a + 1) (e - 1) :=
    ⟨.step .refl (by omega) (by omega) (by omega) (by omega) he, he, rfl, by omega, by omega, by omega, fun k h1 h2 => by omega, fun k h1 h2 => by omega⟩
  generalize swp xs a p = ys0 at hP0 h12
  generalize g ys0 a = v at hP0
  have fin : ∀ {ys : List El} {j : Nat} {W : World} {t : Bool}, Pt a e xs ys v (fun x => x < v) (j + 1) j → Ar s b W.heap ys → CB b w W →
      ∀ W2 : World, Ar s b W2.heap (swp ys j a) → CB b W W2 → ∃ (m : Nat) (t' : Bool), Value.tuple #[iv j, .bool t] = .tuple #[iv m, .bool t'] ∧ (a ≤ m ∧ m < e) ∧ ∃ ys, PI a e xs ys ∧ (∀ k, a ≤ k → k < m → g ys k < g ys m) ∧ (∀ k, m < k → k < e → g ys m ≤ g ys k) ∧ Ar s b W2.heap ys ∧ CB b w W2 := by
    intro ys j W t hP hA hC W2 hA2 hC2
    have hyl := hP.pi.len; have h4 := hP.ai; have h5 := hP.je
    have gj : g (swp ys j a) j = v := by rw [g_swl (by omega) (by omega)]; exact hP.v
    refine ⟨j, t, rfl, by omega, _, .step hP.pi (by omega) (by omega) (by omega) (by omega) (by omega), fun k h1 h2 => ?_, fun k h1 h2 => ?_, hA2, hC.trans hC2⟩
    · rw [gj]
      by_cases hk : k = a
      · subst hk; rw [g_swq (by omega) (by omega)]; exact hP.lo j (by omega) (by omega)
      · rw [g_swo (by omega) (by omega) (by omega) (by omega)]; exact hP.lo k (by omega) (by omega)
    · rw [gj, g_swo (by omega) (by omega) (by omega) (by omega)]
      have := hP.hi k h1 h2
      omega
  refine ⟨fun x W => ∃ i : Nat, x = (i : Int) ∧ Pt a e xs ys0 v (fun x => x < v) i (e - 1) ∧ (e - 1 < i ∨ ¬ g ys0 i < v) ∧ Ar s b W.heap ys0 ∧ CB b w W, ?_, ?_⟩
  · unfold F123j1
    rw [wp1 (by omega), wm1 (by omega) (by omega)]
    exact upPart hcp hP0 h12 fun i' w' h1 h2 _ h3 => ⟨i', rfl, h1, h2, h12.ch h3 id, C12.then h3 fun _ _ h => h.elim⟩
  rintro _ W _ ⟨i, rfl, hP, hi, hA, hC⟩
  refine ⟨fun x W' => ∃ j : Nat, x = (j : Int) ∧ Pt a e xs ys0 v (fun x => x < v) i j ∧ (j < i ∨ g ys0 j < v) ∧ (j < i ∨ ¬ g ys0 i < v) ∧ Ar s b W'.heap ys0 ∧ CB b w W', ?_, ?_⟩
  · unfold F123j3
    rw [wm1 (by omega) (by omega)]
    exact dnPart hcp hP hA fun j' w' h1 h2 h3 h4 => ⟨j', rfl, h1, h2, by omega, hA.ch h4 id, hC.then h4 fun _ _ h => h.elim⟩
  rintro _ W1 _ ⟨j, rfl, hP1, hj1, hj2, hA1, hC1⟩
  have hyl := hP1.pi.len; have h4 := hP1.ai; have h5 := hP1.je; have h6 := hP1.ij
  have hC1d : CB b w W1.drew := hC1.then (extDrew W1) fun _ _ h => h.elim
  unfold F123j4
  refine IfB.dec (fun hlt => ?_) (fun hge => ?_)
  · have hij : i = j + 1 := by omega
    subst hij
    refine sw (w := W1.drew) hA1 (by omega) (by omega) (by omega) (by omega) fun W2 h2 C2 => ?_
    rw [Int.toNat_natCast, Int.toNat_natCast] at h2
    exact fin (W := W1.drew) hP1 hA1 hC1d W2 h2 C2
  · have hij : i ≤ j := by omega
    refine sw (w := W1.drew) hA1 (by omega) (by omega) (by omega) (by omega) fun W2 h2 C2 => ?_
    rw [Int.toNat_natCast, Int.toNat_natCast] at h2
    have hP2 := hP1.sw hij (by omega) (by omega)
    have C2 := hC1d.trans C2
    refine ⟨fun n x W => ∃ (i j : Nat) (ys : List El), n = j + 1 - i ∧ x = ((i : Int), (j : Int)) ∧ Pt a e xs ys v (fun x => x < v) i j ∧ Ar s b W.heap ys ∧ CB b w W, ⟨_, i + 1, j - 1, _, rfl, by rw [wp1 (by omega), wm1 (by omega) (by omega)], hP2, h2, C2⟩, ?_⟩
    rintro _ _ W3 _ ⟨i3, j3, ys3, rfl, rfl, hP3, hA3, hC3⟩
    unfold F123j5
    refine ⟨fun x W => ∃ i : Nat, x = (i : Int) ∧ i3 ≤ i ∧ Pt a e xs ys3 v (fun x => x < v) i j3 ∧ (j3 < i ∨ ¬ g ys3 i < v) ∧ Ar s b W.heap ys3 ∧ CB b w W, ?_, ?_⟩
    · exact upPart hcp hP3 hA3 fun i' w' h1 h2 h3 h4 => ⟨i', rfl, h3, h1, h2, hA3.ch h4 id, hC3.then h4 fun _ _ h => h.elim⟩
    rintro _ W4 _ ⟨i4, rfl, hi34, hP4, hi4, hA4, hC4⟩
    refine ⟨fun x W' => ∃ j : Nat, x = (j : Int) ∧ j ≤ j3 ∧ Pt a e xs ys3 v (fun x => x < v) i4 j ∧ (j < i4 ∨ g ys3 j < v) ∧ (j < i4 ∨ ¬ g ys3 i4 < v) ∧ Ar s b W'.heap ys3 ∧ CB b w W', ?_, ?_⟩
    · exact dnPart hcp hP4 hA4 fun j' w' h1 h2 h3 h4 => ⟨j', rfl, h3, h1, h2, by omega, hA4.ch h4 id, hC4.then h4 fun _ _ h => h.elim⟩
    rintro _ W5 _ ⟨j5, rfl, hj5, hP5, hj51, hj52, hA5, hC5⟩
    have hyl := hP5.pi.len; have h4 := hP5.ai; have h5 := hP5.je; have h6 := hP5.ij
    have hC5d : CB b w W5.drew := hC5.then (extDrew W5) fun _ _ h => h.elim
    unfold F123j9
    refine IfB.dec (fun hlt => ?_) (fun hge => ?_)
    · have hij : i4 = j5 + 1 := by omega
      subst hij
      refine sw (w := W5.drew) hA5 (by omega) (by omega) (by omega) (by omega) fun W6 h6 C6 => ?_
      rw [Int.toNat_natCast, Int.toNat_natCast] at h6
      exact fin (W := W5.drew) hP5 hA5 hC5d W6 h6 C6
    · have hij : i4 ≤ j5 := by omega
      refine sw (w := W5.drew) hA5 (by omega) (by omega) (by omega) (by omega) fun W6 h6 C6 => ?_
      rw [Int.toNat_natCast, Int.toNat_natCast] at h6
      exact ⟨rfl, _, by omega, i4 + 1, j5 - 1, _, rfl, by rw [wp1 (by omega), wm1 (by omega) (by omega)], hP5.sw hij (by omega) (by omega), h6, hC5d.trans C6⟩
theorem c122 {cl : Nat × Array Value} (hcp : CmpP cl) {s : Sl} {b : Nat} {w : World} {xs : List El} {a e p : Nat} (h : Ar s b w.heap xs) (he : e ≤ xs.length) (hp : a ≤ p ∧ p < e) :
    CW Try.prog 122 #[slV s, iv a, iv e, iv p, .func (.func cl.1) #[] cl.2] w fun v w' => ∃ m : Nat, v = iv m ∧ (a < m ∧ m ≤ e) ∧ ∃ ys, PI a e xs ys ∧ g ys a = g xs p ∧ (∀ k, a ≤ k → k < m → ¬ g xs p < g ys k) ∧ (∀ k, m ≤ k → k < e → g xs p < g ys k) ∧ Ar s b w'.heap ys ∧ CB b w w' := by
  have hl := h.2.2.1
  refine F122_ok s a e p cl w _ ?_
  have hCd : CB b w w.drew := (extDrew w).mono fun _ _ h => h.elim
  refine sw (w := w.drew) h (by omega) (by omega) (by omega) (by omega) fun w12 h12 C12 => ?_
  rw [Int.toNat_natCast, Int.toNat_natCast] at h12
  have C12 := hCd.trans C12
  have hv : g (swp xs a p) a = g xs p := g_swl (by omega) (by omega)
  have hP0 : Pt a e xs (swp xs a p) (g xs p) (fun x => ¬ g xs p < x) (a + 1) (e - 1) :=
    ⟨.step .refl (by omega) (by omega) (by omega) (by omega) he, he, hv, by omega, by omega, by omega, fun k h1 h2 => by omega, fun k h1 h2 => by omega⟩
  generalize swp xs a p = ys0 at hP0 h12
  clear hv
  generalize g xs p = v at hP0
  refine ⟨fun n x W => ∃ (i j : Nat) (ys : List El), n = j + 1 - i ∧ x = ((i : Int), (j : Int)) ∧ Pt a e xs ys v (fun x => ¬ v < x) i j ∧ Ar s b W.heap ys ∧ CB b w W, ⟨_, a + 1, e - 1, _, rfl, by rw [wp1 (by omega), wm1 (by omega) (by omega)], hP0, h12, C12⟩, ?_⟩
  rintro _ _ W3 _ ⟨i3, j3, ys3, rfl, rfl, hP3, hA3, hC3⟩
  unfold F122j1
  refine ⟨fun x W => ∃ i : Nat, x = (i : Int) ∧ i3 ≤ i ∧ Pt a e xs ys3 v (fun x => ¬ v < x) i j3 ∧ (j3 < i ∨ v < g ys3 i) ∧ Ar s b W.heap ys3 ∧ CB b w W, ?_, ?_⟩
  · refine ⟨fun n x W => ∃ i : Nat, n = j3 + 1 - i ∧ x = (i : Int) ∧ i3 ≤ i ∧ Pt a e xs ys3 v (fun x => ¬ v < x) i j3 ∧ Ar s b W.heap ys3 ∧ CB b w W, ⟨_, i3, rfl, rfl, Nat.le_refl _, hP3, hA3, hC3⟩, ?_⟩
    rintro _ _ W _ ⟨i, rfl, rfl, hii, hP, hA, hC⟩
    have hyl := hP.pi.len; have h4 := hP.ai; have h5 := hP.je; have h6 := hP.ij
    have hd : CB b w W.drew := hC.then (extDrew W) fun _ _ h => h.elim
    unfold F122j2
    refine IfB.dec (fun hle => ?_) (fun hgt => ⟨rfl, i, rfl, hii, hP, .inl ?_, hA, hd⟩)
    · have hle : i ≤ j3 := by
        have : (i : Int) ≤ (j3 : Int) := hle
        omega
      refine ls hcp (w := W.drew) hA (by omega) (by omega) (by omega) (by omega) (fun nn ww hn eC => have hA := Ar.ch (w := W.drew) hA eC id; have hd := CBe hd eC; introC hn (fun hl1 => ?_) (fun hl1 => ⟨rfl, i, rfl, hii, hP, .inr ?_, hA, hd⟩))
      · simp only [Int.toNat_natCast, hP.v, Bool.not_eq_true', decide_eq_false_iff_not] at hl1
        exact ⟨rfl, _, by omega, i + 1, rfl, wp1 (by omega), by omega, hP.up hle hl1, hA, hd⟩
      · simp only [Int.toNat_natCast, hP.v, Bool.not_eq_false', decide_eq_true_eq] at hl1; exact hl1
    · have : ¬ (i : Int) ≤ (j3 : Int) := hgt
      omega
  rintro _ W4 _ ⟨i4, rfl, hi34, hP4, hi4, hA4, hC4⟩
  refine ⟨fun x W' => ∃ j : Nat, x = (j : Int) ∧ j ≤ j3 ∧ Pt a e xs ys3 v (fun x => ¬ v < x) i4 j ∧ (j < i4 ∨ ¬ v < g ys3 j) ∧ (j < i4 ∨ v < g ys3 i4) ∧ Ar s b W'.heap ys3 ∧ CB b w W', ?_, ?_⟩
  · refine ⟨fun n x W => ∃ j : Nat, j = n ∧ x = (j : Int) ∧ j ≤ j3 ∧ Pt a e xs ys3 v (fun x => ¬ v < x) i4 j ∧ (j < i4 ∨ v < g ys3 i4) ∧ Ar s b W.heap ys3 ∧ CB b w W, ⟨_, j3, rfl, rfl, Nat.le_refl _, hP4, by omega, hA4, hC4⟩, ?_⟩
    rintro _ _ W _ ⟨j, rfl, rfl, hjj, hP, hi, hA, hC⟩
    have hyl := hP.pi.len; have h4 := hP.ai; have h5 := hP.je; have h6 := hP.ij
    have hd : CB b w W.drew := hC.then (extDrew W) fun _ _ h => h.elim
    unfold F122j4
    refine IfB.dec (fun hle => ?_) (fun hgt => ⟨rfl, j, rfl, hjj, hP, .inl (by omega), hi, hA, hd⟩)
    have hle : i4 ≤ j := by omega
    refine ls hcp (w := W.drew) hA (by omega) (by omega) (by omega) (by omega) (fun nn ww hn eC => have hA := Ar.ch (w := W.drew) hA eC id; have hd := CBe hd eC; decC hn (fun hl1 => ?_) (fun hl1 => ⟨rfl, j, rfl, hjj, hP, .inr ?_, hi, hA, hd⟩))
    · rw [Int.toNat_natCast, Int.toNat_natCast, hP.v] at hl1
      exact ⟨rfl, j - 1, by omega, j - 1, rfl, wm1 (by omega) (by omega), by omega, hP.dn hle (by omega), by omega, hA, hd⟩
    · rw [Int.toNat_natCast, Int.toNat_natCast, hP.v] at hl1; exact hl1
  rintro _ W5 _ ⟨j5, rfl, hj5, hP5, hj51, hj52, hA5, hC5⟩
  have hyl := hP5.pi.len; have h4 := hP5.ai; have h5 := hP5.je; have h6 := hP5.ij
  have hC5d : CB b w W5.drew := hC5.then (extDrew W5) fun _ _ h => h.elim
  unfold F122j5
  refine IfB.dec (fun hlt => ?_) (fun hge => ?_)
  · refine ⟨i4, rfl, by omega, ys3, hP5.pi, hP5.v, fun k h1 h2 => ?_, fun k h1 h2 => ?_, hA5, hC5⟩
    · by_cases hk : k = a
      · subst hk; rw [hP5.v]; omega
      · exact hP5.lo k (by omega) h2
    · have := hP5.hi k (by omega) h2
      omega
  · have hij : i4 ≤ j5 := by omega
    refine sw (w := W5.drew) hA5 (by omega) (by omega) (by omega) (by omega) fun W6 h6 C6 => ?_
    rw [Int.toNat_natCast, Int.toNat_natCast] at h6
    exact ⟨rfl, _, by omega, i4 + 1, j5 - 1, _, rfl, by rw [wp1 (by omega), wm1 (by omega) (by omega)], hP5.sw hij (by omega) (by omega), h6, hC5d.trans C6⟩
theorem c121 {cl : Nat × Array Value} (hcp : CmpP cl) {s : Sl} {b : Nat} {w : World} {xs : List El} {a e : Nat} (h : Ar s b w.heap xs) (he : e ≤ xs.length) (ha : a < e) (hb : 0 < a → ∀ k, a ≤ k → k < e → g xs (a - 1) ≤ g xs k) :
    CW Try.prog 121 #[slV s, iv a, iv e, .func (.func cl.1) #[] cl.2] w fun v w' => ∃ t, v = .bool t ∧ ∃ ys, PI a e xs ys ∧ (t = true → SO ys a e) ∧ Ar s b w'.heap ys ∧ CB b w w' := by
  have hl := h.2.2.1
  have lb : ∀ {ys}, PI a e xs ys → 0 < a → ∀ k, a ≤ k → k < e → g ys (a - 1) ≤ g ys k := fun {ys} hP h0 k h1 h2 => by
    rw [hP.out (.inl (by omega))]
    exact hP.all (Q := fun v => g xs (a - 1) ≤ v) (fun i h3 h4 => hb h0 i h3 h4) k h1 h2
  refine F121_ok s a e cl w _ ⟨fun n x W => ∃ (i j : Nat) (ys : List El), n = 5 - j ∧ x = ((i : Int), (j : Int)) ∧ j ≤ 5 ∧ (a + 1 ≤ i ∧ i ≤ e) ∧ PI a e xs ys ∧ SO ys a i ∧ Ar s b W.heap ys ∧ CB b w W, ⟨_, a + 1, 0, xs, rfl, by rw [wp1 (by omega)]; rfl, by omega, by omega, .refl, fun p q _ _ _ => by omega, h, Ch.refl _ _⟩, ?_⟩
  rintro _ _ W _ ⟨i0, j0, ys, rfl, rfl, hj0, hi0, hP, hS0, hA, hC⟩
  have hyl := hP.len
  refine IfB.dec (fun hlt => ?_) (fun hge => ⟨false, rfl, ys, hP, (fun h => by cases h), hA, hC⟩)
  have hj5 : j0 < 5 := by
    have : (j0 : Int) < 5 := hlt
    omega
  refine ⟨fun x W => ∃ i : Nat, x = (i : Int) ∧ (a + 1 ≤ i ∧ i ≤ e) ∧ SO ys a i ∧ Ar s b W.heap ys ∧ CB b w W, ?_, ?_⟩
  · refine ⟨fun n x W => ∃ i : Nat, n = e - i ∧ x = (i : Int) ∧ (a + 1 ≤ i ∧ i ≤ e) ∧ SO ys a i ∧ Ar s b W.heap ys ∧ CB b w W, ⟨_, i0, rfl, rfl, hi0, hS0, hA, hC⟩, ?_⟩
    rintro _ _ W1 _ ⟨i, rfl, rfl, hi, hS, hA1, hC1⟩
    unfold F121j2
    refine IfB.dec (fun hlt => ?_) (fun hge => ⟨rfl, i, rfl, hi, hS, hA1, hC1.drew⟩)
    rw [wm1 (by omega) (by omega)]
    refine ls hcp (w := W1.drew) hA1 (by omega) (by omega) (by omega) (by omega) (fun nn ww hn eC => have hA1 := Ar.ch (w := W1.drew) hA1 eC id; have hC1 := CBe (CB.drew hC1) eC; introC hn (fun hl1 => ?_) (fun hl1 => ⟨rfl, i, rfl, hi, hS, hA1, hC1⟩))
    simp only [Int.toNat_natCast, Bool.not_eq_true', decide_eq_false_iff_not] at hl1
    refine ⟨rfl, _, by omega, i + 1, rfl, wp1 (by omega), by omega, fun p q h1 h2 h3 => ?_, hA1, hC1⟩
    by_cases hq : q = i
    · subst hq
      by_cases hp : p = q - 1
      · subst hp; omega
      · have := hS p (q - 1) h1 (by omega) (by omega)
        omega
    · exact hS p q h1 h2 (by omega)
  rintro _ W2 _ ⟨i, rfl, hi, hS, hA2, hC2⟩
  unfold F121j3
  refine IfB.intro (fun hi3 => ?_) (fun hi3 => ?_)
  · have hi3 : (i : Int) = (e : Int) := by simpa using hi3
    have : i = e := by omega
    subst this
    exact ⟨true, rfl, ys, hP, fun _ => hS, hA2, hC2⟩
  have hie : i < e := by
    have : (i : Int) ≠ (e : Int) := by simpa using hi3
    omega
  rw [wsb (by omega) (by omega)]
  refine @IfB.dec (((e - a : Nat) : Int) < (50 : Int)) _ _ _ (fun _ => ⟨false, rfl, ys, hP, (fun h => by cases h), hA2, hC2⟩) (fun _ => ?_)
  rw [wm1 (by omega) (by omega)]
  refine sw (w := W2.drew) hA2 (by omega) (by omega) (by omega) (by omega) fun W3 hA3 hC3 => ?_
  rw [Int.toNat_natCast, Int.toNat_natCast] at hA3
  have hP3 : PI a e xs (swp ys i (i - 1)) := .step hP (by omega) (by omega) (by omega) (by omega) (by omega)
  have hC3 := (CB.drew hC2).trans hC3
  rw [wsb (by omega) (by omega)]
  refine ⟨fun _ W => ∃ zs, PI a e xs zs ∧ SO zs a i ∧ Ar s b W.heap zs ∧ CB b w W, ?_, ?_⟩
  · refine IfB.dec (fun h2 => ?_) (fun h2 => ⟨rfl, _, hP3, fun p q _ _ _ => by omega, hA3, hC3⟩)
    refine ⟨fun n x W => ∃ (j : Nat) (zs : List El), j = n ∧ x = (j : Int) ∧ (a ≤ j ∧ j ≤ i - 1) ∧ PI a e xs zs ∧ (∀ p q, a ≤ p → p < q → q < i → q ≠ j → g zs p ≤ g zs q) ∧ Ar s b W.heap zs ∧ CB b w W, ⟨_, i - 1, _, rfl, rfl, by omega, hP3, fun p q h1 h2 h3 h4 => ?_, hA3, hC3⟩, ?_⟩
    · rw [g_swo (by omega) (by omega) (by omega) (by omega), g_swo (by omega) (by omega) (by omega) (by omega)]
      exact hS p q h1 h2 h3
    rintro _ _ W4 _ ⟨j, zs, rfl, rfl, hj, hP4, hS4, hA4, hC4⟩
    have hzl := hP4.len
    unfold F121j4
    refine IfB.dec (fun hj1 => ?_) (fun hj1 => ⟨rfl, zs, hP4, fun p q h1 h2 h3 => hS4 p q h1 h2 h3 (by omega), hA4, hC4⟩)
    rw [wm1 (by omega) (by omega)]
    refine ls hcp (w := W4.drew) hA4 (by omega) (by omega) (by omega) (by omega) (fun nn ww hn eC => have hA4 := Ar.ch (w := W4.drew) hA4 eC id; have hC4 := CBe (CB.drew hC4) eC; introC hn (fun hl1 => ?_) (fun hl1 => ?_))
    · simp only [Int.toNat_natCast, Bool.not_eq_true', decide_eq_false_iff_not] at hl1
      refine ⟨rfl, zs, hP4, fun p q h1 h2 h3 => ?_, hA4, hC4⟩
      by_cases hq : q = j
      · subst hq
        by_cases hp : p = q - 1
        · subst hp; omega
        · have := hS4 p (q - 1) h1 (by omega) (by omega) (by omega)
          omega
      · exact hS4 p q h1 h2 h3 hq
    · simp only [Int.toNat_natCast, Bool.not_eq_false', decide_eq_true_eq] at hl1
      have haj : a < j := by
        rcases Nat.lt_or_ge a j with h | h
        · exact h
        · have : a = j := by omega
          subst this
          have := lb hP4 (by omega) a (Nat.le_refl _) (by omega)
          omega
      refine sw (w := ww.drew) hA4 (by omega) (by omega) (by omega) (by omega) fun W5 hA5 hC5 => ?_
      rw [Int.toNat_natCast, Int.toNat_natCast] at hA5
      refine ⟨rfl, j - 1, by omega, j - 1, _, rfl, rfl, by omega, .step hP4 (by omega) (by omega) (by omega) (by omega) (by omega), fun p q h1 h2 h3 h4 => ?_, hA5, (CB.drew hC4).trans hC5⟩
      rw [g_swp (by omega) (by omega), g_swp (by omega) (by omega)]
      have A1 := hS4 p (j - 1) h1
      have A2 := hS4 p q h1 h2 h3
      have A3 := hS4 j q (by omega)
      have A4 := hS4 (j - 1) q (by omega)
      split <;> split <;> (try split) <;> (try split) <;> first | omega | skip
  rintro _ W6 _ ⟨zs, hP6, hS6, hA6, hC6⟩
  have hzl := hP6.len
  have next : ∀ {us : List El} {W : World}, PI a e xs us → SO us a i → Ar s b W.heap us → CB b w W → ([] : List Nat) = [] ∧ ∃ b112, b112 < 5 - j0 ∧ ∃ (i' j' : Nat) (ys : List El), b112 = 5 - j' ∧ ((i : Int), IntKind.i64.wrap ((j0 : Int) + (1 : Int))) = ((i' : Int), (j' : Int)) ∧ j' ≤ 5 ∧ (a + 1 ≤ i' ∧ i' ≤ e) ∧ PI a e xs ys ∧ SO ys a i' ∧ Ar s b W.heap ys ∧ CB b w W :=
    fun h1 h2 h3 h4 => ⟨rfl, 5 - (j0 + 1), by omega, i, j0 + 1, _, rfl, by rw [wp1 (by omega)], by omega, by omega, h1, h2, h3, h4⟩
  unfold F121j5
  refine ⟨fun t W => W = W6, ⟨rfl, rfl⟩, ?_⟩
  rintro t _ _ rfl
  refine IfB.intro (fun _ => ?_) (fun _ => next hP6 hS6 hA6 hC6)
  refine ⟨fun n x W => ∃ (j : Nat) (us : List El), n = e - j ∧ x = (j : Int) ∧ (i + 1 ≤ j ∧ j ≤ e) ∧ PI a e xs us ∧ SO us a i ∧ Ar s b W.heap us ∧ CB b w W, ⟨_, i + 1, zs, rfl, wp1 (by omega), by omega, hP6, hS6, hA6, hC6⟩, ?_⟩
  rintro _ _ W7 _ ⟨j, us, rfl, rfl, hj, hP7, hS7, hA7, hC7⟩
  have hul := hP7.len
  unfold F121j7
  refine IfB.dec (fun hlt => ?_) (fun _ => next hP7 hS7 hA7 hC7)
  rw [wm1 (by omega) (by omega)]
  refine ls hcp (w := W7.drew) hA7 (by omega) (by omega) (by omega) (by omega) (fun nn ww hn eC => have hA7 := Ar.ch (w := W7.drew) hA7 eC id; have hC7 := CBe (CB.drew hC7) eC; introC hn (fun _ => next hP7 hS7 hA7 hC7) (fun _ => ?_))
  refine sw (w := ww.drew) hA7 (by omega) (by omega) (by omega) (by omega) fun W8 hA8 hC8 => ?_
  rw [Int.toNat_natCast, Int.toNat_natCast] at hA8
  refine ⟨rfl, _, by omega, j + 1, _, rfl, wp1 (by omega), by omega, .step hP7 (by omega) (by omega) (by omega) (by omega) (by omega), fun p q h1 h2 h3 => ?_, hA8, (CB.drew hC7).trans hC8⟩
  rw [g_swo (by omega) (by omega) (by omega) (by omega), g_swo (by omega) (by omega) (by omega) (by omega)]
  exact hS7 p q h1 h2 h3
theorem c118 {cl : Nat × Array Value} (hcp : CmpP cl) {s : Sl} {b : Nat} {w : World} {xs : List El} {a e : Nat} (h : Ar s b w.heap xs) (he : e ≤ xs.length) (ha : a + 12 < e) :
    CW Try.prog 118 #[slV s, iv a, iv e, .func (.func cl.1) #[] cl.2] w fun v w' => v = .tuple #[] ∧ ∃ ys, PI a e xs ys ∧ Ar s b w'.heap ys ∧ CB b w w' := by
  have hl := h.2.2.1
  have hlt := h.lt
  refine F118_ok s a e cl w _ ?_
  unfold F118
  rw [wsb (by omega) (by omega)]
  refine IfB.yes (decide_eq_true (by omega)) ?_
  intro b1 w2 h2
  have p2 := h2.here; have z2 := h2.size
  rw [wu64 (by omega)]
  refine ⟨rfl, store_all h2.new rfl (by intro u hu; simp at hu; subst hu; rfl) fun w3 h3 => ?_⟩
  have e3 : Ext w w3 := Ext.fresh h2 h3
  have hne : b1 ≠ b := by omega
  refine (c104 (x := e - a) (by omega) w3).use ?_
  rintro _ _ ⟨L, rfl, hL, rfl⟩
  have hq : IntKind.i64.wrap ((((e - a : Nat) : Int)).tdiv (4 : Int)) = (((e - a) / 4 : Nat) : Int) := by
    rw [Int.tdiv_eq_ediv_of_nonneg (by omega), wrap_of (by omega) (by omega)]; omega
  obtain ⟨hL1, hL2, hL3⟩ := hL
  obtain ⟨hL4, hL5⟩ := hL2 (by omega)
  have h2L : 2 ^ L ≤ 2 * (e - a) := by
    have : 2 ^ L = 2 ^ (L - 1) * 2 := by rw [← Nat.pow_succ]; congr 1; omega
    omega
  have hLpos : 0 < 2 ^ L := Nat.pow_pos (by decide)
  generalize 2 ^ L = M at *
  rw [hq, wmul (k := (2 : Int)) (m := 2) rfl (by omega) (by omega), wad (by omega), wm1 (by omega) (by omega)]
  generalize hqq : (e - a) / 4 = q at *
  refine ⟨_, rfl, by decide, fun n x W => ∃ (i : Nat) (ys : List El), n = a + q * 2 + 2 - i ∧ x = (i : Int) ∧ (a + q * 2 - 1 ≤ i ∧ i ≤ a + q * 2 + 2) ∧ PI a e xs ys ∧ Ar s b W.heap ys ∧ Ct .u64 b1 W ∧ CB b w W, ⟨_, _, xs, rfl, rfl, by omega, .refl, h.ch e3 id, ⟨_, _, h3.new⟩, e3.mono fun _ _ h => h.elim⟩, ?_⟩
  rintro _ _ W _ ⟨i, ys, rfl, rfl, hi, hP, hA, hK, hC⟩
  have hyl := hP.len
  unfold F118j1
  rw [wsb (by omega) (by omega), hq, wmul (k := (2 : Int)) (m := 2) rfl (by omega) (by omega), wad (by omega), wp1 (by omega)]
  refine ⟨by decide, IfB.dec (fun hle => ?_) (fun hgt => ⟨rfl, ys, hP, hA, hC⟩)⟩
  refine (c105 hK).use ?_
  rintro _ w15 ⟨n16, rfl, hK2, hC2⟩
  have hA2 := hA.ch hC2 (Ne.symm hne)
  have hC3 : CB b w w15 := hC.then hC2 fun j hj h => by omega
  have hm : IntKind.u64.wrap ((M : Int) - (1 : Int)) = ((M - 1 : Nat) : Int) := by
    rw [show ((M : Int) - (1 : Int)) = ((M - 1 : Nat) : Int) by omega, wu64 (by omega)]
  obtain ⟨k, hk, hkM⟩ := and_le (n := n16) (m := M - 1) (by omega)
  refine ⟨n16, rfl, fun x W => ∃ t : Nat, x = (t : Int) ∧ t < e - a ∧ w15 = W, ?_, ?_⟩
  · rw [hm, hk, wrap_of (n := (k : Int)) (by omega) (by omega)]
    refine IfB.dec (fun h1 => ⟨rfl, k - (e - a), wsb (by omega) (by omega), by omega, rfl⟩) (fun h1 => ⟨rfl, k, rfl, by omega, rfl⟩)
  rintro _ _ _ ⟨t, rfl, ht, rfl⟩
  unfold F118j2
  rw [wad (by omega)]
  refine sw (w := w15.drew) hA2 (by omega) (by omega) (by omega) (by omega) fun W5 hA5 hC5 => ?_
  rw [Int.toNat_natCast, Int.toNat_natCast] at hA5
  exact ⟨rfl, _, by omega, i + 1, _, rfl, wp1 (by omega), by omega, .step hP (by omega) (by omega) (by omega) (by omega) (by omega), hA5, by
    obtain ⟨T, n, hn⟩ := hK2
    exact ⟨T, n, hC5.at (w := w15.drew) hn hne⟩, hC3.drew.trans hC5⟩
theorem SO.split {ys : List El} {a m e : Nat} (h1 : SO ys a m) (h2 : SO ys (m + 1) e) (hl : ∀ k, a ≤ k → k < m → g ys k ≤ g ys m) (hr : ∀ k, m < k → k < e → g ys m ≤ g ys k) : SO ys a e := by
  intro p q hp hpq hq
  rcases Nat.lt_trichotomy p m with h | h | h
  · rcases Nat.lt_trichotomy q m with k | k | k
    · exact h1 p q hp hpq k
    · subst k; exact hl p hp h
    · have := hl p hp h; have := hr q k hq; omega
  · subst h; exact hr q hpq hq
  · exact h2 p q (by omega) hpq hq
theorem PI.trans' {a b a' b' : Nat} {xs ys zs : List El} (h : PI a b xs ys) (k : PI a' b' ys zs) (h1 : a ≤ a') (h2 : b' ≤ b) (h3 : b ≤ xs.length) : PI a b xs zs :=
  h.trans (k.mono h1 h2 (by rw [h.len]; exact h3))
/-- Nothing of [a, e) is less than what stands ahead of a. -/
def LB (xs : List El) (a e : Nat) : Prop := 0 < a → ∀ k, a ≤ k → k < e → g xs (a - 1) ≤ g xs k
theorem LB.pi {xs ys : List El} {a e : Nat} (h : LB xs a e) (hP : PI a e xs ys) : LB ys a e := fun h0 k h1 h2 => by
  rw [hP.out (.inl (by omega))]
  exact hP.all (Q := fun v => g xs (a - 1) ≤ v) (fun i h3 h4 => h h0 i h3 h4) k h1 h2
/-- Parted at m. -/
def Pd (ys : List El) (a m e : Nat) : Prop := (∀ k, a ≤ k → k < m → g ys k ≤ g ys m) ∧ (∀ k, m < k → k < e → g ys m ≤ g ys k)
theorem Pd.left {ys zs : List El} {a m e : Nat} (h : Pd ys a m e) (hP : PI a m ys zs) : Pd zs a m e := by
  have em : g zs m = g ys m := hP.out (.inr (Nat.le_refl _))
  refine ⟨fun k h1 h2 => ?_, fun k h1 h2 => ?_⟩
  · rw [em]; exact hP.all (Q := fun v => v ≤ g ys m) (fun i h3 h4 => h.1 i h3 h4) k h1 h2
  · rw [em, hP.out (.inr (by omega))]; exact h.2 k h1 h2
theorem Pd.right {ys zs : List El} {a m e : Nat} (h : Pd ys a m e) (hP : PI (m + 1) e ys zs) : Pd zs a m e := by
  have em : g zs m = g ys m := hP.out (.inl (by omega))
  refine ⟨fun k h1 h2 => ?_, fun k h1 h2 => ?_⟩
  · rw [em, hP.out (.inl (by omega))]; exact h.1 k h1 h2
  · rw [em]; exact hP.all (Q := fun v => g ys m ≤ v) (fun i h3 h4 => h.2 i (by omega) h4) k (by omega) h2
theorem SO.keep {ys zs : List El} {a e a' e' : Nat} (h : SO ys a e) (hP : PI a' e' ys zs) (hd : e ≤ a' ∨ e' ≤ a) : SO zs a e := by
  intro p q h1 h2 h3
  rw [hP.out (by omega), hP.out (by omega)]
  exact h p q h1 h2 h3
theorem c113 {cl : Nat × Array Value} (hcp : CmpP cl) (n : Nat) : ∀ {s : Sl} {b : Nat} {w : World} {xs : List El} {a e : Nat} (lim : Int), e - a = n → Ar s b w.heap xs → e ≤ xs.length → a ≤ e → LB xs a e →
    CW Try.prog 113 #[slV s, iv a, iv e, iv lim, .func (.func cl.1) #[] cl.2] w fun v w' => v = .tuple #[] ∧ ∃ ys, PI a e xs ys ∧ SO ys a e ∧ Ar s b w'.heap ys ∧ CB b w w' := by
  induction n using Nat.strongRecOn with
  | _ n ih =>
  intro s b w xs a e lim hn h he hae hLB
  have hl := h.2.2.1
  refine F113_ok s a e lim cl w _ ⟨fun k x W => ∃ (a' e' : Nat) (lm : Int) (wb wp : Bool) (ys : List El), k = e' - a' ∧ x = ((a' : Int), (e' : Int), lm, wb, wp) ∧ (a ≤ a' ∧ a' ≤ e' ∧ e' ≤ e) ∧ PI a e xs ys ∧ LB ys a' e' ∧
    (∀ zs, PI a' e' ys zs → SO zs a' e' → SO zs a e) ∧ Ar s b W.heap ys ∧ CB b w W, ⟨_, a, e, lim, true, true, xs, rfl, rfl, by omega, .refl, hLB, fun _ _ h => h, h, Ch.refl _ _⟩, ?_⟩
  rintro _ _ W _ ⟨a', e', lm, wb, wp, ys, rfl, rfl, hae', hP, hB, hG, hA, hC⟩
  have hyl := hP.len
  have up : ∀ {zs}, PI a' e' ys zs → PI a e xs zs := fun k => hP.trans' k (by omega) (by omega) he
  unfold F113j1
  dsimp only
  rw [wsb (by omega) (by omega)]
  refine IfB.dec (fun h12 => ?_) (fun h12 => ?_)
  · refine (c116 hcp hA (by omega) (by omega)).use ?_
    rintro _ W2 ⟨rfl, zs, hP2, hS2, hA2, hC2⟩
    exact ⟨(), rfl, rfl, zs, up hP2, hG zs hP2 hS2, hA2, hC.trans hC2⟩
  have hbig : a' + 12 < e' := by omega
  refine IfB.intro (fun _ => ?_) (fun _ => ?_)
  · refine (c117 hcp hA (by omega) (by omega)).use ?_
    rintro _ W2 ⟨rfl, zs, hP2, hS2, hA2, hC2⟩
    exact ⟨(), rfl, rfl, zs, up hP2, hG zs hP2 hS2, hA2, hC.trans hC2⟩
  refine ⟨fun _ W => ∃ zs, PI a' e' ys zs ∧ Ar s b W.heap zs ∧ CB b w W, ?_, ?_⟩
  · refine IfB.intro (fun _ => ?_) (fun _ => ⟨rfl, ys, .refl, hA, hC⟩)
    refine (c118 hcp hA (by omega) hbig).use ?_
    rintro _ W2 ⟨rfl, zs, hP2, hA2, hC2⟩
    exact ⟨(), rfl, rfl, zs, hP2, hA2, hC.trans hC2⟩
  rintro lm2 W2 _ ⟨zs, hP2, hA2, hC2⟩
  have hzl := hP2.len
  unfold F113j2
  dsimp only
  refine (c119 hcp hA2 (by omega) hbig).use ?_
  rintro _ W3 ⟨p, t, rfl, hp, hA3, e3⟩
  have hC3 : CB b w W3 := hC2.then e3 fun _ _ h => h.elim
  refine ⟨((p : Int), t), rfl, fun x W => ∃ (p : Nat) (us : List El), x.1 = (p : Int) ∧ (a' ≤ p ∧ p < e') ∧ PI a' e' ys us ∧ Ar s b W.heap us ∧ CB b w W, ?_, ?_⟩
  · refine IfB.intro (fun _ => ?_) (fun _ => ⟨rfl, p, zs, rfl, hp, hP2, hA3, hC3⟩)
    refine (c120 hcp hA3 (by omega) (by omega)).use ?_
    rintro _ W4 ⟨rfl, us, hP4, hA4, hC4⟩
    refine ⟨(), rfl, rfl, e' - 1 - (p - a'), us, ?_, by omega, hP2.trans hP4, hA4, hC3.trans hC4⟩
    show IntKind.i64.wrap (IntKind.i64.wrap ((e' : Int) - 1) - IntKind.i64.wrap ((p : Int) - (a' : Int))) = _
    rw [wm1 (by omega) (by omega), wsb (by omega) (by omega), wsb (by omega) (by omega)]
  rintro ⟨_, t2⟩ W5 _ ⟨p, us, rfl, hp, hP5, hA5, hC5⟩
  have hul := hP5.len
  unfold F113j3
  dsimp only
  refine ⟨fun _ W => ∃ us, PI a' e' ys us ∧ Ar s b W.heap us ∧ CB b w W, ?_, ?_⟩
  · refine IfB.intro (fun _ => IfB.intro (fun _ => IfB.intro (fun _ => ?_) (fun _ => ⟨rfl, us, hP5, hA5, hC5⟩)) (fun _ => ⟨rfl, us, hP5, hA5, hC5⟩)) (fun _ => ⟨rfl, us, hP5, hA5, hC5⟩)
    refine (c121 hcp hA5 (by omega) (by omega) (hB.pi hP5)).use ?_
    rintro _ W6 ⟨t, rfl, vs, hP6, hS6, hA6, hC6⟩
    exact ⟨t, rfl, IfB.intro (fun ht => ⟨rfl, vs, up (hP5.trans hP6), hG vs (hP5.trans hP6) (hS6 ht), hA6, hC5.trans hC6⟩) (fun _ => ⟨rfl, vs, hP5.trans hP6, hA6, hC5.trans hC6⟩)⟩
  rintro _ W7 _ ⟨us, hP7, hA7, hC7⟩
  have hul := hP7.len
  have hB7 := hB.pi hP7
  have hG7 : ∀ zs, PI a' e' us zs → SO zs a' e' → SO zs a e := fun zs k => hG zs (hP7.trans k)
  have part : ∀ {W8 : World}, Ar s b W8.heap us → CB b w W8 → CX Try.prog 123 #[slV s, iv a', iv e', iv p, .func (.func cl.1) #[] cl.2] W8 fun v65 w66 => ∃ x67 : Int × Bool, v65 = .tuple #[.int .i64 x67.1, .bool x67.2] ∧ ¬(8 : Int) = 0 ∧
      IfB (decide (IntKind.i64.wrap (x67.fst - (a' : Int)) < IntKind.i64.wrap ((e' : Int) - x67.fst))) (F113k2 s ((a' : Int), (e' : Int), lm, wb, wp) x67 lm2 cl w66 (e' - a') (fun k x W => ∃ (a' e' : Nat) (lm : Int) (wb wp : Bool) (ys : List El), k = e' - a' ∧ x = ((a' : Int), (e' : Int), lm, wb, wp) ∧ (a ≤ a' ∧ a' ≤ e' ∧ e' ≤ e) ∧ PI a e xs ys ∧ LB ys a' e' ∧
    (∀ zs, PI a' e' ys zs → SO zs a' e' → SO zs a e) ∧ Ar s b W.heap ys ∧ CB b w W))
       (F113k1 s x67 ((a' : Int), (e' : Int), lm, wb, wp) lm2 cl w66 (e' - a') (fun k x W => ∃ (a' e' : Nat) (lm : Int) (wb wp : Bool) (ys : List El), k = e' - a' ∧ x = ((a' : Int), (e' : Int), lm, wb, wp) ∧ (a ≤ a' ∧ a' ≤ e' ∧ e' ≤ e) ∧ PI a e xs ys ∧ LB ys a' e' ∧
    (∀ zs, PI a' e' ys zs → SO zs a' e' → SO zs a e) ∧ Ar s b W.heap ys ∧ CB b w W)) := by
    intro W8 hA8 hC8
    refine (c123 hcp hA8 (by omega) hp).use ?_
    rintro _ W9 ⟨m, t, rfl, hm, vs, hP9, h1, h2, hA9, hC9⟩
    have hvl := hP9.len
    have hPd : Pd vs a' m e' := ⟨fun k h3 h4 => Int.le_of_lt (h1 k h3 h4), h2⟩
    have hB9 := hB7.pi hP9
    have hC9 := hC8.trans hC9
    refine ⟨((m : Int), t), rfl, by decide, IfB.intro (fun _ => ?_) (fun _ => ?_)⟩
    · unfold F113k2
      refine (ih (m - a') (by omega) lm2 rfl hA9 (by omega) (by omega) fun h0 k h3 h4 => hB9 h0 k h3 (by omega)).use ?_
      rintro _ W10 ⟨rfl, ts, hP10, hS10, hA10, hC10⟩
      have hPd2 := hPd.left hP10
      refine ⟨(), rfl, rfl, e' - (m + 1), by omega, m + 1, e', _, _, _, ts, rfl, by rw [wp1 (by omega)], by omega, hP.trans' (hP7.trans (hP9.trans' hP10 (by omega) (by omega) (by omega))) (by omega) (by omega) he, fun _ k h3 h4 => hPd2.2 k (by omega) h4, fun zs hz hSz => ?_, hA10, hC9.trans hC10⟩
      have hPz : PI a' e' us zs := (hP9.trans' hP10 (by omega) (by omega) (by omega)).trans' hz (by omega) (by omega) (by omega)
      have hPd3 := hPd2.right hz
      exact hG7 zs hPz ((hS10.keep hz (.inl (by omega))).split hSz hPd3.1 hPd3.2)
    · unfold F113k1
      dsimp only
      rw [wp1 (by omega)]
      refine (ih (e' - (m + 1)) (by omega) lm2 rfl hA9 (by omega) (by omega) fun h0 k h3 h4 => hPd.2 k (by omega) h4).use ?_
      rintro _ W10 ⟨rfl, ts, hP10, hS10, hA10, hC10⟩
      have hPd2 := hPd.right hP10
      have hB10 : LB ts a' m := fun h0 k h3 h4 => by
        rw [hP10.out (.inl (by omega)), hP10.out (.inl (by omega))]
        exact hB9 h0 k h3 (by omega)
      refine ⟨(), rfl, rfl, m - a', by omega, a', m, _, _, _, ts, rfl, rfl, by omega, hP.trans' (hP7.trans (hP9.trans' hP10 (by omega) (by omega) (by omega))) (by omega) (by omega) he, hB10, fun zs hz hSz => ?_, hA10, hC9.trans hC10⟩
      have hPz : PI a' e' us zs := (hP9.trans' hP10 (by omega) (by omega) (by omega)).trans' hz (by omega) (by omega) (by omega)
      have hPd3 := hPd2.left hz
      exact hG7 zs hPz (hSz.split (hS10.keep hz (.inr (by omega))) hPd3.1 hPd3.2)
  unfold F113j4
  dsimp only
  refine IfB.dec (fun h0 => ?_) (fun h0 => part (W8 := W7.drew) hA7 hC7.drew)
  have h0 : 0 < a' := by omega
  rw [wm1 (by omega) (by omega)]
  refine ls hcp (w := W7.drew) hA7 (by omega) (by omega) (by omega) (by omega) (fun nn ww hn eC => have hA7 := Ar.ch (w := W7.drew) hA7 eC id; have hC7 := CBe (CB.drew hC7) eC; introC hn (fun hl1 => ?_) (fun _ => part hA7 hC7))
  simp only [Int.toNat_natCast, Bool.not_eq_true', decide_eq_false_iff_not] at hl1
  refine (c122 hcp (w := ww) hA7 (by omega) hp).use ?_
  rintro _ W8 ⟨m, rfl, hm, vs, hP8, hv, h1, h2, hA8, hC8⟩
  have hvl := hP8.len
  have hB8 := hB7.pi hP8
  have ho : g vs (a' - 1) = g us (a' - 1) := hP8.out (.inl (by omega))
  have hv1 : ∀ k, a' ≤ k → k < m → g vs k = g us p := fun k h3 h4 => by
    have := h1 k h3 h4
    have := hB8 h0 k h3 (by omega)
    omega
  refine ⟨_, rfl, rfl, e' - m, by omega, m, e', lm2, wb, wp, vs, rfl, rfl, by omega, up (hP7.trans hP8), fun _ k h3 h4 => ?_, fun zs hz hSz => ?_, hA8, hC7.trans hC8⟩
  · rw [hv1 (m - 1) (by omega) (by omega)]
    have := h2 k h3 h4
    omega
  · have hlow : ∀ k, a' ≤ k → k < m → g zs k = g us p := fun k h3 h4 => by rw [hz.out (.inl h4)]; exact hv1 k h3 h4
    have hhigh : ∀ k, m ≤ k → k < e' → g us p < g zs k := hz.all (Q := fun v => g us p < v) h2
    refine hG7 zs (hP8.trans' hz (by omega) (by omega) (by omega)) fun i j h3 h4 h5 => ?_
    by_cases hj : j < m
    · rw [hlow i h3 (by omega), hlow j (by omega) hj]; exact Int.le_refl _
    · by_cases hi : i < m
      · rw [hlow i h3 hi]
        have := hhigh j (by omega) h5
        omega
      · exact hSz i j (by omega) h4 h5
/-- slices.Sort -/
theorem SO.sorted {ys : List El} (h : SO ys 0 ys.length) : ys.Pairwise (fun x y => key x ≤ key y) := by
  rw [List.pairwise_iff_getElem]
  intro i j hi hj hij
  have := h i j (Nat.zero_le _) hij hj
  have e1 := ge_eq hi; have e2 := ge_eq hj
  rw [List.getElem?_eq_getElem hi] at e1
  rw [List.getElem?_eq_getElem hj] at e2
  rw [Option.some.injEq] at e1 e2
  rw [e1, e2]; exact this
theorem c125e (cl : Nat × Array Value) (s : Sl) (w : World) : CW Try.prog 116 #[slV s, iv 0, iv 0, .func (.func cl.1) #[] cl.2] w fun v w' => v = .tuple #[] ∧ w = w' := by
  refine F116_ok s (0 : Int) (0 : Int) cl w _ ⟨fun k x W' => x = (1 : Int) ∧ w = W', ⟨0, by decide, rfl⟩, ?_⟩
  rintro k _ _ _ ⟨rfl, rfl⟩
  exact IfB.no (by decide) ⟨rfl, rfl⟩
theorem c120e (cl : Nat × Array Value) (s : Sl) (L : Int) (w : World) : CW Try.prog 113 #[slV s, iv 0, iv 0, iv L, .func (.func cl.1) #[] cl.2] w fun v w' => v = .tuple #[] ∧ w = w' := by
  refine F113_ok s (0 : Int) (0 : Int) L cl w _ ⟨fun k x W => x = ((0 : Int), (0 : Int), L, true, true) ∧ w = W, ⟨0, rfl, rfl⟩, ?_⟩
  rintro k _ _ _ ⟨rfl, rfl⟩
  unfold F113j1
  refine IfB.yes (show decide (IntKind.i64.wrap ((0 : Int) - (0 : Int)) ≤ (12 : Int)) = true by decide) ((c125e cl s w).use ?_)
  rintro _ _ ⟨rfl, rfl⟩
  exact ⟨(), rfl, rfl, rfl⟩
theorem c101 {cl : Nat × Array Value} (hcp : CmpP cl) {w : World} {s : Sl} {xs : List El} (h : OwS w s 2 (xs.flatMap sv)) (hl : xs.length ≤ 1000000) :
    CW Try.prog 101 #[slV s, .func (.func cl.1) #[] cl.2] w fun v w' => v = .tuple #[] ∧ ∃ ys : List El, ys.Perm xs ∧ ys.Pairwise (fun x y => key x ≤ key y) ∧ OwS w' s 2 (ys.flatMap sv) ∧ Ch (fun i => i ∈ blk s) w w' := by
  have hn := owsN sv_len (by omega) h
  refine F101_ok s cl w _ ?_
  unfold F101
  rw [show (s.2 : Int) = ((xs.length : Nat) : Int) by show (s.n : Int) = _; rw [hn], wu64 (by omega)]
  refine (c62 hl w).use ?_
  rintro _ _ ⟨L, rfl, hL, rfl⟩
  refine ⟨_, rfl, ?_⟩
  by_cases h0 : xs.length = 0
  · have : xs = [] := List.length_eq_zero_iff.1 h0
    subst this
    refine (c120e cl s L w).use ?_
    rintro _ _ ⟨rfl, rfl⟩
    exact ⟨(), rfl, rfl, [], .refl _, .nil, h, Ch.refl _ _⟩
  · obtain ⟨b, hA, hb⟩ := Ar.of h (by omega) hl
    refine (c113 hcp _ (L : Int) rfl hA (Nat.le_refl _) (Nat.zero_le _) (fun h0 => absurd h0 (by decide))).use ?_
    rintro _ W2 ⟨rfl, ys, hP, hS, hA2, hC2⟩
    have hyl := hP.len
    exact ⟨(), rfl, rfl, ys, hP.perm, SO.sorted (by rw [hyl]; exact hS), hA2.own, hC2.mono fun i _ hi => by rw [hb]; simpa using hi⟩
end Go.Proofs.Ytmmhbjbaallkfaa.Gx.SfS

/- Ranges over iterators that have boxes of their own between two rounds. Written by mkgxu.py out of XGxA. -/
namespace Go.Proofs.Ytmmhbjbaallkfaa.Gx
open Go
set_option linter.unusedSimpArgs false
set_option linter.unusedVariables false
/-- What is from n on, and not in U, is as it was; U grows by new blocks alone. -/
structure Kp (U : World → Nat → Prop) (n : Nat) (W W' : World) : Prop where
  at' : ∀ i : Nat, n ≤ i → i < W.heap.size → ¬ U W i → W'.heap[i]? = W.heap[i]?
  own : ∀ i : Nat, U W' i → U W i ∨ W.heap.size ≤ i
theorem Kp.upd {U : World → Nat → Prop} {n l : Nat} {W A B : World} {o : Obj} (h : Kp U n W A) (hu : IsUpd A l o B) (hl : l < n) (hU : ∀ i, U B i → U A i) : Kp U n W B :=
  ⟨fun i h1 h2 h3 => (hu.old i (by omega)).trans (h.at' i h1 h2 h3), fun i hi => h.own i (hU i hi)⟩
/-- The contract of an iterator with boxes of its own. 'U': what belongs to who ranges. -/
def IterU {α : Type} (P : Program) (g : FuncId) (lb : Array Value) (enc : α → Array Value) (bnd : Bool) (Nxt : List α → α → Prop) (Fin : List α → Prop) (Inv : World → Prop) : Prop :=
  Entr P g ∧ ∀ (l : Nat) (J Jx : List α → World → Prop) (U : World → Nat → Prop) (W : World), Abid W.heap.size J → Abid W.heap.size Jx → (∀ pre W', J pre W' → Inv W') → (∀ pre W', J pre W' → W.heap.size ≤ W'.heap.size) →
    (bnd = true → ∃ B, ∀ pre W', J pre W' → pre.length ≤ B) →
    (∀ A B, Stb W.heap.size A B → ∀ i, U B i → U A i) → (∀ pre W', J pre W' → ∀ i, U W' i → i < W'.heap.size) →
    (∀ pre x W1, J pre W1 → Nxt pre x → YW P l (enc x) W1 fun b W' => match b with | true => J (pre ++ [x]) W' ∧ Its W1 W' ∧ Kp U W.heap.size W1 W' | false => Jx (pre ++ [x]) W') → J [] W →
    CW P g (#[.func (.yield l) #[] #[]] ++ lb) W fun _ W' => (∃ xs, Fin xs ∧ J xs W') ∨ (∃ pre, Jx pre W')
section
variable {P : Program} {tb : Tab}
/-- A range over a function, outside of every other one. -/
theorem range_noneU (hT : tb.Ok P) (hm : P.follows .mixedOrders = true) {α : Type} {N : Nat} {an : An} {g : Operand} {ps : Array Tmp} {assign body : Code} {f : Fr} {ds : List Nat} {w : World} {Kn Kr : List Nat → World → Prop} {Kx : Nat → List Nat → World → Prop}
    {gf : FuncId} {lb : Array Value} (hg : ev f g = .func (.func gf) #[] lb) {enc : α → Array Value} {bnd : Bool} {Nxt : List α → α → Prop} {Fin : List α → Prop} {Inv : World → Prop} (spec : IterU P gf lb enc bnd Nxt Fin Inv)
    (hok1 : okC tb N assign .nil = true) (hok2 : okC tb N body an = true) (hps : ps.toList.all (fun p => Nat.blt p N) = true) (henc : ∀ x, (enc x).size = ps.size)
    (U : World → Nat → Prop) (hU : ∀ W W', Stb w.heap.size W W' → ∀ i, U W' i → U W i) (I : List α → World → Prop) (Ix : Code → List α → World → Prop) (hI : Abid w.heap.size I) (hIx : ∀ c, Abid w.heap.size (Ix c)) (hInv : ∀ pre W, I pre W → Inv W)
    (hbnd : bnd = true → ∃ B, ∀ pre W, I pre W → pre.length ≤ B) (hU1 : ∀ pre W, I pre W → ∀ i, U W i → i < W.heap.size) (h0 : I [] w)
    (hbody : ∀ pre x W, I pre W → Nxt pre x → w.heap.size + 1 < W.heap.size → BodyP P tb N (w.heap.size + 1) w.heap.size w.heap.size an ps assign body f (fun W' => I (pre ++ [x]) W' ∧ Its W W' ∧ Kp U (w.heap.size + 2) W W') (fun c => Ix c (pre ++ [x])) (enc x).toList W)
    (hdone : ∀ xs W, Fin xs → I xs W → W.heap[w.heap.size]? = some (.deferred (some [])) → Kn (w.heap.size :: ds) W)
    (hstop : ∀ c pre W, Ix c pre W → W.heap[w.heap.size]? = some (.deferred (some [])) → jumpQ Kr Kx (w.heap.size :: ds) W c) :
    RangeP P tb N none an g ps assign body f ds w Kn Kr Kx := by
  intro a hR
  refine wpIn_rangeFunc ?_
  intro fn _
  obtain ⟨rec, hrec⟩ : ∃ rec : Loop, rec = { state := .ready, pending := none, fn, tmps := a.tmps, params := ps, assign, body, defers := w.heap.size } := ⟨_, rfl⟩
  obtain ⟨W1, hW1⟩ : ∃ W1, (w.alloc (.deferred (some []))).alloc (.loop rec) = W1 := ⟨_, rfl⟩
  have e1 : IsAlloc w (.deferred (some [])) w.heap.size (w.alloc (.deferred (some []))) := isAlloc_push w _ w.drawn
  have e2 : IsAlloc (w.alloc (.deferred (some []))) (.loop rec) (w.heap.size + 1) W1 := by
    have := isAlloc_push (w.alloc (.deferred (some []))) (.loop rec) (w.alloc (.deferred (some []))).drawn
    rw [e1.size] at this
    rw [← hW1]; exact this
  have hL1 : W1.heap[w.heap.size + 1]? = some (.loop rec) := e2.new
  have hK1 : W1.heap[w.heap.size]? = some (.deferred (some [])) := by rw [e2.old _ (by rw [e1.size]; omega)]; exact e1.new
  have hS1 : Stb w.heap.size w W1 := (Stb.alloc e1 (Nat.le_refl _)).trans (Stb.alloc e2 (by rw [e1.size]; omega))
  have hsz1 : W1.heap.size = w.heap.size + 2 := by rw [e2.size, e1.size]
  have hev : a.eval g = .func (.func gf) #[] lb := by rw [hR.eval]; exact hg
  have hpsN : ∀ p ∈ ps.toList, p < N := fun p hp => by have := List.all_eq_true.1 hps p hp; rw [Nat.blt_eq] at this; exact this
  refine ⟨w.heap.size + 1, [{ target := .collected w.heap.size, args := #[] }], W1, { target := .fn (.func gf) lb, args := #[.func (.yield (w.heap.size + 1)) #[] #[]] }, W1, gf,
    #[.func (.yield (w.heap.size + 1)) #[] #[]] ++ lb, W1, ?_, ?_, fun f' _ => trivial, ?_, fz_depth none, ?_⟩
  · rw [← hW1, hrec]; exact run_enterLoop_outer _ _ _ _ _
  · simp only [resolve]
    rw [hev]
    simp [Deferred.ofValue, Act.eval]
  · simp only [invoke]
    exact spec.1 _ _
  · refine fz_callsIn.2 ?_
    have hc := spec.2 (w.heap.size + 1)
      (fun pre W => I pre W ∧ W.heap[w.heap.size + 1]? = some (.loop rec) ∧ W.heap[w.heap.size]? = some (.deferred (some [])))
      (fun pre W => ∃ c, Ix c pre W ∧ W.heap[w.heap.size + 1]? = some (.loop { rec with state := .done, pending := some c }) ∧ W.heap[w.heap.size]? = some (.deferred (some [])))
      U W1
      (fun s A B hs hS => ⟨hI s A B hs.1 (hS.mono (by omega)), (hS.low _ (by omega)).trans hs.2.1, (hS.low _ (by omega)).trans hs.2.2⟩)
      (fun s A B hs hS => by obtain ⟨c, hc, h1, h2⟩ := hs; exact ⟨c, hIx c s A B hc (hS.mono (by omega)), (hS.low _ (by omega)).trans h1, (hS.low _ (by omega)).trans h2⟩)
      (fun pre W h => hInv pre W h.1)
      (fun pre W h => by have : w.heap.size + 1 < W.heap.size := (Array.getElem?_eq_some_iff.1 h.2.1).1; omega)
      (fun hb => by obtain ⟨B, hB⟩ := hbnd hb; exact ⟨B, fun pre W h => hB pre W h.1⟩)
      (fun A B hS => hU A B (hS.mono (by omega)))
      (fun pre W h => hU1 pre W h.1)
      (fun pre x W h hx => by
        have hlt : w.heap.size + 1 < W.heap.size := (Array.getElem?_eq_some_iff.1 h.2.1).1
        refine (round_of hT hm (l := w.heap.size + 1) (D := w.heap.size) (n₀ := w.heap.size) hR.size hR.val hpsN hok1 hok2 (henc x) (by omega) hrec h.2.1 hI hIx (E := fun W' => Its W W' ∧ Kp U (w.heap.size + 2) W W') (fun A B o hE hu hl => by obtain ⟨rc, hl⟩ := hl; exact ⟨hE.1.trans (Its.upd hu hl (by simp)), hE.2.upd hu (by omega) (hU _ _ (Stb.upd hu hl rfl (by omega)))⟩) (hbody pre x W h.1 hx hlt)).mono ?_
        rintro b W' ⟨hD, hb⟩
        cases b with
        | true => exact ⟨⟨hb.2.1, hb.1, (hD (by omega)).trans h.2.2⟩, hb.2.2.1, by rw [hsz1]; exact hb.2.2.2⟩
        | false => obtain ⟨c, h1, h2⟩ := hb; exact ⟨c, h2, h1, (hD (by omega)).trans h.2.2⟩)
      ⟨hI _ _ _ h0 hS1, hL1, hK1⟩
    refine hc.2.mono ?_
    rintro e W2 ⟨v, rfl, h⟩
    have hds : ∀ (a' : Act), a' = { a with defers := [{ target := .collected w.heap.size, args := #[] }] ++ a.defers } → Rel N a' f (w.heap.size :: ds) := fun a' e => by
      subst e
      exact ⟨hR.size, hR.val, by rw [hR.defers]; rfl⟩
    rcases h with ⟨xs, hF, hi, hl, hk⟩ | ⟨pre, c, hi, hl, hk⟩
    · obtain ⟨w4, o4, hr4, hu⟩ : ∃ w4 o4, (Instr.endLoop (w.heap.size + 1)).run P W2 = .ok rec.pending w4 ∧ IsUpd W2 (w.heap.size + 1) o4 w4 :=
        ⟨_, _, run_endLoop (P := P) hl (by rw [hrec]; simp), isUpd_putObj hl _⟩
      have hp : rec.pending = none := by rw [hrec]
      rw [hp] at hr4
      refine ⟨none, w4, hr4, ?_⟩
      exact ⟨f, w.heap.size :: ds, hds _ rfl, rfl, hdone xs _ hF (hI _ _ _ hi (Stb.upd hu hl rfl (by omega))) ((hu.old _ (by omega)).trans hk)⟩
    · have hu := isUpd_putObj hl (.loop { rec with state := .exhausted, pending := some c })
      refine ⟨some c, _, by have := run_endLoop (P := P) hl (by simp); exact this, ?_⟩
      have hj := hstop c pre _ (hIx c _ _ _ hi (Stb.upd hu hl rfl (by omega))) ((hu.old _ (by omega)).trans hk)
      unfold jumpQ at hj
      split at hj
      · exact wpIn_ret ⟨f, w.heap.size :: ds, hds _ rfl, rfl, hj⟩
      · exact wpIn_exit ⟨f, w.heap.size :: ds, hds _ rfl, rfl, hj⟩
      · exact hj.elim
end
end Go.Proofs.Ytmmhbjbaallkfaa.Gx

/- Package keys: which spans may be, and slices of spans: Concat, DeleteFunc. -/
namespace Go.Proofs.Ytmmhbjbaallkfaa.Gx
open Go
set_option linter.unusedSimpArgs false
set_option linter.unusedVariables false
abbrev Spn := Int × Int
abbrev sv (x : Spn) : List Value := [.int .i64 x.1, .int .i64 x.2]
theorem sv_len (x : Spn) : (sv x).length = 2 := rfl
theorem sv_one (x : Spn) : One (sv x) := by intro v hv; simp at hv; rcases hv with rfl | rfl <;> rfl
abbrev spV (x : Spn) : Value := .agg #[.int .i64 x.1, .int .i64 x.2]
/-- A box for a struct. -/
theorem boxCells {w : World} {vs : List Value} {n : Nat} {z : Array Value} {T : TypeId} (hn : vs.length = n) (h1 : One vs) (hz : z.size = n) {K : Nat → World → Prop} (hK : ∀ b w', w.heap.size = b → w'.heap.size = b + 1 → w'.heap[b]? = some (.cells vs.toArray T (0, 0)) → Ext w w' → (∀ n, n ≤ w.heap.size → Stb n w w') → K b w') :
    AllocP w (.cells z T) fun b w2 => vs.toArray.size = n ∧ StoreP w2 b 0 vs (K b) := by
  intro b w2 h2
  refine ⟨by simpa using hn, store_all (vs := vs) h2.new (by rw [hz, hn]) h1 fun w3 h3 => hK b w3 h2.here.symm ?_ h3.new (Ext.fresh h2 h3) fun n hn => Stb.fresh h2 h3 hn⟩
  have := h2.here; have := h2.size; have := h3.size; omega
/-- A span in a box of its own. -/
theorem boxSp {w : World} {x : Spn} {z : Array Value} {T : TypeId} (hz : z.size = 2) {K : Nat → World → Prop} (hK : ∀ b w', w.heap.size = b → w'.heap.size = b + 1 → w'.heap[b]? = some (.cells #[.int .i64 x.1, .int .i64 x.2] T (0, 0)) → Ext w w' → (∀ n, n ≤ w.heap.size → Stb n w w') → K b w') :
    AllocP w (.cells z T) fun b w2 => #[Value.int .i64 x.1, Value.int .i64 x.2].size = 2 ∧ StoreP w2 b 0 [.int .i64 x.1, .int .i64 x.2] (K b) :=
  boxCells (vs := sv x) rfl (sv_one x) hz hK
def mayS (x : Spn) : Prop := 0 ≤ x.1 ∧ x.1 ≤ x.2 ∧ x.2 ≤ 999
instance (x : Spn) : Decidable (mayS x) := inferInstanceAs (Decidable (_ ∧ _))
def hasS (l : List Spn) (k : Int) : Prop := ∃ x ∈ l, mayS x ∧ x.1 ≤ k ∧ k ≤ x.2
instance (l : List Spn) (k : Int) : Decidable (hasS l k) := inferInstanceAs (Decidable (∃ x ∈ l, _))
theorem c46 (x y : Int) (w : World) : CW Try.prog 46 #[.int .i64 x, .int .i64 y] w fun v w' => ∃ n : Int, v = iv n ∧ (n < 0 ↔ x < y) ∧ w = w' := by
  refine F46_ok _ _ _ _ ((c63 x w).use ?_)
  rintro _ _ ⟨rfl, rfl⟩
  refine ⟨false, rfl, (c63 y w).use ?_⟩
  rintro _ _ ⟨rfl, rfl⟩
  refine ⟨false, rfl, IfB.no rfl (IfB.no rfl (IfB.dec (fun h => ⟨_, rfl, by simp; omega, rfl⟩) fun h => IfB.dec (fun h' => ⟨_, rfl, by simp; omega, rfl⟩) fun h' => ⟨_, rfl, by simp; omega, rfl⟩))⟩
theorem c100 (x : Spn) (w : World) : CW Try.prog 100 #[spV x] w fun v w' => v = .bool (decide (mayS x)) ∧ Ext w w' := by
  refine F100_ok x w _ fun b w2 h2 => ?_
  have p0 : w2.cell? ⟨b, 0 + 0, none⟩ = some (.int .i64 x.1) := by rw [cell_of h2.new]; rfl
  have p1 : w2.cell? ⟨b, 0 + 1, none⟩ = some (.int .i64 x.2) := by rw [cell_of h2.new]; rfl
  have e : Ext w w2 := h2.ch _
  refine ⟨_, p0, IfB.dec (fun h0 => ⟨_, p0, _, p1, IfB.dec (fun h1 => ⟨_, p1, ?_, e⟩) fun h1 => ⟨?_, e⟩⟩) fun h0 => ⟨?_, e⟩⟩
  · have : (x.2 ≤ 999) ↔ mayS x := by unfold mayS; omega
    rw [decide_eq_decide.2 this]
  · have : ¬ mayS x := by unfold mayS; omega
    simp [this]
  · have : ¬ mayS x := by unfold mayS; omega
    simp [this]
theorem c99 (x : Spn) (w : World) : CW Try.prog 99 #[spV x] w fun v w' => v = .bool (!decide (mayS x)) ∧ Ext w w' := by
  refine F99_ok x w _ fun b w2 h2 => ⟨x, cellsAt_of h2.new fun i v hv => by simpa using hv, (c100 x w2).use ?_⟩
  rintro _ w3 ⟨rfl, e3⟩
  exact ⟨_, rfl, rfl, (h2.ch _).trans e3⟩
theorem c102 : SfS.CmpP (102, #[]) := by
  intro x y w
  refine F102_ok x y w _ fun b1 w2 h2 b3 w4 h4 => ?_
  refine ⟨x.1, by rw [cell_of (h4.at h2.new)]; rfl, y.1, by rw [cell_of h4.new]; rfl, (c46 _ _ w4).use ?_⟩
  rintro _ _ ⟨n, rfl, hn, rfl⟩
  exact ⟨n, rfl, n, rfl, hn, (h2.ch _).trans (h4.ch _)⟩
theorem c111 {w : World} {t : Sl} {xs : List Spn} {t1 : Nat × Array Value} {q : Spn → Bool} (h : Rd w t 2 (xs.flatMap sv)) (hl : xs.length ≤ 1000000)
    (hq : ∀ (x : Spn) (W : World), x ∈ xs → Ext w W → ∀ R' : Value → World → Prop, (∀ w', Ext W w' → R' (.bool (q x)) w') → CX Try.prog t1.1 { toList := spV x :: t1.2.toList } W R') :
    CW Try.prog 111 #[slV t, .func (.func t1.1) #[] t1.2] w fun v w' => v = iv (idxV (xs.findIdx? q)) ∧ Ext w w' := by
  refine F111_ok t t1 w _ ?_
  have hn := rdN sv_len (by omega) h
  have e : F111 t t1 w (fun v w' => v = iv (idxV (xs.findIdx? q)) ∧ Ext w w') = IndexF Try.prog (fun W b o i (x : Spn) => CellsAt W b (o + i * 2) [.int .i64 x.1, .int .i64 x.2]) spV t t1 w (fun v w' => v = iv (idxV (xs.findIdx? q)) ∧ Ext w w') := rfl
  rw [e]
  refine IndexF_of xs id q hn (by omega) (fun i x W hx e => ?_) (fun i x W hx e R' hR => hq x W (List.mem_of_getElem? hx) e R' hR) fun w' e => ⟨rfl, e⟩
  obtain ⟨hi, _⟩ := List.getElem?_eq_some_iff.1 hx
  obtain ⟨b, o, hp, hc⟩ := (h.ext e).elem (i := i) (by omega) (by omega) (flatGet sv_len hx)
  exact ⟨b, o, hp, hc⟩
/-- DeleteFunc where each element is put into a box first. -/
theorem c97 {w : World} {t0 : Sl} {xs : List Spn} {t1 : Nat × Array Value} {q : Spn → Bool} (ho : OwS w t0 2 (xs.flatMap sv)) (hn : xs.length ≤ 1000000)
    (hq : ∀ (x : Spn) (W : World), x ∈ xs → Ch (fun i => i ∈ blk t0) w W → ∀ R' : Value → World → Prop, (∀ w', Ext W w' → R' (.bool (q x)) w') → CX Try.prog t1.1 { toList := spV x :: t1.2.toList } W R') :
    CW Try.prog 97 #[slV t0, .func (.func t1.1) #[] t1.2] w fun v w' => ∃ t', v = slV t' ∧ OwS w' t' 2 ((xs.filter fun x => !q x).flatMap sv) ∧ t'.p = t0.p ∧ Ch (fun i => i ∈ blk t0) w w' := by
  have htn := owsN sv_len (by omega) ho
  have hl := sv_len
  refine F97_ok t0 t1 w _ ((c111 ho.rd hn fun x W hx e => hq x W hx (e.mono fun _ _ h => h.elim)).use ?_)
  rintro _ w2 ⟨rfl, e2⟩
  refine ⟨_, rfl, ?_⟩
  cases hf : xs.findIdx? q with
  | none =>
    refine IfB.yes rfl ?_
    have : (xs.filter fun x => !q x) = xs := List.filter_eq_self.2 fun x hx => by rw [List.findIdx?_eq_none_iff.1 hf x hx]; rfl
    exact ⟨t0, rfl, by rw [this]; exact ho.ext e2, rfl, e2.mono fun _ _ h => h.elim⟩
  | some i0 =>
    obtain ⟨hi0, hqi, hlow⟩ := List.findIdx?_eq_some_iff_getElem.1 hf
    refine IfB.no (by simp [idxV]) ?_
    have hx0 : xs[i0]? = some xs[i0] := List.getElem?_eq_getElem hi0
    have hkeep0 : (xs.take i0).filter (fun x => !q x) = xs.take i0 := List.filter_eq_self.2 fun x hx => by
      obtain ⟨j, hj, rfl⟩ := List.getElem_of_mem hx
      rw [List.length_take] at hj
      rw [List.getElem_take]
      have := hlow j (by omega)
      simpa using this
    have hkeep1 : (xs.take (i0 + 1)).filter (fun x => !q x) = xs.take i0 := by rw [takeFilter hx0, hkeep0, hqi]; simp
    refine ⟨fun n x W => ∃ (j : Nat) (gs : List Spn), gs ≠ [] ∧ n + j = xs.length ∧ ((xs.take j).filter fun x => !q x).length + gs.length = j ∧ j ≤ xs.length ∧ x = ((((xs.take j).filter fun x => !q x).length : Int), (j : Int)) ∧ OwS W t0 2 ((((xs.take j).filter fun x => !q x) ++ gs ++ xs.drop j).flatMap sv) ∧ Ch (fun i => i ∈ blk t0) w W,
      ⟨xs.length - (i0 + 1), i0 + 1, [xs[i0]], by simp, by omega, by rw [hkeep1, List.length_take]; simp; omega, by omega, ?_, ?_, e2.mono fun _ _ h => h.elim⟩, ?_⟩
    · rw [hkeep1, List.length_take, Nat.min_eq_left (by omega)]
      show ((i0 : Int), IntKind.i64.wrap ((i0 : Int) + 1)) = _
      rw [wrap_of (by omega) (by omega)]; rfl
    · rw [hkeep1]
      have : xs.take i0 ++ [xs[i0]] ++ xs.drop (i0 + 1) = xs := by
        rw [List.append_assoc, List.singleton_append, ← List.drop_eq_getElem_cons hi0, List.take_append_drop]
      rw [this]
      exact ho.ext e2
    · rintro n _ W g ⟨j, gs, hgs, hnj, hlen, hj, rfl, hO, hC⟩
      generalize hkd : (xs.take j).filter (fun x => !q x) = kd at hlen hO
      have hg0 : 0 < gs.length := List.length_pos_iff.2 hgs
      have hcap := ho.cap
      obtain ⟨b, hp⟩ := ho.ptr (by omega)
      have hbl : b < w.heap.size := ho.lt b (by simp [blk, hp])
      unfold F97j1
      refine IfB.dec (fun hlt => ?_) fun hge => ?_
      · have hj' : j < xs.length := by dsimp only at hlt; omega
        have hx : xs[j]? = some xs[j] := List.getElem?_eq_getElem hj'
        have hxm := List.mem_of_getElem? hx
        have htf := takeFilter (p := fun x => !q x) hx
        rw [hkd] at htf
        have hdrop : xs.drop j = xs[j] :: xs.drop (j + 1) := List.drop_eq_getElem_cons hj'
        generalize xs[j] = x at hx hxm htf hdrop
        have hLx : (kd ++ gs ++ xs.drop j)[j]? = some x := by
          rw [List.getElem?_append_right (by rw [List.length_append]; omega), List.length_append, show j - (kd.length + gs.length) = 0 by omega, hdrop]; rfl
        obtain ⟨b', hp', hc⟩ := hO.elem (i := j) (by omega) (flatGet hl hLx)
        rw [hp] at hp'; cases hp'
        refine ⟨b, 0, hp, ⟨by dsimp only; omega, hlt⟩, x, ?_, boxSp rfl fun b14 w16 hb14 hs16 h16 e16 _ => ⟨x, cellsAt_of h16 fun i v hv => by simpa using hv, hq x w16 hxm (hC.then e16 fun _ _ h => h.elim) _ fun w19 e19 => ⟨q x, rfl, ?_⟩⟩⟩
        · dsimp only
          rw [Int.toNat_natCast, Nat.zero_add]
          exact hc
        · have e15 : Ext W w19 := e16.trans e19
          have h19 := e19.at h16
          have hO15 := hO.ext e15
          have hC15 := hC.then e15 fun _ _ h => h.elim
          refine IfB.intro (fun hk => ?_) fun hk => ?_
          · have hqx : q x = false := by simpa using hk
            rw [hqx] at htf
            simp only [Bool.not_false, if_true] at htf
            refine ⟨x, cellsAt_of h19 fun i v hv => by simpa using hv, b, 0, hp, ⟨by dsimp only; omega, by show (kd.length : Int) < (t0.n : Int); omega⟩, rfl, ?_⟩
            dsimp only
            rw [Int.toNat_natCast, Nat.zero_add]
            have hLl : (kd ++ gs ++ xs.drop j).length = xs.length := by rw [List.length_append, List.length_append, List.length_drop]; omega
            refine hO15.store (vs := sv x) hp (by rw [hl]; omega) (sv_one x) fun w19 hO19 hC19 => ⟨rfl, n - 1, by omega, j + 1, gs.tail ++ [x], by simp, by omega, ?_, by omega, ?_, ?_, hC15.then hC19 fun i _ e => by simp [blk, hp, e]⟩
            · rw [htf]; simp; omega
            · rw [htf, wrap_of (by omega) (by omega), wrap_of (by omega) (by omega)]; simp
            · rw [hl, flatSet hl (by omega)] at hO19
              rw [htf]
              have : (kd ++ gs ++ xs.drop j).set kd.length x = kd ++ [x] ++ (gs.tail ++ [x]) ++ xs.drop (j + 1) := by
                rw [hdrop]
                cases gs with
                | nil => exact absurd rfl hgs
                | cons g0 gs => simp
              rw [← this]; exact hO19
          · have hqx : q x = true := by simpa using hk
            rw [hqx] at htf
            simp only [Bool.not_true, Bool.false_eq_true, if_false, List.append_nil] at htf
            refine ⟨rfl, n - 1, by omega, j + 1, gs ++ [x], by simp, by omega, by rw [htf]; simp; omega, by omega, ?_, ?_, hC15⟩
            · rw [htf]; dsimp only; rw [wrap_of (by omega) (by omega)]; rfl
            · rw [htf]
              rw [hdrop] at hO15
              simpa using hO15
      · have hjn : j = xs.length := by dsimp only at hge; omega
        subst hjn
        rw [List.take_length] at hkd
        rw [List.drop_length, List.append_nil] at hO
        have hkl : kd.length < t0.n := by omega
        refine ⟨⟨by dsimp only; omega, by show (kd.length : Int) ≤ (t0.n : Int); omega⟩, ?_⟩
        dsimp only
        rw [Int.toNat_natCast, hp, slAddr_some]
        have hcut := hO.cut (k := kd.length) (by omega)
        rw [flatTake hl, List.take_append_of_le_length (Nat.le_refl _), List.take_length] at hcut
        dsimp only
        rw [if_neg (by omega), Nat.zero_add]
        refine hcut.storeTail hp (Nat.le_refl _) (by rw [zc_len]; show kd.length * 2 + (t0.n - kd.length) * 2 ≤ t0.c * 2; omega) (zc_one (by intro y hy; simp at hy; rcases hy with rfl | rfl <;> rfl) _) fun w25 hO25 hC25 => ⟨⟨by omega, by omega⟩, ⟨t0.p, kd.length, t0.c⟩, ?_, by rw [hkd]; exact hO25, hp, hC.then hC25 fun i _ e => by simp [blk, hp, e]⟩
        rw [← hp, slAddr_zero]
theorem F112_eq (t0 : Sl) (t1 : Int) (w : World) (R : Value → World → Prop) : F112 t0 t1 w R = GrowF tt51 51 2 t0 t1 w R := by kernel_rfl
theorem c112 {k : Nat} (hk : k ≤ 1000000) (w : World) : CW Try.prog 112 #[.slice none 0 0, .int .i64 k] w fun v w' => ∃ t', v = slV t' ∧ OwS w' t' 2 [] ∧ t'.n = 0 ∧ Ext w w' ∧ ∀ j ∈ blk t', w.heap.size ≤ j := by
  refine F112_ok ⟨none, 0, 0⟩ k w _ ?_
  rw [F112_eq]
  refine GrowF_nil rfl rfl (by intro y hy; simp [Value.cells] at hy; rcases hy with rfl | rfl <;> rfl) ⟨by omega, by dsimp only; omega⟩ (by decide) (by omega) ?_
  intro s' w' ho hn he hb
  exact ⟨s', rfl, ho, hn, he, hb⟩
/-- A list of spans with its slice. -/
abbrev SpL := Sl × List Spn
abbrev hS (x : SpL) : Value := slV x.1
def sumS (xs : List SpL) : Nat := (xs.flatMap (·.2)).length
theorem sumS_take {xs : List SpL} {i : Nat} {x : SpL} (h : xs[i]? = some x) : sumS (xs.take (i + 1)) = sumS (xs.take i) + x.2.length := by
  unfold sumS; rw [take_succ_get h]; simp
theorem sumS_le (xs : List SpL) (i : Nat) : sumS (xs.take i) ≤ sumS xs := by
  unfold sumS
  conv => rhs; rw [← List.take_append_drop i xs]
  rw [List.flatMap_append, List.length_append]; omega
theorem c98 {w : World} {t : Sl} {xs : List SpL} (h : Rd w t 1 (xs.map hS)) (hx : ∀ x ∈ xs, Rd w x.1 2 (x.2.flatMap sv)) (hl : sumS xs ≤ 1000000) (hn : xs.length ≤ 1000) :
    CW Try.prog 98 #[slV t] w fun v w' => ∃ t', v = slV t' ∧ OwS w' t' 2 ((xs.flatMap (·.2)).flatMap sv) ∧ Ext w w' ∧ ∀ j ∈ blk t', w.heap.size ≤ j := by
  have htn : t.n = xs.length := by rw [h.len1, List.length_map]
  have elem : ∀ (i : Nat) (w5 : World), Ext w w5 → i < xs.length → ∃ x a o, xs[i]? = some x ∧ t.p = some ⟨a, o, none⟩ ∧ w5.cell? ⟨a, o + i, none⟩ = some (slV x.1) ∧ Rd w5 x.1 2 (x.2.flatMap sv) ∧ x.1.n = x.2.length := by
    intro i w5 e hi
    have hxi : xs[i]? = some xs[i] := List.getElem?_eq_getElem hi
    obtain ⟨a, o, ha, hc⟩ := (h.ext e).elem1 (i := i) (v := hS xs[i]) (by rw [List.getElem?_map, hxi]; rfl)
    have ho := (hx xs[i] (List.getElem_mem hi)).ext e
    exact ⟨xs[i], a, o, hxi, ha, hc, ho, rdN sv_len (by omega) ho⟩
  refine F98_ok t w _ ?_
  refine ⟨fun n x w5 => ∃ i : Nat, i ≤ xs.length ∧ n + i = xs.length ∧ x = ((sumS (xs.take i) : Int), (i : Int)) ∧ w5 = w, ⟨xs.length, 0, Nat.zero_le _, rfl, rfl, rfl⟩, ?_⟩
  rintro n x w5 g ⟨i, hi, hni, rfl, rfl⟩
  unfold F98j1
  refine IfB.dec (fun hlt => ?_) (fun hge => ?_)
  · have hi' : i < xs.length := by
      have : (i : Int) < (t.n : Int) := hlt
      omega
    obtain ⟨y, a, o, hy, ha, hc, ho, hyn⟩ := elem i w5 (Ch.refl _ _) hi'
    have h1 := sumS_take hy
    have h2 := sumS_le xs (i + 1)
    have e1 : IntKind.i64.wrap ((sumS (xs.take i) : Int) + (y.1.n : Int)) = (sumS (xs.take (i + 1)) : Int) := by rw [wrap_of (by omega) (by omega)]; omega
    refine ⟨a, o, ha, (⟨by omega, by omega⟩ : (0 : Int) ≤ (i : Int) ∧ (i : Int) < (t.n : Int)), y.1, by rw [Int.toNat_natCast]; exact hc, ?_⟩
    dsimp only
    rw [e1]
    refine IfB.no (by simp) ⟨rfl, n - 1, by omega, i + 1, hi', by omega, ?_, rfl⟩
    rw [wrap_of (by omega) (by omega)]; rfl
  · have hi' : i = xs.length := by
      have : ¬ (i : Int) < (t.n : Int) := hge
      omega
    subst hi'
    have hT : sumS (xs.take xs.length) = sumS xs := by rw [List.take_length]
    dsimp only
    rw [hT]
    refine (c112 hl w5).use ?_
    rintro _ w13 ⟨t1, rfl, ho1, hn1, e13, hb1⟩
    refine ⟨t1, rfl, fun n x w19 => ∃ i t2, i ≤ xs.length ∧ n + i = xs.length ∧ x = (t2, (i : Int)) ∧ OwS w19 t2 2 (((xs.take i).flatMap (·.2)).flatMap sv) ∧ Ext w5 w19 ∧ ∀ j ∈ blk t2, w5.heap.size ≤ j, ⟨xs.length, 0, t1, Nat.zero_le _, rfl, rfl, ho1, e13, hb1⟩, ?_⟩
    rintro n x w19 g ⟨i, t2, hi, hni, rfl, ho2, e19, hb2⟩
    unfold F98j2
    refine IfB.dec (fun hlt => ?_) (fun hge => ?_)
    · have hi' : i < xs.length := by
        have : (i : Int) < (t.n : Int) := hlt
        omega
      obtain ⟨y, a, o, hy, ha, hc, ho, hyn⟩ := elem i w19 e19 hi'
      have h1 := sumS_take hy
      have h2 := sumS_le xs (i + 1)
      have ht2 : t2.n = sumS (xs.take i) := owsN sv_len (by omega) ho2
      refine ⟨a, o, ha, (⟨by omega, by omega⟩ : (0 : Int) ≤ (i : Int) ∧ (i : Int) < (t.n : Int)), y.1, by rw [Int.toNat_natCast]; exact hc, y.2.flatMap sv, ho.2, ?_⟩
      refine ho2.append (cnt := y.1.n) rfl rfl ho.1 (flatOne sv_one _) ⟨by omega, by dsimp only; omega⟩ ?_
      intro s' w' ho' hn' hc' hb' _
      refine ⟨rfl, n - 1, by omega, i + 1, s', hi', by omega, ?_, ?_, ?_, ?_⟩
      · rw [wrap_of (by dsimp only; omega) (by dsimp only; omega)]; rfl
      · rw [take_succ_get hy, List.flatMap_append, List.flatMap_append]
        simpa using ho'
      · exact e19.then hc' fun j hj hjb => by have := hb2 j hjb; omega
      · intro j hj
        rcases hb' j hj with h | h
        · exact hb2 j h
        · have := e19.size; omega
    · have hi' : i = xs.length := by
        have : ¬ (i : Int) < (t.n : Int) := hge
        omega
      subst hi'
      rw [List.take_length] at ho2
      exact ⟨t2, rfl, ho2, e19, hb2⟩
end Go.Proofs.Ytmmhbjbaallkfaa.Gx
