/- gimmallaw29.SerialOrders returns true for all arguments, and leaves what was there as it was. No condition beyond the statement. -/
/- Merged by pack.py: GxNY, SerI, SerJ, SerK, SerL, GxNV, SerC, MxA, GxNT, DepE, DepF, SerD, GxNL, DepG, GxNZ, SerM, GxOA, SerN, SerO, GxB, SerP, SlOrd. -/
import Derived.Test.YtmmhbjbaallkfaaPc1
import Derived.Test.YtmmhbjbaallkfaaPc2
import Derived.Test.YtmmhbjbaallkfaaPc3
import Derived.Test.YtmmhbjbaallkfaaPc4
import Derived.SizedLaws
import Derived.Test.YtmmhbjbaallkfaaRows
import Derived.WalkKit
import Derived.ProofKit
import Derived.OpenShut
import Derived.ShutString
import Derived.Below
import Derived.Carry

/- Written by mkf.py: what is to be shown of functions, as Gx reckons it from their code. -/
namespace Go.Proofs.Ytmmhbjbaallkfaa.Gx
open Go
set_option linter.unusedVariables false
set_option maxRecDepth 100000
def F23k1 (t0 : Sl) (x4 : Sl × Int) (w36 : World) (s30 : Sl) (n35 : Int) (b3 : Nat) (y1 : Nat → Sl × Int → World → Prop) : Prop :=
 ∃ (b59 : Nat),
 ∃ (b60 : Nat),
 t0.1 = some ({ block := b59, off := b60 } : Addr) ∧
 ((0 : Int) ≤ x4.2 ∧ x4.2 < (t0.2 : Int)) ∧
 ∃ (n61 : Int),
 w36.drew.cell? ({ block := b59, off := b60 + x4.2.toNat * (6 : Nat) + (0 : Nat) } : Addr) = some (Value.int IntKind.i64 n61) ∧
 ∃ (b62 : Nat),
 ∃ (b63 : Nat),
 s30.1 = some ({ block := b62, off := b63 } : Addr) ∧
 ((0 : Int) ≤ n35 ∧ n35 < (s30.2 : Int)) ∧
 #[Value.int IntKind.i64 n61].size = (1 : Nat) ∧
 StoreP w36.drew b62 (b63 + n35.toNat) [Value.int IntKind.i64 n61] fun (w64 : World) =>
 ([] : List Nat) = [] ∧ ∃ (b65 : Nat), b65 < b3 ∧ y1 b65 ({ p := s30.1, n := s30.2, c := s30.3 }, IntKind.i64.wrap (x4.2 + (1 : Int))) w64
def F23j3 (t0 : Sl) (y1 : Nat → Sl × Int → World → Prop) (b3 : Nat) (x4 : Sl × Int) (s30 : Sl) (y32 : Nat → Int → World → Prop) (b34 : Nat) (n35 : Int) (w36 : World) : Prop :=
 IfB (decide ((0 : Int) < n35))
 (∃ (b39 : Nat),
 ∃ (b40 : Nat),
 s30.1 = some ({ block := b39, off := b40 } : Addr) ∧
 ((0 : Int) ≤ IntKind.i64.wrap (n35 - (1 : Int)) ∧ IntKind.i64.wrap (n35 - (1 : Int)) < (s30.2 : Int)) ∧
 ∃ (n41 : Int),
 w36.drew.cell? ({ block := b39, off := b40 + (IntKind.i64.wrap (n35 - (1 : Int))).toNat } : Addr) = some (Value.int IntKind.i64 n41) ∧
 ∃ (b42 : Nat),
 ∃ (b43 : Nat),
 t0.1 = some ({ block := b42, off := b43 } : Addr) ∧
 ((0 : Int) ≤ x4.2 ∧ x4.2 < (t0.2 : Int)) ∧
 ∃ (n44 : Int),
 w36.drew.cell? ({ block := b42, off := b43 + x4.2.toNat * (6 : Nat) + (0 : Nat) } : Addr) = some (Value.int IntKind.i64 n44) ∧
 IfB (decide (n44 < n41))
 (∃ (b45 : Nat),
 ∃ (b46 : Nat),
 s30.1 = some ({ block := b45, off := b46 } : Addr) ∧
 ((0 : Int) ≤ IntKind.i64.wrap (n35 - (1 : Int)) ∧ IntKind.i64.wrap (n35 - (1 : Int)) < (s30.2 : Int)) ∧
 ∃ (n47 : Int),
 w36.drew.cell? ({ block := b45, off := b46 + (IntKind.i64.wrap (n35 - (1 : Int))).toNat } : Addr) = some (Value.int IntKind.i64 n47) ∧
 ∃ (b48 : Nat),
 ∃ (b49 : Nat),
 s30.1 = some ({ block := b48, off := b49 } : Addr) ∧
 ((0 : Int) ≤ n35 ∧ n35 < (s30.2 : Int)) ∧
 #[Value.int IntKind.i64 n47].size = (1 : Nat) ∧
 StoreP w36.drew b48 (b49 + n35.toNat) [Value.int IntKind.i64 n47] fun (w50 : World) => ([] : List Nat) = [] ∧ ∃ (b51 : Nat), b51 < b34 ∧ y32 b51 (IntKind.i64.wrap (n35 - (1 : Int))) w50)
 (F23k1 t0 x4 w36 s30 n35 b3 y1))
 (F23k1 t0 x4 w36 s30 n35 b3 y1)
def F23j2 (t0 : Sl) (y1 : Nat → Sl × Int → World → Prop) (b3 : Nat) (x4 : Sl × Int) (y8 : Nat → Bool × Int → World → Prop) (b10 : Nat) (x11 : Bool × Int) (w12 : World) : Prop :=
 IfB (decide (x11.snd < (x4.fst.n : Int)))
 (IfB x11.1 (([] : List Nat) = [] ∧ ∃ (b15 : Nat), b15 < b10 ∧ y8 b15 (true, IntKind.i64.wrap (x11.2 + (1 : Int))) w12.drew)
 (∃ (b16 : Nat),
 ∃ (b17 : Nat),
 x4.fst.1 = some ({ block := b16, off := b17 } : Addr) ∧
 ((0 : Int) ≤ x11.2 ∧ x11.2 < (x4.fst.2 : Int)) ∧
 ∃ (n18 : Int),
 w12.drew.cell? ({ block := b16, off := b17 + x11.2.toNat } : Addr) = some (Value.int IntKind.i64 n18) ∧
 ∃ (b19 : Nat),
 ∃ (b20 : Nat),
 t0.1 = some ({ block := b19, off := b20 } : Addr) ∧
 ((0 : Int) ≤ x4.2 ∧ x4.2 < (t0.2 : Int)) ∧
 ∃ (n21 : Int),
 w12.drew.cell? ({ block := b19, off := b20 + x4.2.toNat * (6 : Nat) + (0 : Nat) } : Addr) = some (Value.int IntKind.i64 n21) ∧
 ([] : List Nat) = [] ∧ ∃ (b22 : Nat), b22 < b10 ∧ y8 b22 (n18 == n21, IntKind.i64.wrap (x11.2 + (1 : Int))) w12.drew))
 (IfB x11.1 (([] : List Nat) = [] ∧ ∃ (b23 : Nat), b23 < b3 ∧ y1 b23 ({ p := x4.fst.1, n := x4.fst.2, c := x4.fst.3 }, IntKind.i64.wrap (x4.2 + (1 : Int))) w12)
 (∃ (b24 : Nat),
 ∃ (b25 : Nat),
 t0.1 = some ({ block := b24, off := b25 } : Addr) ∧
 ((0 : Int) ≤ x4.2 ∧ x4.2 < (t0.2 : Int)) ∧
 ∃ (n26 : Int),
 w12.cell? ({ block := b24, off := b25 + x4.2.toNat * (6 : Nat) + (0 : Nat) } : Addr) = some (Value.int IntKind.i64 n26) ∧
 (1 : Nat) * (1 : Nat) ≤ (16777216 : Nat) ∧
 AllocP w12 (Obj.cells #[Value.int IntKind.i64 n26] (3 : Nat)) fun (b27 : Nat) (w28 : World) =>
 ∃ (l29 : List Value),
 ReadC w28 (some ({ block := b27, off := (0 : Nat) } : Addr)) ((1 : Nat) * (1 : Nat)) l29 ∧
 AppendP tt3 (3 : Nat) w28 x4.fst.1 x4.fst.2 x4.fst.3
 (1 : Nat) l29 fun (s30 : Sl) (w31 : World) =>
 ∃ (y32 : Nat → Int → World → Prop),
 (∃ (b33 : Nat), y32 b33 ((x4.fst.2 : Int)) w31) ∧
 ∀ (b34 : Nat) (n35 : Int) (w36 : World) (y37 : Nat → Value),
 y32 b34 n35 w36 →
 (F23j3 t0 y1 b3 x4 s30 y32 b34 n35 w36)))
def F23 (t0 : Sl) (w : World) (R : Value → World → Prop) : Prop :=
 ∃ (y1 : Nat → Sl × Int → World → Prop),
 (∃ (b2 : Nat), y1 b2 ({ p := none, n := (0 : Nat), c := (0 : Nat) }, (0 : Int)) w) ∧
 ∀ (b3 : Nat) (x4 : Sl × Int) (w5 : World) (y6 : Nat → Value),
 y1 b3 x4 w5 →
 IfB (decide (x4.snd < (t0.n : Int)))
 (∃ (y8 : Nat → Bool × Int → World → Prop),
 (∃ (b9 : Nat), y8 b9 (false, (0 : Int)) w5) ∧
 ∀ (b10 : Nat) (x11 : Bool × Int) (w12 : World) (y13 : Nat → Value),
 y8 b10 x11 w12 →
 (F23j2 t0 y1 b3 x4 y8 b10 x11 w12))
 (R (Value.slice x4.fst.1 x4.fst.2 x4.fst.3) w5)
theorem F23_ok (t0 : Sl) (w : World) (R : Value → World → Prop) (h : F23 t0 w R) : CW Try.prog 23 #[Value.slice t0.1 t0.2 t0.3] w R :=
  call_of tbOk mixed en23 Try.func23 rfl (.node (.nil) (.node (.nil) (.node (.node (.nil) (.loop [(3, .one (.sl)), (4, .one (.int .i64))] [8, 9, 10, 11, 14, 15, 5, 6, 7, 16, 17, 18, 19, 22, 23, 24, 25, 26, 27, 28, 29, 30, 31, 32, 33, 34, 20, 21, 35, 36, 37, 38, 39, 40, 41, 42, 43, 3, 44, 45, 46, 47, 48, 49, 50, 51, 52, 53, 54, 55, 56, 57, 58, 59, 60, 61, 62, 63, 64, 65, 66, 67, 68, 69, 70, 71, 72, 73, 74, 75, 76, 12, 13, 4] (.node (.nil) (.node (.node (.nil) (.node (.nil) (.node (.node (.nil) (.loop [(6, .one (.bool)), (7, .one (.int .i64))] [16, 17, 18, 19, 22, 23, 24, 25, 26, 27, 28, 29, 30, 31, 32, 33, 34, 6, 20, 21, 7] (.node (.nil) (.node (.draw (.st 0 (.st 1 (.st 2 (.st 3 (.st 4 (.st 5 (.st 6 (.st 7 (.st 8 (.st 9 (.st 10 (.st 11 (.st 12 (.st 13 (.fin)))))))))))))))) (.nil))))) (.node (.nil) (.node (.nil) (.node (.loop [(5, .one (.int .i64))] [44, 45, 46, 47, 48, 49, 50, 51, 52, 53, 54, 55, 56, 57, 58, 59, 60, 61, 62, 63, 64, 65, 66, 67, 68, 5] (.node (.node (.draw (.st 0 (.st 1 (.st 2 (.st 3 (.st 4 (.st 5 (.st 6 (.st 7 (.st 8 (.st 9 (.st 10 (.st 11 (.st 12 (.st 13 (.st 14 (.fin))))))))))))))))) (.nil)) (.nil))) (.nil))))))) (.nil))))) (.nil)))) (by kernel_rfl) (Nat.le_of_ble_eq_true (by kernel_rfl)) (Eq.mp (α := F23 t0 w R) (by kernel_rfl) h)
def F47j2 (t0 : Sl) (t1 : Int) (t2 : Int) (R : Value → World → Prop) (y1 : Nat → Int → World → Prop) (b3 : Nat) (n4 : Int) (y8 : Nat → Int → World → Prop) (b10 : Nat) (n11 : Int) (w12 : World) : Prop :=
 IfB (decide (n11 < n4))
 (∃ (b15 : Nat),
 ∃ (b16 : Nat),
 t0.1 = some ({ block := b15, off := b16 } : Addr) ∧
 ((0 : Int) ≤ n11 ∧ n11 < (t0.2 : Int)) ∧
 ∃ (n17 : Int),
 w12.drew.cell? ({ block := b15, off := b16 + n11.toNat * (6 : Nat) + (0 : Nat) } : Addr) = some (Value.int IntKind.i64 n17) ∧
 IfB (n17 == t1)
 (∃ (b18 : Nat),
 ∃ (b19 : Nat),
 t0.1 = some ({ block := b18, off := b19 } : Addr) ∧
 ((0 : Int) ≤ n4 ∧ n4 < (t0.2 : Int)) ∧
 ∃ (n20 : Int),
 w12.drew.cell? ({ block := b18, off := b19 + n4.toNat * (6 : Nat) + (0 : Nat) } : Addr) = some (Value.int IntKind.i64 n20) ∧
 IfB (n20 == t2)
 (∃ (b21 : Nat),
 ∃ (b22 : Nat),
 t0.1 = some ({ block := b21, off := b22 } : Addr) ∧
 ((0 : Int) ≤ n11 ∧ n11 < (t0.2 : Int)) ∧
 ∃ (x23 : Int × Int × Int × Bool × Sl × Sl),
 CellsAt w12.drew b21 (b22 + n11.toNat * (6 : Nat))
 [Value.int IntKind.i64 x23.1, Value.int IntKind.i64 x23.snd.1, Value.int IntKind.i64 x23.snd.snd.1, Value.bool x23.snd.snd.snd.1,
 Value.slice x23.snd.snd.snd.snd.fst.1 x23.snd.snd.snd.snd.fst.2 x23.snd.snd.snd.snd.fst.3, Value.slice x23.snd.snd.snd.snd.snd.1 x23.snd.snd.snd.snd.snd.2 x23.snd.snd.snd.snd.snd.3] ∧
 ∃ (b24 : Nat),
 ∃ (b25 : Nat),
 t0.1 = some ({ block := b24, off := b25 } : Addr) ∧
 ((0 : Int) ≤ n4 ∧ n4 < (t0.2 : Int)) ∧
 ∃ (x26 : Int × Int × Int × Bool × Sl × Sl),
 CellsAt w12.drew b24 (b25 + n4.toNat * (6 : Nat))
 [Value.int IntKind.i64 x26.1, Value.int IntKind.i64 x26.snd.1, Value.int IntKind.i64 x26.snd.snd.1, Value.bool x26.snd.snd.snd.1,
 Value.slice x26.snd.snd.snd.snd.fst.1 x26.snd.snd.snd.snd.fst.2 x26.snd.snd.snd.snd.fst.3, Value.slice x26.snd.snd.snd.snd.snd.1 x26.snd.snd.snd.snd.snd.2 x26.snd.snd.snd.snd.snd.3] ∧
 CX Try.prog (12 : Nat)
 #[Value.agg
 #[Value.int IntKind.i64 x23.1, Value.int IntKind.i64 x23.snd.1, Value.int IntKind.i64 x23.snd.snd.1, Value.bool x23.snd.snd.snd.1,
 Value.slice x23.snd.snd.snd.snd.fst.1 x23.snd.snd.snd.snd.fst.2 x23.snd.snd.snd.snd.fst.3, Value.slice x23.snd.snd.snd.snd.snd.1 x23.snd.snd.snd.snd.snd.2 x23.snd.snd.snd.snd.snd.3],
 Value.agg
 #[Value.int IntKind.i64 x26.1, Value.int IntKind.i64 x26.snd.1, Value.int IntKind.i64 x26.snd.snd.1, Value.bool x26.snd.snd.snd.1,
 Value.slice x26.snd.snd.snd.snd.fst.1 x26.snd.snd.snd.snd.fst.2 x26.snd.snd.snd.snd.fst.3, Value.slice x26.snd.snd.snd.snd.snd.1 x26.snd.snd.snd.snd.snd.2 x26.snd.snd.snd.snd.snd.3]]
 w12.drew fun (v27 : Value) (w28 : World) =>
 ∃ (t29 : Bool), v27 = Value.bool t29 ∧ IfB t29 (R (Value.bool true) w28) (([] : List Nat) = [] ∧ ∃ (b30 : Nat), b30 < b10 ∧ y8 b30 (IntKind.i64.wrap (n11 + (1 : Int))) w28))
 (([] : List Nat) = [] ∧ ∃ (b31 : Nat), b31 < b10 ∧ y8 b31 (IntKind.i64.wrap (n11 + (1 : Int))) w12.drew))
 (([] : List Nat) = [] ∧ ∃ (b32 : Nat), b32 < b10 ∧ y8 b32 (IntKind.i64.wrap (n11 + (1 : Int))) w12.drew))
 (([] : List Nat) = [] ∧ ∃ (b33 : Nat), b33 < b3 ∧ y1 b33 (IntKind.i64.wrap (n4 + (1 : Int))) w12)
def F47 (t0 : Sl) (t1 : Int) (t2 : Int) (w : World) (R : Value → World → Prop) : Prop :=
 ∃ (y1 : Nat → Int → World → Prop),
 (∃ (b2 : Nat), y1 b2 (0 : Int) w) ∧
 ∀ (b3 : Nat) (n4 : Int) (w5 : World) (y6 : Nat → Value),
 y1 b3 n4 w5 →
 IfB (decide (n4 < (t0.n : Int)))
 (∃ (y8 : Nat → Int → World → Prop),
 (∃ (b9 : Nat), y8 b9 (0 : Int) w5) ∧
 ∀ (b10 : Nat) (n11 : Int) (w12 : World) (y13 : Nat → Value),
 y8 b10 n11 w12 →
 (F47j2 t0 t1 t2 R y1 b3 n4 y8 b10 n11 w12))
 (R (Value.bool false) w5)
theorem F47_ok (t0 : Sl) (t1 : Int) (t2 : Int) (w : World) (R : Value → World → Prop) (h : F47 t0 t1 t2 w R) : CW Try.prog 47 #[Value.slice t0.1 t0.2 t0.3, Value.int IntKind.i64 t1, Value.int IntKind.i64 t2] w R :=
  call_of tbOk mixed en47 Try.func47 rfl (.node (.nil) (.node (.node (.nil) (.loop [(7, .one (.int .i64))] [9, 10, 11, 12, 8, 15, 16, 17, 20, 21, 22, 23, 24, 25, 26, 27, 28, 29, 30, 31, 32, 33, 34, 35, 36, 37, 38, 39, 40, 41, 42, 43, 44, 45, 46, 6, 18, 19, 13, 14, 7] (.node (.nil) (.node (.node (.nil) (.loop [(8, .one (.int .i64))] [15, 16, 17, 20, 21, 22, 23, 24, 25, 26, 27, 28, 29, 30, 31, 32, 33, 34, 35, 36, 37, 38, 39, 40, 41, 42, 43, 44, 45, 46, 6, 18, 19, 8] (.node (.nil) (.node (.node (.draw (.st 0 (.st 1 (.st 2 (.st 3 (.st 4 (.st 5 (.st 6 (.st 7 (.st 8 (.st 9 (.st 10 (.st 11 (.st 12 (.st 13 (.st 14 (.st 15 (.st 16 (.st 17 (.st 18 (.st 19 (.st 20 (.st 21 (.st 22 (.st 23 (.st 24 (.ac 25 [] (.st 26 (.fin)) (.non)))))))))))))))))))))))))))) (.nil)) (.nil))))) (.nil))))) (.nil))) (by kernel_rfl) (Nat.le_of_ble_eq_true (by kernel_rfl)) (Eq.mp (α := F47 t0 t1 t2 w R) (by kernel_rfl) h)
def F22j2 (t0 : Sl) (s3 : Sl) (y4 : Nat → Sl × Int → World → Prop) (b6 : Nat) (x7 : Sl × Int) (y11 : Nat → Sl × Int → World → Prop) (b13 : Nat) (x14 : Sl × Int) (w15 : World) : Prop :=
 IfB (decide (x14.snd < (s3.n : Int)))
 (∃ (b18 : Nat),
 ∃ (b19 : Nat),
 s3.1 = some ({ block := b18, off := b19 } : Addr) ∧
 ((0 : Int) ≤ x7.2 ∧ x7.2 < (s3.2 : Int)) ∧
 ∃ (n20 : Int),
 w15.drew.cell? ({ block := b18, off := b19 + x7.2.toNat } : Addr) = some (Value.int IntKind.i64 n20) ∧
 ∃ (b21 : Nat),
 ∃ (b22 : Nat),
 s3.1 = some ({ block := b21, off := b22 } : Addr) ∧
 ((0 : Int) ≤ x14.2 ∧ x14.2 < (s3.2 : Int)) ∧
 ∃ (n23 : Int),
 w15.drew.cell? ({ block := b21, off := b22 + x14.2.toNat } : Addr) = some (Value.int IntKind.i64 n23) ∧
 CX Try.prog (47 : Nat) #[Value.slice t0.1 t0.2 t0.3, Value.int IntKind.i64 n20, Value.int IntKind.i64 n23] w15.drew fun (v24 : Value) (w25 : World) =>
 ∃ (t26 : Bool),
 v24 = Value.bool t26 ∧
 IfB t26
 (∃ (b27 : Nat),
 ∃ (b28 : Nat),
 s3.1 = some ({ block := b27, off := b28 } : Addr) ∧
 ((0 : Int) ≤ x7.2 ∧ x7.2 < (s3.2 : Int)) ∧
 ∃ (n29 : Int),
 w25.drew.cell? ({ block := b27, off := b28 + x7.2.toNat } : Addr) = some (Value.int IntKind.i64 n29) ∧
 ∃ (b30 : Nat),
 ∃ (b31 : Nat),
 s3.1 = some ({ block := b30, off := b31 } : Addr) ∧
 ((0 : Int) ≤ x14.2 ∧ x14.2 < (s3.2 : Int)) ∧
 ∃ (n32 : Int),
 w25.drew.cell? ({ block := b30, off := b31 + x14.2.toNat } : Addr) = some (Value.int IntKind.i64 n32) ∧
 (1 : Nat) * (2 : Nat) ≤ (16777216 : Nat) ∧
 AllocP w25.drew (Obj.cells #[Value.int IntKind.i64 n29, Value.int IntKind.i64 n32] (44 : Nat)) fun (b33 : Nat) (w34 : World) =>
 ∃ (l35 : List Value),
 ReadC w34 (some ({ block := b33, off := (0 : Nat) } : Addr)) ((1 : Nat) * (2 : Nat)) l35 ∧
 AppendP tt44 (44 : Nat) w34 x14.fst.1 x14.fst.2 x14.fst.3 (1 : Nat) l35 fun (s36 : Sl) (w37 : World) =>
 ([] : List Nat) = [] ∧ ∃ (b38 : Nat), b38 < b13 ∧ y11 b38 ({ p := s36.1, n := s36.2, c := s36.3 }, IntKind.i64.wrap (x14.2 + (1 : Int))) w37)
 (([] : List Nat) = [] ∧ ∃ (b39 : Nat), b39 < b13 ∧ y11 b39 ({ p := x14.fst.1, n := x14.fst.2, c := x14.fst.3 }, IntKind.i64.wrap (x14.2 + (1 : Int))) w25))
 (([] : List Nat) = [] ∧ ∃ (b40 : Nat), b40 < b6 ∧ y4 b40 ({ p := x14.fst.1, n := x14.fst.2, c := x14.fst.3 }, IntKind.i64.wrap (x7.2 + (1 : Int))) w15)
def F22 (t0 : Sl) (w : World) (R : Value → World → Prop) : Prop :=
 CX Try.prog (23 : Nat) #[Value.slice t0.1 t0.2 t0.3] w fun (v1 : Value) (w2 : World) =>
 ∃ (s3 : Sl),
 v1 = Value.slice s3.1 s3.2 s3.3 ∧
 ∃ (y4 : Nat → Sl × Int → World → Prop),
 (∃ (b5 : Nat), y4 b5 ({ p := none, n := (0 : Nat), c := (0 : Nat) }, (0 : Int)) w2) ∧
 ∀ (b6 : Nat) (x7 : Sl × Int) (w8 : World) (y9 : Nat → Value),
 y4 b6 x7 w8 →
 IfB (decide (x7.snd < (s3.n : Int)))
 (∃ (y11 : Nat → Sl × Int → World → Prop),
 (∃ (b12 : Nat), y11 b12 ({ p := x7.fst.1, n := x7.fst.2, c := x7.fst.3 }, (0 : Int)) w8) ∧
 ∀ (b13 : Nat) (x14 : Sl × Int) (w15 : World) (y16 : Nat → Value),
 y11 b13 x14 w15 →
 (F22j2 t0 s3 y4 b6 x7 y11 b13 x14 w15))
 (R (Value.slice x7.fst.1 x7.fst.2 x7.fst.3) w8)
theorem F22_ok (t0 : Sl) (w : World) (R : Value → World → Prop) (h : F22 t0 w R) : CW Try.prog 22 #[Value.slice t0.1 t0.2 t0.3] w R :=
  call_of tbOk mixed en22 Try.func22 rfl (.node (.nil) (.node (.nil) (.node (.nil) (.node (.node (.nil) (.loop [(4, .one (.sl)), (5, .one (.int .i64))] [9, 10, 11, 12, 6, 15, 16, 17, 18, 21, 22, 23, 24, 25, 26, 27, 28, 29, 30, 31, 32, 33, 34, 35, 36, 37, 38, 39, 40, 41, 42, 4, 19, 20, 13, 14, 5] (.node (.nil) (.node (.node (.nil) (.loop [(4, .one (.sl)), (6, .one (.int .i64))] [15, 16, 17, 18, 21, 22, 23, 24, 25, 26, 27, 28, 29, 30, 31, 32, 33, 34, 35, 36, 37, 38, 39, 40, 41, 42, 4, 19, 20, 6] (.node (.nil) (.node (.node (.draw (.st 0 (.st 1 (.st 2 (.st 3 (.st 4 (.st 5 (.st 6 (.st 7 (.st 8 (.ac 9 [] (.fin) (.non)))))))))))) (.node (.draw (.st 0 (.st 1 (.st 2 (.st 3 (.st 4 (.st 5 (.st 6 (.st 7 (.st 8 (.st 9 (.ac 10 [0] (.ac 11 [] (.st 12 (.fin)) (.non)) (.non))))))))))))) (.nil))) (.nil))))) (.nil))))) (.nil))))) (by kernel_rfl) (Nat.le_of_ble_eq_true (by kernel_rfl)) (Eq.mp (α := F22 t0 w R) (by kernel_rfl) h)
def F34j3 (t0 : Sl) (R : Value → World → Prop) (n4 : Int) (y8 : Nat → Int → World → Prop) (b10 : Nat) (n11 : Int) (y15 : Nat → Int → World → Prop) (b17 : Nat) (n18 : Int) (w19 : World) : Prop :=
 IfB (decide (n18 < n4))
 (∃ (b22 : Nat),
 ∃ (b23 : Nat),
 t0.1 = some ({ block := b22, off := b23 } : Addr) ∧
 ((0 : Int) ≤ n11 ∧ n11 < (t0.2 : Int)) ∧
 ∃ (n24 : Int),
 w19.drew.cell? ({ block := b22, off := b23 + n11.toNat * (6 : Nat) + (0 : Nat) } : Addr) = some (Value.int IntKind.i64 n24) ∧
 ∃ (b25 : Nat),
 ∃ (b26 : Nat),
 t0.1 = some ({ block := b25, off := b26 } : Addr) ∧
 ((0 : Int) ≤ n4 ∧ n4 < (t0.2 : Int)) ∧
 ∃ (n27 : Int),
 w19.drew.cell? ({ block := b25, off := b26 + n4.toNat * (6 : Nat) + (0 : Nat) } : Addr) = some (Value.int IntKind.i64 n27) ∧
 IfB (n24 == n27)
 (∃ (b28 : Nat),
 ∃ (b29 : Nat),
 t0.1 = some ({ block := b28, off := b29 } : Addr) ∧
 ((0 : Int) ≤ n18 ∧ n18 < (t0.2 : Int)) ∧
 ∃ (n30 : Int),
 w19.drew.cell? ({ block := b28, off := b29 + n18.toNat * (6 : Nat) + (0 : Nat) } : Addr) = some (Value.int IntKind.i64 n30) ∧
 ∃ (b31 : Nat),
 ∃ (b32 : Nat),
 t0.1 = some ({ block := b31, off := b32 } : Addr) ∧
 ((0 : Int) ≤ n4 ∧ n4 < (t0.2 : Int)) ∧
 ∃ (n33 : Int),
 w19.drew.cell? ({ block := b31, off := b32 + n4.toNat * (6 : Nat) + (0 : Nat) } : Addr) = some (Value.int IntKind.i64 n33) ∧
 IfB (n30 != n33) (R (Value.bool false) w19.drew) (([] : List Nat) = [] ∧ ∃ (b34 : Nat), b34 < b17 ∧ y15 b34 (IntKind.i64.wrap (n18 + (1 : Int))) w19.drew))
 (([] : List Nat) = [] ∧ ∃ (b35 : Nat), b35 < b17 ∧ y15 b35 (IntKind.i64.wrap (n18 + (1 : Int))) w19.drew))
 (([] : List Nat) = [] ∧ ∃ (b36 : Nat), b36 < b10 ∧ y8 b36 (IntKind.i64.wrap (n11 + (1 : Int))) w19)
def F34j1 (t0 : Sl) (R : Value → World → Prop) (y1 : Nat → Int → World → Prop) (b3 : Nat) (n4 : Int) (w5 : World) : Prop :=
 IfB (decide (n4 < (t0.n : Int)))
 (∃ (y8 : Nat → Int → World → Prop),
 (∃ (b9 : Nat), y8 b9 (0 : Int) w5) ∧
 ∀ (b10 : Nat) (n11 : Int) (w12 : World) (y13 : Nat → Value),
 y8 b10 n11 w12 →
 IfB (decide (n11 < n4))
 (∃ (y15 : Nat → Int → World → Prop),
 (∃ (b16 : Nat), y15 b16 (IntKind.i64.wrap (n11 + (1 : Int))) w12) ∧
 ∀ (b17 : Nat) (n18 : Int) (w19 : World) (y20 : Nat → Value),
 y15 b17 n18 w19 →
 (F34j3 t0 R n4 y8 b10 n11 y15 b17 n18 w19))
 (([] : List Nat) = [] ∧ ∃ (b37 : Nat), b37 < b3 ∧ y1 b37 (IntKind.i64.wrap (n4 + (1 : Int))) w12))
 (R (Value.bool true) w5)
def F34 (t0 : Sl) (w : World) (R : Value → World → Prop) : Prop :=
 ∃ (y1 : Nat → Int → World → Prop),
 (∃ (b2 : Nat), y1 b2 (0 : Int) w) ∧
 ∀ (b3 : Nat) (n4 : Int) (w5 : World) (y6 : Nat → Value),
 y1 b3 n4 w5 →
 (F34j1 t0 R y1 b3 n4 w5)
theorem F34_ok (t0 : Sl) (w : World) (R : Value → World → Prop) (h : F34 t0 w R) : CW Try.prog 34 #[Value.slice t0.1 t0.2 t0.3] w R :=
  call_of tbOk mixed en34 Try.func34 rfl (.node (.nil) (.node (.node (.nil) (.loop [(3, .one (.int .i64))] [6, 7, 8, 9, 4, 12, 13, 14, 17, 18, 5, 19, 20, 21, 24, 25, 26, 27, 28, 29, 30, 31, 32, 33, 34, 35, 36, 37, 38, 39, 40, 41, 42, 43, 44, 45, 46, 47, 2, 22, 23, 15, 16, 10, 11, 3] (.node (.nil) (.node (.node (.nil) (.loop [(4, .one (.int .i64))] [12, 13, 14, 17, 18, 5, 19, 20, 21, 24, 25, 26, 27, 28, 29, 30, 31, 32, 33, 34, 35, 36, 37, 38, 39, 40, 41, 42, 43, 44, 45, 46, 47, 2, 22, 23, 15, 16, 4] (.node (.nil) (.node (.node (.nil) (.loop [(5, .one (.int .i64))] [19, 20, 21, 24, 25, 26, 27, 28, 29, 30, 31, 32, 33, 34, 35, 36, 37, 38, 39, 40, 41, 42, 43, 44, 45, 46, 47, 2, 22, 23, 5] (.node (.nil) (.node (.node (.draw (.st 0 (.st 1 (.st 2 (.st 3 (.st 4 (.st 5 (.st 6 (.st 7 (.st 8 (.st 9 (.st 10 (.st 11 (.st 12 (.st 13 (.st 14 (.st 15 (.st 16 (.st 17 (.st 18 (.st 19 (.st 20 (.st 21 (.st 22 (.st 23 (.fin)))))))))))))))))))))))))) (.nil)) (.nil))))) (.nil))))) (.nil))))) (.nil))) (by kernel_rfl) (Nat.le_of_ble_eq_true (by kernel_rfl)) (Eq.mp (α := F34 t0 w R) (by kernel_rfl) h)
def F25j1 (t0 : Sl) (t1 : Sl) (R : Value → World → Prop) (y1 : Nat → Int → World → Prop) (b3 : Nat) (n4 : Int) (w5 : World) : Prop :=
 IfB (decide (n4 < (t0.n : Int)))
 (∃ (b8 : Nat),
 ∃ (b9 : Nat),
 t0.1 = some ({ block := b8, off := b9 } : Addr) ∧
 ((0 : Int) ≤ n4 ∧ n4 < (t0.2 : Int)) ∧
 ∃ (n10 : Int),
 w5.drew.cell? ({ block := b8, off := b9 + n4.toNat } : Addr) = some (Value.int IntKind.i64 n10) ∧
 ∃ (b11 : Nat),
 ∃ (b12 : Nat),
 t1.1 = some ({ block := b11, off := b12 } : Addr) ∧
 ((0 : Int) ≤ n4 ∧ n4 < (t1.2 : Int)) ∧
 ∃ (n13 : Int),
 w5.drew.cell? ({ block := b11, off := b12 + n4.toNat } : Addr) = some (Value.int IntKind.i64 n13) ∧
 IfB (n10 != n13) (R (Value.bool false) w5.drew) (([] : List Nat) = [] ∧ ∃ (b14 : Nat), b14 < b3 ∧ y1 b14 (IntKind.i64.wrap (n4 + (1 : Int))) w5.drew))
 (R (Value.bool true) w5)
def F25 (t0 : Sl) (t1 : Sl) (w : World) (R : Value → World → Prop) : Prop :=
 IfB ((t0.2 : Int) != (t1.2 : Int)) (R (Value.bool false) w)
 (∃ (y1 : Nat → Int → World → Prop),
 (∃ (b2 : Nat), y1 b2 (0 : Int) w) ∧
 ∀ (b3 : Nat) (n4 : Int) (w5 : World) (y6 : Nat → Value),
 y1 b3 n4 w5 →
 (F25j1 t0 t1 R y1 b3 n4 w5))
theorem F25_ok (t0 : Sl) (t1 : Sl) (w : World) (R : Value → World → Prop) (h : F25 t0 t1 w R) : CW Try.prog 25 #[Value.slice t0.1 t0.2 t0.3, Value.slice t1.1 t1.2 t1.3] w R :=
  call_of tbOk mixed en25 Try.func25 rfl (.node (.nil) (.node (.nil) (.node (.node (.nil) (.loop [(5, .one (.int .i64))] [11, 12, 13, 14, 17, 18, 19, 20, 21, 22, 23, 24, 25, 4, 15, 16, 5] (.node (.nil) (.node (.node (.draw (.st 0 (.st 1 (.st 2 (.st 3 (.st 4 (.st 5 (.st 6 (.st 7 (.st 8 (.fin))))))))))) (.nil)) (.nil))))) (.nil)))) (by kernel_rfl) (Nat.le_of_ble_eq_true (by kernel_rfl)) (Eq.mp (α := F25 t0 t1 w R) (by kernel_rfl) h)
end Go.Proofs.Ytmmhbjbaallkfaa.Gx

/- The document's sagas (gimmalref29): Ints, IsAhead, Whole, Sagas, Ahead. -/
namespace Go.Proofs.Ytmmhbjbaallkfaa.Gx
open Go
set_option linter.unusedSimpArgs false
set_option linter.unusedVariables false
theorem c25 {w : World} {s t : Sl} {xs ys : List Int} (hs : Rd w s 1 (xs.map iv)) (ht : Rd w t 1 (ys.map iv)) (hl : xs.length ≤ 1000000) :
    CW Try.prog 25 #[slV s, slV t] w fun v w' => v = .bool (decide (xs = ys)) ∧ Ext w w' := by
  have hsn := rdI hs
  have htn := rdI ht
  refine F25_ok s t w _ (IfB.intro (fun hne => ⟨?_, Ch.refl _ _⟩) fun he => ?_)
  · have : s.n ≠ t.n := fun e => by simp [e] at hne
    rw [decide_eq_false (fun e => this (by rw [hsn, htn, e]))]
  · have he : s.n = t.n := by simp at he; omega
    refine ⟨fun m x W => ∃ i : Nat, i ≤ xs.length ∧ m + i = xs.length ∧ x = (i : Int) ∧ Ext w W ∧ xs.take i = ys.take i, ⟨xs.length, 0, Nat.zero_le _, rfl, rfl, Ch.refl _ _, rfl⟩, ?_⟩
    rintro m _ W g ⟨i, hi, hmi, rfl, hE, hsame⟩
    unfold F25j1
    refine IfB.dec (fun hlt => ?_) fun hge => ?_
    · have hi' : i < xs.length := by omega
      have hx : xs[i]? = some xs[i] := List.getElem?_eq_getElem hi'
      have hy : ys[i]? = some (ys[i]'(by omega)) := List.getElem?_eq_getElem (by omega)
      generalize xs[i] = x at hx
      generalize ys[i]'_ = y at hy
      have ed := hE.trans (extDrew W)
      obtain ⟨b1, o1, hp1, hc1⟩ := rdI_get (hs.ext ed) hx
      obtain ⟨b2, o2, hp2, hc2⟩ := rdI_get (ht.ext ed) hy
      refine ⟨b1, o1, hp1, ⟨by omega, hlt⟩, x, by rw [Int.toNat_natCast]; exact hc1, b2, o2, hp2, ⟨by omega, by omega⟩, y, by rw [Int.toNat_natCast]; exact hc2, IfB.intro (fun hne => ⟨?_, ed⟩) fun hxy => ⟨rfl, m - 1, by omega, i + 1, hi', by omega, by rw [wrap_of (by omega) (by omega)]; rfl, ed, ?_⟩⟩
      · have hne : x ≠ y := by simpa using hne
        rw [decide_eq_false (fun e => hne (by rw [e, hy] at hx; exact (Option.some.inj hx).symm))]
      · have hxy : x = y := by simpa using hxy
        rw [take_succ_get hx, take_succ_get hy, hsame, hxy]
    · have hi' : i = xs.length := by omega
      subst hi'
      rw [List.take_length, List.take_of_length_le (by omega)] at hsame
      exact ⟨by rw [decide_eq_true hsame], hE⟩
/-- A cell of a node. -/
theorem Hst.sg {w : World} {t : Sl} {hs : List Nd} (h : Hst w t hs) {i : Nat} {x : Nd} (hx : hs[i]? = some x) : ∃ b o, t.p = some ⟨b, o, none⟩ ∧ w.cell? ⟨b, o + (i : Int).toNat * 6 + 0, none⟩ = some (.int .i64 x.v.1) := by
  obtain ⟨b, o, hp, hc⟩ := h.at hx
  exact ⟨b, o, hp, by rw [Int.toNat_natCast]; exact hc 0 _ rfl⟩
theorem c47 {w : World} {t : Sl} {hs : List Nd} (hH : Hst w t hs) (a b : Int) :
    CW Try.prog 47 #[slV t, iv a, iv b] w fun v w' => ∃ r, v = .bool r ∧ (r = true ↔ AhP hs (a, b)) ∧ Ext w w' := by
  have htn := hH.n
  have hlen := hH.len
  refine F47_ok t a b w _ ⟨fun m x W => ∃ i : Nat, i ≤ hs.length ∧ m + i = hs.length ∧ x = (i : Int) ∧ Ext w W ∧ ¬ ahQ hs i 0 (a, b), ⟨hs.length, 0, Nat.zero_le _, rfl, rfl, Ch.refl _ _, ahQ_zero _⟩, ?_⟩
  rintro m _ W g ⟨i, hi, hmi, rfl, hE, hno⟩
  refine IfB.dec (fun hlt => ?_) fun hge => ?_
  · have hi' : i < hs.length := by omega
    have hx : hs[i]? = some hs[i] := List.getElem?_eq_getElem hi'
    generalize hs[i] = nb at hx
    refine ⟨fun q x W' => ∃ k : Nat, k ≤ i ∧ q + k = i ∧ x = (k : Int) ∧ Ext w W' ∧ ¬ ahQ hs i k (a, b), ⟨i, 0, Nat.zero_le _, rfl, rfl, hE, hno⟩, ?_⟩
    rintro q _ w12 g ⟨k, hk, hqk, rfl, hE', hno'⟩
    unfold F47j2
    refine IfB.dec (fun hlt2 => ?_) fun hge2 => ?_
    · have hk' : k < i := by omega
      have hy : hs[k]? = some hs[k] := List.getElem?_eq_getElem (by omega)
      generalize hs[k] = na at hy
      have ed := hE'.trans (extDrew w12)
      have hD := hH.ext ed
      have hstep := ahQ_step hk' hy hx (a, b)
      have w1 : IntKind.i64.wrap ((k : Int) + 1) = ((k + 1 : Nat) : Int) := by rw [wrap_of (by omega) (by omega)]; rfl
      have hbk : (0 : Int) ≤ (k : Int) ∧ (k : Int) < (t.n : Int) := ⟨by omega, by omega⟩
      have hbi : (0 : Int) ≤ (i : Int) ∧ (i : Int) < (t.n : Int) := ⟨by omega, hlt⟩
      have next : ∀ {W' : World}, Ext w W' → ¬ ((a, b) = (na.v.1, nb.v.1) ∧ cnfP na nb) → ∃ b33, b33 < q ∧ ∃ k' : Nat, k' ≤ i ∧ b33 + k' = i ∧ IntKind.i64.wrap ((k : Int) + 1) = (k' : Int) ∧ Ext w W' ∧ ¬ ahQ hs i k' (a, b) := fun {W'} e h =>
        ⟨q - 1, by omega, k + 1, hk', by omega, w1, e, fun h' => (hstep.1 h').elim hno' h⟩
      obtain ⟨c1, o1, hp1, hc1⟩ := hD.sg hy
      obtain ⟨c2, o2, hp2, hc2⟩ := hD.sg hx
      obtain ⟨c3, o3, hp3, hc3⟩ := hD.at hy
      obtain ⟨c4, o4, hp4, hc4⟩ := hD.at hx
      refine ⟨c1, o1, hp1, hbk, na.v.1, hc1, IfB.intro (fun h1 => ⟨c2, o2, hp2, hbi, nb.v.1, hc2, IfB.intro (fun h2 => ⟨c3, o3, hp3, hbk, na.v, by rw [Int.toNat_natCast]; exact hc3, c4, o4, hp4, hbi, nb.v, by rw [Int.toNat_natCast]; exact hc4, (c12 (hD.get hy) (hD.get hx)).use ?_⟩) fun h2 => ⟨rfl, next ed fun h => ?_⟩⟩) fun h1 => ⟨rfl, next ed fun h => ?_⟩⟩
      · have h1 : na.v.1 = a := by simpa using h1
        have h2 : nb.v.1 = b := by simpa using h2
        rintro _ w28 ⟨r, rfl, hr, e28⟩
        refine ⟨r, rfl, IfB.intro (fun h => ⟨true, rfl, ⟨fun _ => ⟨k, i, na, nb, hk', hy, hx, by rw [h1, h2], hr.1 h⟩, fun _ => rfl⟩, ed.trans e28⟩) fun h => ⟨rfl, next (ed.trans e28) fun h' => ?_⟩⟩
        rw [hr.2 h'.2] at h; cases h
      · have := congrArg Prod.snd h.1
        simp only at this
        rw [this] at h2; simp at h2
      · have := congrArg Prod.fst h.1
        simp only at this
        rw [this] at h1; simp at h1
    · have hk' : k = i := by omega
      subst hk'
      exact ⟨rfl, m - 1, by omega, k + 1, hi', by omega, by rw [wrap_of (by omega) (by omega)]; rfl, hE', fun h => hno' ((ahQ_row _).1 h)⟩
  · have hi' : i = hs.length := by omega
    subst hi'
    exact ⟨false, rfl, ⟨fun h => (by cases h), fun h => absurd ((ahQ_all _).2 h) hno⟩, hE⟩
end Go.Proofs.Ytmmhbjbaallkfaa.Gx

/- The document's sagas (gimmalref29): Whole, Sagas. -/
namespace Go.Proofs.Ytmmhbjbaallkfaa.Gx
open Go
set_option linter.unusedSimpArgs false
set_option linter.unusedVariables false
/-- As far as the loops came: (k, m, j) before (kk, mm, i). -/
def WhU (hs : List Nd) (i kk mm : Nat) : Prop := ∀ (k m j : Nat) (a b c : Nd), k < m → m < j → (j < i ∨ (j = i ∧ (k < kk ∨ (k = kk ∧ m < mm)))) → hs[k]? = some a → hs[m]? = some b → hs[j]? = some c → a.v.1 = c.v.1 → b.v.1 = c.v.1
theorem c34 {w : World} {t : Sl} {hs : List Nd} (hH : Hst w t hs) :
    CW Try.prog 34 #[slV t] w fun v w' => ∃ r, v = .bool r ∧ (r = true ↔ WhP hs) ∧ Ext w w' := by
  have htn := hH.n
  have hlen := hH.len
  refine F34_ok t w _ ⟨fun m x W => ∃ i : Nat, i ≤ hs.length ∧ m + i = hs.length ∧ x = (i : Int) ∧ Ext w W ∧ WhU hs i 0 0, ⟨hs.length, 0, Nat.zero_le _, rfl, rfl, Ch.refl _ _, fun k m j a b c h1 h2 h3 => by omega⟩, ?_⟩
  rintro m _ W g ⟨i, hi, hmi, rfl, hE, hW⟩
  unfold F34j1
  refine IfB.dec (fun hlt => ?_) fun hge => ?_
  · have hi' : i < hs.length := by omega
    have hx : hs[i]? = some hs[i] := List.getElem?_eq_getElem hi'
    generalize hs[i] = c at hx
    have w1 : ∀ {q : Nat}, q < hs.length → IntKind.i64.wrap ((q : Int) + 1) = ((q + 1 : Nat) : Int) := fun {q} h => by rw [wrap_of (by omega) (by omega)]; rfl
    have hbi : (0 : Int) ≤ (i : Int) ∧ (i : Int) < (t.n : Int) := ⟨by omega, hlt⟩
    refine ⟨fun q x W' => ∃ k : Nat, k ≤ i ∧ q + k = i ∧ x = (k : Int) ∧ Ext w W' ∧ WhU hs i k 0, ⟨i, 0, Nat.zero_le _, rfl, rfl, hE, hW⟩, ?_⟩
    rintro q _ w12 g ⟨k, hk, hqk, rfl, hE2, hW2⟩
    refine IfB.dec (fun hlt2 => ?_) fun hge2 => ?_
    · have hk' : k < i := by omega
      have hy : hs[k]? = some hs[k] := List.getElem?_eq_getElem (by omega)
      generalize hs[k] = a at hy
      have hbk : (0 : Int) ≤ (k : Int) ∧ (k : Int) < (t.n : Int) := ⟨by omega, by omega⟩
      refine ⟨fun s x W' => ∃ m : Nat, k + 1 ≤ m ∧ m ≤ i ∧ s + m = i ∧ x = (m : Int) ∧ Ext w W' ∧ WhU hs i k m, ⟨i - (k + 1), k + 1, by omega, by omega, by omega, w1 (by omega), hE2, fun k' m' j' a' b' c' h1 h2 h3 => hW2 k' m' j' a' b' c' h1 h2 (by omega)⟩, ?_⟩
      rintro s _ w19 g ⟨p, hp1, hp2, hsp, rfl, hE3, hW3⟩
      unfold F34j3
      refine IfB.dec (fun hlt3 => ?_) fun hge3 => ?_
      · have hp' : p < i := by omega
        have hz : hs[p]? = some hs[p] := List.getElem?_eq_getElem (by omega)
        generalize hs[p] = b at hz
        have hbp : (0 : Int) ≤ (p : Int) ∧ (p : Int) < (t.n : Int) := ⟨by omega, by omega⟩
        have ed := hE3.trans (extDrew w19)
        have hD := hH.ext ed
        obtain ⟨b1, o1, q1, d1⟩ := hD.sg hy
        obtain ⟨b2, o2, q2, d2⟩ := hD.sg hx
        obtain ⟨b3, o3, q3, d3⟩ := hD.sg hz
        have next : (a.v.1 = c.v.1 → b.v.1 = c.v.1) → ∃ b34, b34 < s ∧ ∃ m : Nat, k + 1 ≤ m ∧ m ≤ i ∧ b34 + m = i ∧ IntKind.i64.wrap ((p : Int) + 1) = (m : Int) ∧ Ext w w19.drew ∧ WhU hs i k m := fun h =>
          ⟨s - 1, by omega, p + 1, by omega, hp', by omega, w1 (by omega), ed, fun k' m' j' a' b' c' h1 h2 h3 ha hb hc => by
            by_cases he : j' = i ∧ k' = k ∧ m' = p
            · obtain ⟨rfl, rfl, rfl⟩ := he
              rw [hy] at ha; rw [hz] at hb; rw [hx] at hc
              cases ha; cases hb; cases hc
              exact h
            · exact hW3 k' m' j' a' b' c' h1 h2 (by omega) ha hb hc⟩
        refine ⟨b1, o1, q1, hbk, a.v.1, d1, b2, o2, q2, hbi, c.v.1, d2, IfB.intro (fun he => ⟨b3, o3, q3, hbp, b.v.1, d3, b2, o2, q2, hbi, c.v.1, d2, IfB.intro (fun hne => ⟨false, rfl, ⟨fun h => (by cases h), fun h => ?_⟩, ed⟩) fun heq => ⟨rfl, next fun _ => by simpa using heq⟩⟩) fun hne => ⟨rfl, next fun h => ?_⟩⟩
        · have he : a.v.1 = c.v.1 := by simpa using he
          have := h k p i a b c (by omega) hp' hi' hy hz hx he
          rw [this] at hne; simp at hne
        · rw [h] at hne; simp at hne
      · have hp' : p = i := by omega
        subst hp'
        exact ⟨rfl, q - 1, by omega, k + 1, hk', by omega, w1 (by omega), hE3, fun k' m' j' a' b' c' h1 h2 h3 => hW3 k' m' j' a' b' c' h1 h2 (by omega)⟩
    · have hk' : k = i := by omega
      subst hk'
      exact ⟨rfl, m - 1, by omega, k + 1, hi', by omega, w1 hi', hE2, fun k' m' j' a' b' c' h1 h2 h3 => hW2 k' m' j' a' b' c' h1 h2 (by omega)⟩
  · have hi' : i = hs.length := by omega
    subst hi'
    exact ⟨true, rfl, ⟨fun _ k m j a b c h1 h2 h3 => hW k m j a b c h1 h2 (.inl h3), fun _ => rfl⟩, hE⟩
end Go.Proofs.Ytmmhbjbaallkfaa.Gx

/- The document's sagas (gimmalref29): Sagas. -/
namespace Go.Proofs.Ytmmhbjbaallkfaa.Gx
open Go
set_option linter.unusedSimpArgs false
set_option linter.unusedVariables false
theorem c23 {w : World} {t : Sl} {hs : List Nd} (hH : Hst w t hs) :
    CW Try.prog 23 #[slV t] w fun v w' => ∃ t', ∃ l : List Int, v = slV t' ∧ SgL hs l ∧ l.length ≤ hs.length ∧ OwS w' t' 1 (l.map iv) ∧ Ext w w' ∧ ∀ j ∈ blk t', w.heap.size ≤ j := by
  have htn := hH.n
  have hlen := hH.len
  refine F23_ok t w _ ⟨fun m x W => ∃ (i : Nat) (so : Sl) (l : List Int), i ≤ hs.length ∧ m + i = hs.length ∧ x = (so, (i : Int)) ∧ SgL (hs.take i) l ∧ l.length ≤ i ∧ OwS W so 1 (l.map iv) ∧ Ext w W ∧ ∀ j ∈ blk so, w.heap.size ≤ j,
    ⟨hs.length, 0, ⟨none, 0, 0⟩, [], Nat.zero_le _, rfl, rfl, ⟨.nil, by simp⟩, Nat.le_refl _, .nil _ _, Ch.refl _ _, by simp [blk]⟩, ?_⟩
  rintro m _ W g ⟨i, so, l, hi, hmi, rfl, hSg, hll, hO, hE, hb⟩
  have hon := owsI hO
  refine IfB.dec (fun hlt => ?_) fun hge => ?_
  · have hi' : i < hs.length := by dsimp only at hlt; omega
    have hx : hs[i]? = some hs[i] := List.getElem?_eq_getElem hi'
    have htk := take_succ_get hx
    generalize hs[i] = n at hx htk
    have hbi : (0 : Int) ≤ (i : Int) ∧ (i : Int) < (t.n : Int) := ⟨by omega, by omega⟩
    have w1 : IntKind.i64.wrap ((i : Int) + 1) = ((i + 1 : Nat) : Int) := by rw [wrap_of (by omega) (by omega)]; rfl
    have known : (∃ k ∈ l, k = n.v.1) → SgL (hs.take (i + 1)) l := fun ⟨k, hk, e⟩ => ⟨hSg.srt, fun k' => by
      rw [hSg.mem, htk]
      constructor
      · rintro ⟨x, hx', h⟩; exact ⟨x, List.mem_append.2 (.inl hx'), h⟩
      · rintro ⟨x, hx', h⟩
        rcases List.mem_append.1 hx' with h' | h'
        · exact ⟨x, h', h⟩
        · rw [List.mem_singleton.1 h'] at h
          rw [← h, ← e]
          exact (hSg.mem k).1 hk⟩
    refine ⟨fun q x W' => ∃ k : Nat, k ≤ l.length ∧ q + k = l.length ∧ x = (decide (n.v.1 ∈ l.take k), (k : Int)) ∧ Ext W W', ⟨l.length, 0, Nat.zero_le _, rfl, by simp, Ch.refl _ _⟩, ?_⟩
    rintro q _ w12 g ⟨k, hk, hqk, rfl, hE2⟩
    unfold F23j2
    refine IfB.dec (fun hlt2 => ?_) fun hge2 => ?_
    · have hk' : k < l.length := by dsimp only at hlt2; omega
      have hy : l[k]? = some l[k] := List.getElem?_eq_getElem hk'
      generalize l[k] = y at hy
      have w2 : IntKind.i64.wrap ((k : Int) + 1) = ((k + 1 : Nat) : Int) := by rw [wrap_of (by omega) (by omega)]; rfl
      have ed := hE2.trans (extDrew w12)
      have hnx : decide (n.v.1 ∈ l.take (k + 1)) = (decide (n.v.1 ∈ l.take k) || y == n.v.1) := by
        rw [take_succ_get hy, Bool.eq_iff_iff]
        simp only [decide_eq_true_eq, List.mem_append, List.mem_singleton, Bool.or_eq_true, beq_iff_eq]
        exact or_congr Iff.rfl eq_comm
      refine IfB.intro (fun h => ⟨rfl, q - 1, by omega, k + 1, hk', by omega, ?_, ed⟩) fun h => ?_
      · have h : decide (n.v.1 ∈ l.take k) = true := h
        rw [hnx, h, w2]; rfl
      · have h : decide (n.v.1 ∈ l.take k) = false := h
        obtain ⟨b1, o1, hp1, hc1⟩ := rdI_get (hO.ext ed).rd hy
        obtain ⟨b2, o2, hp2, hc2⟩ := (hH.ext (hE.trans ed)).sg hx
        refine ⟨b1, o1, hp1, (⟨by omega, by omega⟩ : (0 : Int) ≤ (k : Int) ∧ (k : Int) < (so.n : Int)), y, by dsimp only; rw [Int.toNat_natCast]; exact hc1, b2, o2, hp2, hbi, n.v.1, hc2, rfl, q - 1, by omega, k + 1, hk', by omega, ?_, ed⟩
        rw [hnx, h, w2]; rfl
    · have hk' : k = l.length := by dsimp only at hge2; omega
      subst hk'
      rw [List.take_length]
      refine IfB.intro (fun h => ⟨rfl, m - 1, by omega, i + 1, so, l, hi', by omega, by dsimp only; rw [w1], known ⟨_, of_decide_eq_true h, rfl⟩, by omega, hO.ext hE2, hE.trans hE2, hb⟩) fun h => ?_
      have hno : n.v.1 ∉ l := of_decide_eq_false h
      have X2 := hE.trans hE2
      obtain ⟨b2, o2, hp2, hc2⟩ := (hH.ext X2).sg hx
      refine ⟨b2, o2, hp2, hbi, n.v.1, hc2, by decide, fun b27 w28 a28 => ?_⟩
      have e28 : Ext w12 w28 := a28.ch _
      refine ((hO.ext hE2).ext e28).lit (new := [iv n.v.1]) (T' := 3) a28.new rfl (oneIv _) rfl rfl (by omega) (by decide) fun s30 w31 ho31 hn31 hC31 hb31 => ?_
      have X31 : Ext w w31 := (X2.trans e28).chN hC31 hb
      have hb30 : ∀ j ∈ blk s30, w.heap.size ≤ j := fun j hj => by
        rcases hb31 j hj with h | h
        · exact hb j h
        · have := X2.size; have := e28.size; omega
      obtain ⟨b, hp⟩ := ho31.ptr (by omega)
      have hbw : w.heap.size ≤ b := hb30 b (by simp [blk, hp])
      refine ⟨fun z x W' => ∃ (A B : List Int) (d : Int), l = A ++ B ∧ z = A.length ∧ x = (A.length : Int) ∧ (∀ y ∈ B, n.v.1 < y) ∧ OwS W' s30 1 ((A ++ d :: B).map iv) ∧ Ext w W', ⟨l.length, l, [], n.v.1, by simp, rfl, by dsimp only; omega, by simp, by rw [List.map_append]; exact ho31, X31⟩, ?_⟩
      rintro z _ w36 g ⟨A, B, d, hAB, rfl, rfl, hB, hO36, X36⟩
      have hABl : l.length = A.length + B.length := by rw [hAB, List.length_append]
      have ed := X36.trans (extDrew w36)
      have hOd := hO36.ext (extDrew w36)
      have fin : (∀ y ∈ A, y < n.v.1) → F23k1 t (so, (i : Int)) w36 s30 (A.length : Int) m (fun m x W => ∃ (i : Nat) (so : Sl) (l : List Int), i ≤ hs.length ∧ m + i = hs.length ∧ x = (so, (i : Int)) ∧ SgL (hs.take i) l ∧ l.length ≤ i ∧ OwS W so 1 (l.map iv) ∧ Ext w W ∧ ∀ j ∈ blk so, w.heap.size ≤ j) := fun hA => by
        unfold F23k1
        obtain ⟨b3, o3, hp3, hc3⟩ := (hH.ext ed).sg hx
        refine ⟨b3, o3, hp3, hbi, n.v.1, hc3, b, 0, hp, ⟨by omega, by show (A.length : Int) < (s30.n : Int); omega⟩, rfl, ?_⟩
        rw [Int.toNat_natCast, Nat.zero_add]
        refine hOd.store (vs := [iv n.v.1]) hp (by simp; omega) (oneIv _) fun w64 hO64 hC64 => ⟨rfl, m - 1, by omega, i + 1, s30, A ++ n.v.1 :: B, hi', by omega, by dsimp only; rw [w1], ⟨?_, fun k' => ?_⟩, by simp; omega, ?_, ed.chN hC64 fun j e => by omega, hb30⟩
        · have hs' := hSg.srt
          rw [hAB] at hs'
          obtain ⟨p1, p2, p3⟩ := List.pairwise_append.1 hs'
          refine List.pairwise_append.2 ⟨p1, List.pairwise_cons.2 ⟨hB, p2⟩, fun a ha b' hb' => ?_⟩
          rcases List.mem_cons.1 hb' with rfl | hb'
          · exact hA a ha
          · exact p3 a ha b' hb'
        · have hm := hSg.mem k'
          rw [hAB, List.mem_append] at hm
          rw [List.mem_append, List.mem_cons, htk]
          constructor
          · rintro (h' | rfl | h')
            · obtain ⟨x, hx', e⟩ := hm.1 (.inl h'); exact ⟨x, List.mem_append.2 (.inl hx'), e⟩
            · exact ⟨n, by simp, rfl⟩
            · obtain ⟨x, hx', e⟩ := hm.1 (.inr h'); exact ⟨x, List.mem_append.2 (.inl hx'), e⟩
          · rintro ⟨x, hx', e⟩
            rcases List.mem_append.1 hx' with h' | h'
            · rcases hm.2 ⟨x, h', e⟩ with h | h
              · exact .inl h
              · exact .inr (.inr h)
            · rw [List.mem_singleton.1 h'] at e; exact .inr (.inl e.symm)
        · have e : ((A ++ d :: B).map iv).take A.length ++ [iv n.v.1] ++ ((A ++ d :: B).map iv).drop (A.length + [iv n.v.1].length) = (A ++ n.v.1 :: B).map iv := by
            have hml : A.length = (A.map iv).length := (List.length_map ..).symm
            rw [List.map_append, List.map_append, hml, List.take_append_of_le_length (Nat.le_refl _), List.take_length, List.drop_length_add_append]
            simp
          rw [e] at hO64; exact hO64
      unfold F23j3
      refine IfB.dec (fun h0 => ?_) fun h0 => fin fun y hy => ?_
      · have h0' : 0 < A.length := by omega
        obtain ⟨A', a, rfl⟩ : ∃ A' a, A = A' ++ [a] := ⟨A.dropLast, A.getLast (List.length_pos_iff.1 h0'), (List.dropLast_concat_getLast _).symm⟩
        have hAl : (A' ++ [a]).length = A'.length + 1 := by simp
        have hw : IntKind.i64.wrap (((A' ++ [a]).length : Int) - 1) = (A'.length : Int) := by rw [wrap_of (by omega) (by omega)]; omega
        have hga : ((A' ++ [a]) ++ d :: B)[A'.length]? = some a := by simp
        obtain ⟨b1, hp1, hc1⟩ := hOd.elem1 (i := A'.length) (v := iv a) (by rw [List.getElem?_map, hga]; rfl)
        rw [hp] at hp1; cases hp1
        obtain ⟨b3, o3, hp3, hc3⟩ := (hH.ext ed).sg hx
        have hba : (0 : Int) ≤ (A'.length : Int) ∧ (A'.length : Int) < (s30.n : Int) := ⟨by omega, by omega⟩
        have hct : w36.drew.cell? ⟨b, 0 + (A'.length : Int).toNat, none⟩ = some (iv a) := by rw [Int.toNat_natCast, Nat.zero_add]; exact hc1
        rw [hw]
        refine ⟨b, 0, hp, hba, a, hct, b3, o3, hp3, hbi, n.v.1, hc3, IfB.dec (fun hlt3 => ⟨b, 0, hp, hba, a, hct, b, 0, hp, ⟨by omega, by omega⟩, rfl, ?_⟩) fun hge3 => fin fun y hy => ?_⟩
        · rw [Int.toNat_natCast, Nat.zero_add]
          refine hOd.store (vs := [iv a]) hp (by simp; omega) (oneIv _) fun w50 hO50 hC50 => ⟨rfl, A'.length, by omega, A', a :: B, a, by rw [hAB]; simp, rfl, rfl, fun y hy => ?_, ?_, ed.chN hC50 fun j e => by omega⟩
          · rcases List.mem_cons.1 hy with rfl | hy
            · exact hlt3
            · exact hB y hy
          · have e : (((A' ++ [a]) ++ d :: B).map iv).take (A' ++ [a]).length ++ [iv a] ++ (((A' ++ [a]) ++ d :: B).map iv).drop ((A' ++ [a]).length + [iv a].length) = (A' ++ a :: a :: B).map iv := by
              have hml : (A' ++ [a]).length = ((A' ++ [a]).map iv).length := (List.length_map ..).symm
              rw [List.map_append, hml, List.take_append_of_le_length (Nat.le_refl _), List.take_length, List.drop_length_add_append]
              simp
            rw [e] at hO50; exact hO50
        · have hs' := hSg.srt
          rw [hAB] at hs'
          have p1 := (List.pairwise_append.1 hs').1
          have han : a ≠ n.v.1 := fun e => hno (by rw [hAB, ← e]; simp)
          rcases List.mem_append.1 hy with h' | h'
          · have := (List.pairwise_append.1 p1).2.2 y h' a (by simp); omega
          · rw [List.mem_singleton.1 h']; omega
      · have : A = [] := List.length_eq_zero_iff.1 (by omega)
        subst this; cases hy
  · have hi' : i = hs.length := by dsimp only at hge; omega
    subst hi'
    rw [List.take_length] at hSg
    exact ⟨so, l, rfl, hSg, hll, hO, hE, hb⟩
end Go.Proofs.Ytmmhbjbaallkfaa.Gx

/- The document's sagas (gimmalref29): Ahead. -/
namespace Go.Proofs.Ytmmhbjbaallkfaa.Gx
open Go
set_option linter.unusedSimpArgs false
set_option linter.unusedVariables false
theorem key_lt {x y : Int × Int} (hx : SfP.Q x) (hy : SfP.Q y) : SfP.key x < SfP.key y ↔ x.1 < y.1 ∨ (x.1 = y.1 ∧ x.2 < y.2) := by
  unfold SfP.key; unfold SfP.Q at hx hy; omega
theorem SgL.q {hs : List Nd} {l : List Int} (h : SgL hs l) (hq : SgR hs) {a b : Int} (ha : a ∈ l) (hb : b ∈ l) : SfP.Q (a, b) := by
  obtain ⟨n, hn, rfl⟩ := (h.mem a).1 ha
  obtain ⟨m, hm, rfl⟩ := (h.mem b).1 hb
  exact ⟨hq n hn, hq m hm⟩
/-- What was put in so far. -/
def bfP (l : List Int) (i k : Nat) (p : Int × Int) : Prop := (p.1 ∈ l.take i ∧ p.2 ∈ l) ∨ (l[i]? = some p.1 ∧ p.2 ∈ l.take k)
theorem c22 {w : World} {t : Sl} {hs : List Nd} (hH : Hst w t hs) (hl : hs.length ≤ 1000) (hq : SgR hs) :
    CW Try.prog 22 #[slV t] w fun v w' => ∃ t', ∃ xs : List (Int × Int), v = slV t' ∧ xs.Pairwise (fun x y => SfP.key x < SfP.key y) ∧ (∀ p, p ∈ xs ↔ AhP hs p) ∧ xs.length ≤ 1000000 ∧ OwS w' t' 2 (xs.flatMap sv) ∧ Ext w w' ∧ ∀ j ∈ blk t', w.heap.size ≤ j := by
  refine F22_ok t w _ ((c23 hH).use ?_)
  rintro _ w2 ⟨s3, l, rfl, hSg, hll, ho3, e2, hb3⟩
  have h3n := owsI ho3
  have hL : l.length * l.length ≤ 1000000 := Nat.le_trans (Nat.mul_le_mul (Nat.le_trans hll hl) (Nat.le_trans hll hl)) (by decide)
  let I : Nat → Nat → Sl → List (Int × Int) → World → Prop := fun i k so ys W => OwS W so 2 (ys.flatMap sv) ∧ ys.Pairwise (fun x y => SfP.key x < SfP.key y) ∧ (∀ p, p ∈ ys ↔ bfP l i k p ∧ AhP hs p) ∧ ys.length ≤ i * l.length + k ∧ Ext w2 W ∧ ∀ j ∈ blk so, w2.heap.size ≤ j
  have w1 : ∀ {q : Nat}, q < l.length → IntKind.i64.wrap ((q : Int) + 1) = ((q + 1 : Nat) : Int) := fun {q} h => by rw [wrap_of (by omega) (by omega)]; rfl
  refine ⟨s3, rfl, fun m x W => ∃ (i : Nat) (so : Sl) (ys : List (Int × Int)), i ≤ l.length ∧ m + i = l.length ∧ x = (so, (i : Int)) ∧ I i 0 so ys W, ⟨l.length, 0, ⟨none, 0, 0⟩, [], Nat.zero_le _, rfl, rfl, .nil _ _, .nil, fun p => ⟨fun h => (by cases h), fun h => ?_⟩, by simp, Ch.refl _ _, by simp [blk]⟩, ?_⟩
  · obtain ⟨h | h, _⟩ := h
    · simp at h
    · simp at h
  rintro m _ W g ⟨i, so, ys, hi, hmi, rfl, hI⟩
  refine IfB.dec (fun hlt => ?_) fun hge => ?_
  · have hi' : i < l.length := by dsimp only at hlt; omega
    have hiL : (i + 1) * l.length = i * l.length + l.length := Nat.succ_mul _ _
    have hiL2 : (i + 1) * l.length ≤ 1000000 := Nat.le_trans (Nat.mul_le_mul_right _ hi') hL
    have hx : l[i]? = some l[i] := List.getElem?_eq_getElem hi'
    have htk := take_succ_get hx
    have hxm := List.mem_of_getElem? hx
    have hxlt : ∀ y ∈ l.take i, y < l[i] := fun y hy => by
      obtain ⟨j, hj, rfl⟩ := List.getElem_of_mem hy
      rw [List.length_take] at hj
      rw [List.getElem_take]
      exact List.pairwise_iff_getElem.1 hSg.srt j i (by omega) hi' (by omega)
    generalize l[i] = a at hx htk hxm hxlt
    refine ⟨fun q x W' => ∃ (k : Nat) (so : Sl) (ys : List (Int × Int)), k ≤ l.length ∧ q + k = l.length ∧ x = (so, (k : Int)) ∧ I i k so ys W', ⟨l.length, 0, so, ys, Nat.zero_le _, rfl, rfl, hI⟩, ?_⟩
    rintro q _ w15 g ⟨k, so', zs, hk, hqk, rfl, hO, hsrt, hmem, hzl, hE, hb⟩
    have hon := owsN sv_len (by omega) hO
    unfold F22j2
    refine IfB.dec (fun hlt2 => ?_) fun hge2 => ?_
    · have hk' : k < l.length := by dsimp only at hlt2; omega
      have hy : l[k]? = some l[k] := List.getElem?_eq_getElem hk'
      have htk2 := take_succ_get hy
      have hym := List.mem_of_getElem? hy
      have hylt : ∀ y ∈ l.take k, y < l[k] := fun y hy => by
        obtain ⟨j, hj, rfl⟩ := List.getElem_of_mem hy
        rw [List.length_take] at hj
        rw [List.getElem_take]
        exact List.pairwise_iff_getElem.1 hSg.srt j k (by omega) hk' (by omega)
      generalize l[k] = b at hy htk2 hym hylt
      have ed := extDrew w15
      have get : ∀ {W' : World} {j : Nat} {y : Int}, Ext w2 W' → l[j]? = some y → ∃ b, s3.p = some ⟨b, 0, none⟩ ∧ W'.cell? ⟨b, 0 + (j : Int).toNat, none⟩ = some (iv y) := fun {W' j y} e h => by
        obtain ⟨b, hp, hc⟩ := (ho3.ext e).elem1 (i := j) (v := iv y) (by rw [List.getElem?_map, h]; rfl)
        exact ⟨b, hp, by rw [Int.toNat_natCast, Nat.zero_add]; exact hc⟩
      have hbi : (0 : Int) ≤ (i : Int) ∧ (i : Int) < (s3.n : Int) := ⟨by omega, by omega⟩
      have hbk : (0 : Int) ≤ (k : Int) ∧ (k : Int) < (s3.n : Int) := ⟨by omega, by omega⟩
      obtain ⟨b1, q1, d1⟩ := get (hE.trans ed) hx
      obtain ⟨b2, q2, d2⟩ := get (hE.trans ed) hy
      have hbf : ∀ p, bfP l i (k + 1) p ↔ bfP l i k p ∨ p = (a, b) := fun p => by
        unfold bfP
        rw [htk2, List.mem_append, List.mem_singleton, hx, Option.some.injEq]
        constructor
        · rintro (h | ⟨h1, h2 | h2⟩)
          · exact .inl (.inl h)
          · exact .inl (.inr ⟨h1, h2⟩)
          · exact .inr (by rw [Prod.ext_iff]; exact ⟨h1.symm, h2⟩)
        · rintro ((h | h) | rfl)
          · exact .inl h
          · exact .inr ⟨h.1, .inl h.2⟩
          · exact .inr ⟨rfl, .inr rfl⟩
      refine ⟨b1, 0, q1, hbi, a, d1, b2, 0, q2, hbk, b, d2, (c47 ((hH.ext e2).ext (hE.trans ed)) a b).use ?_⟩
      rintro _ w25 ⟨r, rfl, hr, e25⟩
      have E25 := (hE.trans ed).trans e25
      have x25 : Ext w15 w25 := ed.trans e25
      refine ⟨r, rfl, IfB.intro (fun h => ?_) fun h => ⟨rfl, q - 1, by omega, k + 1, so', zs, hk', by omega, by dsimp only; rw [w1 hk'], hO.ext x25, hsrt, fun p => ?_, by omega, E25, hb⟩⟩
      · have ed25 := extDrew w25
        obtain ⟨b3, q3, d3⟩ := get (E25.trans ed25) hx
        obtain ⟨b4, q4, d4⟩ := get (E25.trans ed25) hy
        refine ⟨b3, 0, q3, hbi, a, d3, b4, 0, q4, hbk, b, d4, by decide, fun b33 w34 a34 => ?_⟩
        have x34 : Ext w15 w34 := (x25.trans ed25).trans (a34.ch _)
        refine (hO.ext x34).lit (new := sv (a, b)) (T' := 44) a34.new rfl (sv_one _) rfl rfl (by omega) (by decide) fun s' w' ho' hn' hC' hbk' => ⟨rfl, q - 1, by omega, k + 1, s', zs ++ [(a, b)], hk', by omega, by dsimp only; rw [w1 hk'], ?_, ?_, fun p => ?_, by rw [List.length_append, List.length_singleton]; omega, (hE.trans x34).chN hC' hb, fun j hj => ?_⟩
        · rw [List.flatMap_append]; simpa using ho'
        · refine List.pairwise_append.2 ⟨hsrt, by simp, fun x hx' y hy' => ?_⟩
          rw [List.mem_singleton.1 hy']
          obtain ⟨hbx, hax⟩ := (hmem x).1 hx'
          rw [key_lt (hax.q hq) (hSg.q hq hxm hym)]
          rcases hbx with ⟨h1, _⟩ | ⟨h1, h2⟩
          · exact .inl (hxlt _ h1)
          · rw [hx] at h1
            exact .inr ⟨(Option.some.inj h1).symm, hylt _ h2⟩
        · rw [List.mem_append, List.mem_singleton, hmem, hbf]
          constructor
          · rintro (h' | rfl)
            · exact ⟨.inl h'.1, h'.2⟩
            · exact ⟨.inr rfl, hr.1 h⟩
          · rintro ⟨h' | h', h2⟩
            · exact .inl ⟨h', h2⟩
            · exact .inr h'
        · rcases hbk' j hj with h' | h'
          · exact hb j h'
          · have := hE.size; have := x34.size; omega
      · rw [hmem, hbf]
        constructor
        · exact fun h' => ⟨.inl h'.1, h'.2⟩
        · rintro ⟨h' | rfl, h2⟩
          · exact ⟨h', h2⟩
          · rw [hr.2 h2] at h; cases h
    · have hk' : k = l.length := by dsimp only at hge2; omega
      subst hk'
      refine ⟨rfl, m - 1, by omega, i + 1, so', zs, hi', by omega, by dsimp only; rw [w1 hi'], hO, hsrt, fun p => ?_, by omega, hE, hb⟩
      rw [hmem]
      refine and_congr_left fun _ => ?_
      unfold bfP
      rw [List.take_length, htk, List.mem_append, List.mem_singleton, hx, Option.some.injEq]
      constructor
      · rintro (h | h)
        · exact .inl ⟨.inl h.1, h.2⟩
        · exact .inl ⟨.inr h.1.symm, h.2⟩
      · rintro (⟨h | h, h2⟩ | ⟨_, h⟩)
        · exact .inl ⟨h, h2⟩
        · exact .inr ⟨h.symm, h2⟩
        · simp at h
  · have hi' : i = l.length := by dsimp only at hge; omega
    subst hi'
    obtain ⟨hO, hsrt, hmem, hzl, hE, hb⟩ := hI
    refine ⟨so, ys, rfl, hsrt, fun p => ?_, by omega, hO, e2.trans hE, fun j hj => by have := hb j hj; have := e2.size; omega⟩
    rw [hmem]
    refine ⟨fun h => h.2, fun h => ⟨.inl ?_, h⟩⟩
    obtain ⟨k, j, a, b, _, h1, h2, rfl, _⟩ := h
    rw [List.take_length]
    exact ⟨(hSg.mem _).2 ⟨a, List.mem_of_getElem? h1, rfl⟩, (hSg.mem _).2 ⟨b, List.mem_of_getElem? h2, rfl⟩⟩
end Go.Proofs.Ytmmhbjbaallkfaa.Gx

/- Written by mkf.py: what is to be shown of functions, as Gx reckons it from their code. -/
namespace Go.Proofs.Ytmmhbjbaallkfaa.Gx
open Go
set_option linter.unusedVariables false
set_option maxRecDepth 100000
def F30j2 (R : Value → World → Prop) (s6 : Sl) (b7 : Nat) (y10 : Nat → Sl → World → Prop) (b12 : Nat) (s18 : Sl) (y19 : Nat → Sl × Int → World → Prop) (b21 : Nat) (x22 : Sl × Int) (w23 : World) : Prop :=
 IfB (decide (x22.snd < (s18.n : Int)))
 (∃ (b26 : Nat),
 ∃ (b27 : Nat),
 s18.1 = some ({ block := b26, off := b27 } : Addr) ∧
 ((0 : Int) ≤ x22.2 ∧ x22.2 < (s18.2 : Int)) ∧
 ∃ (n28 : Int),
 w23.cell? ({ block := b26, off := b27 + x22.2.toNat } : Addr) = some (Value.int IntKind.i64 n28) ∧
 AllocP w23 (Obj.cells #[Value.int IntKind.i64 (0 : Int)] (3 : Nat)) fun (b29 : Nat) (w30 : World) =>
 #[Value.int IntKind.i64 n28].size = (1 : Nat) ∧
 StoreP w30 b29 (0 : Nat) [Value.int IntKind.i64 n28] fun (w31 : World) =>
 CX Try.prog (53 : Nat)
 #[Value.slice s6.1 s6.2 s6.3,
 Value.func (Fn.func (52 : Nat)) #[] #[Value.pointer (some ({ block := b29, off := (0 : Nat) } : Addr)), Value.pointer (some ({ block := b7, off := (0 : Nat) } : Addr))]]
 w31 fun (v32 : Value) (w33 : World) =>
 ∃ (t34 : Bool),
 v32 = Value.bool t34 ∧
 IfB t34 (([] : List Nat) = [] ∧ ∃ (b35 : Nat), b35 < b21 ∧ y19 b35 ({ p := x22.fst.1, n := x22.fst.2, c := x22.fst.3 }, IntKind.i64.wrap (x22.2 + (1 : Int))) w33)
 (∃ (n36 : Int),
 w33.cell? ({ block := b29, off := (0 : Nat) } : Addr) = some (Value.int IntKind.i64 n36) ∧
 (1 : Nat) * (1 : Nat) ≤ (16777216 : Nat) ∧
 AllocP w33 (Obj.cells #[Value.int IntKind.i64 n36] (3 : Nat)) fun (b37 : Nat) (w38 : World) =>
 ∃ (l39 : List Value),
 ReadC w38 (some ({ block := b37, off := (0 : Nat) } : Addr)) ((1 : Nat) * (1 : Nat)) l39 ∧
 AppendP tt3 (3 : Nat) w38 x22.fst.1 x22.fst.2 x22.fst.3
 (1 : Nat) l39 fun (s40 : Sl) (w41 : World) =>
 ∃ (s42 : Sl),
 w41.cell? ({ block := b7, off := (0 : Nat) } : Addr) = some (Value.slice s42.1 s42.2 s42.3) ∧
 CX Try.prog (41 : Nat) #[Value.slice s42.1 s42.2 s42.3] w41 fun (v43 : Value) (w44 : World) =>
 ∃ (s45 : Sl),
 v43 = Value.slice s45.1 s45.2 s45.3 ∧
 CX Try.prog (54 : Nat) #[Value.slice s45.1 s45.2 s45.3, Value.int IntKind.i64 x22.2, Value.int IntKind.i64 (IntKind.i64.wrap (x22.2 + (1 : Int)))] w44 fun (v46 : Value) (w47 : World) =>
 ∃ (s48 : Sl),
 v46 = Value.slice s48.1 s48.2 s48.3 ∧
 #[Value.slice s48.1 s48.2 s48.3].size = (1 : Nat) ∧
 StoreP w47 b7 (0 : Nat) [Value.slice s48.1 s48.2 s48.3] fun (w49 : World) => ([] : List Nat) = [] ∧ ∃ (b50 : Nat), b50 < b12 ∧ y10 b50 { p := s40.1, n := s40.2, c := s40.3 } w49))
 (R (Value.tuple #[Value.slice none (0 : Nat) (0 : Nat), Value.bool false]) w23)
def F30j1 (R : Value → World → Prop) (s6 : Sl) (b7 : Nat) (y10 : Nat → Sl → World → Prop) (b12 : Nat) (s13 : Sl) (w14 : World) : Prop :=
 ∃ (s17 : Sl),
 w14.cell? ({ block := b7, off := (0 : Nat) } : Addr) = some (Value.slice s17.1 s17.2 s17.3) ∧
 IfB (decide ((0 : Int) < (s17.n : Int)))
 (∃ (s18 : Sl),
 w14.cell? ({ block := b7, off := (0 : Nat) } : Addr) = some (Value.slice s18.1 s18.2 s18.3) ∧
 ∃ (y19 : Nat → Sl × Int → World → Prop),
 (∃ (b20 : Nat), y19 b20 ({ p := s13.1, n := s13.2, c := s13.3 }, (0 : Int)) w14) ∧
 ∀ (b21 : Nat) (x22 : Sl × Int) (w23 : World) (y24 : Nat → Value),
 y19 b21 x22 w23 →
 (F30j2 R s6 b7 y10 b12 s18 y19 b21 x22 w23))
 (R (Value.tuple #[Value.slice s13.1 s13.2 s13.3, Value.bool true]) w14)
def F30 (t0 : Sl) (w : World) (R : Value → World → Prop) : Prop :=
 CX Try.prog (26 : Nat) #[Value.slice t0.1 t0.2 t0.3] w fun (v1 : Value) (w2 : World) =>
 ∃ (s3 : Sl),
 v1 = Value.slice s3.1 s3.2 s3.3 ∧
 CX Try.prog (21 : Nat) #[Value.slice t0.1 t0.2 t0.3] w2 fun (v4 : Value) (w5 : World) =>
 ∃ (s6 : Sl),
 v4 = Value.slice s6.1 s6.2 s6.3 ∧
 AllocP w5 (Obj.cells #[Value.slice none (0 : Nat) (0 : Nat)] (31 : Nat)) fun (b7 : Nat) (w8 : World) =>
 #[Value.slice s3.1 s3.2 s3.3].size = (1 : Nat) ∧
 StoreP w8 b7 (0 : Nat) [Value.slice s3.1 s3.2 s3.3] fun (w9 : World) =>
 ∃ (y10 : Nat → Sl → World → Prop),
 (∃ (b11 : Nat), y10 b11 { p := none, n := (0 : Nat), c := (0 : Nat) } w9) ∧
 ∀ (b12 : Nat) (s13 : Sl) (w14 : World) (y15 : Nat → Value),
 y10 b12 s13 w14 →
 (F30j1 R s6 b7 y10 b12 s13 w14)
theorem F30_ok (t0 : Sl) (w : World) (R : Value → World → Prop) (h : F30 t0 w R) : CW Try.prog 30 #[Value.slice t0.1 t0.2 t0.3] w R :=
  call_of tbOk mixed en30 Try.func30 rfl (.node (.nil) (.node (.nil) (.node (.nil) (.node (.nil) (.node (.loop [(6, .one (.sl))] [14, 15, 16, 17, 18, 19, 20, 21, 22, 23, 8, 7, 24, 9, 25, 26, 27, 28, 29, 30, 31, 6, 32, 33, 34, 35, 36, 37, 38, 2, 3] (.node (.nil) (.node (.node (.nil) (.loop [(6, .one (.sl)), (19, .one (.int .i64))] [20, 21, 22, 23, 8, 7, 24, 9, 25, 26, 27, 28, 29, 30, 31, 6, 32, 33, 34, 35, 36, 37, 38, 19] (.nil))) (.nil)))) (.nil)))))) (by kernel_rfl) (Nat.le_of_ble_eq_true (by kernel_rfl)) (Eq.mp (α := F30 t0 w R) (by kernel_rfl) h)
end Go.Proofs.Ytmmhbjbaallkfaa.Gx

/- Package serial: Order, May. -/
namespace Go.Proofs.Ytmmhbjbaallkfaa.Gx
open Go
set_option linter.unusedSimpArgs false
set_option linter.unusedVariables false
theorem c54 {w : World} {t : Sl} {xs : List Int} {i : Nat} (h : OwS w t 1 (xs.map iv)) (hi : i < xs.length) (hl : xs.length ≤ 1000000) :
    CW Try.prog 54 #[slV t, iv (i : Int), iv ((i + 1 : Nat) : Int)] w fun v w' => ∃ t', v = slV t' ∧ OwS w' t' 1 ((xs.eraseIdx i).map iv) ∧ t'.p = t.p ∧ Ch (fun j => j ∈ blk t) w w' := by
  have hn := owsI h
  refine F54_ok t (i : Int) ((i + 1 : Nat) : Int) w _ ?_
  have e : ∀ R, F54 t (i : Int) ((i + 1 : Nat) : Int) w R = DelF tt3 3 1 t (i : Int) ((i + 1 : Nat) : Int) w R := fun R => rfl
  rw [e]
  refine DelF_of h rfl rfl (fun v hv => by obtain ⟨x, _, rfl⟩ := List.mem_map.1 hv; rfl) (by intro y hy; simp [Value.cells] at hy; subst hy; rfl) (by omega) (by omega) ⟨by omega, ?_⟩ fun s' w' h1 h2 h3 h4 => ⟨s', rfl, ?_, h4, h3⟩
  · show 2 * t.n * 8 ≤ _
    omega
  · rw [Nat.mul_one, Nat.mul_one] at h1
    rw [List.eraseIdx_eq_take_drop_succ, List.map_append, List.map_take, List.map_drop]
    exact h1
/-- No saga of left is ahead of s. -/
def freeB (ah : List (Int × Int)) (left : List Int) (s : Int) : Bool := !(ah.any (waitB left s))
/-- What Order reckons. -/
def ordGo (ah : List (Int × Int)) : Nat → List Int → List Int → List Int × Bool
  | 0, _, out => (out, true)
  | n + 1, left, out => match left.findIdx? (freeB ah left) with
    | none => ([], false)
    | some i => ordGo ah n (left.eraseIdx i) (out ++ [left.getD i 0])
theorem c30 {w : World} {t : Sl} {hs : List Nd} (hH : Hst w t hs) (hl : hs.length ≤ 1000) (hq : SgR hs) :
    CW Try.prog 30 #[slV t] w fun v w' => ∃ t', ∃ l : List Int, ∃ ah : List (Int × Int), SgL hs l ∧ l.length ≤ hs.length ∧ (∀ p, p ∈ ah ↔ AhP hs p) ∧ v = .tuple #[slV t', .bool (ordGo ah l.length l []).2] ∧ OwS w' t' 1 ((ordGo ah l.length l []).1.map iv) ∧ Ext w w' ∧ ∀ j ∈ blk t', w.heap.size ≤ j := by
  refine F30_ok t w _ ((c26 hH).use ?_)
  rintro _ w2 ⟨s3, l, rfl, hSg, hll, ho3, e2, hb3⟩
  refine ⟨s3, rfl, (c21 (hH.ext e2) hl hq).use ?_⟩
  rintro _ w5 ⟨s6, ah, rfl, _, hah, hal, ho6, e5, hb6⟩
  refine ⟨s6, rfl, fun b7 w8 a8 => ⟨rfl, store_one a8.new (by simp) rfl fun w9 u9 => ?_⟩⟩
  have z2 := e2.size; have z5 := e5.size; have p8 := a8.here; have z8 := a8.size; have z9 := u9.size
  have x9 : Ext w w9 := ((e2.trans e5).trans (a8.ch _)).chN u9.ch fun j e => by omega
  have y9 : Ext w5 w9 := Ch.chN (a8.ch _) u9.ch fun j e => by omega
  have hb6l := ho6.lt
  have hb3l := ho3.lt
  refine ⟨fun m so W => ∃ (left out : List Int) (tl : Sl), m = left.length ∧ out.length + left.length = l.length ∧ OwS W so 1 (out.map iv) ∧ W.heap[b7]? = some (.cells #[slV tl] 31 (0, 0)) ∧ OwS W tl 1 (left.map iv) ∧ ordGo ah left.length left out = ordGo ah l.length l [] ∧ (Ext w W ∧ w9.heap.size ≤ W.heap.size) ∧ Rd W s6 2 (ah.flatMap sv) ∧ (∀ j ∈ blk so, w9.heap.size ≤ j ∧ j ∉ blk tl) ∧ (∀ j ∈ blk tl, w.heap.size ≤ j ∧ j ≠ b7),
    ⟨l.length, l, [], s3, rfl, by simp, .nil _ _, u9.new, (ho3.ext e5).ext y9, rfl, ⟨x9, Nat.le_refl _⟩, (ho6.ext y9).rd, by simp [blk], fun j hj => ⟨hb3 j hj, by have := hb3l j hj; omega⟩⟩, ?_⟩
  rintro m so W g ⟨left, out, tl, rfl, hlen, hO, h7, hT, hgo, ⟨hE, hz9⟩, hR6, hbo, hbt⟩
  have htn := owsI hT
  have hon := owsI hO
  unfold F30j1
  refine ⟨tl, by rw [cell_of h7]; rfl, IfB.dec (fun h0 => ?_) fun h0 => ?_⟩
  · have h0' : 0 < left.length := by omega
    obtain ⟨n', hn'⟩ : ∃ n', left.length = n' + 1 := ⟨left.length - 1, by omega⟩
    refine ⟨tl, by rw [cell_of h7]; rfl, fun q x W' => ∃ i : Nat, i ≤ left.length ∧ q + i = left.length ∧ x = (so, (i : Int)) ∧ Ext W W' ∧ ∀ j < i, ∀ s, left[j]? = some s → freeB ah left s = false, ⟨left.length, 0, Nat.zero_le _, rfl, rfl, Ch.refl _ _, fun j hj => by omega⟩, ?_⟩
    rintro q _ w23 g ⟨i, hi, hqi, rfl, e23, hno⟩
    unfold F30j2
    refine IfB.dec (fun hlt => ?_) fun hge => ?_
    · have hi' : i < left.length := by dsimp only at hlt; omega
      have hx : left[i]? = some left[i] := List.getElem?_eq_getElem hi'
      have hgd : left.getD i 0 = left[i] := by rw [List.getD_eq_getElem?_getD, hx]; rfl
      generalize left[i] = s at hx hgd
      obtain ⟨a, ha, hc⟩ := (hT.ext e23).elem1 (i := i) (v := iv s) (by rw [List.getElem?_map, hx]; rfl)
      refine ⟨a, 0, ha, (⟨by omega, by omega⟩ : (0 : Int) ≤ (i : Int) ∧ (i : Int) < (tl.n : Int)), s, by dsimp only; rw [Int.toNat_natCast, Nat.zero_add]; exact hc, fun b29 w30 a30 => ⟨rfl, store_one a30.new (by simp) rfl fun w31 u31 => ?_⟩⟩
      have p30 := a30.here; have z30 := a30.size; have z31 := u31.size
      have e31 : Ext W w31 := (e23.trans (a30.ch _)).chN u31.ch fun j e => by have := e23.size; omega
      have H7 := e31.at h7
      refine (c53 (t1 := (52, #[.pointer (some ⟨b29, 0, none⟩), .pointer (some ⟨b7, 0, none⟩)])) (q := waitB left s) (hR6.ext e31) hal fun x W' _ e' R' hR' => (c52 x ⟨_, e'.at u31.new⟩ ⟨_, e'.at H7⟩ ((hT.ext e31).ext e').rd (by omega)).use fun v w' ⟨hv, e''⟩ => hv ▸ hR' w' e'').use ?_
      rintro _ w33 ⟨rfl, e33⟩
      have e2333 : Ext w23 w33 := (Ch.chN (a30.ch _) u31.ch fun j e => by omega).trans e33
      have w1 : IntKind.i64.wrap ((i : Int) + 1) = ((i + 1 : Nat) : Int) := by rw [wrap_of (by omega) (by omega)]; rfl
      refine ⟨_, rfl, IfB.intro (fun hany => ⟨rfl, q - 1, by omega, i + 1, hi', by omega, by rw [w1], e23.trans e2333, fun j hj s' hs' => ?_⟩) fun hany => ?_⟩
      · by_cases hji : j = i
        · subst hji
          rw [hx] at hs'; cases hs'
          unfold freeB; rw [hany]; rfl
        · exact hno j (by omega) s' hs'
      · have hfree : freeB ah left s = true := by unfold freeB; rw [hany]; rfl
        have hfi : left.findIdx? (freeB ah left) = some i := by
          rw [List.findIdx?_eq_some_iff_getElem]
          refine ⟨hi', ?_, fun j hj => ?_⟩
          · rw [List.getElem?_eq_getElem hi'] at hx
            rw [Option.some.inj hx]; exact hfree
          · have := hno j hj _ (List.getElem?_eq_getElem (by omega))
            simp [this]
        have E33 : Ext W w33 := e23.trans e2333
        have X33 : Ext w w33 := hE.trans E33
        refine ⟨s, by rw [cell_of (e33.at u31.new)]; rfl, by decide, fun b37 w38 a38 => ?_⟩
        have E38 : Ext W w38 := E33.trans (a38.ch _)
        have zW := E38.size
        refine (hO.ext E38).lit (new := [iv s]) (T' := 3) a38.new rfl (oneIv s) rfl rfl (by omega) (by decide) fun s40 w41 ho41 hn41 hC41 hb41 => ?_
        have zE := hE.size; have z41 := hC41.size
        have x9s := x9.size
        have out41 : ∀ j ∈ blk s40, w9.heap.size ≤ j := fun j hj => by
          rcases hb41 j hj with h | h
          · exact (hbo j h).1
          · omega
        have X41 : Ext w w41 := (hE.trans E38).chN hC41 fun j hj => by have := (hbo j hj).1; omega
        have T41 : OwS w41 tl 1 (left.map iv) := (hT.ext E38).ch hC41 fun j hj h => (hbo j h).2 hj
        have H741 := hC41.at (E38.at h7) fun h => by have := (hbo b7 h).1; omega
        refine ⟨tl, by rw [cell_of H741]; rfl, (c41 T41.rd (by omega)).use ?_⟩
        rintro _ w44 ⟨s45, rfl, ho45, e44, hb45⟩
        dsimp only
        rw [w1]
        refine ⟨s45, rfl, (c54 ho45 hi' (by omega)).use ?_⟩
        rintro _ w47 ⟨s48, rfl, ho48, hp48, hC48⟩
        have hb48 : ∀ j ∈ blk s48, w41.heap.size ≤ j := fun j hj => hb45 j (by unfold blk at hj ⊢; rw [hp48] at hj; exact hj)
        have z44 := e44.size; have z48 := hC48.size
        have e47 : Ext w41 w47 := e44.chN hC48 fun j hj => hb45 j hj
        have hb7l := heap_lt H741
        refine ⟨s48, rfl, rfl, store_one (e47.at H741) (by simp) rfl fun w49 u49 => ⟨rfl, n', by omega, left.eraseIdx i, out ++ [s], s48, ?_, ?_, ?_, u49.new, ?_, ?_, ?_, ?_, fun j hj => ⟨out41 j hj, fun h => by have := hb48 j h; have := ho41.lt j hj; omega⟩, fun j hj => ⟨by have := hb48 j hj; have := X41.size; omega, by have := hb48 j hj; omega⟩⟩⟩
        · rw [List.length_eraseIdx, if_pos hi']; omega
        · rw [List.length_eraseIdx, if_pos hi', List.length_append, List.length_singleton]; omega
        · rw [List.map_append]
          exact (ho41.ext e47).ch u49.ch fun j hj e => by have := out41 j hj; omega
        · exact ho48.ch u49.ch fun j hj e => by have := hb48 j hj; omega
        · rw [← hgo, hn']
          show ordGo ah (left.eraseIdx i).length _ _ = match left.findIdx? (freeB ah left) with
            | none => ([], false)
            | some i => ordGo ah n' (left.eraseIdx i) (out ++ [left.getD i 0])
          rw [hfi]
          dsimp only
          rw [hgd, List.length_eraseIdx, if_pos hi', hn']; rfl
        · exact ⟨(X41.trans e47).chN u49.ch fun j e => by omega, by have := u49.size; omega⟩
        · refine (((hR6.ext E38).ch0 hC41 fun h0 j hj h => ?_).ext e47).ch0 u49.ch fun h0 j hj e => ?_
          · have := (hbo j h).1; have := hb6l j hj; omega
          · have := hb6l j hj; omega
    · have hi' : i = left.length := by dsimp only at hge; omega
      subst hi'
      have hnone : left.findIdx? (freeB ah left) = none := List.findIdx?_eq_none_iff.2 fun s hs => by
        obtain ⟨j, hj, rfl⟩ := List.getElem_of_mem hs
        exact hno j hj _ (List.getElem?_eq_getElem hj)
      have hres : ordGo ah l.length l [] = ([], false) := by
        rw [← hgo, hn']
        show (match left.findIdx? (freeB ah left) with
            | none => ([], false)
            | some i => ordGo ah n' (left.eraseIdx i) (out ++ [left.getD i 0])) = _
        rw [hnone]
      exact ⟨⟨none, 0, 0⟩, l, ah, hSg, hll, hah, by rw [hres], by rw [hres]; exact .nil _ _, hE.trans e23, by simp [blk]⟩
  · have h0' : left = [] := List.length_eq_zero_iff.1 (by omega)
    subst h0'
    have hres : ordGo ah l.length l [] = (out, true) := by rw [← hgo]; rfl
    exact ⟨so, l, ah, hSg, hll, hah, by rw [hres], by rw [hres]; exact hO, hE, fun j hj => by have := (hbo j hj).1; have := x9.size; omega⟩
theorem c32 {w : World} {t : Sl} {hs : List Nd} (hH : Hst w t hs) (hl : hs.length ≤ 1000) (hq : SgR hs) :
    CW Try.prog 32 #[slV t] w fun v w' => ∃ l : List Int, ∃ ah : List (Int × Int), SgL hs l ∧ (∀ p, p ∈ ah ↔ AhP hs p) ∧ v = .bool (ordGo ah l.length l []).2 ∧ Ext w w' := by
  refine F32_ok t w _ ((c30 hH hl hq).use ?_)
  rintro _ w2 ⟨t', l, ah, h1, _, h2, rfl, _, e2, _⟩
  exact ⟨(t', _), rfl, l, ah, h1, h2, rfl, e2⟩
end Go.Proofs.Ytmmhbjbaallkfaa.Gx

/- Tables of bools: slices of slices that are turned in place; reachability by Floyd and Warshall. -/
namespace Go.Proofs.Ytmmhbjbaallkfaa.Gx
open Go
set_option linter.unusedSimpArgs false
set_option linter.unusedVariables false
section
variable {E : Nat → Nat → Prop}
theorem Fw_trans : ∀ {m i j k : Nat}, j < m → Fw E m i j → Fw E m j k → Fw E m i k
  | 0, _, _, _, h, _, _ => by omega
  | m + 1, i, j, k, h, h1, h2 => by
    by_cases hj : j = m
    · subst hj
      refine .inr ⟨?_, ?_⟩
      · rcases h1 with h | h
        · exact h
        · exact h.1
      · rcases h2 with h | h
        · exact h
        · exact h.2
    · have hj' : j < m := by omega
      rcases h1 with h1 | ⟨h1, h1'⟩
      · rcases h2 with h2 | ⟨h2, h2'⟩
        · exact .inl (Fw_trans hj' h1 h2)
        · exact .inr ⟨Fw_trans hj' h1 h2, h2'⟩
      · rcases h2 with h2 | ⟨h2, h2'⟩
        · exact .inr ⟨h1, Fw_trans hj' h1' h2⟩
        · exact .inr ⟨h1, h2'⟩
end
theorem zc_all {z : Array Value} {v : Value} (h : ∀ x ∈ z.toList, x = v) (n : Nat) : zc z n = List.replicate (n * z.size) v := by
  refine List.eq_replicate_iff.2 ⟨zc_len z n, fun x hx => ?_⟩
  unfold zc Builtin.zeroCells at hx
  rw [Array.mem_toList_iff, Array.mem_map] at hx
  obtain ⟨i, hi, rfl⟩ := hx
  rw [Array.mem_range] at hi
  have h0 : 0 < z.size := by
    rcases Nat.eq_zero_or_pos z.size with h0 | h0
    · rw [h0, Nat.mul_zero] at hi; omega
    · exact h0
  have hm := Nat.mod_lt i h0
  rw [getElem!_pos z _ hm]
  exact h _ (by simp)
end Go.Proofs.Ytmmhbjbaallkfaa.Gx

/- Written by mkf.py: what is to be shown of functions, as Gx reckons it from their code. -/
namespace Go.Proofs.Ytmmhbjbaallkfaa.Gx
open Go
set_option linter.unusedVariables false
set_option maxRecDepth 100000
def F11j1 (t0 : Sl) (R : Value → World → Prop) (y1 : Nat → Int → World → Prop) (b3 : Nat) (n4 : Int) (w5 : World) : Prop :=
 IfB (decide (n4 < (t0.n : Int)))
 (∃ (b8 : Nat),
 ∃ (b9 : Nat),
 t0.1 = some ({ block := b8, off := b9 } : Addr) ∧
 ((0 : Int) ≤ n4 ∧ n4 < (t0.2 : Int)) ∧
 ∃ (s10 : Sl),
 w5.cell? ({ block := b8, off := b9 + n4.toNat * (6 : Nat) + (4 : Nat) } : Addr) = some (Value.slice s10.1 s10.2 s10.3) ∧
 IfB (decide ((40 : Int) < (s10.n : Int))) (R (Value.bool true) w5)
 (∃ (b11 : Nat),
 ∃ (b12 : Nat),
 t0.1 = some ({ block := b11, off := b12 } : Addr) ∧
 ((0 : Int) ≤ n4 ∧ n4 < (t0.2 : Int)) ∧
 ∃ (s13 : Sl),
 w5.cell? ({ block := b11, off := b12 + n4.toNat * (6 : Nat) + (5 : Nat) } : Addr) = some (Value.slice s13.1 s13.2 s13.3) ∧
 IfB (decide ((40 : Int) < (s13.n : Int))) (R (Value.bool true) w5) (([] : List Nat) = [] ∧ ∃ (b14 : Nat), b14 < b3 ∧ y1 b14 (IntKind.i64.wrap (n4 + (1 : Int))) w5)))
 (R (Value.bool (decide ((40 : Int) < (t0.n : Int)))) w5)
def F11 (t0 : Sl) (w : World) (R : Value → World → Prop) : Prop :=
 ∃ (y1 : Nat → Int → World → Prop),
 (∃ (b2 : Nat), y1 b2 (0 : Int) w) ∧
 ∀ (b3 : Nat) (n4 : Int) (w5 : World) (y6 : Nat → Value),
 y1 b3 n4 w5 →
 (F11j1 t0 R y1 b3 n4 w5)
theorem F11_ok (t0 : Sl) (w : World) (R : Value → World → Prop) (h : F11 t0 w R) : CW Try.prog 11 #[Value.slice t0.1 t0.2 t0.3] w R :=
  call_of tbOk mixed en11 Try.func11 rfl (.node (.nil) (.node (.node (.nil) (.loop [(3, .one (.int .i64))] [4, 5, 6, 7, 10, 11, 12, 13, 14, 15, 16, 17, 18, 19, 20, 21, 22, 23, 24, 25, 2, 8, 9, 3] (.nil))) (.nil))) (by kernel_rfl) (Nat.le_of_ble_eq_true (by kernel_rfl)) (Eq.mp (α := F11 t0 w R) (by kernel_rfl) h)
end Go.Proofs.Ytmmhbjbaallkfaa.Gx

/- The document's relation of a history (gimmalref15). -/
namespace Go.Proofs.Ytmmhbjbaallkfaa.Gx
open Go
set_option linter.unusedSimpArgs false
set_option linter.unusedVariables false
end Go.Proofs.Ytmmhbjbaallkfaa.Gx

/- Package gimmallaw15: what its statements ask first; lists against the document's relation. -/
namespace Go.Proofs.Ytmmhbjbaallkfaa.Gx
open Go
set_option linter.unusedSimpArgs false
set_option linter.unusedVariables false
/-- More than statements look at. -/
def GrtP (hs : List Nd) : Prop := (∃ n ∈ hs, 40 < n.rs.length ∨ 40 < n.ws.length) ∨ 40 < hs.length
theorem c11 {w : World} {t : Sl} {hs : List Nd} (hr : Rd w t 6 (hs.flatMap nL)) (hn : ∀ n ∈ hs, n.v.2.2.2.2.1.n = n.rs.length ∧ n.v.2.2.2.2.2.n = n.ws.length) (hl : hs.length ≤ 9223372036854775807) :
    CW Try.prog 11 #[slV t] w fun v w' => ∃ r, v = .bool r ∧ (r = true ↔ GrtP hs) ∧ w = w' := by
  have htn := rdN nL_len (by omega) hr
  refine F11_ok t w _ ⟨fun m x W => ∃ i : Nat, i ≤ hs.length ∧ m + i = hs.length ∧ x = (i : Int) ∧ w = W ∧ ∀ n ∈ hs.take i, ¬ (40 < n.rs.length ∨ 40 < n.ws.length), ⟨hs.length, 0, Nat.zero_le _, rfl, rfl, rfl, by simp⟩, ?_⟩
  rintro m _ _ g ⟨i, hi, hmi, rfl, rfl, hno⟩
  unfold F11j1
  refine IfB.dec (fun hlt => ?_) fun hge => ?_
  · have hi' : i < hs.length := by omega
    have hx : hs[i]? = some hs[i] := List.getElem?_eq_getElem hi'
    have htk := take_succ_get hx
    generalize hs[i] = x at hx htk
    have hxm := List.mem_of_getElem? hx
    obtain ⟨hnr, hnw⟩ := hn x hxm
    obtain ⟨b, o, hp, hc⟩ := hr.elem (i := i) (by omega) (by omega) (flatGet nL_len hx)
    have hb : (0 : Int) ≤ (i : Int) ∧ (i : Int) < (t.n : Int) := ⟨by omega, by omega⟩
    refine ⟨b, o, hp, hb, x.v.2.2.2.2.1, by rw [Int.toNat_natCast]; exact hc 4 _ rfl, IfB.dec (fun h => ⟨true, rfl, ⟨fun _ => .inl ⟨x, hxm, .inl (by omega)⟩, fun _ => rfl⟩, rfl⟩) fun h1 => ⟨b, o, hp, hb, x.v.2.2.2.2.2, by rw [Int.toNat_natCast]; exact hc 5 _ rfl, IfB.dec (fun h => ⟨true, rfl, ⟨fun _ => .inl ⟨x, hxm, .inr (by omega)⟩, fun _ => rfl⟩, rfl⟩) fun h2 => ⟨rfl, m - 1, by omega, i + 1, hi', by omega, by rw [wrap_of (by omega) (by omega)]; rfl, rfl, fun n hn' => ?_⟩⟩⟩
    rw [htk] at hn'
    rcases List.mem_append.1 hn' with h | h
    · exact hno n h
    · rw [List.mem_singleton.1 h]; omega
  · have hi' : i = hs.length := by omega
    subst hi'
    rw [List.take_length] at hno
    refine ⟨_, rfl, ?_, rfl⟩
    rw [decide_eq_true_eq]
    unfold GrtP
    constructor
    · exact fun h => .inr (by omega)
    · rintro (⟨n, hn, h⟩ | h)
      · exact absurd h (hno n hn)
      · omega
abbrev nilS : Sl := ⟨none, 0, 0⟩
end Go.Proofs.Ytmmhbjbaallkfaa.Gx

/- Package gimmallaw29: the document's example. -/
namespace Go.Proofs.Ytmmhbjbaallkfaa.Gx
open Go
set_option linter.unusedSimpArgs false
set_option linter.unusedVariables false
theorem freeB_iff {ah : List (Int × Int)} {left : List Int} {s : Int} : freeB ah left s = true ↔ ¬ ∃ a ∈ left, (a, s) ∈ ah := by
  unfold freeB
  rw [Bool.not_eq_true', List.any_eq_false]
  constructor
  · rintro h ⟨a, ha, hp⟩
    have := h _ hp
    unfold waitB at this
    simp [ha] at this
  · intro h p hp hw
    unfold waitB at hw
    simp only [Bool.and_eq_true, beq_iff_eq, decide_eq_true_eq] at hw
    exact h ⟨p.1, hw.2, by rw [← hw.1]; exact hp⟩
theorem freeB_no {ah : List (Int × Int)} {left : List Int} {s : Int} : freeB ah left s = false ↔ ∃ a ∈ left, (a, s) ∈ ah := by
  rw [← Bool.not_eq_true, freeB_iff]
  exact Classical.not_not
theorem SgL.uniq {hs : List Nd} {l m : List Int} (h : SgL hs l) (k : SgL hs m) : l = m := sorted_ext h.srt k.srt fun a => (h.mem a).trans (k.mem a).symm
/-- The example's nodes. -/
def exN (sa : Int) (s : Sl) (ws : List Spn) : Nd := ⟨(sa, 0, 0, false, nilS, s), [], ws⟩
theorem ex_cnf {a b : Int} {s t : Sl} {x y : Spn} : cnfP (exN a s [x]) (exN b t [y]) ↔ a ≠ b ∧ mtP [x] [y] := by
  unfold cnfP exN
  constructor
  · rintro ⟨h, ⟨k, _, ⟨z, hz, _⟩⟩ | h' | ⟨k, ⟨z, hz, _⟩, _⟩⟩
    · cases hz
    · exact ⟨h, h'⟩
    · cases hz
  · exact fun h => ⟨h.1, .inr (.inl h.2)⟩
theorem mt55 : mtP [(5, 5)] [(5, 5)] := ⟨5, ⟨_, List.mem_singleton.2 rfl, by unfold mayS; omega, by omega, by omega⟩, ⟨_, List.mem_singleton.2 rfl, by unfold mayS; omega, by omega, by omega⟩⟩
theorem mt66 : mtP [(6, 6)] [(6, 6)] := ⟨6, ⟨_, List.mem_singleton.2 rfl, by unfold mayS; omega, by omega, by omega⟩, ⟨_, List.mem_singleton.2 rfl, by unfold mayS; omega, by omega, by omega⟩⟩
theorem mt56 : ¬ mtP [(5, 5)] [(6, 6)] := by
  rintro ⟨k, h1, h2⟩
  rw [hasS_one] at h1 h2; omega
section
variable {p q : Sl}
def exH (p q : Sl) : List Nd := [exN 1 p [(5, 5)], exN 2 p [(5, 5)], exN 2 q [(6, 6)], exN 1 q [(6, 6)]]
theorem exAh (pr : Int × Int) : AhP (exH p q) pr ↔ pr = (1, 2) ∨ pr = (2, 1) := by
  constructor
  · rintro ⟨k, j, a, b, hkj, ha, hb, rfl, hc⟩
    have hj := (List.getElem?_eq_some_iff.1 hb).1
    have hj4 : j < 4 := hj
    match k, j, hkj, hj4, ha, hb with
    | 0, 1, _, _, ha, hb => cases ha; cases hb; exact .inl rfl
    | 0, 2, _, _, ha, hb => cases ha; cases hb; exact absurd (ex_cnf.1 hc).2 mt56
    | 0, 3, _, _, ha, hb => cases ha; cases hb; exact absurd rfl (ex_cnf.1 hc).1
    | 1, 2, _, _, ha, hb => cases ha; cases hb; exact absurd rfl (ex_cnf.1 hc).1
    | 1, 3, _, _, ha, hb => cases ha; cases hb; exact absurd (ex_cnf.1 hc).2 mt56
    | 2, 3, _, _, ha, hb => cases ha; cases hb; exact .inr rfl
    | k + 3, j, h1, h2, _, _ => exact absurd h1 (by omega)
  · rintro (rfl | rfl)
    · exact ⟨0, 1, _, _, by omega, rfl, rfl, rfl, ex_cnf.2 ⟨by omega, mt55⟩⟩
    · exact ⟨2, 3, _, _, by omega, rfl, rfl, rfl, ex_cnf.2 ⟨by omega, mt66⟩⟩
theorem exAh3 (pr : Int × Int) : AhP ((exH p q).take 3) pr ↔ pr = (1, 2) := by
  constructor
  · rintro ⟨k, j, a, b, hkj, ha, hb, rfl, hc⟩
    have hj := (List.getElem?_eq_some_iff.1 hb).1
    have hj4 : j < 3 := hj
    match k, j, hkj, hj4, ha, hb with
    | 0, 1, _, _, ha, hb => cases ha; cases hb; rfl
    | 0, 2, _, _, ha, hb => cases ha; cases hb; exact absurd (ex_cnf.1 hc).2 mt56
    | 1, 2, _, _, ha, hb => cases ha; cases hb; exact absurd rfl (ex_cnf.1 hc).1
    | k + 2, j, h1, h2, _, _ => exact absurd h1 (by omega)
  · rintro rfl
    exact ⟨0, 1, _, _, by omega, rfl, rfl, rfl, ex_cnf.2 ⟨by omega, mt55⟩⟩
theorem exSg : SgL (exH p q) [1, 2] := ⟨by decide, fun k => by simp [exH, exN]; omega⟩
theorem exSg3 : SgL ((exH p q).take 3) [1, 2] := ⟨by decide, fun k => by simp [exH, exN]; omega⟩
theorem exR : SgR (exH p q) := fun n hn => by
  simp only [exH, List.mem_cons, List.not_mem_nil, or_false] at hn
  rcases hn with rfl | rfl | rfl | rfl <;> simp [exN]
end
theorem c20 (w : World) : CW Try.prog 20 #[] w fun v w' => v = .bool true ∧ Ext w w' := by
  refine F20_ok w _ ⟨by decide, fun b1 w2 a2 => ⟨by decide, fun b3 w4 a4 => ⟨by decide, fun b5 w6 a6 => ?_⟩⟩⟩
  have e4 : Ext w2 w4 := a4.ch _
  have e6 : Ext w4 w6 := a6.ch _
  have E6 : Ext w w6 := ((a2.ch _).trans e4).trans e6
  have r5 : Rd w6 ⟨some ⟨b1, 0, none⟩, 1, 1⟩ 2 ([((5, 5) : Spn)].flatMap sv) := (((OwS.new (cs := [((5, 5) : Spn)].flatMap sv) (n := 1) (sz := 2) a2 rfl).ext e4).ext e6).rd
  have r6 : Rd w6 ⟨some ⟨b3, 0, none⟩, 1, 1⟩ 2 ([((6, 6) : Spn)].flatMap sv) := ((OwS.new (cs := [((6, 6) : Spn)].flatMap sv) (n := 1) (sz := 2) a4 rfl).ext e6).rd
  have rn : Rd w6 nilS 2 (([] : List Spn).flatMap sv) := (OwS.nil w6 2).rd
  obtain ⟨hs, hhs⟩ : ∃ hs : List Nd, hs = exH ⟨some ⟨b1, 0, none⟩, 1, 1⟩ ⟨some ⟨b3, 0, none⟩, 1, 1⟩ := ⟨_, rfl⟩
  have hH : Hst w6 ⟨some ⟨b5, 0, none⟩, 4, 4⟩ hs := by
    refine ⟨?_, fun n hn => ?_, by rw [hhs]; simp [exH], Nat.le_refl _⟩
    · rw [hhs]; exact (OwS.new (n := 4) (sz := 6) a6 rfl).rd
    · rw [hhs] at hn
      simp only [exH, List.mem_cons, List.not_mem_nil, or_false] at hn
      rcases hn with rfl | rfl | rfl | rfl
      · exact ⟨rn, r5, by simp [exN], by simp [exN]⟩
      · exact ⟨rn, r5, by simp [exN], by simp [exN]⟩
      · exact ⟨rn, r6, by simp [exN], by simp [exN]⟩
      · exact ⟨rn, r6, by simp [exN], by simp [exN]⟩
  have hlen : hs.length = 4 := by rw [hhs]; rfl
  have hR : SgR hs := by rw [hhs]; exact exR
  refine (c21 hH (by omega) hR).use ?_
  rintro _ w8 ⟨s9, xs, rfl, hsrt, hmem, _, hO, e8, _⟩
  have hxs : xs.Perm [(1, 2), (2, 1)] := by
    refine (List.perm_ext_iff_of_nodup ?_ (by decide)).2 fun p => ?_
    · exact hsrt.imp fun h e => by rw [e] at h; omega
    · rw [hmem, hhs, exAh]; simp
  have hn := owsN sv_len (by omega) hO
  rw [hxs.length_eq] at hn
  have hn : s9.n = 2 := hn
  refine ⟨s9, rfl, IfB.yes (by simp [hn]) ((c32 (hH.ext e8) (by omega) hR).use ?_)⟩
  rintro _ w11 ⟨l, ah, hl, hah, rfl, e11⟩
  have hl12 : l = [1, 2] := hl.uniq (by rw [hhs]; exact exSg)
  have hno : (ordGo ah l.length l []).2 = false := by
    subst hl12
    have f1 : freeB ah [1, 2] 1 = false := freeB_no.2 ⟨2, by simp, (hah _).2 (by rw [hhs, exAh]; simp)⟩
    have f2 : freeB ah [1, 2] 2 = false := freeB_no.2 ⟨1, by simp, (hah _).2 (by rw [hhs, exAh]; simp)⟩
    show (ordGo ah 2 [1, 2] []).2 = false
    unfold ordGo
    rw [List.findIdx?_eq_none_iff.2 (by
      intro x hx
      simp only [List.mem_cons, List.not_mem_nil, or_false] at hx
      rcases hx with rfl | rfl
      · exact f1
      · exact f2)]
  rw [hno]
  refine ⟨false, rfl, IfB.yes rfl ⟨⟨by omega, by omega⟩, ?_⟩⟩
  rw [slAddr_zero]
  refine (c32 (t := ⟨some ⟨b5, 0, none⟩, 3, 4⟩) (((hH.ext e8).ext e11).cut (k := 3) (by omega)) (by rw [List.length_take]; omega) fun n hn => hR n (List.mem_of_mem_take hn)).use ?_
  rintro _ w14 ⟨l', ah', hl', hah', rfl, e14⟩
  have hl12' : l' = [1, 2] := hl'.uniq (by rw [hhs]; exact exSg3)
  have hyes : (ordGo ah' l'.length l' []).2 = true := by
    subst hl12'
    have f1 : freeB ah' [1, 2] 1 = true := freeB_iff.2 fun ⟨a, _, h⟩ => by
      have := (hah' _).1 h
      rw [hhs, exAh3] at this
      simp at this
    have f2 : freeB ah' [2] 2 = true := freeB_iff.2 fun ⟨a, ha, h⟩ => by
      have := (hah' _).1 h
      rw [hhs, exAh3] at this
      simp at ha this
      omega
    show (ordGo ah' 2 [1, 2] []).2 = true
    unfold ordGo
    rw [show [(1 : Int), 2].findIdx? (freeB ah' [1, 2]) = some 0 by rw [List.findIdx?_cons, f1]; rfl]
    show (ordGo ah' 1 [2] _).2 = true
    unfold ordGo
    rw [show [(2 : Int)].findIdx? (freeB ah' [2]) = some 0 by rw [List.findIdx?_cons, f2]; rfl]
    rfl
  rw [hyes]
  exact ⟨true, rfl, rfl, ((E6.trans e8).trans e11).trans e14⟩
end Go.Proofs.Ytmmhbjbaallkfaa.Gx

/- Written by mkf.py: what is to be shown of functions, as Gx reckons it from their code. -/
namespace Go.Proofs.Ytmmhbjbaallkfaa.Gx
open Go
set_option linter.unusedVariables false
set_option maxRecDepth 100000
end Go.Proofs.Ytmmhbjbaallkfaa.Gx

/- Package gimmallaw15: its statements of histories. -/
namespace Go.Proofs.Ytmmhbjbaallkfaa.Gx
open Go
set_option linter.unusedSimpArgs false
set_option linter.unusedVariables false
abbrev tySp : Ty := .pair (.int .i64) (.int .i64)
abbrev tyNd : Ty := .pair (.int .i64) (.pair (.int .i64) (.pair (.int .i64) (.pair .bool (.pair (.sl tySp) (.sl tySp)))))
theorem pickAll {α : Type} {f : α → List Value} {Q : α → Prop} : ∀ {css : List (List Value)}, (∀ c ∈ css, ∃ n, c = f n ∧ Q n) → ∃ ns : List α, css = ns.map f ∧ ∀ n ∈ ns, Q n
  | [], _ => ⟨[], rfl, by simp⟩
  | c :: css, h => by
    obtain ⟨n, hn, hq⟩ := h c (by simp)
    obtain ⟨ns, hns, hqs⟩ := pickAll (css := css) fun c hc => h c (List.mem_cons_of_mem _ hc)
    exact ⟨n :: ns, by rw [hn, hns]; rfl, fun m hm => (List.mem_cons.1 hm).elim (fun e => e ▸ hq) (hqs m)⟩
theorem rep_each {A : Nat → Prop} {w : World} {e : Ty} {l : List e.den} {css : List (List Value)} (hl : css.length = l.length) (hr : ∀ (i : Nat) c x, css[i]? = some c → l[i]? = some x → rep A w e x c) : ∀ c ∈ css, ∃ x, rep A w e x c := fun c hc => by
  obtain ⟨i, hi, rfl⟩ := List.getElem_of_mem hc
  exact ⟨_, hr i _ _ (List.getElem?_eq_getElem hi) (List.getElem?_eq_getElem (by omega))⟩
/-- A list of spans, somewhere. -/
theorem rep_spans {A : Nat → Prop} {w : World} {l : List tySp.den} {cs : List Value} (h : rep A w (.sl tySp) l cs) : ∃ (s : Sl) (xs : List Spn), cs = [slV s] ∧ Rd w s 2 (xs.flatMap sv) ∧ s.n ≤ s.c ∧ s.c ≤ maxLen := by
  obtain ⟨s, rfl, h1, h2, h3, h4, css, h5, h6, h7⟩ := h
  obtain ⟨ns, hns, _⟩ := pickAll (f := sv) (Q := fun _ => True) fun c hc => by
    obtain ⟨x, c1, c2, rfl, hx1, hx2⟩ := rep_each h5 h6 c hc
    obtain ⟨rfl, _⟩ := hx1
    obtain ⟨rfl, _⟩ := hx2
    exact ⟨x, rfl, trivial⟩
  refine ⟨s, ns, rfl, ?_, h2, h3⟩
  rw [List.flatMap_def, ← hns]; exact h7
structure NdIn (w : World) (n : Nd) : Prop where
  rs : Rd w n.v.2.2.2.2.1 2 (n.rs.flatMap sv)
  ws : Rd w n.v.2.2.2.2.2 2 (n.ws.flatMap sv)
theorem NdIn.rn {w : World} {n : Nd} (h : NdIn w n) : n.v.2.2.2.2.1.n = n.rs.length ∧ n.v.2.2.2.2.2.n = n.ws.length := ⟨rdN sv_len (by omega) h.rs, rdN sv_len (by omega) h.ws⟩
theorem NdIn.ext {w w' : World} {n : Nd} (h : NdIn w n) (e : Ext w w') : NdIn w' n := ⟨h.rs.ext e, h.ws.ext e⟩
structure HIn (w : World) (t : Sl) (hs : List Nd) : Prop where
  rd : Rd w t 6 (hs.flatMap nL)
  nd : ∀ n ∈ hs, NdIn w n
  cap : t.n ≤ t.c
  len : hs.length ≤ maxLen
theorem HIn.n {w : World} {t : Sl} {hs : List Nd} (h : HIn w t hs) : t.n = hs.length := rdN nL_len (by omega) h.rd
theorem HIn.ext {w w' : World} {t : Sl} {hs : List Nd} (h : HIn w t hs) (e : Ext w w') : HIn w' t hs := ⟨h.rd.ext e, fun n hn => (h.nd n hn).ext e, h.cap, h.len⟩
theorem HIn.hst {w : World} {t : Sl} {hs : List Nd} (h : HIn w t hs) (hg : ¬ GrtP hs) : Hst w t hs := by
  refine ⟨h.rd, fun n hn => ⟨(h.nd n hn).rs, (h.nd n hn).ws, ?_, ?_⟩, ?_, h.cap⟩
  · have : ¬ 40 < n.rs.length := fun h' => hg (.inl ⟨n, hn, .inl h'⟩)
    omega
  · have : ¬ 40 < n.ws.length := fun h' => hg (.inl ⟨n, hn, .inr h'⟩)
    omega
  · have : ¬ 40 < hs.length := fun h' => hg (.inr h')
    omega
theorem maxLen_le : maxLen ≤ 9223372036854775807 := by decide +kernel
end Go.Proofs.Ytmmhbjbaallkfaa.Gx

/- Written by mkf.py: what is to be shown of functions, as Gx reckons it from their code. -/
namespace Go.Proofs.Ytmmhbjbaallkfaa.Gx
open Go
set_option linter.unusedVariables false
set_option maxRecDepth 100000
def F9j2 (t0 : Sl) (R : Value → World → Prop) (t31 : Bool) (w32 : World) : Prop :=
 IfB t31 (R (Value.bool false) w32)
 (CX Try.prog (23 : Nat) #[Value.slice t0.1 t0.2 t0.3] w32 fun (v35 : Value) (w36 : World) =>
 ∃ (s37 : Sl),
 v35 = Value.slice s37.1 s37.2 s37.3 ∧
 CX Try.prog (28 : Nat) #[Value.slice t0.1 t0.2 t0.3, Value.slice s37.1 s37.2 s37.3] w36 fun (v38 : Value) (w39 : World) =>
 ∃ (s40 : Sl),
 v38 = Value.slice s40.1 s40.2 s40.3 ∧
 CX Try.prog (33 : Nat) #[Value.slice s40.1 s40.2 s40.3] w39 fun (v41 : Value) (w42 : World) =>
 ∃ (t43 : Bool), v41 = Value.bool t43 ∧ IfB t43 (R (Value.bool ((s40.2 : Int) == (t0.2 : Int))) w42) (R (Value.bool false) w42))
def F9j1 (t0 : Sl) (R : Value → World → Prop) (t8 : Bool) (w9 : World) : Prop :=
 IfB t8 (R (Value.bool true) w9)
 (CX Try.prog (30 : Nat) #[Value.slice t0.1 t0.2 t0.3] w9 fun (v12 : Value) (w13 : World) =>
 ∃ (x14 : Sl × Bool),
 v12 = Value.tuple #[Value.slice x14.fst.1 x14.fst.2 x14.fst.3, Value.bool x14.2] ∧
 CX Try.prog (31 : Nat) #[Value.slice t0.1 t0.2 t0.3] w13 fun (v15 : Value) (w16 : World) =>
 ∃ (x17 : Sl × Bool),
 v15 = Value.tuple #[Value.slice x17.fst.1 x17.fst.2 x17.fst.3, Value.bool x17.2] ∧
 ∃ (y18 : Bool → World → Prop),
 IfB (!x14.2 == x17.2) (([] : List Nat) = [] ∧ y18 true w16)
 (CX Try.prog (25 : Nat) #[Value.slice x14.fst.1 x14.fst.2 x14.fst.3, Value.slice x17.fst.1 x17.fst.2 x17.fst.3] w16 fun (v19 : Value) (w20 : World) =>
 ∃ (t21 : Bool),
 v19 = Value.bool t21 ∧
 IfB (!t21) (([] : List Nat) = [] ∧ y18 true w20)
 (CX Try.prog (32 : Nat) #[Value.slice t0.1 t0.2 t0.3] w20 fun (v22 : Value) (w23 : World) =>
 ∃ (t24 : Bool),
 v22 = Value.bool t24 ∧
 IfB (!t24 == x17.2) (([] : List Nat) = [] ∧ y18 true w23)
 (CX Try.prog (33 : Nat) #[Value.slice t0.1 t0.2 t0.3] w23 fun (v25 : Value) (w26 : World) =>
 ∃ (t27 : Bool),
 v25 = Value.bool t27 ∧
 CX Try.prog (34 : Nat) #[Value.slice t0.1 t0.2 t0.3] w26 fun (v28 : Value) (w29 : World) => ∃ (t30 : Bool), v28 = Value.bool t30 ∧ ([] : List Nat) = [] ∧ y18 (!t27 == t30) w29))) ∧
 ∀ (t31 : Bool) (w32 : World) (y33 : Nat → Value),
 y18 t31 w32 →
 (F9j2 t0 R t31 w32))
def F9 (t0 : Sl) (w : World) (R : Value → World → Prop) : Prop :=
 CX Try.prog (20 : Nat) #[] w fun (v1 : Value) (w2 : World) =>
 ∃ (t3 : Bool),
 v1 = Value.bool t3 ∧
 IfB (!t3) (R (Value.bool false) w2)
 (∃ (y4 : Bool → World → Prop),
 (CX Try.prog (11 : Nat) #[Value.slice t0.1 t0.2 t0.3] w2 fun (v5 : Value) (w6 : World) =>
 ∃ (t7 : Bool), v5 = Value.bool t7 ∧ IfB t7 (([] : List Nat) = [] ∧ y4 true w6) (([] : List Nat) = [] ∧ y4 (decide ((20 : Int) < (t0.n : Int))) w6)) ∧
 ∀ (t8 : Bool) (w9 : World) (y10 : Nat → Value),
 y4 t8 w9 →
 (F9j1 t0 R t8 w9))
theorem F9_ok (t0 : Sl) (w : World) (R : Value → World → Prop) (h : F9 t0 w R) : CW Try.prog 9 #[Value.slice t0.1 t0.2 t0.3] w R :=
  call_of tbOk mixed en9 Try.func9 rfl (.node (.nil) (.node (.nil) (.node (.join [(16, .one (.bool))] [10, 11, 12, 13, 14, 15, 16] (.nil) (.nil)) (.node (.nil) (.node (.nil) (.node (.join [(48, .one (.bool))] [27, 28, 29, 30, 31, 32, 33, 34, 35, 36, 37, 38, 39, 40, 41, 42, 43, 44, 45, 46, 47, 48] (.nil) (.nil)) (.nil))))))) (by kernel_rfl) (Nat.le_of_ble_eq_true (by kernel_rfl)) (Eq.mp (α := F9 t0 w R) (by kernel_rfl) h)
end Go.Proofs.Ytmmhbjbaallkfaa.Gx

/- Package gimmallaw29: SerialAhead. -/
namespace Go.Proofs.Ytmmhbjbaallkfaa.Gx
open Go
set_option linter.unusedSimpArgs false
set_option linter.unusedVariables false
theorem rep_ndR {A : Nat → Prop} {w : World} {x : tyNd.den} {cs : List Value} (h : rep A w tyNd x cs) : ∃ n : Nd, cs = nL n ∧ NdIn w n ∧ (-9223372036854775808 ≤ n.v.1 ∧ n.v.1 ≤ 9223372036854775807) := by
  obtain ⟨c1, d1, rfl, ⟨rfl, k1, k2⟩, c2, d2, rfl, ⟨rfl, _⟩, c3, d3, rfl, ⟨rfl, _⟩, c4, d4, rfl, h4, c5, d5, rfl, h5, h6⟩ := h
  obtain ⟨s, xs, rfl, hxs, _⟩ := rep_spans h5
  obtain ⟨t, ys, rfl, hys, _⟩ := rep_spans h6
  have h4 : c4 = [.bool x.2.2.2.1] := h4
  subst h4
  exact ⟨⟨(x.1, x.2.1, x.2.2.1, x.2.2.2.1, s, t), xs, ys⟩, rfl, ⟨hxs, hys⟩, k1, k2⟩
theorem rep_histR {A : Nat → Prop} {w : World} {l : List tyNd.den} {cs : List Value} (h : rep A w (.sl tyNd) l cs) : ∃ (t : Sl) (hs : List Nd), cs = [slV t] ∧ HIn w t hs ∧ SgR hs := by
  obtain ⟨s, rfl, h1, h2, h3, h4, css, h5, h6, h7⟩ := h
  obtain ⟨ns, hns, hq⟩ := pickAll (f := nL) (Q := fun n => NdIn w n ∧ (-9223372036854775808 ≤ n.v.1 ∧ n.v.1 ≤ 9223372036854775807)) fun c hc => by
    obtain ⟨x, hx⟩ := rep_each h5 h6 c hc
    exact rep_ndR hx
  have hlen : ns.length = l.length := by rw [← h5, hns, List.length_map]
  refine ⟨s, ns, rfl, ⟨?_, fun n hn => (hq n hn).1, h2, by omega⟩, fun n hn => (hq n hn).2⟩
  rw [List.flatMap_def, ← hns]; exact h7
end Go.Proofs.Ytmmhbjbaallkfaa.Gx

/- Written by mkf.py: what is to be shown of functions, as Gx reckons it from their code. -/
namespace Go.Proofs.Ytmmhbjbaallkfaa.Gx
open Go
set_option linter.unusedVariables false
set_option maxRecDepth 100000
def F31j4 (s3 : Sl) (s6 : Sl) (b7 : Nat) (x19 : Int × Int) (y26 : Nat → Bool × Int → World → Prop) (b28 : Nat) (x29 : Bool × Int) (y33 : Nat → Bool × Int → World → Prop) (b35 : Nat) (x36 : Bool × Int) (w37 : World) : Prop :=
 IfB (decide (x36.snd < (s3.n : Int)))
 (IfB x36.1
 (∃ (b40 : Nat),
 ∃ (b41 : Nat),
 s6.1 = some ({ block := b40, off := b41 } : Addr) ∧
 ((0 : Int) ≤ x29.2 ∧ x29.2 < (s6.2 : Int)) ∧
 ((0 : Int) ≤ (1 : Int) ∧ (1 : Int) < ((2 : Nat) : Int)) ∧
 ∃ (n42 : Int),
 w37.drew.cell? ({ block := b40, off := b41 + x29.2.toNat * (2 : Nat) + Int.toNat (1 : Int) } : Addr) = some (Value.int IntKind.i64 n42) ∧
 ∃ (b43 : Nat),
 ∃ (b44 : Nat),
 s3.1 = some ({ block := b43, off := b44 } : Addr) ∧
 ((0 : Int) ≤ x19.2 ∧ x19.2 < (s3.2 : Int)) ∧
 ∃ (n45 : Int),
 w37.drew.cell? ({ block := b43, off := b44 + x19.2.toNat } : Addr) = some (Value.int IntKind.i64 n45) ∧
 IfB (n42 == n45)
 (∃ (b46 : Nat),
 ∃ (b47 : Nat),
 s6.1 = some ({ block := b46, off := b47 } : Addr) ∧
 ((0 : Int) ≤ x29.2 ∧ x29.2 < (s6.2 : Int)) ∧
 ((0 : Int) ≤ (0 : Int) ∧ (0 : Int) < ((2 : Nat) : Int)) ∧
 ∃ (n48 : Int),
 w37.drew.cell? ({ block := b46, off := b47 + x29.2.toNat * (2 : Nat) + Int.toNat (0 : Int) } : Addr) = some (Value.int IntKind.i64 n48) ∧
 ∃ (b49 : Nat),
 ∃ (b50 : Nat),
 s3.1 = some ({ block := b49, off := b50 } : Addr) ∧
 ((0 : Int) ≤ x36.2 ∧ x36.2 < (s3.2 : Int)) ∧
 ∃ (n51 : Int),
 w37.drew.cell? ({ block := b49, off := b50 + x36.2.toNat } : Addr) = some (Value.int IntKind.i64 n51) ∧
 IfB (n48 == n51)
 (∃ (b52 : Nat),
 ∃ (b53 : Nat),
 some ({ block := b7, off := (0 : Nat) } : Addr) = some ({ block := b52, off := b53 } : Addr) ∧
 ((0 : Int) ≤ x36.2 ∧ x36.2 < ((((s3.2 : Int)).toNat : Nat) : Int)) ∧
 ∃ (t54 : Bool), w37.drew.cell? ({ block := b52, off := b53 + x36.2.toNat } : Addr) = some (Value.bool t54) ∧ ([] : List Nat) = [] ∧ ∃ (b55 : Nat), b55 < b35 ∧ y33 b55 (!!t54, IntKind.i64.wrap (x36.2 + (1 : Int))) w37.drew)
 (([] : List Nat) = [] ∧ ∃ (b56 : Nat), b56 < b35 ∧ y33 b56 (!false, IntKind.i64.wrap (x36.2 + (1 : Int))) w37.drew))
 (([] : List Nat) = [] ∧ ∃ (b57 : Nat), b57 < b35 ∧ y33 b57 (!false, IntKind.i64.wrap (x36.2 + (1 : Int))) w37.drew))
 (([] : List Nat) = [] ∧ ∃ (b58 : Nat), b58 < b35 ∧ y33 b58 (false, IntKind.i64.wrap (x36.2 + (1 : Int))) w37.drew))
 (([] : List Nat) = [] ∧ ∃ (b59 : Nat), b59 < b28 ∧ y26 b59 (x36.1, IntKind.i64.wrap (x29.2 + (1 : Int))) w37)
def F31j3 (s3 : Sl) (s6 : Sl) (b7 : Nat) (y16 : Nat → Int × Int → World → Prop) (b18 : Nat) (x19 : Int × Int) (y26 : Nat → Bool × Int → World → Prop) (b28 : Nat) (x29 : Bool × Int) (w30 : World) : Prop :=
 IfB (decide (x29.snd < (s6.n : Int)))
 (∃ (y33 : Nat → Bool × Int → World → Prop),
 (∃ (b34 : Nat), y33 b34 (x29.1, (0 : Int)) w30) ∧
 ∀ (b35 : Nat) (x36 : Bool × Int) (w37 : World) (y38 : Nat → Value),
 y33 b35 x36 w37 →
 (F31j4 s3 s6 b7 x19 y26 b28 x29 y33 b35 x36 w37))
 (IfB x29.1 (([] : List Nat) = [] ∧ ∃ (b60 : Nat), b60 < b18 ∧ y16 b60 (x19.2, IntKind.i64.wrap (x19.2 + (1 : Int))) w30)
 (([] : List Nat) = [] ∧ ∃ (b61 : Nat), b61 < b18 ∧ y16 b61 (x19.1, IntKind.i64.wrap (x19.2 + (1 : Int))) w30))
def F31k1 (x19 : Int × Int) (R : Value → World → Prop) (w20 : World) (b7 : Nat) (s3 : Sl) (s12 : Sl) (b11 : Nat) (y9 : Nat → Sl → World → Prop) : Prop :=
 IfB (decide (x19.fst < (0 : Int))) (R (Value.tuple #[Value.slice none (0 : Nat) (0 : Nat), Value.bool false]) w20)
 (∃ (b74 : Nat),
 ∃ (b75 : Nat),
 some ({ block := b7, off := (0 : Nat) } : Addr) = some ({ block := b74, off := b75 } : Addr) ∧
 ((0 : Int) ≤ x19.1 ∧ x19.1 < ((((s3.2 : Int)).toNat : Nat) : Int)) ∧
 #[Value.bool true].size = (1 : Nat) ∧
 StoreP w20 b74 (b75 + x19.1.toNat) [Value.bool true] fun (w76 : World) =>
 ∃ (b77 : Nat),
 ∃ (b78 : Nat),
 s3.1 = some ({ block := b77, off := b78 } : Addr) ∧
 ((0 : Int) ≤ x19.1 ∧ x19.1 < (s3.2 : Int)) ∧
 ∃ (n79 : Int),
 w76.cell? ({ block := b77, off := b78 + x19.1.toNat } : Addr) = some (Value.int IntKind.i64 n79) ∧
 (1 : Nat) * (1 : Nat) ≤ (16777216 : Nat) ∧
 AllocP w76 (Obj.cells #[Value.int IntKind.i64 n79] (3 : Nat)) fun (b80 : Nat) (w81 : World) =>
 ∃ (l82 : List Value),
 ReadC w81 (some ({ block := b80, off := (0 : Nat) } : Addr)) ((1 : Nat) * (1 : Nat)) l82 ∧
 AppendP tt3 (3 : Nat) w81 s12.1 s12.2 s12.3 (1 : Nat) l82
 fun (s83 : Sl) (w84 : World) => ([] : List Nat) = [] ∧ ∃ (b85 : Nat), b85 < b11 ∧ y9 b85 { p := s83.1, n := s83.2, c := s83.3 } w84)
def F31j2 (R : Value → World → Prop) (s3 : Sl) (s6 : Sl) (b7 : Nat) (y9 : Nat → Sl → World → Prop) (b11 : Nat) (s12 : Sl) (y16 : Nat → Int × Int → World → Prop) (b18 : Nat) (x19 : Int × Int) (w20 : World) : Prop :=
 IfB (decide (x19.snd < (s3.n : Int)))
 (IfB (decide (x19.fst < (0 : Int)))
 (∃ (b23 : Nat),
 ∃ (b24 : Nat),
 some ({ block := b7, off := (0 : Nat) } : Addr) = some ({ block := b23, off := b24 } : Addr) ∧
 ((0 : Int) ≤ x19.2 ∧ x19.2 < ((((s3.2 : Int)).toNat : Nat) : Int)) ∧
 ∃ (t25 : Bool),
 w20.cell? ({ block := b23, off := b24 + x19.2.toNat } : Addr) = some (Value.bool t25) ∧
 ∃ (y26 : Nat → Bool × Int → World → Prop),
 (∃ (b27 : Nat), y26 b27 (!t25, (0 : Int)) w20) ∧
 ∀ (b28 : Nat) (x29 : Bool × Int) (w30 : World) (y31 : Nat → Value),
 y26 b28 x29 w30 →
 (F31j3 s3 s6 b7 y16 b18 x19 y26 b28 x29 w30))
 (F31k1 x19 R w20 b7 s3 s12 b11 y9))
 (F31k1 x19 R w20 b7 s3 s12 b11 y9)
def F31 (t0 : Sl) (w : World) (R : Value → World → Prop) : Prop :=
 CX Try.prog (23 : Nat) #[Value.slice t0.1 t0.2 t0.3] w fun (v1 : Value) (w2 : World) =>
 ∃ (s3 : Sl),
 v1 = Value.slice s3.1 s3.2 s3.3 ∧
 CX Try.prog (22 : Nat) #[Value.slice t0.1 t0.2 t0.3] w2 fun (v4 : Value) (w5 : World) =>
 ∃ (s6 : Sl),
 v4 = Value.slice s6.1 s6.2 s6.3 ∧
 ((0 : Int) ≤ (s3.2 : Int) ∧ (s3.2 : Int) ≤ (s3.2 : Int) ∧ (s3.2 : Int) ≤ (281474976710656 : Int) ∧ ((1 : Nat) : Int) * (s3.2 : Int) ≤ (281474976710656 : Int)) ∧
 AllocP w5 (Obj.cells { toList := zc #[Value.bool false] ((s3.2 : Int)).toNat } (4 : Nat)) fun (b7 : Nat) (w8 : World) =>
 ∃ (y9 : Nat → Sl → World → Prop),
 (∃ (b10 : Nat), y9 b10 { p := none, n := (0 : Nat), c := (0 : Nat) } w8) ∧
 ∀ (b11 : Nat) (s12 : Sl) (w13 : World) (y14 : Nat → Value),
 y9 b11 s12 w13 →
 IfB (decide ((s12.n : Int) < (s3.n : Int)))
 (∃ (y16 : Nat → Int × Int → World → Prop),
 (∃ (b17 : Nat), y16 b17 ((-1 : Int), (0 : Int)) w13) ∧
 ∀ (b18 : Nat) (x19 : Int × Int) (w20 : World) (y21 : Nat → Value),
 y16 b18 x19 w20 →
 (F31j2 R s3 s6 b7 y9 b11 s12 y16 b18 x19 w20))
 (R (Value.tuple #[Value.slice s12.1 s12.2 s12.3, Value.bool true]) w13)
theorem F31_ok (t0 : Sl) (w : World) (R : Value → World → Prop) (h : F31 t0 w R) : CW Try.prog 31 #[Value.slice t0.1 t0.2 t0.3] w R :=
  call_of tbOk mixed en31 Try.func31 rfl (.node (.nil) (.node (.nil) (.node (.nil) (.node (.nil) (.node (.loop [(7, .one (.sl))] [20, 21, 22, 23, 24, 8, 9, 25, 26, 27, 28, 29, 30, 31, 32, 35, 36, 37, 38, 39, 10, 11, 40, 41, 42, 43, 12, 46, 47, 48, 49, 52, 53, 54, 55, 56, 57, 58, 59, 60, 61, 62, 63, 64, 65, 66, 67, 68, 69, 70, 71, 72, 73, 74, 75, 76, 77, 78, 79, 80, 81, 82, 83, 84, 50, 51, 44, 45, 85, 86, 33, 34, 87, 88, 2, 3, 89, 90, 91, 92, 93, 94, 95, 96, 97, 98, 7] (.node (.nil) (.node (.nil) (.node (.node (.nil) (.loop [(8, .one (.int .i64)), (9, .one (.int .i64))] [25, 26, 27, 28, 29, 30, 31, 32, 35, 36, 37, 38, 39, 10, 11, 40, 41, 42, 43, 12, 46, 47, 48, 49, 52, 53, 54, 55, 56, 57, 58, 59, 60, 61, 62, 63, 64, 65, 66, 67, 68, 69, 70, 71, 72, 73, 74, 75, 76, 77, 78, 79, 80, 81, 82, 83, 84, 50, 51, 44, 45, 85, 86, 8, 33, 34, 9] (.node (.nil) (.node (.node (.nil) (.node (.node (.nil) (.loop [(10, .one (.bool)), (11, .one (.int .i64))] [40, 41, 42, 43, 12, 46, 47, 48, 49, 52, 53, 54, 55, 56, 57, 58, 59, 60, 61, 62, 63, 64, 65, 66, 67, 68, 69, 70, 71, 72, 73, 74, 75, 76, 77, 78, 79, 80, 81, 82, 83, 84, 10, 50, 51, 44, 45, 11] (.node (.nil) (.node (.node (.nil) (.loop [(10, .one (.bool)), (12, .one (.int .i64))] [46, 47, 48, 49, 52, 53, 54, 55, 56, 57, 58, 59, 60, 61, 62, 63, 64, 65, 66, 67, 68, 69, 70, 71, 72, 73, 74, 75, 76, 77, 78, 79, 80, 81, 82, 83, 84, 10, 50, 51, 12] (.node (.nil) (.node (.draw (.st 0 (.st 1 (.st 2 (.st 3 (.st 4 (.st 5 (.st 6 (.st 7 (.st 8 (.st 9 (.st 10 (.st 11 (.st 12 (.st 13 (.st 14 (.st 15 (.st 16 (.st 17 (.st 18 (.st 19 (.st 20 (.st 21 (.st 22 (.st 23 (.st 24 (.st 25 (.st 26 (.st 27 (.st 28 (.st 29 (.st 30 (.st 31 (.st 32 (.st 33 (.fin)))))))))))))))))))))))))))))))))))) (.nil))))) (.nil))))) (.nil))) (.nil))))) (.nil))))) (.nil)))))) (by kernel_rfl) (Nat.le_of_ble_eq_true (by kernel_rfl)) (Eq.mp (α := F31 t0 w R) (by kernel_rfl) h)
end Go.Proofs.Ytmmhbjbaallkfaa.Gx

/- Package serial: Put; the document's Put; two histories compared. -/
namespace Go.Proofs.Ytmmhbjbaallkfaa.Gx
open Go
set_option linter.unusedSimpArgs false
set_option linter.unusedVariables false
def putL (hs : List Nd) : List Int → List Int → List Nd
  | _, [] => []
  | seen, s :: r => (if s ∈ seen then [] else ownL hs s) ++ putL hs (seen ++ [s]) r
theorem putL_add (hs : List Nd) : ∀ (a seen : List Int) (s : Int), putL hs seen (a ++ [s]) = putL hs seen a ++ if s ∈ seen ++ a then [] else ownL hs s
  | [], seen, s => by simp [putL]
  | x :: a, seen, s => by
    simp only [List.cons_append, putL, putL_add hs a (seen ++ [x]) s, List.append_assoc, List.nil_append]
theorem putL_len {hs : List Nd} (hl : hs.length ≤ 1000) : ∀ (a seen : List Int), (putL hs seen a).length ≤ a.length * 1000
  | [], seen => by simp [putL]
  | x :: a, seen => by
    have h1 := putL_len hl a (seen ++ [x])
    have h2 := ownL_len hs x
    rw [putL, List.length_append, List.length_cons]
    split
    · rw [List.length_nil]; omega
    · omega
theorem NdF.move {F : Nat → Prop} {w w' : World} {m m' : Nat} {bs bs' : List Nat} {n : Nd} (h : NdF w m bs n) (hc : Ch F w w') (hF : ∀ j, m ≤ j → j < w.heap.size → j ∉ bs → ¬ F j ∧ m' ≤ j ∧ j ∉ bs') : NdF w' m' bs' n :=
  ⟨h.rs.ch hc fun j hj => (hF j (h.rn j hj).1 (h.rs.lt j hj) (h.rn j hj).2).1, h.ws.ch hc fun j hj => (hF j (h.wn j hj).1 (h.ws.lt j hj) (h.wn j hj).2).1, fun j hj => (hF j (h.rn j hj).1 (h.rs.lt j hj) (h.rn j hj).2).2, fun j hj => (hF j (h.wn j hj).1 (h.ws.lt j hj) (h.wn j hj).2).2⟩
theorem c28 {w : World} {t u : Sl} {hs : List Nd} {ord : List Int} (hH : HsK w t hs) (hl : hs.length ≤ 1000) (ho : Rd w u 1 (ord.map iv)) (hol : ord.length ≤ 1000) (hcap : u.n ≤ u.c) :
    CW Try.prog 28 #[slV t, slV u] w fun v w' => ∃ t' ns, v = slV t' ∧ ns.map dOf = (putL hs [] ord).map dOf ∧ OwN w' w.heap.size t' ns ∧ Ext w w' := by
  have hun := rdI ho
  refine F28_ok t u w _ ⟨fun m x W => ∃ (i : Nat) (so : Sl) (ds : List Nd), i ≤ ord.length ∧ m + i = ord.length ∧ x = (so, (i : Int)) ∧ ds.map dOf = (putL hs [] (ord.take i)).map dOf ∧ OwN W w.heap.size so ds ∧ Ext w W, ⟨ord.length, 0, ⟨none, 0, 0⟩, [], Nat.zero_le _, rfl, rfl, rfl, ⟨.nil _ _, by simp, by simp [blk]⟩, Ch.refl _ _⟩, ?_⟩
  rintro m _ W g ⟨i, so, ds, hi, hmi, rfl, hds, hO, hE⟩
  have hdl : ds.length ≤ i * 1000 := by
    have h1 := congrArg List.length hds
    have h2 := putL_len hl (ord.take i) []
    rw [List.length_map, List.length_map] at h1
    rw [List.length_take, Nat.min_eq_left hi] at h2
    omega
  have hon := owsN nL_len (by omega) hO.own
  unfold F28j1
  refine IfB.dec (fun hlt => ?_) fun hge => ?_
  · have hi' : i < ord.length := by dsimp only at hlt; omega
    have hx : ord[i]? = some ord[i] := List.getElem?_eq_getElem hi'
    have htk := take_succ_get hx
    generalize ord[i] = s at hx htk
    obtain ⟨a, o, hp, hc⟩ := rdI_get (ho.ext hE) hx
    refine ⟨a, o, hp, (⟨by omega, by omega⟩ : (0 : Int) ≤ (i : Int) ∧ (i : Int) < (u.n : Int)), s, by dsimp only; rw [Int.toNat_natCast]; exact hc, (⟨by omega, by omega⟩ : (0 : Int) ≤ (i : Int) ∧ (i : Int) ≤ (u.c : Int)), ?_⟩
    show CX _ _ #[slV ⟨slAddr u.p u.c 0 1, ((i : Int)).toNat, u.c⟩, iv s] _ _
    rw [slAddr_zero, Int.toNat_natCast]
    have hcut := (ho.ext hE).cut (k := i) (by omega)
    rw [Nat.mul_one, ← List.map_take] at hcut
    refine (c39 hcut (by rw [List.length_take]; omega) s).use ?_
    rintro _ _ ⟨rfl, rfl⟩
    refine ⟨_, rfl, IfB.intro (fun h => ?_) fun h => ?_⟩
    · have hns' : s ∉ ord.take i := by simpa using h
      refine (c48 (hH.ext hE) s).use ?_
      rintro _ w15 ⟨s16, ns, rfl, hns, hN, e15⟩
      have hsn := owsN nL_len (by omega) hN.own
      have hnl : ns.length ≤ 1000 := by
        have h1 := congrArg List.length hns
        rw [List.length_map, List.length_map] at h1
        have h2 := ownL_len hs s
        omega
      refine ⟨s16, rfl, ns.flatMap nL, hN.own.readAll, (hO.own.ext e15).append rfl rfl (by rw [flatLen nL_len, hsn]) (flatOne nL_one _) ⟨by omega, ?_⟩ fun s18 w19 ho18 hn18 hC18 hbk _ => ⟨rfl, m - 1, by omega, i + 1, s18, ds ++ ns, hi', by omega, by rw [wrap_of (by omega) (by omega)]; rfl, ?_, ⟨?_, fun n hn => ?_, fun j hj => ?_⟩, ?_⟩⟩
      · show 2 * (so.n + s16.n) * 80 ≤ _
        omega
      · rw [htk, putL_add, List.map_append, List.map_append, hds, hns, List.nil_append, if_neg hns']
      · rw [List.flatMap_append]; exact ho18
      · have z15 := e15.size
        have hbl := hO.own.lt
        rcases List.mem_append.1 hn with h' | h'
        · exact ((hO.ok n h').ext e15).move hC18 fun j h1 h2 h3 => ⟨h3, h1, fun h4 => (hbk j h4).elim h3 fun h5 => by omega⟩
        · refine (hN.ok n h').move hC18 fun j h1 h2 h3 => ⟨fun h4 => by have := hbl j h4; omega, ?_, fun h4 => (hbk j h4).elim (fun h5 => by have := hbl j h5; omega) fun h5 => by omega⟩
          have := hE.size; omega
      · have := hE.size; have := e15.size
        rcases hbk j hj with h | h
        · exact hO.new j h
        · omega
      · exact (hE.trans e15).chN hC18 hO.new
    · have hns' : s ∈ ord.take i := by simpa using h
      refine ⟨rfl, m - 1, by omega, i + 1, so, ds, hi', by omega, by rw [wrap_of (by omega) (by omega)]; rfl, ?_, hO, hE⟩
      rw [htk, putL_add, List.nil_append, if_pos hns', List.append_nil, hds]
  · have hi' : i = ord.length := by dsimp only at hge; omega
    subst hi'
    rw [List.take_length] at hds
    exact ⟨so, ds, rfl, hds, hO, hE⟩
end Go.Proofs.Ytmmhbjbaallkfaa.Gx

/- The document's order of sagas. -/
namespace Go.Proofs.Ytmmhbjbaallkfaa.Gx
open Go
set_option linter.unusedSimpArgs false
set_option linter.unusedVariables false
/-- What isn't told. -/
def leftOf : List Int → List Bool → List Int
  | x :: s, t :: ts => if t then leftOf s ts else x :: leftOf s ts
  | _, _ => []
theorem left_mem {y : Int} : ∀ {s : List Int} {ts : List Bool}, y ∈ leftOf s ts ↔ ∃ j : Nat, s[j]? = some y ∧ ts[j]? = some false
  | [], ts => by simp [leftOf]
  | x :: s, [] => by simp [leftOf]
  | x :: s, t :: ts => by
    have ih := left_mem (y := y) (s := s) (ts := ts)
    unfold leftOf
    constructor
    · intro h
      cases t
      · simp only [Bool.false_eq_true, if_false, List.mem_cons] at h
        rcases h with rfl | h
        · exact ⟨0, rfl, rfl⟩
        · obtain ⟨j, h1, h2⟩ := ih.1 h; exact ⟨j + 1, h1, h2⟩
      · simp only [if_true] at h
        obtain ⟨j, h1, h2⟩ := ih.1 h; exact ⟨j + 1, h1, h2⟩
    · rintro ⟨j, h1, h2⟩
      cases j with
      | zero =>
        have h2 : t = false := Option.some.inj h2
        have h1 : x = y := Option.some.inj h1
        subst h2; subst h1; simp
      | succ j =>
        have := ih.2 ⟨j, h1, h2⟩
        split
        · exact this
        · exact List.mem_cons_of_mem _ this
theorem left_all : ∀ s : List Int, leftOf s (List.replicate s.length false) = s
  | [] => rfl
  | x :: s => by rw [List.length_cons, List.replicate_succ, leftOf, left_all s]; simp
/-- The first one that is ready. -/
theorem left_first {f : Int → Bool} : ∀ {s : List Int} {ts : List Bool} {j : Nat} {x : Int}, s[j]? = some x → ts[j]? = some false → f x = true → (∀ j', j' < j → ∀ x', s[j']? = some x' → ts[j']? = some false → f x' = false) →
    ∃ i, (leftOf s ts).findIdx? f = some i ∧ (leftOf s ts).getD i 0 = x ∧ (leftOf s ts).eraseIdx i = leftOf s (ts.set j true)
  | [], ts, j, x, h, _, _, _ => by simp at h
  | y :: s, [], j, x, _, h, _, _ => by simp at h
  | y :: s, t :: ts, 0, x, h1, h2, h3, _ => by
    have h2 : t = false := Option.some.inj h2
    have h1 : y = x := Option.some.inj h1
    subst h2; subst h1
    exact ⟨0, by simp [leftOf, List.findIdx?_cons, h3], rfl, by simp [leftOf]⟩
  | y :: s, t :: ts, j + 1, x, h1, h2, h3, h4 => by
    obtain ⟨i, i1, i2, i3⟩ := left_first (s := s) (ts := ts) (j := j) h1 h2 h3 fun j' hj x' a b => h4 (j' + 1) (by omega) x' a b
    cases t with
    | true => exact ⟨i, by simpa [leftOf] using i1, by simpa [leftOf] using i2, by simpa [leftOf] using i3⟩
    | false =>
      have hy := h4 0 (by omega) y rfl rfl
      refine ⟨i + 1, ?_, ?_, ?_⟩
      · simp [leftOf, List.findIdx?_cons, hy, i1]
      · simpa [leftOf] using i2
      · simp [leftOf, i3]
theorem left_none {f : Int → Bool} {s : List Int} {ts : List Bool} (h : ∀ (j : Nat) x, s[j]? = some x → ts[j]? = some false → f x = false) : (leftOf s ts).findIdx? f = none := by
  rw [List.findIdx?_eq_none_iff]
  intro x hx
  obtain ⟨j, h1, h2⟩ := left_mem.1 hx
  exact h j x h1 h2
theorem setB {l : List Bool} {i : Nat} {b : Bool} (hi : i < l.length) : (l.map Value.bool).take i ++ [Value.bool b] ++ (l.map Value.bool).drop (i + 1) = (l.set i b).map Value.bool := by
  rw [List.map_set, List.set_eq_take_append_cons_drop, if_pos (by rw [List.length_map]; exact hi)]; simp
theorem c31 {w : World} {t : Sl} {hs : List Nd} (hH : Hst w t hs) (hl : hs.length ≤ 1000) (hq : SgR hs) :
    CW Try.prog 31 #[slV t] w fun v w' => ∃ t', ∃ l : List Int, ∃ ah : List (Int × Int), SgL hs l ∧ l.length ≤ hs.length ∧ (∀ p, p ∈ ah ↔ AhP hs p) ∧ v = .tuple #[slV t', .bool (ordGo ah l.length l []).2] ∧ OwS w' t' 1 ((ordGo ah l.length l []).1.map iv) ∧ Ext w w' ∧ ∀ j ∈ blk t', w.heap.size ≤ j := by
  refine F31_ok t w _ ((c23 hH).use ?_)
  rintro _ w2 ⟨s3, l, rfl, hSg, hll, ho3, e2, hb3⟩
  refine ⟨s3, rfl, (c22 (hH.ext e2) hl hq).use ?_⟩
  rintro _ w5 ⟨s6, ah, rfl, _, hah, hal, ho6, e5, hb6⟩
  have hln := owsI ho3
  have han := owsN sv_len (by omega) ho6
  refine ⟨s6, rfl, ⟨by omega, by omega, by omega, by omega⟩, fun b7 w8 a8 => ?_⟩
  rw [Int.toNat_natCast, zc_all (v := Value.bool false) (by intro x hx; simpa using hx), hln] at a8
  obtain ⟨st, hst⟩ : ∃ st : Sl, st = ⟨some ⟨b7, 0, none⟩, l.length, l.length⟩ := ⟨_, rfl⟩
  have z2 := e2.size; have z5 := e5.size; have p8 := a8.here; have z8 := a8.size
  have hbs : blk st = [b7] := by rw [hst]; rfl
  have x8 : Ext w w8 := (e2.trans e5).trans (a8.ch _)
  have y8 : Ext w5 w8 := a8.ch _
  have hT0 : OwS w8 st 1 ((List.replicate l.length false).map Value.bool) := by
    rw [hst]
    refine OwS.new (w := w5) (T := 4) (cs := (List.replicate l.length false).map Value.bool) ?_ (by simp)
    have : (List.replicate l.length false).map Value.bool = List.replicate (l.length * #[Value.bool false].size) (Value.bool false) := by rw [List.map_replicate]; simp
    rw [this]; exact a8
  refine ⟨fun m so W => ∃ (told : List Bool) (out : List Int), m + out.length = l.length ∧ out.length + (leftOf l told).length = l.length ∧ told.length = l.length ∧ OwS W so 1 (out.map iv) ∧ OwS W st 1 (told.map Value.bool) ∧ ordGo ah (leftOf l told).length (leftOf l told) out = ordGo ah l.length l [] ∧ Ext w W ∧ (Ext w5 W ∧ w8.heap.size ≤ W.heap.size) ∧ ∀ j ∈ blk so, w8.heap.size ≤ j,
    ⟨l.length, List.replicate l.length false, [], rfl, by rw [left_all]; simp, by simp, .nil _ _, hT0, by rw [left_all], x8, ⟨y8, Nat.le_refl _⟩, by simp [blk]⟩, ?_⟩
  rintro m so W g ⟨told, out, hm, hlen, htl, hO, hT, hgo, hE, ⟨hE5, hz⟩, hb⟩
  have hon := owsI hO
  refine IfB.dec (fun hlt => ?_) fun hge => ?_
  · have hlo : out.length < l.length := by omega
    obtain ⟨lf, hlf⟩ : ∃ lf, lf = leftOf l told := ⟨_, rfl⟩
    rw [← hlf] at hlen hgo
    obtain ⟨n', hn'⟩ : ∃ n', lf.length = n' + 1 := ⟨lf.length - 1, by omega⟩
    let NR : Nat → Prop := fun j => ∀ x, l[j]? = some x → told[j]? = some false → freeB ah lf x = false
    let RD : Nat → Prop := fun j => ∃ x, l[j]? = some x ∧ told[j]? = some false ∧ freeB ah lf x = true
    refine ⟨fun q x W' => ∃ i : Nat, i ≤ l.length ∧ q + i = l.length ∧ ((x = ((-1 : Int), (i : Int)) ∧ ∀ j, j < i → NR j) ∨ ∃ j : Nat, x = ((j : Int), (i : Int)) ∧ RD j ∧ ∀ j', j' < j → NR j') ∧ Ext W W', ⟨l.length, 0, Nat.zero_le _, rfl, .inl ⟨rfl, fun j hj => by omega⟩, Ch.refl _ _⟩, ?_⟩
    rintro q x w20 g ⟨i, hi, hqi, hst2, e20⟩
    -- the end of a round
    have fin : ∀ j : Nat, RD j → (∀ j', j' < j → NR j') → x = ((j : Int), (i : Int)) → F31k1 x (fun v w' => ∃ t', ∃ l : List Int, ∃ ah : List (Int × Int), SgL hs l ∧ l.length ≤ hs.length ∧ (∀ p, p ∈ ah ↔ AhP hs p) ∧ v = .tuple #[slV t', .bool (ordGo ah l.length l []).2] ∧ OwS w' t' 1 ((ordGo ah l.length l []).1.map iv) ∧ Ext w w' ∧ ∀ j ∈ blk t', w.heap.size ≤ j) w20 b7 s3 so m (fun m so W => ∃ (told : List Bool) (out : List Int), m + out.length = l.length ∧ out.length + (leftOf l told).length = l.length ∧ told.length = l.length ∧ OwS W so 1 (out.map iv) ∧ OwS W st 1 (told.map Value.bool) ∧ ordGo ah (leftOf l told).length (leftOf l told) out = ordGo ah l.length l [] ∧ Ext w W ∧ (Ext w5 W ∧ w8.heap.size ≤ W.heap.size) ∧ ∀ j ∈ blk so, w8.heap.size ≤ j) := by
      rintro j ⟨y, hy, hty, hfy⟩ hno rfl
      obtain ⟨ix, ix1, ix2, ix3⟩ := left_first hy hty hfy hno
      rw [← hlf] at ix1 ix2 ix3
      have hjl : j < l.length := (List.getElem?_eq_some_iff.1 hy).1
      refine IfB.no (by simp) ⟨b7, 0, rfl, ⟨by dsimp only; omega, by dsimp only; omega⟩, rfl, ?_⟩
      dsimp only
      rw [Int.toNat_natCast, Nat.zero_add]
      have hst1 : st.n = l.length := by rw [hst]
      refine (hT.ext e20).store (vs := [Value.bool true]) (by rw [hst]) (by simp; omega) (by intro v hv; rw [List.mem_singleton.1 hv]; rfl) fun w76 hT76 hC76 => ?_
      rw [show [Value.bool true].length = 1 from rfl, setB (by omega)] at hT76
      have z20 := e20.size
      have k5 : Ext w5 w76 := (hE5.trans e20).chN hC76 fun j e => by omega
      have k0 : Ext w w76 := (hE.trans e20).chN hC76 fun j e => by omega
      obtain ⟨a, ha, hc⟩ := owsI_get ((ho3.ext e5).ext k5) hy
      refine ⟨a, 0, ha, ⟨by omega, by omega⟩, y, hc, by decide, fun b80 w81 a81 => ?_⟩
      have hO76 : OwS w76 so 1 (out.map iv) := (hO.ext e20).ch hC76 fun i hi e => by have := hb i hi; omega
      refine (hO76.ext (a81.ch _)).lit (new := [iv y]) (T' := 3) a81.new rfl (oneIv _) rfl rfl (by omega) (by decide) fun s' w' ho' hn2 hC' hbk => ⟨rfl, m - 1, by omega, told.set j true, out ++ [y], by simp; omega, ?_, by simp [htl], ?_, ?_, ?_, ?_, ⟨?_, ?_⟩, fun i hi => ?_⟩
      · rw [← ix3, List.length_append, List.length_singleton, List.length_eraseIdx, if_pos (List.findIdx?_eq_some_iff_getElem.1 ix1).1]; omega
      · rw [List.map_append]; exact ho'
      · exact (hT76.ext (a81.ch _)).ch hC' fun i hi e => by rw [hbs] at hi; have := hb i e; simp at hi; omega
      · rw [← hgo, ← ix3, hn', List.length_eraseIdx, if_pos (List.findIdx?_eq_some_iff_getElem.1 ix1).1, hn']
        show ordGo ah n' _ _ = ordGo ah (n' + 1) lf out
        rw [ordGo, ix1]
        simp only [ix2]
      · exact (k0.trans (a81.ch _)).chN hC' fun i hi => by have := hb i hi; omega
      · exact (k5.trans (a81.ch _)).chN hC' fun i hi => by have := hb i hi; omega
      · have := hC'.size; have := a81.size; have := hC76.size; omega
      · rcases hbk i hi with h | h
        · exact hb i h
        · have := a81.size; have := hC76.size; omega
    unfold F31j2
    rcases hst2 with ⟨rfl, hno⟩ | ⟨j, hx, hrd, hno⟩
    · refine IfB.dec (fun hlt2 => IfB.yes (by simp) ?_) fun hge2 => ?_
      · have hi' : i < l.length := by dsimp only at hlt2; omega
        have hx : l[i]? = some l[i] := List.getElem?_eq_getElem hi'
        have htx : told[i]? = some (told[i]'(by omega)) := List.getElem?_eq_getElem (by omega)
        generalize l[i] = s at hx
        generalize told[i]'_ = ti at htx
        obtain ⟨a1, ha1, hc1⟩ := (hT.ext e20).elem1 (i := i) (v := .bool ti) (by rw [List.getElem?_map, htx]; rfl)
        have hab : a1 = b7 := by rw [hst] at ha1; cases ha1; rfl
        subst hab
        refine ⟨a1, 0, rfl, ⟨by dsimp only; omega, by dsimp only; omega⟩, ti, by dsimp only; rw [Int.toNat_natCast, Nat.zero_add]; exact hc1, ?_⟩
        refine ⟨fun q x W' => ∃ (k : Nat) (r : Bool), k ≤ ah.length ∧ q + k = ah.length ∧ x = (r, (k : Int)) ∧ (r = true ↔ ti = false ∧ ∀ p ∈ ah.take k, waitB lf s p = false) ∧ Ext W W', ⟨ah.length, 0, !ti, Nat.zero_le _, rfl, rfl, by simp, e20⟩, ?_⟩
        rintro q2 _ w30 g ⟨k, r, hk, hqk, rfl, hr, e30⟩
        unfold F31j3
        refine IfB.dec (fun hlt3 => ?_) fun hge3 => ?_
        · have hk' : k < ah.length := by dsimp only at hlt3; omega
          have hp : ah[k]? = some ah[k] := List.getElem?_eq_getElem hk'
          have htk := take_succ_get hp
          generalize ah[k] = p at hp htk
          refine ⟨fun q x W' => ∃ (m' : Nat) (r' : Bool), m' ≤ l.length ∧ q + m' = l.length ∧ x = (r', (m' : Int)) ∧ (r' = true ↔ r = true ∧ ∀ m'', m'' < m' → ¬ (p.2 = s ∧ l[m'']? = some p.1 ∧ told[m'']? = some false)) ∧ Ext W W', ⟨l.length, 0, r, Nat.zero_le _, rfl, rfl, by simp, e30⟩, ?_⟩
          rintro q3 _ w37 g ⟨m', r', hm', hqm, rfl, hr', e37⟩
          unfold F31j4
          have w1 : IntKind.i64.wrap ((m' : Int) + 1) = ((m' + 1 : Nat) : Int) := by rw [wrap_of (by omega) (by omega)]; rfl
          refine IfB.dec (fun hlt4 => ?_) fun hge4 => ?_
          · have hm4 : m' < l.length := by dsimp only at hlt4; omega
            have ed := e37.trans (extDrew w37)
            refine IfB.intro (fun hrt => ?_) fun hrf => ⟨rfl, q3 - 1, by omega, m' + 1, false, hm4, by omega, by rw [w1], ⟨fun h => (by cases h), fun h => ?_⟩, ed⟩
            · have hrt : r' = true := hrt
              subst hrt
              obtain ⟨h1, h2⟩ := hr'.1 rfl
              have hm'x : l[m']? = some l[m'] := List.getElem?_eq_getElem hm4
              have htm : told[m']? = some (told[m']'(by omega)) := List.getElem?_eq_getElem (by omega)
              generalize l[m'] = y at hm'x
              generalize told[m']'_ = ty at htm
              obtain ⟨b1, hp1, hcp⟩ := (ho6.ext (hE5.trans ed)).elem (i := k) (by omega) (flatGet sv_len hp)
              obtain ⟨b2, hp2, hc2⟩ := owsI_get ((ho3.ext e5).ext (hE5.trans ed)) hx
              obtain ⟨b3, hp3, hc3⟩ := owsI_get ((ho3.ext e5).ext (hE5.trans ed)) hm'x
              obtain ⟨b4, hp4, hc4⟩ := (hT.ext ed).elem1 (i := m') (v := .bool ty) (by rw [List.getElem?_map, htm]; rfl)
              have hab : b4 = a1 := by rw [hst] at hp4; cases hp4; rfl
              subst hab
              have step : ∀ (b : Bool), (b = true ↔ ¬ (p.2 = s ∧ y = p.1 ∧ ty = false)) → (b = true ↔ r = true ∧ ∀ m'', m'' < m' + 1 → ¬ (p.2 = s ∧ l[m'']? = some p.1 ∧ told[m'']? = some false)) := by
                intro b hb
                rw [hb]
                constructor
                · intro h
                  refine ⟨h1, fun m'' hm'' => ?_⟩
                  rcases Nat.lt_or_ge m'' m' with h3 | h3
                  · exact h2 m'' h3
                  · have : m'' = m' := by omega
                    subst this
                    rw [hm'x, htm, Option.some.injEq, Option.some.injEq]; exact h
                · rintro ⟨_, h3⟩
                  have := h3 m' (by omega)
                  rw [hm'x, htm, Option.some.injEq, Option.some.injEq] at this; exact this
              have bk : (0 : Int) ≤ (k : Int) ∧ (k : Int) < (s6.n : Int) := ⟨by omega, by omega⟩
              refine ⟨b1, 0, hp1, bk, ⟨by decide, by decide⟩, p.2, by dsimp only; rw [Int.toNat_natCast, Nat.zero_add]; exact hcp 1 _ rfl, b2, 0, hp2, ⟨by dsimp only; omega, by dsimp only; omega⟩, s, by dsimp only; rw [Int.toNat_natCast]; exact hc2, IfB.intro (fun h5 => ?_) fun h5 => ⟨rfl, q3 - 1, by omega, m' + 1, true, hm4, by omega, by rw [w1]; rfl, step true ⟨fun _ h => ?_, fun _ => rfl⟩, ed⟩⟩
              · have h5 : p.2 = s := by simpa using h5
                refine ⟨b1, 0, hp1, bk, ⟨by decide, by decide⟩, p.1, by dsimp only; rw [Int.toNat_natCast, Nat.zero_add]; exact hcp 0 _ rfl, b3, 0, hp3, ⟨by dsimp only; omega, by dsimp only; omega⟩, y, by dsimp only; rw [Int.toNat_natCast]; exact hc3, IfB.intro (fun h6 => ?_) fun h6 => ⟨rfl, q3 - 1, by omega, m' + 1, true, hm4, by omega, by rw [w1]; rfl, step true ⟨fun _ h => ?_, fun _ => rfl⟩, ed⟩⟩
                · have h6 : p.1 = y := by simpa using h6
                  refine ⟨b4, 0, rfl, ⟨by dsimp only; omega, by dsimp only; omega⟩, ty, by dsimp only; rw [Int.toNat_natCast, Nat.zero_add]; exact hc4, rfl, q3 - 1, by omega, m' + 1, ty, hm4, by omega, by rw [w1, Bool.not_not], step ty ?_, ed⟩
                  cases ty <;> simp [h5, h6]
                · have h6 : p.1 ≠ y := by simpa using h6
                  exact h6 h.2.1.symm
              · have h5 : p.2 ≠ s := by simpa using h5
                exact h5 h.1
            · have hrf : r' = false := hrf
              have : r' = true := hr'.2 ⟨h.1, fun m'' hm'' => h.2 m'' (by omega)⟩
              rw [hrf] at this; cases this
          · have hm4 : m' = l.length := by dsimp only at hge4; omega
            refine ⟨rfl, q2 - 1, by omega, k + 1, r', hk', by omega, by rw [wrap_of (by dsimp only; omega) (by dsimp only; omega)]; rfl, ?_, e37⟩
            rw [hr', hr, htk]
            have hw : waitB lf s p = false ↔ ∀ m'', m'' < m' → ¬ (p.2 = s ∧ l[m'']? = some p.1 ∧ told[m'']? = some false) := by
              rw [Bool.eq_false_iff]
              unfold waitB
              simp only [ne_eq, Bool.and_eq_true, beq_iff_eq, decide_eq_true_eq]
              rw [hlf, left_mem]
              constructor
              · intro h m'' hm'' h'
                exact h ⟨h'.1, m'', h'.2⟩
              · rintro h ⟨h1, m'', h2, h3⟩
                exact h m'' (by have := (List.getElem?_eq_some_iff.1 h2).1; omega) ⟨h1, h2, h3⟩
            rw [← hw]
            constructor
            · rintro ⟨⟨h1, h2⟩, h3⟩
              refine ⟨h1, fun p' hp' => ?_⟩
              rcases List.mem_append.1 hp' with h4 | h4
              · exact h2 p' h4
              · rw [List.mem_singleton.1 h4]; exact h3
            · rintro ⟨h1, h2⟩
              exact ⟨⟨h1, fun p' hp' => h2 p' (List.mem_append_left _ hp')⟩, h2 p (by simp)⟩
        · have hk' : k = ah.length := by dsimp only at hge3; omega
          subst hk'
          rw [List.take_length] at hr
          have hfr : freeB ah lf s = true ↔ ∀ p ∈ ah, waitB lf s p = false := by
            unfold freeB; simp
          have w1 : IntKind.i64.wrap ((i : Int) + 1) = ((i + 1 : Nat) : Int) := by rw [wrap_of (by omega) (by omega)]; rfl
          refine IfB.intro (fun h => ?_) fun h => ?_
          · have h : r = true := h
            obtain ⟨h1, h2⟩ := hr.1 h
            refine ⟨rfl, q - 1, by omega, i + 1, hi', by omega, .inr ⟨i, by dsimp only; rw [w1], ⟨s, hx, by rw [htx, h1], hfr.2 h2⟩, hno⟩, e30⟩
          · have h : r = false := h
            refine ⟨rfl, q - 1, by omega, i + 1, hi', by omega, .inl ⟨by dsimp only; rw [w1], fun j hj => ?_⟩, e30⟩
            rcases Nat.lt_or_ge j i with h3 | h3
            · exact hno j h3
            · have : j = i := by omega
              subst this
              intro x hx' ht'
              rw [hx] at hx'; cases hx'
              rw [htx] at ht'; cases ht'
              cases hf : freeB ah lf s
              · rfl
              · rw [hr.2 ⟨rfl, hfr.1 hf⟩] at h; cases h
      · have hi' : i = l.length := by dsimp only at hge2; omega
        have hgone : ordGo ah l.length l [] = ([], false) := by
          have hno' : lf.findIdx? (freeB ah lf) = none := by
            rw [hlf]
            refine left_none fun j x hx ht => ?_
            rw [← hlf]
            exact hno j (by have := (List.getElem?_eq_some_iff.1 hx).1; omega) x hx ht
          rw [← hgo, hn', ordGo, hno']
        refine IfB.yes (by simp) ⟨⟨none, 0, 0⟩, l, ah, hSg, hll, hah, by rw [hgone], ?_, hE.trans e20, by simp [blk]⟩
        rw [hgone]; exact .nil _ _
    · refine IfB.dec (fun hlt2 => IfB.no (by rw [hx]; simp) ?_) fun hge2 => ?_
      · exact fin j hrd hno hx
      · exact fin j hrd hno hx
  · have hlo : out.length = l.length := by omega
    have h0 : leftOf l told = [] := List.eq_nil_of_length_eq_zero (by omega)
    rw [h0] at hgo
    have hgo : ordGo ah l.length l [] = (out, true) := hgo.symm
    refine ⟨so, l, ah, hSg, hll, hah, by rw [hgo], ?_, hE, fun j hj => by have := hb j hj; have := x8.size; omega⟩
    rw [hgo]; exact hO
end Go.Proofs.Ytmmhbjbaallkfaa.Gx

/- Arguments whose slices, nested ones too, have no more bytes than there may be. -/
namespace Go.Proofs.Ytmmhbjbaallkfaa.Gx
open Go
set_option linter.unusedSimpArgs false
set_option linter.unusedVariables false
section
variable {H : Type} {enc : TypeId × Value → H} {P : Program} {w : World} {base : Nat} {sp : Nat → Bool} {held : Bool}
end
end Go.Proofs.Ytmmhbjbaallkfaa.Gx

/- Package gimmallaw29: SerialPuts, SerialOrders. -/
namespace Go.Proofs.Ytmmhbjbaallkfaa.Gx
open Go
set_option linter.unusedSimpArgs false
set_option linter.unusedVariables false
theorem freeB_congr {ah ah' : List (Int × Int)} (h : ∀ p, p ∈ ah ↔ p ∈ ah') (left : List Int) : freeB ah left = freeB ah' left := by
  funext s
  unfold freeB
  congr 1
  rw [Bool.eq_iff_iff, List.any_eq_true, List.any_eq_true]
  exact ⟨fun ⟨p, a, b⟩ => ⟨p, (h p).1 a, b⟩, fun ⟨p, a, b⟩ => ⟨p, (h p).2 a, b⟩⟩
theorem ordGo_congr {ah ah' : List (Int × Int)} (h : ∀ p, p ∈ ah ↔ p ∈ ah') : ∀ (n : Nat) (left out : List Int), ordGo ah n left out = ordGo ah' n left out
  | 0, _, _ => rfl
  | n + 1, left, out => by
    rw [ordGo, ordGo, freeB_congr h left]
    split
    · rfl
    · exact ordGo_congr h n _ _
theorem ordGo_len {ah : List (Int × Int)} : ∀ (n : Nat) (left out : List Int), (ordGo ah n left out).1.length ≤ out.length + n
  | 0, _, _ => Nat.le_refl _
  | n + 1, left, out => by
    rw [ordGo]
    split
    · simp
    · have := ordGo_len (ah := ah) n (left.eraseIdx ‹_›) (out ++ [left.getD ‹_› 0])
      simp only [List.length_append, List.length_singleton] at this
      omega
theorem putL_nodup (hs : List Nd) : ∀ (l seen : List Int), l.Nodup → (∀ s ∈ l, s ∉ seen) → putL hs seen l = l.flatMap (ownL hs)
  | [], _, _, _ => rfl
  | s :: l, seen, hn, hs' => by
    rw [List.nodup_cons] at hn
    rw [putL, if_neg (hs' s (by simp)), List.flatMap_cons, putL_nodup hs l (seen ++ [s]) hn.2 fun x hx h => by
      rcases List.mem_append.1 h with h | h
      · exact hs' x (List.mem_cons_of_mem _ hx) h
      · rw [List.mem_singleton.1 h] at hx; exact hn.1 hx]
theorem flat_len (hs : List Nd) : ∀ l : List Int, l.Nodup → (l.flatMap (ownL hs)).length = (hs.filter fun n => decide (n.v.1 ∈ l)).length
  | [], _ => by rw [List.filter_eq_nil_iff.2 (by simp)]; rfl
  | s :: l, hn => by
    rw [List.nodup_cons] at hn
    rw [List.flatMap_cons, List.length_append, flat_len hs l hn.2]
    clear flat_len
    induction hs with
    | nil => rfl
    | cons n hs ih =>
      unfold ownL at ih ⊢
      simp only [List.filter_cons]
      by_cases h1 : n.v.1 = s
      · have h2 : n.v.1 ∉ l := by rw [h1]; exact hn.1
        simp [h1, hn.1]; simp at ih; omega
      · by_cases h2 : n.v.1 ∈ l
        · simp [h1, h2]; simp at ih; omega
        · simp [h1, h2]; simp at ih; omega
theorem own_v {hs : List Nd} {s : Int} {n : Nd} (h : n ∈ ownL hs s) : n.v.1 = s := by have := (List.mem_filter.1 h).2; simpa using this
theorem flat_whole (hs : List Nd) : ∀ l : List Int, l.Nodup → ∀ (k m j : Nat) (a b c : Nd), k < m → m < j → (l.flatMap (ownL hs))[k]? = some a → (l.flatMap (ownL hs))[m]? = some b → (l.flatMap (ownL hs))[j]? = some c → a.v.1 = c.v.1 → b.v.1 = c.v.1
  | [], _, _, _, _, _, _, _, _, _, h, _, _, _ => by simp at h
  | s :: l, hn, k, m, j, a, b, c, hkm, hmj, ha, hb, hc, he => by
    rw [List.nodup_cons] at hn
    rw [List.flatMap_cons] at ha hb hc
    have rest : ∀ {i : Nat} {x : Nd}, (ownL hs s ++ l.flatMap (ownL hs))[i]? = some x → (ownL hs s).length ≤ i → (l.flatMap (ownL hs))[i - (ownL hs s).length]? = some x ∧ x.v.1 ∈ l := fun {i x} hx hi => by
      rw [List.getElem?_append_right hi] at hx
      refine ⟨hx, ?_⟩
      obtain ⟨s', h1, h2⟩ := List.mem_flatMap.1 (List.mem_of_getElem? hx)
      rw [own_v h2]; exact h1
    have fst : ∀ {i : Nat} {x : Nd}, (ownL hs s ++ l.flatMap (ownL hs))[i]? = some x → i < (ownL hs s).length → x.v.1 = s := fun {i x} hx hi => by
      rw [List.getElem?_append_left hi] at hx
      exact own_v (List.mem_of_getElem? hx)
    rcases Nat.lt_or_ge j (ownL hs s).length with h1 | h1
    · rw [fst hb (by omega), fst hc h1]
    · obtain ⟨hc', hcl⟩ := rest hc h1
      rcases Nat.lt_or_ge k (ownL hs s).length with h2 | h2
      · rw [fst ha h2] at he
        rw [← he] at hcl; exact absurd hcl hn.1
      · exact flat_whole hs l hn.2 (k - (ownL hs s).length) (m - (ownL hs s).length) (j - (ownL hs s).length) a b c (by omega) (by omega) (rest ha h2).1 (rest hb (by omega)).1 hc' he
theorem SgL.nodup {hs : List Nd} {l : List Int} (h : SgL hs l) : l.Nodup := h.srt.imp fun h e => by omega
theorem serialOrders (w : World) {l : List tyNd.den} {c0 : Value} (h0 : rep (fun _ => True) w (.sl tyNd) l [c0]) : CW Try.prog 9 #[c0] w fun v w' => v = .bool true ∧ Ext w w' := by
  obtain ⟨t, hs, e0, hH, hq⟩ := rep_histR h0
  simp only [List.cons.injEq, and_true] at e0
  subst e0
  refine F9_ok t w _ ((c20 w).use ?_)
  rintro _ w2 ⟨rfl, e2⟩
  have h2 := hH.ext e2
  have hn := hH.n
  refine ⟨true, rfl, IfB.no rfl ⟨fun r W => w2 = W ∧ (r = false → ¬ GrtP hs ∧ hs.length ≤ 20), (c11 h2.rd (fun n hn => (h2.nd n hn).rn) (Nat.le_trans hH.len maxLen_le)).use ?_, ?_⟩⟩
  · rintro _ _ ⟨r, rfl, hr, rfl⟩
    refine ⟨r, rfl, IfB.intro (fun h => ⟨rfl, rfl, fun h => (by cases h)⟩) fun h => ⟨rfl, rfl, fun h' => ⟨fun hg => (by rw [hr.2 hg] at h; cases h), ?_⟩⟩⟩
    have := of_decide_eq_false h'
    omega
  rintro r _ g ⟨rfl, hr⟩
  unfold F9j1
  refine IfB.intro (fun h => ⟨rfl, e2⟩) fun h => ?_
  obtain ⟨hg, hl20⟩ := hr h
  have hS := h2.hst hg
  refine (c30 hS (by omega) hq).use ?_
  rintro _ w13 ⟨s14, l1, ah, hl1, hll1, hah, rfl, hO14, e13, _⟩
  refine ⟨(s14, (ordGo ah l1.length l1 []).2), rfl, (c31 (hS.ext e13) (by omega) hq).use ?_⟩
  rintro _ w16 ⟨s17, l2, ah2, hl2, hll2, hah2, rfl, hO17, e16, _⟩
  have hle := hl2.uniq hl1
  subst hle
  have hgo := ordGo_congr (fun p => (hah2 p).trans (hah p).symm) l2.length l2 []
  rw [hgo] at hO17 ⊢
  generalize hG : ordGo ah l2.length l2 [] = G at hO14 hO17 ⊢
  have hGl : G.1.length ≤ 1000000 := by have := ordGo_len (ah := ah) l2.length l2 []; rw [hG] at this; simp at this; omega
  refine ⟨(s17, G.2), rfl, fun r W => Ext w2 W ∧ r = false, IfB.no (by simp) ?_, ?_⟩
  · refine (c25 (hO14.ext e16).rd hO17.rd hGl).use ?_
    rintro _ w20 ⟨rfl, e20⟩
    have E20 := (e13.trans e16).trans e20
    refine ⟨_, rfl, IfB.no (by simp) ((c32 (hS.ext E20) (by omega) hq).use ?_)⟩
    rintro _ w23 ⟨l3, ah3, hl3, hah3, rfl, e23⟩
    have hle := hl3.uniq hl1
    subst hle
    have hgo3 := ordGo_congr (fun p => (hah3 p).trans (hah p).symm) l3.length l3 []
    refine ⟨_, rfl, IfB.no (by rw [hgo3, hG]; simp) ((c33 (hS.ext (E20.trans e23))).use ?_)⟩
    rintro _ w26 ⟨r1, rfl, hr1, e26⟩
    refine ⟨r1, rfl, (c34 (hS.ext ((E20.trans e23).trans e26))).use ?_⟩
    rintro _ w29 ⟨r2, rfl, hr2, e29⟩
    have : r1 = r2 := Bool.eq_iff_iff.2 (hr1.trans hr2.symm)
    subst this
    exact ⟨r1, rfl, rfl, ((E20.trans e23).trans e26).trans e29, by simp⟩
  rintro _ w32 g ⟨E32, rfl⟩
  refine IfB.no rfl ((c23 (hS.ext E32)).use ?_)
  rintro _ w36 ⟨s37, l4, rfl, hl4, hll4, hO37, e36, _⟩
  have hle := hl4.uniq hl1
  subst hle
  have E36 := E32.trans e36
  refine ⟨s37, rfl, (c28 (hS.ext E36).k (by omega) hO37.rd (by omega) hO37.cap).use ?_⟩
  rintro _ w39 ⟨s40, ns, rfl, hns, hN, e39⟩
  have hnd := hl4.nodup
  rw [putL_nodup hs l4 [] hnd (by simp)] at hns
  have hnl : ns.length = hs.length := by
    have h1 := congrArg List.length hns
    rw [List.length_map, List.length_map, flat_len hs l4 hnd] at h1
    rw [h1, List.filter_eq_self.2]
    intro n hn
    exact decide_eq_true ((hl4.mem _).2 ⟨n, hn, rfl⟩)
  have hsn := owsN nL_len (by omega) hN.own
  have hget : ∀ {i : Nat} {n : Nd}, ns[i]? = some n → ∃ n', (l4.flatMap (ownL hs))[i]? = some n' ∧ dOf n = dOf n' := fun {i n} hx => by
    have h3 : (ns.map dOf)[i]? = some (dOf n) := by rw [List.getElem?_map, hx]; rfl
    rw [hns, List.getElem?_map, Option.map_eq_some_iff] at h3
    obtain ⟨n', h4, h5⟩ := h3
    exact ⟨n', h4, h5.symm⟩
  have hHs : Hst w39 s40 ns := by
    refine ⟨hN.own.rd, fun n hn => ?_, by omega, hN.own.cap⟩
    obtain ⟨i, hi, rfl⟩ := List.getElem_of_mem hn
    obtain ⟨n', h4, h5⟩ := hget (List.getElem?_eq_getElem hi)
    obtain ⟨s', h6, h7⟩ := List.mem_flatMap.1 (List.mem_of_getElem? h4)
    have h8 := hS.ok n' (List.mem_filter.1 h7).1
    simp only [dOf, Prod.mk.injEq] at h5
    obtain ⟨_, _, _, _, h9, h10⟩ := h5
    exact ⟨(hN.ok _ hn).rs.rd, (hN.ok _ hn).ws.rd, by rw [h9]; exact h8.rl, by rw [h10]; exact h8.wl⟩
  refine ⟨s40, rfl, (c33 hHs).use ?_⟩
  rintro _ w42 ⟨r3, rfl, hr3, e42⟩
  have hw : WhP ns := fun k m j a b c h1 h2 h3 ha hb hc he => by
    obtain ⟨a', ha', ea⟩ := hget ha
    obtain ⟨b', hb', eb⟩ := hget hb
    obtain ⟨c', hc', ec⟩ := hget hc
    have va : a.v.1 = a'.v.1 := show (dOf a).1 = (dOf a').1 by rw [ea]
    have vb : b.v.1 = b'.v.1 := show (dOf b).1 = (dOf b').1 by rw [eb]
    have vc : c.v.1 = c'.v.1 := show (dOf c).1 = (dOf c').1 by rw [ec]
    rw [vb, vc]
    exact flat_whole hs l4 hnd k m j a' b' c' h1 h2 ha' hb' hc' (by rw [← va, ← vc]; exact he)
  have : r3 = true := hr3.2 hw
  subst this
  refine ⟨true, rfl, IfB.yes rfl ⟨?_, ((e2.trans E36).trans e39).trans e42⟩⟩
  rw [hsn, hnl, hn]; simp
end Go.Proofs.Ytmmhbjbaallkfaa.Gx

/- gimmallaw29.SerialOrders returns true for all arguments, and leaves what was there as it was. No condition beyond the statement. -/
namespace Go.Proofs.Ytmmhbjbaallkfaa.serialOrders
open Go.ChangeShapes Go.WideShapes Go.ChangeAt Go.RowKit
open Go.ChangeMaps (open_string shut_string)
set_option linter.unusedVariables false
theorem own : ownKnob Try.prog.godebug = none := by kernel_rfl
set_option maxRecDepth 100000 in
theorem lifted (os : Os) (started : os.Started) (H : Type) (enc : TypeId × Value → H) :
    ReturnsInHanded {} Try.checked os 9 .any (Rows.serialOrdersSpec.pre6 enc Try.prog Try.f9 Rows.serialOrdersRow.domain false) (Rows.serialOrdersSpec.post enc Try.prog Try.f9 false true false false) := by
  refine returnsInHanded_of_change (C := Try.checked) own started (by kernel_rfl) Try.func9
    (ChangeSpec.witness6 (enc := enc) (C := Try.checked) false ⟨#[], #[.slice none 0 0], []⟩ 8 (by kernel_rfl) (by kernel_rfl) (by kernel_rfl) (by kernel_rfl)) ?_
  intro W base args ds gs before hval0 hW hcnd _
  have hval : ∀ (j : Nat) t v, Try.f9.params[j]? = some t → args[j]? = some v → Value.okWide Try.prog W .any base t v := hval0
  have hW' := hW
  have hlt := hW.lt
  obtain ⟨p, q, hA0, hV, rfl, hfz, hnd⟩ := hW
  have hA : DataW.TrodAll enc Try.prog W 0 (fun _ => true) true Try.f9.params.toList args.toList ds p := hA0
  have hpar : Try.f9.params = #[22] := rfl
  rw [hpar] at hA hval
  obtain ⟨v0, vs0, d0, ds0, p0, q0, hargs, rfl, rfl, h0, r0⟩ := trodAll_cons hA
  obtain ⟨rfl, rfl, rfl⟩ := trodAll_nil r0
  obtain rfl : args = #[v0] := by cases args; simp_all
  obtain ⟨rfl, rfl⟩ := trodVars_none hV
  clear hA0 hval0
  obtain ⟨x0, e0⟩ := Gx.open_arg (d := 12) (ty := (.sl (.pair (.int .i64) (.pair (.int .i64) (.pair (.int .i64) (.pair .bool (.pair (.sl (.pair (.int .i64) (.int .i64))) (.sl (.pair (.int .i64) (.int .i64)))))))))) (by kernel_rfl) h0
  obtain ⟨c0, g0⟩ : ∃ c, v0.cells.toList = [c] := List.length_eq_one_iff.1 (Gx.rep_len e0)
  have f0 : v0 = c0 := Gx.val_of_cells (hval 0 22 v0 rfl rfl) (fun fs n e => by rw [Try.underlying22]; exact ⟨by simp, by simp⟩) g0
  rw [g0] at e0
  have call : Calls Try.prog 9 #[v0] W fun e w' => e = .returned (.bool true) ∧ Below W.heap.size W w' := by
    rw [f0]
    refine (Gx.serialOrders W e0).calls.mono ?_
    rintro e w' ⟨v, rfl, rfl, hx⟩
    exact ⟨rfl, hx.below⟩
  refine call.mono fun e W' ⟨he, hg⟩ => ?_
  subst he
  have b0 : ∀ sp : Nat → Bool, (∀ x ∈ p0, sp x.block = true) → DataW.Trod enc Try.prog W' 0 sp true 22 v0 d0 p0 := fun sp hsp => Gx.trod_keep (by kernel_rfl) (by kernel_rfl) (by decide +kernel) h0 hg (fun x hx => hlt x (by simp [hx])) hsp
  exact ⟨_, rfl, Gx.post_of_below (pa := (p0 ++ [])) (pv := []) hW' hg (fun _ _ _ => (trodAll_cons_mk (shut_bool Try.underlying4 _) trodAll_mk0)) (fun sp hsp => by rw [hpar]; exact (trodAll_cons_mk (b0 sp fun x hx => hsp x (by simp [hx])) trodAll_mk0)) (fun _ _ => rfl) (by simp)
    (ok_one (by kernel_rfl) rfl (okWide_bool_mk Try.underlying4 _))⟩
theorem over : Rows.serialOrdersRow.holds Try.pinned (OpenSpec.ofChange Rows.serialOrdersSpec) :=
  OpenClaim.holds_of_wide 9 Try.f9 rfl rfl rfl rfl rfl rfl rfl ⟨rfl, rfl, rfl, rfl, rfl⟩ rfl rfl rfl rfl rfl (by kernel_rfl) Try.func9 (by kernel_rfl)
    (of_decide_eq_true (by kernel_rfl)) (by unfold Func.isWrapper; first | (rw [if_pos (by decide +kernel)]; kernel_rfl) | (rw [if_neg (by decide +kernel)]; exact ⟨rfl, rfl⟩))
    (fun os started H enc _ => lifted os started H enc)
/-- The statement. -/
theorem proved : Rows.SerialOrdersSaid :=
  over
#print axioms proved
end Go.Proofs.Ytmmhbjbaallkfaa.serialOrders
