/- gimmallaw29.SerialAhead returns true for all arguments, and leaves what was there as it was. No condition beyond the statement. -/
/- Merged by pack.py: GxNY, SerI, SerJ, SerK, SerL, GxNV, SerC, MxA, GxNT, DepE, DepF, SerD, GxNL, DepG, GxNZ, SerM, SlAhd. -/
import Derived.Test.YtmmhbjbaallkfaaPa1
import Derived.Test.YtmmhbjbaallkfaaPa2
import Derived.Test.YtmmhbjbaallkfaaPa3
import Derived.Test.YtmmhbjbaallkfaaPa4
import Derived.Test.YtmmhbjbaallkfaaPa5
import Derived.Test.YtmmhbjbaallkfaaRows
import Derived.WalkKit
import Derived.ProofKit
import Derived.OpenShut
import Derived.ShutString
import Derived.Below
import Derived.Carry

/- Written by mkf.py: what is to be shown of functions, as Gx reckons it from their code. -/
namespace Go.Proofs.Ytmmhbjbaallkfaa.Gx
open Go
set_option linter.unusedVariables false
set_option maxRecDepth 100000

def F23k1 (t0 : Sl) (x4 : Sl × Int) (w36 : World) (s30 : Sl) (n35 : Int) (b3 : Nat) (y1 : Nat → Sl × Int → World → Prop) : Prop :=
 ∃ (b59 : Nat),
 ∃ (b60 : Nat),
 t0.1 = some ({ block := b59, off := b60 } : Addr) ∧
 ((0 : Int) ≤ x4.2 ∧ x4.2 < (t0.2 : Int)) ∧
 ∃ (n61 : Int),
 w36.drew.cell? ({ block := b59, off := b60 + x4.2.toNat * (6 : Nat) + (0 : Nat) } : Addr) = some (Value.int IntKind.i64 n61) ∧
 ∃ (b62 : Nat),
 ∃ (b63 : Nat),
 s30.1 = some ({ block := b62, off := b63 } : Addr) ∧
 ((0 : Int) ≤ n35 ∧ n35 < (s30.2 : Int)) ∧
 #[Value.int IntKind.i64 n61].size = (1 : Nat) ∧
 StoreP w36.drew b62 (b63 + n35.toNat) [Value.int IntKind.i64 n61] fun (w64 : World) =>
 ([] : List Nat) = [] ∧ ∃ (b65 : Nat), b65 < b3 ∧ y1 b65 ({ p := s30.1, n := s30.2, c := s30.3 }, IntKind.i64.wrap (x4.2 + (1 : Int))) w64
def F23j3 (t0 : Sl) (y1 : Nat → Sl × Int → World → Prop) (b3 : Nat) (x4 : Sl × Int) (s30 : Sl) (y32 : Nat → Int → World → Prop) (b34 : Nat) (n35 : Int) (w36 : World) : Prop :=
 IfB (decide ((0 : Int) < n35))
 (∃ (b39 : Nat),
 ∃ (b40 : Nat),
 s30.1 = some ({ block := b39, off := b40 } : Addr) ∧
 ((0 : Int) ≤ IntKind.i64.wrap (n35 - (1 : Int)) ∧ IntKind.i64.wrap (n35 - (1 : Int)) < (s30.2 : Int)) ∧
 ∃ (n41 : Int),
 w36.drew.cell? ({ block := b39, off := b40 + (IntKind.i64.wrap (n35 - (1 : Int))).toNat } : Addr) = some (Value.int IntKind.i64 n41) ∧
 ∃ (b42 : Nat),
 ∃ (b43 : Nat),
 t0.1 = some ({ block := b42, off := b43 } : Addr) ∧
 ((0 : Int) ≤ x4.2 ∧ x4.2 < (t0.2 : Int)) ∧
 ∃ (n44 : Int),
 w36.drew.cell? ({ block := b42, off := b43 + x4.2.toNat * (6 : Nat) + (0 : Nat) } : Addr) = some (Value.int IntKind.i64 n44) ∧
 IfB (decide (n44 < n41))
 (∃ (b45 : Nat),
 ∃ (b46 : Nat),
 s30.1 = some ({ block := b45, off := b46 } : Addr) ∧
 ((0 : Int) ≤ IntKind.i64.wrap (n35 - (1 : Int)) ∧ IntKind.i64.wrap (n35 - (1 : Int)) < (s30.2 : Int)) ∧
 ∃ (n47 : Int),
 w36.drew.cell? ({ block := b45, off := b46 + (IntKind.i64.wrap (n35 - (1 : Int))).toNat } : Addr) = some (Value.int IntKind.i64 n47) ∧
 ∃ (b48 : Nat),
 ∃ (b49 : Nat),
 s30.1 = some ({ block := b48, off := b49 } : Addr) ∧
 ((0 : Int) ≤ n35 ∧ n35 < (s30.2 : Int)) ∧
 #[Value.int IntKind.i64 n47].size = (1 : Nat) ∧
 StoreP w36.drew b48 (b49 + n35.toNat) [Value.int IntKind.i64 n47] fun (w50 : World) => ([] : List Nat) = [] ∧ ∃ (b51 : Nat), b51 < b34 ∧ y32 b51 (IntKind.i64.wrap (n35 - (1 : Int))) w50)
 (F23k1 t0 x4 w36 s30 n35 b3 y1))
 (F23k1 t0 x4 w36 s30 n35 b3 y1)
def F23j2 (t0 : Sl) (y1 : Nat → Sl × Int → World → Prop) (b3 : Nat) (x4 : Sl × Int) (y8 : Nat → Bool × Int → World → Prop) (b10 : Nat) (x11 : Bool × Int) (w12 : World) : Prop :=
 IfB (decide (x11.snd < (x4.fst.n : Int)))
 (IfB x11.1 (([] : List Nat) = [] ∧ ∃ (b15 : Nat), b15 < b10 ∧ y8 b15 (true, IntKind.i64.wrap (x11.2 + (1 : Int))) w12.drew)
 (∃ (b16 : Nat),
 ∃ (b17 : Nat),
 x4.fst.1 = some ({ block := b16, off := b17 } : Addr) ∧
 ((0 : Int) ≤ x11.2 ∧ x11.2 < (x4.fst.2 : Int)) ∧
 ∃ (n18 : Int),
 w12.drew.cell? ({ block := b16, off := b17 + x11.2.toNat } : Addr) = some (Value.int IntKind.i64 n18) ∧
 ∃ (b19 : Nat),
 ∃ (b20 : Nat),
 t0.1 = some ({ block := b19, off := b20 } : Addr) ∧
 ((0 : Int) ≤ x4.2 ∧ x4.2 < (t0.2 : Int)) ∧
 ∃ (n21 : Int),
 w12.drew.cell? ({ block := b19, off := b20 + x4.2.toNat * (6 : Nat) + (0 : Nat) } : Addr) = some (Value.int IntKind.i64 n21) ∧
 ([] : List Nat) = [] ∧ ∃ (b22 : Nat), b22 < b10 ∧ y8 b22 (n18 == n21, IntKind.i64.wrap (x11.2 + (1 : Int))) w12.drew))
 (IfB x11.1 (([] : List Nat) = [] ∧ ∃ (b23 : Nat), b23 < b3 ∧ y1 b23 ({ p := x4.fst.1, n := x4.fst.2, c := x4.fst.3 }, IntKind.i64.wrap (x4.2 + (1 : Int))) w12)
 (∃ (b24 : Nat),
 ∃ (b25 : Nat),
 t0.1 = some ({ block := b24, off := b25 } : Addr) ∧
 ((0 : Int) ≤ x4.2 ∧ x4.2 < (t0.2 : Int)) ∧
 ∃ (n26 : Int),
 w12.cell? ({ block := b24, off := b25 + x4.2.toNat * (6 : Nat) + (0 : Nat) } : Addr) = some (Value.int IntKind.i64 n26) ∧
 (1 : Nat) * (1 : Nat) ≤ (16777216 : Nat) ∧
 AllocP w12 (Obj.cells #[Value.int IntKind.i64 n26] (3 : Nat)) fun (b27 : Nat) (w28 : World) =>
 ∃ (l29 : List Value),
 ReadC w28 (some ({ block := b27, off := (0 : Nat) } : Addr)) ((1 : Nat) * (1 : Nat)) l29 ∧
 AppendP tt3 (3 : Nat) w28 x4.fst.1 x4.fst.2 x4.fst.3
 (1 : Nat) l29 fun (s30 : Sl) (w31 : World) =>
 ∃ (y32 : Nat → Int → World → Prop),
 (∃ (b33 : Nat), y32 b33 ((x4.fst.2 : Int)) w31) ∧
 ∀ (b34 : Nat) (n35 : Int) (w36 : World) (y37 : Nat → Value),
 y32 b34 n35 w36 →
 (F23j3 t0 y1 b3 x4 s30 y32 b34 n35 w36)))
def F23 (t0 : Sl) (w : World) (R : Value → World → Prop) : Prop :=
 ∃ (y1 : Nat → Sl × Int → World → Prop),
 (∃ (b2 : Nat), y1 b2 ({ p := none, n := (0 : Nat), c := (0 : Nat) }, (0 : Int)) w) ∧
 ∀ (b3 : Nat) (x4 : Sl × Int) (w5 : World) (y6 : Nat → Value),
 y1 b3 x4 w5 →
 IfB (decide (x4.snd < (t0.n : Int)))
 (∃ (y8 : Nat → Bool × Int → World → Prop),
 (∃ (b9 : Nat), y8 b9 (false, (0 : Int)) w5) ∧
 ∀ (b10 : Nat) (x11 : Bool × Int) (w12 : World) (y13 : Nat → Value),
 y8 b10 x11 w12 →
 (F23j2 t0 y1 b3 x4 y8 b10 x11 w12))
 (R (Value.slice x4.fst.1 x4.fst.2 x4.fst.3) w5)
theorem F23_ok (t0 : Sl) (w : World) (R : Value → World → Prop) (h : F23 t0 w R) : CW Try.prog 23 #[Value.slice t0.1 t0.2 t0.3] w R :=
  call_of tbOk mixed en23 Try.func23 rfl (.node (.nil) (.node (.nil) (.node (.node (.nil) (.loop [(3, .one (.sl)), (4, .one (.int .i64))] [8, 9, 10, 11, 14, 15, 5, 6, 7, 16, 17, 18, 19, 22, 23, 24, 25, 26, 27, 28, 29, 30, 31, 32, 33, 34, 20, 21, 35, 36, 37, 38, 39, 40, 41, 42, 43, 3, 44, 45, 46, 47, 48, 49, 50, 51, 52, 53, 54, 55, 56, 57, 58, 59, 60, 61, 62, 63, 64, 65, 66, 67, 68, 69, 70, 71, 72, 73, 74, 75, 76, 12, 13, 4] (.node (.nil) (.node (.node (.nil) (.node (.nil) (.node (.node (.nil) (.loop [(6, .one (.bool)), (7, .one (.int .i64))] [16, 17, 18, 19, 22, 23, 24, 25, 26, 27, 28, 29, 30, 31, 32, 33, 34, 6, 20, 21, 7] (.node (.nil) (.node (.draw (.st 0 (.st 1 (.st 2 (.st 3 (.st 4 (.st 5 (.st 6 (.st 7 (.st 8 (.st 9 (.st 10 (.st 11 (.st 12 (.st 13 (.fin)))))))))))))))) (.nil))))) (.node (.nil) (.node (.nil) (.node (.loop [(5, .one (.int .i64))] [44, 45, 46, 47, 48, 49, 50, 51, 52, 53, 54, 55, 56, 57, 58, 59, 60, 61, 62, 63, 64, 65, 66, 67, 68, 5] (.node (.node (.draw (.st 0 (.st 1 (.st 2 (.st 3 (.st 4 (.st 5 (.st 6 (.st 7 (.st 8 (.st 9 (.st 10 (.st 11 (.st 12 (.st 13 (.st 14 (.fin))))))))))))))))) (.nil)) (.nil))) (.nil))))))) (.nil))))) (.nil)))) (by kernel_rfl) (Nat.le_of_ble_eq_true (by kernel_rfl)) (Eq.mp (α := F23 t0 w R) (by kernel_rfl) h)

def F47j2 (t0 : Sl) (t1 : Int) (t2 : Int) (R : Value → World → Prop) (y1 : Nat → Int → World → Prop) (b3 : Nat) (n4 : Int) (y8 : Nat → Int → World → Prop) (b10 : Nat) (n11 : Int) (w12 : World) : Prop :=
 IfB (decide (n11 < n4))
 (∃ (b15 : Nat),
 ∃ (b16 : Nat),
 t0.1 = some ({ block := b15, off := b16 } : Addr) ∧
 ((0 : Int) ≤ n11 ∧ n11 < (t0.2 : Int)) ∧
 ∃ (n17 : Int),
 w12.drew.cell? ({ block := b15, off := b16 + n11.toNat * (6 : Nat) + (0 : Nat) } : Addr) = some (Value.int IntKind.i64 n17) ∧
 IfB (n17 == t1)
 (∃ (b18 : Nat),
 ∃ (b19 : Nat),
 t0.1 = some ({ block := b18, off := b19 } : Addr) ∧
 ((0 : Int) ≤ n4 ∧ n4 < (t0.2 : Int)) ∧
 ∃ (n20 : Int),
 w12.drew.cell? ({ block := b18, off := b19 + n4.toNat * (6 : Nat) + (0 : Nat) } : Addr) = some (Value.int IntKind.i64 n20) ∧
 IfB (n20 == t2)
 (∃ (b21 : Nat),
 ∃ (b22 : Nat),
 t0.1 = some ({ block := b21, off := b22 } : Addr) ∧
 ((0 : Int) ≤ n11 ∧ n11 < (t0.2 : Int)) ∧
 ∃ (x23 : Int × Int × Int × Bool × Sl × Sl),
 CellsAt w12.drew b21 (b22 + n11.toNat * (6 : Nat))
 [Value.int IntKind.i64 x23.1, Value.int IntKind.i64 x23.snd.1, Value.int IntKind.i64 x23.snd.snd.1, Value.bool x23.snd.snd.snd.1,
 Value.slice x23.snd.snd.snd.snd.fst.1 x23.snd.snd.snd.snd.fst.2 x23.snd.snd.snd.snd.fst.3, Value.slice x23.snd.snd.snd.snd.snd.1 x23.snd.snd.snd.snd.snd.2 x23.snd.snd.snd.snd.snd.3] ∧
 ∃ (b24 : Nat),
 ∃ (b25 : Nat),
 t0.1 = some ({ block := b24, off := b25 } : Addr) ∧
 ((0 : Int) ≤ n4 ∧ n4 < (t0.2 : Int)) ∧
 ∃ (x26 : Int × Int × Int × Bool × Sl × Sl),
 CellsAt w12.drew b24 (b25 + n4.toNat * (6 : Nat))
 [Value.int IntKind.i64 x26.1, Value.int IntKind.i64 x26.snd.1, Value.int IntKind.i64 x26.snd.snd.1, Value.bool x26.snd.snd.snd.1,
 Value.slice x26.snd.snd.snd.snd.fst.1 x26.snd.snd.snd.snd.fst.2 x26.snd.snd.snd.snd.fst.3, Value.slice x26.snd.snd.snd.snd.snd.1 x26.snd.snd.snd.snd.snd.2 x26.snd.snd.snd.snd.snd.3] ∧
 CX Try.prog (12 : Nat)
 #[Value.agg
 #[Value.int IntKind.i64 x23.1, Value.int IntKind.i64 x23.snd.1, Value.int IntKind.i64 x23.snd.snd.1, Value.bool x23.snd.snd.snd.1,
 Value.slice x23.snd.snd.snd.snd.fst.1 x23.snd.snd.snd.snd.fst.2 x23.snd.snd.snd.snd.fst.3, Value.slice x23.snd.snd.snd.snd.snd.1 x23.snd.snd.snd.snd.snd.2 x23.snd.snd.snd.snd.snd.3],
 Value.agg
 #[Value.int IntKind.i64 x26.1, Value.int IntKind.i64 x26.snd.1, Value.int IntKind.i64 x26.snd.snd.1, Value.bool x26.snd.snd.snd.1,
 Value.slice x26.snd.snd.snd.snd.fst.1 x26.snd.snd.snd.snd.fst.2 x26.snd.snd.snd.snd.fst.3, Value.slice x26.snd.snd.snd.snd.snd.1 x26.snd.snd.snd.snd.snd.2 x26.snd.snd.snd.snd.snd.3]]
 w12.drew fun (v27 : Value) (w28 : World) =>
 ∃ (t29 : Bool), v27 = Value.bool t29 ∧ IfB t29 (R (Value.bool true) w28) (([] : List Nat) = [] ∧ ∃ (b30 : Nat), b30 < b10 ∧ y8 b30 (IntKind.i64.wrap (n11 + (1 : Int))) w28))
 (([] : List Nat) = [] ∧ ∃ (b31 : Nat), b31 < b10 ∧ y8 b31 (IntKind.i64.wrap (n11 + (1 : Int))) w12.drew))
 (([] : List Nat) = [] ∧ ∃ (b32 : Nat), b32 < b10 ∧ y8 b32 (IntKind.i64.wrap (n11 + (1 : Int))) w12.drew))
 (([] : List Nat) = [] ∧ ∃ (b33 : Nat), b33 < b3 ∧ y1 b33 (IntKind.i64.wrap (n4 + (1 : Int))) w12)
def F47 (t0 : Sl) (t1 : Int) (t2 : Int) (w : World) (R : Value → World → Prop) : Prop :=
 ∃ (y1 : Nat → Int → World → Prop),
 (∃ (b2 : Nat), y1 b2 (0 : Int) w) ∧
 ∀ (b3 : Nat) (n4 : Int) (w5 : World) (y6 : Nat → Value),
 y1 b3 n4 w5 →
 IfB (decide (n4 < (t0.n : Int)))
 (∃ (y8 : Nat → Int → World → Prop),
 (∃ (b9 : Nat), y8 b9 (0 : Int) w5) ∧
 ∀ (b10 : Nat) (n11 : Int) (w12 : World) (y13 : Nat → Value),
 y8 b10 n11 w12 →
 (F47j2 t0 t1 t2 R y1 b3 n4 y8 b10 n11 w12))
 (R (Value.bool false) w5)
theorem F47_ok (t0 : Sl) (t1 : Int) (t2 : Int) (w : World) (R : Value → World → Prop) (h : F47 t0 t1 t2 w R) : CW Try.prog 47 #[Value.slice t0.1 t0.2 t0.3, Value.int IntKind.i64 t1, Value.int IntKind.i64 t2] w R :=
  call_of tbOk mixed en47 Try.func47 rfl (.node (.nil) (.node (.node (.nil) (.loop [(7, .one (.int .i64))] [9, 10, 11, 12, 8, 15, 16, 17, 20, 21, 22, 23, 24, 25, 26, 27, 28, 29, 30, 31, 32, 33, 34, 35, 36, 37, 38, 39, 40, 41, 42, 43, 44, 45, 46, 6, 18, 19, 13, 14, 7] (.node (.nil) (.node (.node (.nil) (.loop [(8, .one (.int .i64))] [15, 16, 17, 20, 21, 22, 23, 24, 25, 26, 27, 28, 29, 30, 31, 32, 33, 34, 35, 36, 37, 38, 39, 40, 41, 42, 43, 44, 45, 46, 6, 18, 19, 8] (.node (.nil) (.node (.node (.draw (.st 0 (.st 1 (.st 2 (.st 3 (.st 4 (.st 5 (.st 6 (.st 7 (.st 8 (.st 9 (.st 10 (.st 11 (.st 12 (.st 13 (.st 14 (.st 15 (.st 16 (.st 17 (.st 18 (.st 19 (.st 20 (.st 21 (.st 22 (.st 23 (.st 24 (.ac 25 [] (.st 26 (.fin)) (.non)))))))))))))))))))))))))))) (.nil)) (.nil))))) (.nil))))) (.nil))) (by kernel_rfl) (Nat.le_of_ble_eq_true (by kernel_rfl)) (Eq.mp (α := F47 t0 t1 t2 w R) (by kernel_rfl) h)

def F22j2 (t0 : Sl) (s3 : Sl) (y4 : Nat → Sl × Int → World → Prop) (b6 : Nat) (x7 : Sl × Int) (y11 : Nat → Sl × Int → World → Prop) (b13 : Nat) (x14 : Sl × Int) (w15 : World) : Prop :=
 IfB (decide (x14.snd < (s3.n : Int)))
 (∃ (b18 : Nat),
 ∃ (b19 : Nat),
 s3.1 = some ({ block := b18, off := b19 } : Addr) ∧
 ((0 : Int) ≤ x7.2 ∧ x7.2 < (s3.2 : Int)) ∧
 ∃ (n20 : Int),
 w15.drew.cell? ({ block := b18, off := b19 + x7.2.toNat } : Addr) = some (Value.int IntKind.i64 n20) ∧
 ∃ (b21 : Nat),
 ∃ (b22 : Nat),
 s3.1 = some ({ block := b21, off := b22 } : Addr) ∧
 ((0 : Int) ≤ x14.2 ∧ x14.2 < (s3.2 : Int)) ∧
 ∃ (n23 : Int),
 w15.drew.cell? ({ block := b21, off := b22 + x14.2.toNat } : Addr) = some (Value.int IntKind.i64 n23) ∧
 CX Try.prog (47 : Nat) #[Value.slice t0.1 t0.2 t0.3, Value.int IntKind.i64 n20, Value.int IntKind.i64 n23] w15.drew fun (v24 : Value) (w25 : World) =>
 ∃ (t26 : Bool),
 v24 = Value.bool t26 ∧
 IfB t26
 (∃ (b27 : Nat),
 ∃ (b28 : Nat),
 s3.1 = some ({ block := b27, off := b28 } : Addr) ∧
 ((0 : Int) ≤ x7.2 ∧ x7.2 < (s3.2 : Int)) ∧
 ∃ (n29 : Int),
 w25.drew.cell? ({ block := b27, off := b28 + x7.2.toNat } : Addr) = some (Value.int IntKind.i64 n29) ∧
 ∃ (b30 : Nat),
 ∃ (b31 : Nat),
 s3.1 = some ({ block := b30, off := b31 } : Addr) ∧
 ((0 : Int) ≤ x14.2 ∧ x14.2 < (s3.2 : Int)) ∧
 ∃ (n32 : Int),
 w25.drew.cell? ({ block := b30, off := b31 + x14.2.toNat } : Addr) = some (Value.int IntKind.i64 n32) ∧
 (1 : Nat) * (2 : Nat) ≤ (16777216 : Nat) ∧
 AllocP w25.drew (Obj.cells #[Value.int IntKind.i64 n29, Value.int IntKind.i64 n32] (44 : Nat)) fun (b33 : Nat) (w34 : World) =>
 ∃ (l35 : List Value),
 ReadC w34 (some ({ block := b33, off := (0 : Nat) } : Addr)) ((1 : Nat) * (2 : Nat)) l35 ∧
 AppendP tt44 (44 : Nat) w34 x14.fst.1 x14.fst.2 x14.fst.3 (1 : Nat) l35 fun (s36 : Sl) (w37 : World) =>
 ([] : List Nat) = [] ∧ ∃ (b38 : Nat), b38 < b13 ∧ y11 b38 ({ p := s36.1, n := s36.2, c := s36.3 }, IntKind.i64.wrap (x14.2 + (1 : Int))) w37)
 (([] : List Nat) = [] ∧ ∃ (b39 : Nat), b39 < b13 ∧ y11 b39 ({ p := x14.fst.1, n := x14.fst.2, c := x14.fst.3 }, IntKind.i64.wrap (x14.2 + (1 : Int))) w25))
 (([] : List Nat) = [] ∧ ∃ (b40 : Nat), b40 < b6 ∧ y4 b40 ({ p := x14.fst.1, n := x14.fst.2, c := x14.fst.3 }, IntKind.i64.wrap (x7.2 + (1 : Int))) w15)
def F22 (t0 : Sl) (w : World) (R : Value → World → Prop) : Prop :=
 CX Try.prog (23 : Nat) #[Value.slice t0.1 t0.2 t0.3] w fun (v1 : Value) (w2 : World) =>
 ∃ (s3 : Sl),
 v1 = Value.slice s3.1 s3.2 s3.3 ∧
 ∃ (y4 : Nat → Sl × Int → World → Prop),
 (∃ (b5 : Nat), y4 b5 ({ p := none, n := (0 : Nat), c := (0 : Nat) }, (0 : Int)) w2) ∧
 ∀ (b6 : Nat) (x7 : Sl × Int) (w8 : World) (y9 : Nat → Value),
 y4 b6 x7 w8 →
 IfB (decide (x7.snd < (s3.n : Int)))
 (∃ (y11 : Nat → Sl × Int → World → Prop),
 (∃ (b12 : Nat), y11 b12 ({ p := x7.fst.1, n := x7.fst.2, c := x7.fst.3 }, (0 : Int)) w8) ∧
 ∀ (b13 : Nat) (x14 : Sl × Int) (w15 : World) (y16 : Nat → Value),
 y11 b13 x14 w15 →
 (F22j2 t0 s3 y4 b6 x7 y11 b13 x14 w15))
 (R (Value.slice x7.fst.1 x7.fst.2 x7.fst.3) w8)
theorem F22_ok (t0 : Sl) (w : World) (R : Value → World → Prop) (h : F22 t0 w R) : CW Try.prog 22 #[Value.slice t0.1 t0.2 t0.3] w R :=
  call_of tbOk mixed en22 Try.func22 rfl (.node (.nil) (.node (.nil) (.node (.nil) (.node (.node (.nil) (.loop [(4, .one (.sl)), (5, .one (.int .i64))] [9, 10, 11, 12, 6, 15, 16, 17, 18, 21, 22, 23, 24, 25, 26, 27, 28, 29, 30, 31, 32, 33, 34, 35, 36, 37, 38, 39, 40, 41, 42, 4, 19, 20, 13, 14, 5] (.node (.nil) (.node (.node (.nil) (.loop [(4, .one (.sl)), (6, .one (.int .i64))] [15, 16, 17, 18, 21, 22, 23, 24, 25, 26, 27, 28, 29, 30, 31, 32, 33, 34, 35, 36, 37, 38, 39, 40, 41, 42, 4, 19, 20, 6] (.node (.nil) (.node (.node (.draw (.st 0 (.st 1 (.st 2 (.st 3 (.st 4 (.st 5 (.st 6 (.st 7 (.st 8 (.ac 9 [] (.fin) (.non)))))))))))) (.node (.draw (.st 0 (.st 1 (.st 2 (.st 3 (.st 4 (.st 5 (.st 6 (.st 7 (.st 8 (.st 9 (.ac 10 [0] (.ac 11 [] (.st 12 (.fin)) (.non)) (.non))))))))))))) (.nil))) (.nil))))) (.nil))))) (.nil))))) (by kernel_rfl) (Nat.le_of_ble_eq_true (by kernel_rfl)) (Eq.mp (α := F22 t0 w R) (by kernel_rfl) h)

def F34j3 (t0 : Sl) (R : Value → World → Prop) (n4 : Int) (y8 : Nat → Int → World → Prop) (b10 : Nat) (n11 : Int) (y15 : Nat → Int → World → Prop) (b17 : Nat) (n18 : Int) (w19 : World) : Prop :=
 IfB (decide (n18 < n4))
 (∃ (b22 : Nat),
 ∃ (b23 : Nat),
 t0.1 = some ({ block := b22, off := b23 } : Addr) ∧
 ((0 : Int) ≤ n11 ∧ n11 < (t0.2 : Int)) ∧
 ∃ (n24 : Int),
 w19.drew.cell? ({ block := b22, off := b23 + n11.toNat * (6 : Nat) + (0 : Nat) } : Addr) = some (Value.int IntKind.i64 n24) ∧
 ∃ (b25 : Nat),
 ∃ (b26 : Nat),
 t0.1 = some ({ block := b25, off := b26 } : Addr) ∧
 ((0 : Int) ≤ n4 ∧ n4 < (t0.2 : Int)) ∧
 ∃ (n27 : Int),
 w19.drew.cell? ({ block := b25, off := b26 + n4.toNat * (6 : Nat) + (0 : Nat) } : Addr) = some (Value.int IntKind.i64 n27) ∧
 IfB (n24 == n27)
 (∃ (b28 : Nat),
 ∃ (b29 : Nat),
 t0.1 = some ({ block := b28, off := b29 } : Addr) ∧
 ((0 : Int) ≤ n18 ∧ n18 < (t0.2 : Int)) ∧
 ∃ (n30 : Int),
 w19.drew.cell? ({ block := b28, off := b29 + n18.toNat * (6 : Nat) + (0 : Nat) } : Addr) = some (Value.int IntKind.i64 n30) ∧
 ∃ (b31 : Nat),
 ∃ (b32 : Nat),
 t0.1 = some ({ block := b31, off := b32 } : Addr) ∧
 ((0 : Int) ≤ n4 ∧ n4 < (t0.2 : Int)) ∧
 ∃ (n33 : Int),
 w19.drew.cell? ({ block := b31, off := b32 + n4.toNat * (6 : Nat) + (0 : Nat) } : Addr) = some (Value.int IntKind.i64 n33) ∧
 IfB (n30 != n33) (R (Value.bool false) w19.drew) (([] : List Nat) = [] ∧ ∃ (b34 : Nat), b34 < b17 ∧ y15 b34 (IntKind.i64.wrap (n18 + (1 : Int))) w19.drew))
 (([] : List Nat) = [] ∧ ∃ (b35 : Nat), b35 < b17 ∧ y15 b35 (IntKind.i64.wrap (n18 + (1 : Int))) w19.drew))
 (([] : List Nat) = [] ∧ ∃ (b36 : Nat), b36 < b10 ∧ y8 b36 (IntKind.i64.wrap (n11 + (1 : Int))) w19)
def F34j1 (t0 : Sl) (R : Value → World → Prop) (y1 : Nat → Int → World → Prop) (b3 : Nat) (n4 : Int) (w5 : World) : Prop :=
 IfB (decide (n4 < (t0.n : Int)))
 (∃ (y8 : Nat → Int → World → Prop),
 (∃ (b9 : Nat), y8 b9 (0 : Int) w5) ∧
 ∀ (b10 : Nat) (n11 : Int) (w12 : World) (y13 : Nat → Value),
 y8 b10 n11 w12 →
 IfB (decide (n11 < n4))
 (∃ (y15 : Nat → Int → World → Prop),
 (∃ (b16 : Nat), y15 b16 (IntKind.i64.wrap (n11 + (1 : Int))) w12) ∧
 ∀ (b17 : Nat) (n18 : Int) (w19 : World) (y20 : Nat → Value),
 y15 b17 n18 w19 →
 (F34j3 t0 R n4 y8 b10 n11 y15 b17 n18 w19))
 (([] : List Nat) = [] ∧ ∃ (b37 : Nat), b37 < b3 ∧ y1 b37 (IntKind.i64.wrap (n4 + (1 : Int))) w12))
 (R (Value.bool true) w5)
def F34 (t0 : Sl) (w : World) (R : Value → World → Prop) : Prop :=
 ∃ (y1 : Nat → Int → World → Prop),
 (∃ (b2 : Nat), y1 b2 (0 : Int) w) ∧
 ∀ (b3 : Nat) (n4 : Int) (w5 : World) (y6 : Nat → Value),
 y1 b3 n4 w5 →
 (F34j1 t0 R y1 b3 n4 w5)
theorem F34_ok (t0 : Sl) (w : World) (R : Value → World → Prop) (h : F34 t0 w R) : CW Try.prog 34 #[Value.slice t0.1 t0.2 t0.3] w R :=
  call_of tbOk mixed en34 Try.func34 rfl (.node (.nil) (.node (.node (.nil) (.loop [(3, .one (.int .i64))] [6, 7, 8, 9, 4, 12, 13, 14, 17, 18, 5, 19, 20, 21, 24, 25, 26, 27, 28, 29, 30, 31, 32, 33, 34, 35, 36, 37, 38, 39, 40, 41, 42, 43, 44, 45, 46, 47, 2, 22, 23, 15, 16, 10, 11, 3] (.node (.nil) (.node (.node (.nil) (.loop [(4, .one (.int .i64))] [12, 13, 14, 17, 18, 5, 19, 20, 21, 24, 25, 26, 27, 28, 29, 30, 31, 32, 33, 34, 35, 36, 37, 38, 39, 40, 41, 42, 43, 44, 45, 46, 47, 2, 22, 23, 15, 16, 4] (.node (.nil) (.node (.node (.nil) (.loop [(5, .one (.int .i64))] [19, 20, 21, 24, 25, 26, 27, 28, 29, 30, 31, 32, 33, 34, 35, 36, 37, 38, 39, 40, 41, 42, 43, 44, 45, 46, 47, 2, 22, 23, 5] (.node (.nil) (.node (.node (.draw (.st 0 (.st 1 (.st 2 (.st 3 (.st 4 (.st 5 (.st 6 (.st 7 (.st 8 (.st 9 (.st 10 (.st 11 (.st 12 (.st 13 (.st 14 (.st 15 (.st 16 (.st 17 (.st 18 (.st 19 (.st 20 (.st 21 (.st 22 (.st 23 (.fin)))))))))))))))))))))))))) (.nil)) (.nil))))) (.nil))))) (.nil))))) (.nil))) (by kernel_rfl) (Nat.le_of_ble_eq_true (by kernel_rfl)) (Eq.mp (α := F34 t0 w R) (by kernel_rfl) h)

def F25j1 (t0 : Sl) (t1 : Sl) (R : Value → World → Prop) (y1 : Nat → Int → World → Prop) (b3 : Nat) (n4 : Int) (w5 : World) : Prop :=
 IfB (decide (n4 < (t0.n : Int)))
 (∃ (b8 : Nat),
 ∃ (b9 : Nat),
 t0.1 = some ({ block := b8, off := b9 } : Addr) ∧
 ((0 : Int) ≤ n4 ∧ n4 < (t0.2 : Int)) ∧
 ∃ (n10 : Int),
 w5.drew.cell? ({ block := b8, off := b9 + n4.toNat } : Addr) = some (Value.int IntKind.i64 n10) ∧
 ∃ (b11 : Nat),
 ∃ (b12 : Nat),
 t1.1 = some ({ block := b11, off := b12 } : Addr) ∧
 ((0 : Int) ≤ n4 ∧ n4 < (t1.2 : Int)) ∧
 ∃ (n13 : Int),
 w5.drew.cell? ({ block := b11, off := b12 + n4.toNat } : Addr) = some (Value.int IntKind.i64 n13) ∧
 IfB (n10 != n13) (R (Value.bool false) w5.drew) (([] : List Nat) = [] ∧ ∃ (b14 : Nat), b14 < b3 ∧ y1 b14 (IntKind.i64.wrap (n4 + (1 : Int))) w5.drew))
 (R (Value.bool true) w5)
def F25 (t0 : Sl) (t1 : Sl) (w : World) (R : Value → World → Prop) : Prop :=
 IfB ((t0.2 : Int) != (t1.2 : Int)) (R (Value.bool false) w)
 (∃ (y1 : Nat → Int → World → Prop),
 (∃ (b2 : Nat), y1 b2 (0 : Int) w) ∧
 ∀ (b3 : Nat) (n4 : Int) (w5 : World) (y6 : Nat → Value),
 y1 b3 n4 w5 →
 (F25j1 t0 t1 R y1 b3 n4 w5))
theorem F25_ok (t0 : Sl) (t1 : Sl) (w : World) (R : Value → World → Prop) (h : F25 t0 t1 w R) : CW Try.prog 25 #[Value.slice t0.1 t0.2 t0.3, Value.slice t1.1 t1.2 t1.3] w R :=
  call_of tbOk mixed en25 Try.func25 rfl (.node (.nil) (.node (.nil) (.node (.node (.nil) (.loop [(5, .one (.int .i64))] [11, 12, 13, 14, 17, 18, 19, 20, 21, 22, 23, 24, 25, 4, 15, 16, 5] (.node (.nil) (.node (.node (.draw (.st 0 (.st 1 (.st 2 (.st 3 (.st 4 (.st 5 (.st 6 (.st 7 (.st 8 (.fin))))))))))) (.nil)) (.nil))))) (.nil)))) (by kernel_rfl) (Nat.le_of_ble_eq_true (by kernel_rfl)) (Eq.mp (α := F25 t0 t1 w R) (by kernel_rfl) h)

end Go.Proofs.Ytmmhbjbaallkfaa.Gx

/- The document's sagas (gimmalref29): Ints, IsAhead, Whole, Sagas, Ahead. -/
namespace Go.Proofs.Ytmmhbjbaallkfaa.Gx
open Go
set_option linter.unusedSimpArgs false
set_option linter.unusedVariables false

theorem c25 {w : World} {s t : Sl} {xs ys : List Int} (hs : Rd w s 1 (xs.map iv)) (ht : Rd w t 1 (ys.map iv)) (hl : xs.length ≤ 1000000) :
    CW Try.prog 25 #[slV s, slV t] w fun v w' => v = .bool (decide (xs = ys)) ∧ Ext w w' := by
  have hsn := rdI hs
  have htn := rdI ht
  refine F25_ok s t w _ (IfB.intro (fun hne => ⟨?_, Ch.refl _ _⟩) fun he => ?_)
  · have : s.n ≠ t.n := fun e => by simp [e] at hne
    rw [decide_eq_false (fun e => this (by rw [hsn, htn, e]))]
  · have he : s.n = t.n := by simp at he; omega
    refine ⟨fun m x W => ∃ i : Nat, i ≤ xs.length ∧ m + i = xs.length ∧ x = (i : Int) ∧ Ext w W ∧ xs.take i = ys.take i, ⟨xs.length, 0, Nat.zero_le _, rfl, rfl, Ch.refl _ _, rfl⟩, ?_⟩
    rintro m _ W g ⟨i, hi, hmi, rfl, hE, hsame⟩
    unfold F25j1
    refine IfB.dec (fun hlt => ?_) fun hge => ?_
    · have hi' : i < xs.length := by omega
      have hx : xs[i]? = some xs[i] := List.getElem?_eq_getElem hi'
      have hy : ys[i]? = some (ys[i]'(by omega)) := List.getElem?_eq_getElem (by omega)
      generalize xs[i] = x at hx
      generalize ys[i]'_ = y at hy
      have ed := hE.trans (extDrew W)
      obtain ⟨b1, o1, hp1, hc1⟩ := rdI_get (hs.ext ed) hx
      obtain ⟨b2, o2, hp2, hc2⟩ := rdI_get (ht.ext ed) hy
      refine ⟨b1, o1, hp1, ⟨by omega, hlt⟩, x, by rw [Int.toNat_natCast]; exact hc1, b2, o2, hp2, ⟨by omega, by omega⟩, y, by rw [Int.toNat_natCast]; exact hc2, IfB.intro (fun hne => ⟨?_, ed⟩) fun hxy => ⟨rfl, m - 1, by omega, i + 1, hi', by omega, by rw [wrap_of (by omega) (by omega)]; rfl, ed, ?_⟩⟩
      · have hne : x ≠ y := by simpa using hne
        rw [decide_eq_false (fun e => hne (by rw [e, hy] at hx; exact (Option.some.inj hx).symm))]
      · have hxy : x = y := by simpa using hxy
        rw [take_succ_get hx, take_succ_get hy, hsame, hxy]
    · have hi' : i = xs.length := by omega
      subst hi'
      rw [List.take_length, List.take_of_length_le (by omega)] at hsame
      exact ⟨by rw [decide_eq_true hsame], hE⟩

/-- A cell of a node. -/
theorem Hst.sg {w : World} {t : Sl} {hs : List Nd} (h : Hst w t hs) {i : Nat} {x : Nd} (hx : hs[i]? = some x) : ∃ b o, t.p = some ⟨b, o, none⟩ ∧ w.cell? ⟨b, o + (i : Int).toNat * 6 + 0, none⟩ = some (.int .i64 x.v.1) := by
  obtain ⟨b, o, hp, hc⟩ := h.at hx
  exact ⟨b, o, hp, by rw [Int.toNat_natCast]; exact hc 0 _ rfl⟩

theorem c47 {w : World} {t : Sl} {hs : List Nd} (hH : Hst w t hs) (a b : Int) :
    CW Try.prog 47 #[slV t, iv a, iv b] w fun v w' => ∃ r, v = .bool r ∧ (r = true ↔ AhP hs (a, b)) ∧ Ext w w' := by
  have htn := hH.n
  have hlen := hH.len
  refine F47_ok t a b w _ ⟨fun m x W => ∃ i : Nat, i ≤ hs.length ∧ m + i = hs.length ∧ x = (i : Int) ∧ Ext w W ∧ ¬ ahQ hs i 0 (a, b), ⟨hs.length, 0, Nat.zero_le _, rfl, rfl, Ch.refl _ _, ahQ_zero _⟩, ?_⟩
  rintro m _ W g ⟨i, hi, hmi, rfl, hE, hno⟩
  refine IfB.dec (fun hlt => ?_) fun hge => ?_
  · have hi' : i < hs.length := by omega
    have hx : hs[i]? = some hs[i] := List.getElem?_eq_getElem hi'
    generalize hs[i] = nb at hx
    refine ⟨fun q x W' => ∃ k : Nat, k ≤ i ∧ q + k = i ∧ x = (k : Int) ∧ Ext w W' ∧ ¬ ahQ hs i k (a, b), ⟨i, 0, Nat.zero_le _, rfl, rfl, hE, hno⟩, ?_⟩
    rintro q _ w12 g ⟨k, hk, hqk, rfl, hE', hno'⟩
    unfold F47j2
    refine IfB.dec (fun hlt2 => ?_) fun hge2 => ?_
    · have hk' : k < i := by omega
      have hy : hs[k]? = some hs[k] := List.getElem?_eq_getElem (by omega)
      generalize hs[k] = na at hy
      have ed := hE'.trans (extDrew w12)
      have hD := hH.ext ed
      have hstep := ahQ_step hk' hy hx (a, b)
      have w1 : IntKind.i64.wrap ((k : Int) + 1) = ((k + 1 : Nat) : Int) := by rw [wrap_of (by omega) (by omega)]; rfl
      have hbk : (0 : Int) ≤ (k : Int) ∧ (k : Int) < (t.n : Int) := ⟨by omega, by omega⟩
      have hbi : (0 : Int) ≤ (i : Int) ∧ (i : Int) < (t.n : Int) := ⟨by omega, hlt⟩
      have next : ∀ {W' : World}, Ext w W' → ¬ ((a, b) = (na.v.1, nb.v.1) ∧ cnfP na nb) → ∃ b33, b33 < q ∧ ∃ k' : Nat, k' ≤ i ∧ b33 + k' = i ∧ IntKind.i64.wrap ((k : Int) + 1) = (k' : Int) ∧ Ext w W' ∧ ¬ ahQ hs i k' (a, b) := fun {W'} e h =>
        ⟨q - 1, by omega, k + 1, hk', by omega, w1, e, fun h' => (hstep.1 h').elim hno' h⟩
      obtain ⟨c1, o1, hp1, hc1⟩ := hD.sg hy
      obtain ⟨c2, o2, hp2, hc2⟩ := hD.sg hx
      obtain ⟨c3, o3, hp3, hc3⟩ := hD.at hy
      obtain ⟨c4, o4, hp4, hc4⟩ := hD.at hx
      refine ⟨c1, o1, hp1, hbk, na.v.1, hc1, IfB.intro (fun h1 => ⟨c2, o2, hp2, hbi, nb.v.1, hc2, IfB.intro (fun h2 => ⟨c3, o3, hp3, hbk, na.v, by rw [Int.toNat_natCast]; exact hc3, c4, o4, hp4, hbi, nb.v, by rw [Int.toNat_natCast]; exact hc4, (c12 (hD.get hy) (hD.get hx)).use ?_⟩) fun h2 => ⟨rfl, next ed fun h => ?_⟩⟩) fun h1 => ⟨rfl, next ed fun h => ?_⟩⟩
      · have h1 : na.v.1 = a := by simpa using h1
        have h2 : nb.v.1 = b := by simpa using h2
        rintro _ w28 ⟨r, rfl, hr, e28⟩
        refine ⟨r, rfl, IfB.intro (fun h => ⟨true, rfl, ⟨fun _ => ⟨k, i, na, nb, hk', hy, hx, by rw [h1, h2], hr.1 h⟩, fun _ => rfl⟩, ed.trans e28⟩) fun h => ⟨rfl, next (ed.trans e28) fun h' => ?_⟩⟩
        rw [hr.2 h'.2] at h; cases h
      · have := congrArg Prod.snd h.1
        simp only at this
        rw [this] at h2; simp at h2
      · have := congrArg Prod.fst h.1
        simp only at this
        rw [this] at h1; simp at h1
    · have hk' : k = i := by omega
      subst hk'
      exact ⟨rfl, m - 1, by omega, k + 1, hi', by omega, by rw [wrap_of (by omega) (by omega)]; rfl, hE', fun h => hno' ((ahQ_row _).1 h)⟩
  · have hi' : i = hs.length := by omega
    subst hi'
    exact ⟨false, rfl, ⟨fun h => (by cases h), fun h => absurd ((ahQ_all _).2 h) hno⟩, hE⟩
end Go.Proofs.Ytmmhbjbaallkfaa.Gx

/- The document's sagas (gimmalref29): Whole, Sagas. -/
namespace Go.Proofs.Ytmmhbjbaallkfaa.Gx
open Go
set_option linter.unusedSimpArgs false
set_option linter.unusedVariables false

/-- As far as the loops came: (k, m, j) before (kk, mm, i). -/
def WhU (hs : List Nd) (i kk mm : Nat) : Prop := ∀ (k m j : Nat) (a b c : Nd), k < m → m < j → (j < i ∨ (j = i ∧ (k < kk ∨ (k = kk ∧ m < mm)))) → hs[k]? = some a → hs[m]? = some b → hs[j]? = some c → a.v.1 = c.v.1 → b.v.1 = c.v.1

theorem c34 {w : World} {t : Sl} {hs : List Nd} (hH : Hst w t hs) :
    CW Try.prog 34 #[slV t] w fun v w' => ∃ r, v = .bool r ∧ (r = true ↔ WhP hs) ∧ Ext w w' := by
  have htn := hH.n
  have hlen := hH.len
  refine F34_ok t w _ ⟨fun m x W => ∃ i : Nat, i ≤ hs.length ∧ m + i = hs.length ∧ x = (i : Int) ∧ Ext w W ∧ WhU hs i 0 0, ⟨hs.length, 0, Nat.zero_le _, rfl, rfl, Ch.refl _ _, fun k m j a b c h1 h2 h3 => by omega⟩, ?_⟩
  rintro m _ W g ⟨i, hi, hmi, rfl, hE, hW⟩
  unfold F34j1
  refine IfB.dec (fun hlt => ?_) fun hge => ?_
  · have hi' : i < hs.length := by omega
    have hx : hs[i]? = some hs[i] := List.getElem?_eq_getElem hi'
    generalize hs[i] = c at hx
    have w1 : ∀ {q : Nat}, q < hs.length → IntKind.i64.wrap ((q : Int) + 1) = ((q + 1 : Nat) : Int) := fun {q} h => by rw [wrap_of (by omega) (by omega)]; rfl
    have hbi : (0 : Int) ≤ (i : Int) ∧ (i : Int) < (t.n : Int) := ⟨by omega, hlt⟩
    refine ⟨fun q x W' => ∃ k : Nat, k ≤ i ∧ q + k = i ∧ x = (k : Int) ∧ Ext w W' ∧ WhU hs i k 0, ⟨i, 0, Nat.zero_le _, rfl, rfl, hE, hW⟩, ?_⟩
    rintro q _ w12 g ⟨k, hk, hqk, rfl, hE2, hW2⟩
    refine IfB.dec (fun hlt2 => ?_) fun hge2 => ?_
    · have hk' : k < i := by omega
      have hy : hs[k]? = some hs[k] := List.getElem?_eq_getElem (by omega)
      generalize hs[k] = a at hy
      have hbk : (0 : Int) ≤ (k : Int) ∧ (k : Int) < (t.n : Int) := ⟨by omega, by omega⟩
      refine ⟨fun s x W' => ∃ m : Nat, k + 1 ≤ m ∧ m ≤ i ∧ s + m = i ∧ x = (m : Int) ∧ Ext w W' ∧ WhU hs i k m, ⟨i - (k + 1), k + 1, by omega, by omega, by omega, w1 (by omega), hE2, fun k' m' j' a' b' c' h1 h2 h3 => hW2 k' m' j' a' b' c' h1 h2 (by omega)⟩, ?_⟩
      rintro s _ w19 g ⟨p, hp1, hp2, hsp, rfl, hE3, hW3⟩
      unfold F34j3
      refine IfB.dec (fun hlt3 => ?_) fun hge3 => ?_
      · have hp' : p < i := by omega
        have hz : hs[p]? = some hs[p] := List.getElem?_eq_getElem (by omega)
        generalize hs[p] = b at hz
        have hbp : (0 : Int) ≤ (p : Int) ∧ (p : Int) < (t.n : Int) := ⟨by omega, by omega⟩
        have ed := hE3.trans (extDrew w19)
        have hD := hH.ext ed
        obtain ⟨b1, o1, q1, d1⟩ := hD.sg hy
        obtain ⟨b2, o2, q2, d2⟩ := hD.sg hx
        obtain ⟨b3, o3, q3, d3⟩ := hD.sg hz
        have next : (a.v.1 = c.v.1 → b.v.1 = c.v.1) → ∃ b34, b34 < s ∧ ∃ m : Nat, k + 1 ≤ m ∧ m ≤ i ∧ b34 + m = i ∧ IntKind.i64.wrap ((p : Int) + 1) = (m : Int) ∧ Ext w w19.drew ∧ WhU hs i k m := fun h =>
          ⟨s - 1, by omega, p + 1, by omega, hp', by omega, w1 (by omega), ed, fun k' m' j' a' b' c' h1 h2 h3 ha hb hc => by
            by_cases he : j' = i ∧ k' = k ∧ m' = p
            · obtain ⟨rfl, rfl, rfl⟩ := he
              rw [hy] at ha; rw [hz] at hb; rw [hx] at hc
              cases ha; cases hb; cases hc
              exact h
            · exact hW3 k' m' j' a' b' c' h1 h2 (by omega) ha hb hc⟩
        refine ⟨b1, o1, q1, hbk, a.v.1, d1, b2, o2, q2, hbi, c.v.1, d2, IfB.intro (fun he => ⟨b3, o3, q3, hbp, b.v.1, d3, b2, o2, q2, hbi, c.v.1, d2, IfB.intro (fun hne => ⟨false, rfl, ⟨fun h => (by cases h), fun h => ?_⟩, ed⟩) fun heq => ⟨rfl, next fun _ => by simpa using heq⟩⟩) fun hne => ⟨rfl, next fun h => ?_⟩⟩
        · have he : a.v.1 = c.v.1 := by simpa using he
          have := h k p i a b c (by omega) hp' hi' hy hz hx he
          rw [this] at hne; simp at hne
        · rw [h] at hne; simp at hne
      · have hp' : p = i := by omega
        subst hp'
        exact ⟨rfl, q - 1, by omega, k + 1, hk', by omega, w1 (by omega), hE3, fun k' m' j' a' b' c' h1 h2 h3 => hW3 k' m' j' a' b' c' h1 h2 (by omega)⟩
    · have hk' : k = i := by omega
      subst hk'
      exact ⟨rfl, m - 1, by omega, k + 1, hi', by omega, w1 hi', hE2, fun k' m' j' a' b' c' h1 h2 h3 => hW2 k' m' j' a' b' c' h1 h2 (by omega)⟩
  · have hi' : i = hs.length := by omega
    subst hi'
    exact ⟨true, rfl, ⟨fun _ k m j a b c h1 h2 h3 => hW k m j a b c h1 h2 (.inl h3), fun _ => rfl⟩, hE⟩
end Go.Proofs.Ytmmhbjbaallkfaa.Gx

/- The document's sagas (gimmalref29): Sagas. -/
namespace Go.Proofs.Ytmmhbjbaallkfaa.Gx
open Go
set_option linter.unusedSimpArgs false
set_option linter.unusedVariables false

theorem c23 {w : World} {t : Sl} {hs : List Nd} (hH : Hst w t hs) :
    CW Try.prog 23 #[slV t] w fun v w' => ∃ t', ∃ l : List Int, v = slV t' ∧ SgL hs l ∧ l.length ≤ hs.length ∧ OwS w' t' 1 (l.map iv) ∧ Ext w w' ∧ ∀ j ∈ blk t', w.heap.size ≤ j := by
  have htn := hH.n
  have hlen := hH.len
  refine F23_ok t w _ ⟨fun m x W => ∃ (i : Nat) (so : Sl) (l : List Int), i ≤ hs.length ∧ m + i = hs.length ∧ x = (so, (i : Int)) ∧ SgL (hs.take i) l ∧ l.length ≤ i ∧ OwS W so 1 (l.map iv) ∧ Ext w W ∧ ∀ j ∈ blk so, w.heap.size ≤ j,
    ⟨hs.length, 0, ⟨none, 0, 0⟩, [], Nat.zero_le _, rfl, rfl, ⟨.nil, by simp⟩, Nat.le_refl _, .nil _ _, Ch.refl _ _, by simp [blk]⟩, ?_⟩
  rintro m _ W g ⟨i, so, l, hi, hmi, rfl, hSg, hll, hO, hE, hb⟩
  have hon := owsI hO
  refine IfB.dec (fun hlt => ?_) fun hge => ?_
  · have hi' : i < hs.length := by dsimp only at hlt; omega
    have hx : hs[i]? = some hs[i] := List.getElem?_eq_getElem hi'
    have htk := take_succ_get hx
    generalize hs[i] = n at hx htk
    have hbi : (0 : Int) ≤ (i : Int) ∧ (i : Int) < (t.n : Int) := ⟨by omega, by omega⟩
    have w1 : IntKind.i64.wrap ((i : Int) + 1) = ((i + 1 : Nat) : Int) := by rw [wrap_of (by omega) (by omega)]; rfl
    have known : (∃ k ∈ l, k = n.v.1) → SgL (hs.take (i + 1)) l := fun ⟨k, hk, e⟩ => ⟨hSg.srt, fun k' => by
      rw [hSg.mem, htk]
      constructor
      · rintro ⟨x, hx', h⟩; exact ⟨x, List.mem_append.2 (.inl hx'), h⟩
      · rintro ⟨x, hx', h⟩
        rcases List.mem_append.1 hx' with h' | h'
        · exact ⟨x, h', h⟩
        · rw [List.mem_singleton.1 h'] at h
          rw [← h, ← e]
          exact (hSg.mem k).1 hk⟩
    refine ⟨fun q x W' => ∃ k : Nat, k ≤ l.length ∧ q + k = l.length ∧ x = (decide (n.v.1 ∈ l.take k), (k : Int)) ∧ Ext W W', ⟨l.length, 0, Nat.zero_le _, rfl, by simp, Ch.refl _ _⟩, ?_⟩
    rintro q _ w12 g ⟨k, hk, hqk, rfl, hE2⟩
    unfold F23j2
    refine IfB.dec (fun hlt2 => ?_) fun hge2 => ?_
    · have hk' : k < l.length := by dsimp only at hlt2; omega
      have hy : l[k]? = some l[k] := List.getElem?_eq_getElem hk'
      generalize l[k] = y at hy
      have w2 : IntKind.i64.wrap ((k : Int) + 1) = ((k + 1 : Nat) : Int) := by rw [wrap_of (by omega) (by omega)]; rfl
      have ed := hE2.trans (extDrew w12)
      have hnx : decide (n.v.1 ∈ l.take (k + 1)) = (decide (n.v.1 ∈ l.take k) || y == n.v.1) := by
        rw [take_succ_get hy, Bool.eq_iff_iff]
        simp only [decide_eq_true_eq, List.mem_append, List.mem_singleton, Bool.or_eq_true, beq_iff_eq]
        exact or_congr Iff.rfl eq_comm
      refine IfB.intro (fun h => ⟨rfl, q - 1, by omega, k + 1, hk', by omega, ?_, ed⟩) fun h => ?_
      · have h : decide (n.v.1 ∈ l.take k) = true := h
        rw [hnx, h, w2]; rfl
      · have h : decide (n.v.1 ∈ l.take k) = false := h
        obtain ⟨b1, o1, hp1, hc1⟩ := rdI_get (hO.ext ed).rd hy
        obtain ⟨b2, o2, hp2, hc2⟩ := (hH.ext (hE.trans ed)).sg hx
        refine ⟨b1, o1, hp1, (⟨by omega, by omega⟩ : (0 : Int) ≤ (k : Int) ∧ (k : Int) < (so.n : Int)), y, by dsimp only; rw [Int.toNat_natCast]; exact hc1, b2, o2, hp2, hbi, n.v.1, hc2, rfl, q - 1, by omega, k + 1, hk', by omega, ?_, ed⟩
        rw [hnx, h, w2]; rfl
    · have hk' : k = l.length := by dsimp only at hge2; omega
      subst hk'
      rw [List.take_length]
      refine IfB.intro (fun h => ⟨rfl, m - 1, by omega, i + 1, so, l, hi', by omega, by dsimp only; rw [w1], known ⟨_, of_decide_eq_true h, rfl⟩, by omega, hO.ext hE2, hE.trans hE2, hb⟩) fun h => ?_
      have hno : n.v.1 ∉ l := of_decide_eq_false h
      have X2 := hE.trans hE2
      obtain ⟨b2, o2, hp2, hc2⟩ := (hH.ext X2).sg hx
      refine ⟨b2, o2, hp2, hbi, n.v.1, hc2, by decide, fun b27 w28 a28 => ?_⟩
      have e28 : Ext w12 w28 := a28.ch _
      refine ((hO.ext hE2).ext e28).lit (new := [iv n.v.1]) (T' := 3) a28.new rfl (oneIv _) rfl rfl (by omega) (by decide) fun s30 w31 ho31 hn31 hC31 hb31 => ?_
      have X31 : Ext w w31 := (X2.trans e28).chN hC31 hb
      have hb30 : ∀ j ∈ blk s30, w.heap.size ≤ j := fun j hj => by
        rcases hb31 j hj with h | h
        · exact hb j h
        · have := X2.size; have := e28.size; omega
      obtain ⟨b, hp⟩ := ho31.ptr (by omega)
      have hbw : w.heap.size ≤ b := hb30 b (by simp [blk, hp])
      refine ⟨fun z x W' => ∃ (A B : List Int) (d : Int), l = A ++ B ∧ z = A.length ∧ x = (A.length : Int) ∧ (∀ y ∈ B, n.v.1 < y) ∧ OwS W' s30 1 ((A ++ d :: B).map iv) ∧ Ext w W', ⟨l.length, l, [], n.v.1, by simp, rfl, by dsimp only; omega, by simp, by rw [List.map_append]; exact ho31, X31⟩, ?_⟩
      rintro z _ w36 g ⟨A, B, d, hAB, rfl, rfl, hB, hO36, X36⟩
      have hABl : l.length = A.length + B.length := by rw [hAB, List.length_append]
      have ed := X36.trans (extDrew w36)
      have hOd := hO36.ext (extDrew w36)
      have fin : (∀ y ∈ A, y < n.v.1) → F23k1 t (so, (i : Int)) w36 s30 (A.length : Int) m (fun m x W => ∃ (i : Nat) (so : Sl) (l : List Int), i ≤ hs.length ∧ m + i = hs.length ∧ x = (so, (i : Int)) ∧ SgL (hs.take i) l ∧ l.length ≤ i ∧ OwS W so 1 (l.map iv) ∧ Ext w W ∧ ∀ j ∈ blk so, w.heap.size ≤ j) := fun hA => by
        unfold F23k1
        obtain ⟨b3, o3, hp3, hc3⟩ := (hH.ext ed).sg hx
        refine ⟨b3, o3, hp3, hbi, n.v.1, hc3, b, 0, hp, ⟨by omega, by show (A.length : Int) < (s30.n : Int); omega⟩, rfl, ?_⟩
        rw [Int.toNat_natCast, Nat.zero_add]
        refine hOd.store (vs := [iv n.v.1]) hp (by simp; omega) (oneIv _) fun w64 hO64 hC64 => ⟨rfl, m - 1, by omega, i + 1, s30, A ++ n.v.1 :: B, hi', by omega, by dsimp only; rw [w1], ⟨?_, fun k' => ?_⟩, by simp; omega, ?_, ed.chN hC64 fun j e => by omega, hb30⟩
        · have hs' := hSg.srt
          rw [hAB] at hs'
          obtain ⟨p1, p2, p3⟩ := List.pairwise_append.1 hs'
          refine List.pairwise_append.2 ⟨p1, List.pairwise_cons.2 ⟨hB, p2⟩, fun a ha b' hb' => ?_⟩
          rcases List.mem_cons.1 hb' with rfl | hb'
          · exact hA a ha
          · exact p3 a ha b' hb'
        · have hm := hSg.mem k'
          rw [hAB, List.mem_append] at hm
          rw [List.mem_append, List.mem_cons, htk]
          constructor
          · rintro (h' | rfl | h')
            · obtain ⟨x, hx', e⟩ := hm.1 (.inl h'); exact ⟨x, List.mem_append.2 (.inl hx'), e⟩
            · exact ⟨n, by simp, rfl⟩
            · obtain ⟨x, hx', e⟩ := hm.1 (.inr h'); exact ⟨x, List.mem_append.2 (.inl hx'), e⟩
          · rintro ⟨x, hx', e⟩
            rcases List.mem_append.1 hx' with h' | h'
            · rcases hm.2 ⟨x, h', e⟩ with h | h
              · exact .inl h
              · exact .inr (.inr h)
            · rw [List.mem_singleton.1 h'] at e; exact .inr (.inl e.symm)
        · have e : ((A ++ d :: B).map iv).take A.length ++ [iv n.v.1] ++ ((A ++ d :: B).map iv).drop (A.length + [iv n.v.1].length) = (A ++ n.v.1 :: B).map iv := by
            have hml : A.length = (A.map iv).length := (List.length_map ..).symm
            rw [List.map_append, List.map_append, hml, List.take_append_of_le_length (Nat.le_refl _), List.take_length, List.drop_length_add_append]
            simp
          rw [e] at hO64; exact hO64
      unfold F23j3
      refine IfB.dec (fun h0 => ?_) fun h0 => fin fun y hy => ?_
      · have h0' : 0 < A.length := by omega
        obtain ⟨A', a, rfl⟩ : ∃ A' a, A = A' ++ [a] := ⟨A.dropLast, A.getLast (List.length_pos_iff.1 h0'), (List.dropLast_concat_getLast _).symm⟩
        have hAl : (A' ++ [a]).length = A'.length + 1 := by simp
        have hw : IntKind.i64.wrap (((A' ++ [a]).length : Int) - 1) = (A'.length : Int) := by rw [wrap_of (by omega) (by omega)]; omega
        have hga : ((A' ++ [a]) ++ d :: B)[A'.length]? = some a := by simp
        obtain ⟨b1, hp1, hc1⟩ := hOd.elem1 (i := A'.length) (v := iv a) (by rw [List.getElem?_map, hga]; rfl)
        rw [hp] at hp1; cases hp1
        obtain ⟨b3, o3, hp3, hc3⟩ := (hH.ext ed).sg hx
        have hba : (0 : Int) ≤ (A'.length : Int) ∧ (A'.length : Int) < (s30.n : Int) := ⟨by omega, by omega⟩
        have hct : w36.drew.cell? ⟨b, 0 + (A'.length : Int).toNat, none⟩ = some (iv a) := by rw [Int.toNat_natCast, Nat.zero_add]; exact hc1
        rw [hw]
        refine ⟨b, 0, hp, hba, a, hct, b3, o3, hp3, hbi, n.v.1, hc3, IfB.dec (fun hlt3 => ⟨b, 0, hp, hba, a, hct, b, 0, hp, ⟨by omega, by omega⟩, rfl, ?_⟩) fun hge3 => fin fun y hy => ?_⟩
        · rw [Int.toNat_natCast, Nat.zero_add]
          refine hOd.store (vs := [iv a]) hp (by simp; omega) (oneIv _) fun w50 hO50 hC50 => ⟨rfl, A'.length, by omega, A', a :: B, a, by rw [hAB]; simp, rfl, rfl, fun y hy => ?_, ?_, ed.chN hC50 fun j e => by omega⟩
          · rcases List.mem_cons.1 hy with rfl | hy
            · exact hlt3
            · exact hB y hy
          · have e : (((A' ++ [a]) ++ d :: B).map iv).take (A' ++ [a]).length ++ [iv a] ++ (((A' ++ [a]) ++ d :: B).map iv).drop ((A' ++ [a]).length + [iv a].length) = (A' ++ a :: a :: B).map iv := by
              have hml : (A' ++ [a]).length = ((A' ++ [a]).map iv).length := (List.length_map ..).symm
              rw [List.map_append, hml, List.take_append_of_le_length (Nat.le_refl _), List.take_length, List.drop_length_add_append]
              simp
            rw [e] at hO50; exact hO50
        · have hs' := hSg.srt
          rw [hAB] at hs'
          have p1 := (List.pairwise_append.1 hs').1
          have han : a ≠ n.v.1 := fun e => hno (by rw [hAB, ← e]; simp)
          rcases List.mem_append.1 hy with h' | h'
          · have := (List.pairwise_append.1 p1).2.2 y h' a (by simp); omega
          · rw [List.mem_singleton.1 h']; omega
      · have : A = [] := List.length_eq_zero_iff.1 (by omega)
        subst this; cases hy
  · have hi' : i = hs.length := by dsimp only at hge; omega
    subst hi'
    rw [List.take_length] at hSg
    exact ⟨so, l, rfl, hSg, hll, hO, hE, hb⟩
end Go.Proofs.Ytmmhbjbaallkfaa.Gx

/- The document's sagas (gimmalref29): Ahead. -/
namespace Go.Proofs.Ytmmhbjbaallkfaa.Gx
open Go
set_option linter.unusedSimpArgs false
set_option linter.unusedVariables false

theorem key_lt {x y : Int × Int} (hx : SfP.Q x) (hy : SfP.Q y) : SfP.key x < SfP.key y ↔ x.1 < y.1 ∨ (x.1 = y.1 ∧ x.2 < y.2) := by
  unfold SfP.key; unfold SfP.Q at hx hy; omega
theorem SgL.q {hs : List Nd} {l : List Int} (h : SgL hs l) (hq : SgR hs) {a b : Int} (ha : a ∈ l) (hb : b ∈ l) : SfP.Q (a, b) := by
  obtain ⟨n, hn, rfl⟩ := (h.mem a).1 ha
  obtain ⟨m, hm, rfl⟩ := (h.mem b).1 hb
  exact ⟨hq n hn, hq m hm⟩
/-- What was put in so far. -/
def bfP (l : List Int) (i k : Nat) (p : Int × Int) : Prop := (p.1 ∈ l.take i ∧ p.2 ∈ l) ∨ (l[i]? = some p.1 ∧ p.2 ∈ l.take k)

theorem c22 {w : World} {t : Sl} {hs : List Nd} (hH : Hst w t hs) (hl : hs.length ≤ 1000) (hq : SgR hs) :
    CW Try.prog 22 #[slV t] w fun v w' => ∃ t', ∃ xs : List (Int × Int), v = slV t' ∧ xs.Pairwise (fun x y => SfP.key x < SfP.key y) ∧ (∀ p, p ∈ xs ↔ AhP hs p) ∧ xs.length ≤ 1000000 ∧ OwS w' t' 2 (xs.flatMap sv) ∧ Ext w w' ∧ ∀ j ∈ blk t', w.heap.size ≤ j := by
  refine F22_ok t w _ ((c23 hH).use ?_)
  rintro _ w2 ⟨s3, l, rfl, hSg, hll, ho3, e2, hb3⟩
  have h3n := owsI ho3
  have hL : l.length * l.length ≤ 1000000 := Nat.le_trans (Nat.mul_le_mul (Nat.le_trans hll hl) (Nat.le_trans hll hl)) (by decide)
  let I : Nat → Nat → Sl → List (Int × Int) → World → Prop := fun i k so ys W => OwS W so 2 (ys.flatMap sv) ∧ ys.Pairwise (fun x y => SfP.key x < SfP.key y) ∧ (∀ p, p ∈ ys ↔ bfP l i k p ∧ AhP hs p) ∧ ys.length ≤ i * l.length + k ∧ Ext w2 W ∧ ∀ j ∈ blk so, w2.heap.size ≤ j
  have w1 : ∀ {q : Nat}, q < l.length → IntKind.i64.wrap ((q : Int) + 1) = ((q + 1 : Nat) : Int) := fun {q} h => by rw [wrap_of (by omega) (by omega)]; rfl
  refine ⟨s3, rfl, fun m x W => ∃ (i : Nat) (so : Sl) (ys : List (Int × Int)), i ≤ l.length ∧ m + i = l.length ∧ x = (so, (i : Int)) ∧ I i 0 so ys W, ⟨l.length, 0, ⟨none, 0, 0⟩, [], Nat.zero_le _, rfl, rfl, .nil _ _, .nil, fun p => ⟨fun h => (by cases h), fun h => ?_⟩, by simp, Ch.refl _ _, by simp [blk]⟩, ?_⟩
  · obtain ⟨h | h, _⟩ := h
    · simp at h
    · simp at h
  rintro m _ W g ⟨i, so, ys, hi, hmi, rfl, hI⟩
  refine IfB.dec (fun hlt => ?_) fun hge => ?_
  · have hi' : i < l.length := by dsimp only at hlt; omega
    have hiL : (i + 1) * l.length = i * l.length + l.length := Nat.succ_mul _ _
    have hiL2 : (i + 1) * l.length ≤ 1000000 := Nat.le_trans (Nat.mul_le_mul_right _ hi') hL
    have hx : l[i]? = some l[i] := List.getElem?_eq_getElem hi'
    have htk := take_succ_get hx
    have hxm := List.mem_of_getElem? hx
    have hxlt : ∀ y ∈ l.take i, y < l[i] := fun y hy => by
      obtain ⟨j, hj, rfl⟩ := List.getElem_of_mem hy
      rw [List.length_take] at hj
      rw [List.getElem_take]
      exact List.pairwise_iff_getElem.1 hSg.srt j i (by omega) hi' (by omega)
    generalize l[i] = a at hx htk hxm hxlt
    refine ⟨fun q x W' => ∃ (k : Nat) (so : Sl) (ys : List (Int × Int)), k ≤ l.length ∧ q + k = l.length ∧ x = (so, (k : Int)) ∧ I i k so ys W', ⟨l.length, 0, so, ys, Nat.zero_le _, rfl, rfl, hI⟩, ?_⟩
    rintro q _ w15 g ⟨k, so', zs, hk, hqk, rfl, hO, hsrt, hmem, hzl, hE, hb⟩
    have hon := owsN sv_len (by omega) hO
    unfold F22j2
    refine IfB.dec (fun hlt2 => ?_) fun hge2 => ?_
    · have hk' : k < l.length := by dsimp only at hlt2; omega
      have hy : l[k]? = some l[k] := List.getElem?_eq_getElem hk'
      have htk2 := take_succ_get hy
      have hym := List.mem_of_getElem? hy
      have hylt : ∀ y ∈ l.take k, y < l[k] := fun y hy => by
        obtain ⟨j, hj, rfl⟩ := List.getElem_of_mem hy
        rw [List.length_take] at hj
        rw [List.getElem_take]
        exact List.pairwise_iff_getElem.1 hSg.srt j k (by omega) hk' (by omega)
      generalize l[k] = b at hy htk2 hym hylt
      have ed := extDrew w15
      have get : ∀ {W' : World} {j : Nat} {y : Int}, Ext w2 W' → l[j]? = some y → ∃ b, s3.p = some ⟨b, 0, none⟩ ∧ W'.cell? ⟨b, 0 + (j : Int).toNat, none⟩ = some (iv y) := fun {W' j y} e h => by
        obtain ⟨b, hp, hc⟩ := (ho3.ext e).elem1 (i := j) (v := iv y) (by rw [List.getElem?_map, h]; rfl)
        exact ⟨b, hp, by rw [Int.toNat_natCast, Nat.zero_add]; exact hc⟩
      have hbi : (0 : Int) ≤ (i : Int) ∧ (i : Int) < (s3.n : Int) := ⟨by omega, by omega⟩
      have hbk : (0 : Int) ≤ (k : Int) ∧ (k : Int) < (s3.n : Int) := ⟨by omega, by omega⟩
      obtain ⟨b1, q1, d1⟩ := get (hE.trans ed) hx
      obtain ⟨b2, q2, d2⟩ := get (hE.trans ed) hy
      have hbf : ∀ p, bfP l i (k + 1) p ↔ bfP l i k p ∨ p = (a, b) := fun p => by
        unfold bfP
        rw [htk2, List.mem_append, List.mem_singleton, hx, Option.some.injEq]
        constructor
        · rintro (h | ⟨h1, h2 | h2⟩)
          · exact .inl (.inl h)
          · exact .inl (.inr ⟨h1, h2⟩)
          · exact .inr (by rw [Prod.ext_iff]; exact ⟨h1.symm, h2⟩)
        · rintro ((h | h) | rfl)
          · exact .inl h
          · exact .inr ⟨h.1, .inl h.2⟩
          · exact .inr ⟨rfl, .inr rfl⟩
      refine ⟨b1, 0, q1, hbi, a, d1, b2, 0, q2, hbk, b, d2, (c47 ((hH.ext e2).ext (hE.trans ed)) a b).use ?_⟩
      rintro _ w25 ⟨r, rfl, hr, e25⟩
      have E25 := (hE.trans ed).trans e25
      have x25 : Ext w15 w25 := ed.trans e25
      refine ⟨r, rfl, IfB.intro (fun h => ?_) fun h => ⟨rfl, q - 1, by omega, k + 1, so', zs, hk', by omega, by dsimp only; rw [w1 hk'], hO.ext x25, hsrt, fun p => ?_, by omega, E25, hb⟩⟩
      · have ed25 := extDrew w25
        obtain ⟨b3, q3, d3⟩ := get (E25.trans ed25) hx
        obtain ⟨b4, q4, d4⟩ := get (E25.trans ed25) hy
        refine ⟨b3, 0, q3, hbi, a, d3, b4, 0, q4, hbk, b, d4, by decide, fun b33 w34 a34 => ?_⟩
        have x34 : Ext w15 w34 := (x25.trans ed25).trans (a34.ch _)
        refine (hO.ext x34).lit (new := sv (a, b)) (T' := 44) a34.new rfl (sv_one _) rfl rfl (by omega) (by decide) fun s' w' ho' hn' hC' hbk' => ⟨rfl, q - 1, by omega, k + 1, s', zs ++ [(a, b)], hk', by omega, by dsimp only; rw [w1 hk'], ?_, ?_, fun p => ?_, by rw [List.length_append, List.length_singleton]; omega, (hE.trans x34).chN hC' hb, fun j hj => ?_⟩
        · rw [List.flatMap_append]; simpa using ho'
        · refine List.pairwise_append.2 ⟨hsrt, by simp, fun x hx' y hy' => ?_⟩
          rw [List.mem_singleton.1 hy']
          obtain ⟨hbx, hax⟩ := (hmem x).1 hx'
          rw [key_lt (hax.q hq) (hSg.q hq hxm hym)]
          rcases hbx with ⟨h1, _⟩ | ⟨h1, h2⟩
          · exact .inl (hxlt _ h1)
          · rw [hx] at h1
            exact .inr ⟨(Option.some.inj h1).symm, hylt _ h2⟩
        · rw [List.mem_append, List.mem_singleton, hmem, hbf]
          constructor
          · rintro (h' | rfl)
            · exact ⟨.inl h'.1, h'.2⟩
            · exact ⟨.inr rfl, hr.1 h⟩
          · rintro ⟨h' | h', h2⟩
            · exact .inl ⟨h', h2⟩
            · exact .inr h'
        · rcases hbk' j hj with h' | h'
          · exact hb j h'
          · have := hE.size; have := x34.size; omega
      · rw [hmem, hbf]
        constructor
        · exact fun h' => ⟨.inl h'.1, h'.2⟩
        · rintro ⟨h' | rfl, h2⟩
          · exact ⟨h', h2⟩
          · rw [hr.2 h2] at h; cases h
    · have hk' : k = l.length := by dsimp only at hge2; omega
      subst hk'
      refine ⟨rfl, m - 1, by omega, i + 1, so', zs, hi', by omega, by dsimp only; rw [w1 hi'], hO, hsrt, fun p => ?_, by omega, hE, hb⟩
      rw [hmem]
      refine and_congr_left fun _ => ?_
      unfold bfP
      rw [List.take_length, htk, List.mem_append, List.mem_singleton, hx, Option.some.injEq]
      constructor
      · rintro (h | h)
        · exact .inl ⟨.inl h.1, h.2⟩
        · exact .inl ⟨.inr h.1.symm, h.2⟩
      · rintro (⟨h | h, h2⟩ | ⟨_, h⟩)
        · exact .inl ⟨h, h2⟩
        · exact .inr ⟨h.symm, h2⟩
        · simp at h
  · have hi' : i = l.length := by dsimp only at hge; omega
    subst hi'
    obtain ⟨hO, hsrt, hmem, hzl, hE, hb⟩ := hI
    refine ⟨so, ys, rfl, hsrt, fun p => ?_, by omega, hO, e2.trans hE, fun j hj => by have := hb j hj; have := e2.size; omega⟩
    rw [hmem]
    refine ⟨fun h => h.2, fun h => ⟨.inl ?_, h⟩⟩
    obtain ⟨k, j, a, b, _, h1, h2, rfl, _⟩ := h
    rw [List.take_length]
    exact ⟨(hSg.mem _).2 ⟨a, List.mem_of_getElem? h1, rfl⟩, (hSg.mem _).2 ⟨b, List.mem_of_getElem? h2, rfl⟩⟩
end Go.Proofs.Ytmmhbjbaallkfaa.Gx

/- Written by mkf.py: what is to be shown of functions, as Gx reckons it from their code. -/
namespace Go.Proofs.Ytmmhbjbaallkfaa.Gx
open Go
set_option linter.unusedVariables false
set_option maxRecDepth 100000

def F30j2 (R : Value → World → Prop) (s6 : Sl) (b7 : Nat) (y10 : Nat → Sl → World → Prop) (b12 : Nat) (s18 : Sl) (y19 : Nat → Sl × Int → World → Prop) (b21 : Nat) (x22 : Sl × Int) (w23 : World) : Prop :=
 IfB (decide (x22.snd < (s18.n : Int)))
 (∃ (b26 : Nat),
 ∃ (b27 : Nat),
 s18.1 = some ({ block := b26, off := b27 } : Addr) ∧
 ((0 : Int) ≤ x22.2 ∧ x22.2 < (s18.2 : Int)) ∧
 ∃ (n28 : Int),
 w23.cell? ({ block := b26, off := b27 + x22.2.toNat } : Addr) = some (Value.int IntKind.i64 n28) ∧
 AllocP w23 (Obj.cells #[Value.int IntKind.i64 (0 : Int)] (3 : Nat)) fun (b29 : Nat) (w30 : World) =>
 #[Value.int IntKind.i64 n28].size = (1 : Nat) ∧
 StoreP w30 b29 (0 : Nat) [Value.int IntKind.i64 n28] fun (w31 : World) =>
 CX Try.prog (53 : Nat)
 #[Value.slice s6.1 s6.2 s6.3,
 Value.func (Fn.func (52 : Nat)) #[] #[Value.pointer (some ({ block := b29, off := (0 : Nat) } : Addr)), Value.pointer (some ({ block := b7, off := (0 : Nat) } : Addr))]]
 w31 fun (v32 : Value) (w33 : World) =>
 ∃ (t34 : Bool),
 v32 = Value.bool t34 ∧
 IfB t34 (([] : List Nat) = [] ∧ ∃ (b35 : Nat), b35 < b21 ∧ y19 b35 ({ p := x22.fst.1, n := x22.fst.2, c := x22.fst.3 }, IntKind.i64.wrap (x22.2 + (1 : Int))) w33)
 (∃ (n36 : Int),
 w33.cell? ({ block := b29, off := (0 : Nat) } : Addr) = some (Value.int IntKind.i64 n36) ∧
 (1 : Nat) * (1 : Nat) ≤ (16777216 : Nat) ∧
 AllocP w33 (Obj.cells #[Value.int IntKind.i64 n36] (3 : Nat)) fun (b37 : Nat) (w38 : World) =>
 ∃ (l39 : List Value),
 ReadC w38 (some ({ block := b37, off := (0 : Nat) } : Addr)) ((1 : Nat) * (1 : Nat)) l39 ∧
 AppendP tt3 (3 : Nat) w38 x22.fst.1 x22.fst.2 x22.fst.3
 (1 : Nat) l39 fun (s40 : Sl) (w41 : World) =>
 ∃ (s42 : Sl),
 w41.cell? ({ block := b7, off := (0 : Nat) } : Addr) = some (Value.slice s42.1 s42.2 s42.3) ∧
 CX Try.prog (41 : Nat) #[Value.slice s42.1 s42.2 s42.3] w41 fun (v43 : Value) (w44 : World) =>
 ∃ (s45 : Sl),
 v43 = Value.slice s45.1 s45.2 s45.3 ∧
 CX Try.prog (54 : Nat) #[Value.slice s45.1 s45.2 s45.3, Value.int IntKind.i64 x22.2, Value.int IntKind.i64 (IntKind.i64.wrap (x22.2 + (1 : Int)))] w44 fun (v46 : Value) (w47 : World) =>
 ∃ (s48 : Sl),
 v46 = Value.slice s48.1 s48.2 s48.3 ∧
 #[Value.slice s48.1 s48.2 s48.3].size = (1 : Nat) ∧
 StoreP w47 b7 (0 : Nat) [Value.slice s48.1 s48.2 s48.3] fun (w49 : World) => ([] : List Nat) = [] ∧ ∃ (b50 : Nat), b50 < b12 ∧ y10 b50 { p := s40.1, n := s40.2, c := s40.3 } w49))
 (R (Value.tuple #[Value.slice none (0 : Nat) (0 : Nat), Value.bool false]) w23)
def F30j1 (R : Value → World → Prop) (s6 : Sl) (b7 : Nat) (y10 : Nat → Sl → World → Prop) (b12 : Nat) (s13 : Sl) (w14 : World) : Prop :=
 ∃ (s17 : Sl),
 w14.cell? ({ block := b7, off := (0 : Nat) } : Addr) = some (Value.slice s17.1 s17.2 s17.3) ∧
 IfB (decide ((0 : Int) < (s17.n : Int)))
 (∃ (s18 : Sl),
 w14.cell? ({ block := b7, off := (0 : Nat) } : Addr) = some (Value.slice s18.1 s18.2 s18.3) ∧
 ∃ (y19 : Nat → Sl × Int → World → Prop),
 (∃ (b20 : Nat), y19 b20 ({ p := s13.1, n := s13.2, c := s13.3 }, (0 : Int)) w14) ∧
 ∀ (b21 : Nat) (x22 : Sl × Int) (w23 : World) (y24 : Nat → Value),
 y19 b21 x22 w23 →
 (F30j2 R s6 b7 y10 b12 s18 y19 b21 x22 w23))
 (R (Value.tuple #[Value.slice s13.1 s13.2 s13.3, Value.bool true]) w14)
def F30 (t0 : Sl) (w : World) (R : Value → World → Prop) : Prop :=
 CX Try.prog (26 : Nat) #[Value.slice t0.1 t0.2 t0.3] w fun (v1 : Value) (w2 : World) =>
 ∃ (s3 : Sl),
 v1 = Value.slice s3.1 s3.2 s3.3 ∧
 CX Try.prog (21 : Nat) #[Value.slice t0.1 t0.2 t0.3] w2 fun (v4 : Value) (w5 : World) =>
 ∃ (s6 : Sl),
 v4 = Value.slice s6.1 s6.2 s6.3 ∧
 AllocP w5 (Obj.cells #[Value.slice none (0 : Nat) (0 : Nat)] (31 : Nat)) fun (b7 : Nat) (w8 : World) =>
 #[Value.slice s3.1 s3.2 s3.3].size = (1 : Nat) ∧
 StoreP w8 b7 (0 : Nat) [Value.slice s3.1 s3.2 s3.3] fun (w9 : World) =>
 ∃ (y10 : Nat → Sl → World → Prop),
 (∃ (b11 : Nat), y10 b11 { p := none, n := (0 : Nat), c := (0 : Nat) } w9) ∧
 ∀ (b12 : Nat) (s13 : Sl) (w14 : World) (y15 : Nat → Value),
 y10 b12 s13 w14 →
 (F30j1 R s6 b7 y10 b12 s13 w14)
theorem F30_ok (t0 : Sl) (w : World) (R : Value → World → Prop) (h : F30 t0 w R) : CW Try.prog 30 #[Value.slice t0.1 t0.2 t0.3] w R :=
  call_of tbOk mixed en30 Try.func30 rfl (.node (.nil) (.node (.nil) (.node (.nil) (.node (.nil) (.node (.loop [(6, .one (.sl))] [14, 15, 16, 17, 18, 19, 20, 21, 22, 23, 8, 7, 24, 9, 25, 26, 27, 28, 29, 30, 31, 6, 32, 33, 34, 35, 36, 37, 38, 2, 3] (.node (.nil) (.node (.node (.nil) (.loop [(6, .one (.sl)), (19, .one (.int .i64))] [20, 21, 22, 23, 8, 7, 24, 9, 25, 26, 27, 28, 29, 30, 31, 6, 32, 33, 34, 35, 36, 37, 38, 19] (.nil))) (.nil)))) (.nil)))))) (by kernel_rfl) (Nat.le_of_ble_eq_true (by kernel_rfl)) (Eq.mp (α := F30 t0 w R) (by kernel_rfl) h)

end Go.Proofs.Ytmmhbjbaallkfaa.Gx

/- Package serial: Order, May. -/
namespace Go.Proofs.Ytmmhbjbaallkfaa.Gx
open Go
set_option linter.unusedSimpArgs false
set_option linter.unusedVariables false

theorem c54 {w : World} {t : Sl} {xs : List Int} {i : Nat} (h : OwS w t 1 (xs.map iv)) (hi : i < xs.length) (hl : xs.length ≤ 1000000) :
    CW Try.prog 54 #[slV t, iv (i : Int), iv ((i + 1 : Nat) : Int)] w fun v w' => ∃ t', v = slV t' ∧ OwS w' t' 1 ((xs.eraseIdx i).map iv) ∧ t'.p = t.p ∧ Ch (fun j => j ∈ blk t) w w' := by
  have hn := owsI h
  refine F54_ok t (i : Int) ((i + 1 : Nat) : Int) w _ ?_
  have e : ∀ R, F54 t (i : Int) ((i + 1 : Nat) : Int) w R = DelF tt3 3 1 t (i : Int) ((i + 1 : Nat) : Int) w R := fun R => rfl
  rw [e]
  refine DelF_of h rfl rfl (fun v hv => by obtain ⟨x, _, rfl⟩ := List.mem_map.1 hv; rfl) (by intro y hy; simp [Value.cells] at hy; subst hy; rfl) (by omega) (by omega) ⟨by omega, ?_⟩ fun s' w' h1 h2 h3 h4 => ⟨s', rfl, ?_, h4, h3⟩
  · show 2 * t.n * 8 ≤ _
    omega
  · rw [Nat.mul_one, Nat.mul_one] at h1
    rw [List.eraseIdx_eq_take_drop_succ, List.map_append, List.map_take, List.map_drop]
    exact h1

/-- No saga of left is ahead of s. -/
def freeB (ah : List (Int × Int)) (left : List Int) (s : Int) : Bool := !(ah.any (waitB left s))
/-- What Order reckons. -/
def ordGo (ah : List (Int × Int)) : Nat → List Int → List Int → List Int × Bool
  | 0, _, out => (out, true)
  | n + 1, left, out => match left.findIdx? (freeB ah left) with
    | none => ([], false)
    | some i => ordGo ah n (left.eraseIdx i) (out ++ [left.getD i 0])

theorem c30 {w : World} {t : Sl} {hs : List Nd} (hH : Hst w t hs) (hl : hs.length ≤ 1000) (hq : SgR hs) :
    CW Try.prog 30 #[slV t] w fun v w' => ∃ t', ∃ l : List Int, ∃ ah : List (Int × Int), SgL hs l ∧ l.length ≤ hs.length ∧ (∀ p, p ∈ ah ↔ AhP hs p) ∧ v = .tuple #[slV t', .bool (ordGo ah l.length l []).2] ∧ OwS w' t' 1 ((ordGo ah l.length l []).1.map iv) ∧ Ext w w' ∧ ∀ j ∈ blk t', w.heap.size ≤ j := by
  refine F30_ok t w _ ((c26 hH).use ?_)
  rintro _ w2 ⟨s3, l, rfl, hSg, hll, ho3, e2, hb3⟩
  refine ⟨s3, rfl, (c21 (hH.ext e2) hl hq).use ?_⟩
  rintro _ w5 ⟨s6, ah, rfl, _, hah, hal, ho6, e5, hb6⟩
  refine ⟨s6, rfl, fun b7 w8 a8 => ⟨rfl, store_one a8.new (by simp) rfl fun w9 u9 => ?_⟩⟩
  have z2 := e2.size; have z5 := e5.size; have p8 := a8.here; have z8 := a8.size; have z9 := u9.size
  have x9 : Ext w w9 := ((e2.trans e5).trans (a8.ch _)).chN u9.ch fun j e => by omega
  have y9 : Ext w5 w9 := Ch.chN (a8.ch _) u9.ch fun j e => by omega
  have hb6l := ho6.lt
  have hb3l := ho3.lt
  refine ⟨fun m so W => ∃ (left out : List Int) (tl : Sl), m = left.length ∧ out.length + left.length = l.length ∧ OwS W so 1 (out.map iv) ∧ W.heap[b7]? = some (.cells #[slV tl] 31 (0, 0)) ∧ OwS W tl 1 (left.map iv) ∧ ordGo ah left.length left out = ordGo ah l.length l [] ∧ (Ext w W ∧ w9.heap.size ≤ W.heap.size) ∧ Rd W s6 2 (ah.flatMap sv) ∧ (∀ j ∈ blk so, w9.heap.size ≤ j ∧ j ∉ blk tl) ∧ (∀ j ∈ blk tl, w.heap.size ≤ j ∧ j ≠ b7),
    ⟨l.length, l, [], s3, rfl, by simp, .nil _ _, u9.new, (ho3.ext e5).ext y9, rfl, ⟨x9, Nat.le_refl _⟩, (ho6.ext y9).rd, by simp [blk], fun j hj => ⟨hb3 j hj, by have := hb3l j hj; omega⟩⟩, ?_⟩
  rintro m so W g ⟨left, out, tl, rfl, hlen, hO, h7, hT, hgo, ⟨hE, hz9⟩, hR6, hbo, hbt⟩
  have htn := owsI hT
  have hon := owsI hO
  unfold F30j1
  refine ⟨tl, by rw [cell_of h7]; rfl, IfB.dec (fun h0 => ?_) fun h0 => ?_⟩
  · have h0' : 0 < left.length := by omega
    obtain ⟨n', hn'⟩ : ∃ n', left.length = n' + 1 := ⟨left.length - 1, by omega⟩
    refine ⟨tl, by rw [cell_of h7]; rfl, fun q x W' => ∃ i : Nat, i ≤ left.length ∧ q + i = left.length ∧ x = (so, (i : Int)) ∧ Ext W W' ∧ ∀ j < i, ∀ s, left[j]? = some s → freeB ah left s = false, ⟨left.length, 0, Nat.zero_le _, rfl, rfl, Ch.refl _ _, fun j hj => by omega⟩, ?_⟩
    rintro q _ w23 g ⟨i, hi, hqi, rfl, e23, hno⟩
    unfold F30j2
    refine IfB.dec (fun hlt => ?_) fun hge => ?_
    · have hi' : i < left.length := by dsimp only at hlt; omega
      have hx : left[i]? = some left[i] := List.getElem?_eq_getElem hi'
      have hgd : left.getD i 0 = left[i] := by rw [List.getD_eq_getElem?_getD, hx]; rfl
      generalize left[i] = s at hx hgd
      obtain ⟨a, ha, hc⟩ := (hT.ext e23).elem1 (i := i) (v := iv s) (by rw [List.getElem?_map, hx]; rfl)
      refine ⟨a, 0, ha, (⟨by omega, by omega⟩ : (0 : Int) ≤ (i : Int) ∧ (i : Int) < (tl.n : Int)), s, by dsimp only; rw [Int.toNat_natCast, Nat.zero_add]; exact hc, fun b29 w30 a30 => ⟨rfl, store_one a30.new (by simp) rfl fun w31 u31 => ?_⟩⟩
      have p30 := a30.here; have z30 := a30.size; have z31 := u31.size
      have e31 : Ext W w31 := (e23.trans (a30.ch _)).chN u31.ch fun j e => by have := e23.size; omega
      have H7 := e31.at h7
      refine (c53 (t1 := (52, #[.pointer (some ⟨b29, 0, none⟩), .pointer (some ⟨b7, 0, none⟩)])) (q := waitB left s) (hR6.ext e31) hal fun x W' _ e' R' hR' => (c52 x ⟨_, e'.at u31.new⟩ ⟨_, e'.at H7⟩ ((hT.ext e31).ext e').rd (by omega)).use fun v w' ⟨hv, e''⟩ => hv ▸ hR' w' e'').use ?_
      rintro _ w33 ⟨rfl, e33⟩
      have e2333 : Ext w23 w33 := (Ch.chN (a30.ch _) u31.ch fun j e => by omega).trans e33
      have w1 : IntKind.i64.wrap ((i : Int) + 1) = ((i + 1 : Nat) : Int) := by rw [wrap_of (by omega) (by omega)]; rfl
      refine ⟨_, rfl, IfB.intro (fun hany => ⟨rfl, q - 1, by omega, i + 1, hi', by omega, by rw [w1], e23.trans e2333, fun j hj s' hs' => ?_⟩) fun hany => ?_⟩
      · by_cases hji : j = i
        · subst hji
          rw [hx] at hs'; cases hs'
          unfold freeB; rw [hany]; rfl
        · exact hno j (by omega) s' hs'
      · have hfree : freeB ah left s = true := by unfold freeB; rw [hany]; rfl
        have hfi : left.findIdx? (freeB ah left) = some i := by
          rw [List.findIdx?_eq_some_iff_getElem]
          refine ⟨hi', ?_, fun j hj => ?_⟩
          · rw [List.getElem?_eq_getElem hi'] at hx
            rw [Option.some.inj hx]; exact hfree
          · have := hno j hj _ (List.getElem?_eq_getElem (by omega))
            simp [this]
        have E33 : Ext W w33 := e23.trans e2333
        have X33 : Ext w w33 := hE.trans E33
        refine ⟨s, by rw [cell_of (e33.at u31.new)]; rfl, by decide, fun b37 w38 a38 => ?_⟩
        have E38 : Ext W w38 := E33.trans (a38.ch _)
        have zW := E38.size
        refine (hO.ext E38).lit (new := [iv s]) (T' := 3) a38.new rfl (oneIv s) rfl rfl (by omega) (by decide) fun s40 w41 ho41 hn41 hC41 hb41 => ?_
        have zE := hE.size; have z41 := hC41.size
        have x9s := x9.size
        have out41 : ∀ j ∈ blk s40, w9.heap.size ≤ j := fun j hj => by
          rcases hb41 j hj with h | h
          · exact (hbo j h).1
          · omega
        have X41 : Ext w w41 := (hE.trans E38).chN hC41 fun j hj => by have := (hbo j hj).1; omega
        have T41 : OwS w41 tl 1 (left.map iv) := (hT.ext E38).ch hC41 fun j hj h => (hbo j h).2 hj
        have H741 := hC41.at (E38.at h7) fun h => by have := (hbo b7 h).1; omega
        refine ⟨tl, by rw [cell_of H741]; rfl, (c41 T41.rd (by omega)).use ?_⟩
        rintro _ w44 ⟨s45, rfl, ho45, e44, hb45⟩
        dsimp only
        rw [w1]
        refine ⟨s45, rfl, (c54 ho45 hi' (by omega)).use ?_⟩
        rintro _ w47 ⟨s48, rfl, ho48, hp48, hC48⟩
        have hb48 : ∀ j ∈ blk s48, w41.heap.size ≤ j := fun j hj => hb45 j (by unfold blk at hj ⊢; rw [hp48] at hj; exact hj)
        have z44 := e44.size; have z48 := hC48.size
        have e47 : Ext w41 w47 := e44.chN hC48 fun j hj => hb45 j hj
        have hb7l := heap_lt H741
        refine ⟨s48, rfl, rfl, store_one (e47.at H741) (by simp) rfl fun w49 u49 => ⟨rfl, n', by omega, left.eraseIdx i, out ++ [s], s48, ?_, ?_, ?_, u49.new, ?_, ?_, ?_, ?_, fun j hj => ⟨out41 j hj, fun h => by have := hb48 j h; have := ho41.lt j hj; omega⟩, fun j hj => ⟨by have := hb48 j hj; have := X41.size; omega, by have := hb48 j hj; omega⟩⟩⟩
        · rw [List.length_eraseIdx, if_pos hi']; omega
        · rw [List.length_eraseIdx, if_pos hi', List.length_append, List.length_singleton]; omega
        · rw [List.map_append]
          exact (ho41.ext e47).ch u49.ch fun j hj e => by have := out41 j hj; omega
        · exact ho48.ch u49.ch fun j hj e => by have := hb48 j hj; omega
        · rw [← hgo, hn']
          show ordGo ah (left.eraseIdx i).length _ _ = match left.findIdx? (freeB ah left) with
            | none => ([], false)
            | some i => ordGo ah n' (left.eraseIdx i) (out ++ [left.getD i 0])
          rw [hfi]
          dsimp only
          rw [hgd, List.length_eraseIdx, if_pos hi', hn']; rfl
        · exact ⟨(X41.trans e47).chN u49.ch fun j e => by omega, by have := u49.size; omega⟩
        · refine (((hR6.ext E38).ch0 hC41 fun h0 j hj h => ?_).ext e47).ch0 u49.ch fun h0 j hj e => ?_
          · have := (hbo j h).1; have := hb6l j hj; omega
          · have := hb6l j hj; omega
    · have hi' : i = left.length := by dsimp only at hge; omega
      subst hi'
      have hnone : left.findIdx? (freeB ah left) = none := List.findIdx?_eq_none_iff.2 fun s hs => by
        obtain ⟨j, hj, rfl⟩ := List.getElem_of_mem hs
        exact hno j hj _ (List.getElem?_eq_getElem hj)
      have hres : ordGo ah l.length l [] = ([], false) := by
        rw [← hgo, hn']
        show (match left.findIdx? (freeB ah left) with
            | none => ([], false)
            | some i => ordGo ah n' (left.eraseIdx i) (out ++ [left.getD i 0])) = _
        rw [hnone]
      exact ⟨⟨none, 0, 0⟩, l, ah, hSg, hll, hah, by rw [hres], by rw [hres]; exact .nil _ _, hE.trans e23, by simp [blk]⟩
  · have h0' : left = [] := List.length_eq_zero_iff.1 (by omega)
    subst h0'
    have hres : ordGo ah l.length l [] = (out, true) := by rw [← hgo]; rfl
    exact ⟨so, l, ah, hSg, hll, hah, by rw [hres], by rw [hres]; exact hO, hE, fun j hj => by have := (hbo j hj).1; have := x9.size; omega⟩

theorem c32 {w : World} {t : Sl} {hs : List Nd} (hH : Hst w t hs) (hl : hs.length ≤ 1000) (hq : SgR hs) :
    CW Try.prog 32 #[slV t] w fun v w' => ∃ l : List Int, ∃ ah : List (Int × Int), SgL hs l ∧ (∀ p, p ∈ ah ↔ AhP hs p) ∧ v = .bool (ordGo ah l.length l []).2 ∧ Ext w w' := by
  refine F32_ok t w _ ((c30 hH hl hq).use ?_)
  rintro _ w2 ⟨t', l, ah, h1, _, h2, rfl, _, e2, _⟩
  exact ⟨(t', _), rfl, l, ah, h1, h2, rfl, e2⟩
end Go.Proofs.Ytmmhbjbaallkfaa.Gx

/- Tables of bools: slices of slices that are turned in place; reachability by Floyd and Warshall. -/
namespace Go.Proofs.Ytmmhbjbaallkfaa.Gx
open Go
set_option linter.unusedSimpArgs false
set_option linter.unusedVariables false

/-! ### Floyd and Warshall -/
section
variable {E : Nat → Nat → Prop}
/-- Ways whose inner nodes are below m. -/
def Fw (E : Nat → Nat → Prop) : Nat → Nat → Nat → Prop
  | 0, i, k => E i k
  | m + 1, i, k => Fw E m i k ∨ (Fw E m i m ∧ Fw E m m k)
theorem Fw_tc : ∀ {m i k : Nat}, Fw E m i k → TC E i k
  | 0, _, _, h => .one h
  | m + 1, _, _, .inl h => Fw_tc h
  | m + 1, _, _, .inr ⟨h1, h2⟩ => (Fw_tc h1).trans (Fw_tc h2)
theorem Fw_trans : ∀ {m i j k : Nat}, j < m → Fw E m i j → Fw E m j k → Fw E m i k
  | 0, _, _, _, h, _, _ => by omega
  | m + 1, i, j, k, h, h1, h2 => by
    by_cases hj : j = m
    · subst hj
      refine .inr ⟨?_, ?_⟩
      · rcases h1 with h | h
        · exact h
        · exact h.1
      · rcases h2 with h | h
        · exact h
        · exact h.2
    · have hj' : j < m := by omega
      rcases h1 with h1 | ⟨h1, h1'⟩
      · rcases h2 with h2 | ⟨h2, h2'⟩
        · exact .inl (Fw_trans hj' h1 h2)
        · exact .inr ⟨Fw_trans hj' h1 h2, h2'⟩
      · rcases h2 with h2 | ⟨h2, h2'⟩
        · exact .inr ⟨h1, Fw_trans hj' h1' h2⟩
        · exact .inr ⟨h1, h2'⟩
theorem Fw_zero {i k : Nat} (h : E i k) : ∀ m, Fw E m i k
  | 0 => h
  | m + 1 => .inl (Fw_zero h m)
theorem Fw_all {n i k : Nat} (hE : ∀ a b, E a b → b < n) (h : TC E i k) : Fw E n i k := by
  induction h with
  | one h => exact Fw_zero h n
  | more h1 h2 ih =>
    refine Fw_trans ?_ ih (Fw_zero h2 n)
    obtain ⟨c, hc, _⟩ := h1.last
    exact hE _ _ hc
theorem Fw_iff {n i k : Nat} (hE : ∀ a b, E a b → b < n) : Fw E n i k ↔ TC E i k := ⟨Fw_tc, Fw_all hE⟩
end

/-! ### Tables -/
theorem zc_all {z : Array Value} {v : Value} (h : ∀ x ∈ z.toList, x = v) (n : Nat) : zc z n = List.replicate (n * z.size) v := by
  refine List.eq_replicate_iff.2 ⟨zc_len z n, fun x hx => ?_⟩
  unfold zc Builtin.zeroCells at hx
  rw [Array.mem_toList_iff, Array.mem_map] at hx
  obtain ⟨i, hi, rfl⟩ := hx
  rw [Array.mem_range] at hi
  have h0 : 0 < z.size := by
    rcases Nat.eq_zero_or_pos z.size with h0 | h0
    · rw [h0, Nat.mul_zero] at hi; omega
    · exact h0
  have hm := Nat.mod_lt i h0
  rw [getElem!_pos z _ hm]
  exact h _ (by simp)
abbrev MxR := Sl × List Bool
abbrev bvs (l : List Bool) : List Value := l.map Value.bool
abbrev hM (x : MxR) : Value := slV x.1
structure Mx (w : World) (n : Nat) (t : Sl) (rows : List MxR) : Prop where
  own : OwS w t 1 (rows.map hM)
  row : ∀ r ∈ rows, OwS w r.1 1 (bvs r.2)
  apart : ∀ r ∈ rows, ∀ j ∈ blk r.1, j ∉ blk t
  dist : ∀ (a b : Nat) (r s : MxR), a ≠ b → rows[a]? = some r → rows[b]? = some s → ∀ j ∈ blk r.1, j ∉ blk s.1
  new : ∀ j ∈ blk t, n ≤ j
  rnew : ∀ r ∈ rows, ∀ j ∈ blk r.1, n ≤ j
theorem Mx.ext {w w' : World} {n : Nat} {t : Sl} {rows : List MxR} (h : Mx w n t rows) (e : Ext w w') : Mx w' n t rows := ⟨h.own.ext e, fun r hr => (h.row r hr).ext e, h.apart, h.dist, h.new, h.rnew⟩
theorem Mx.n {w : World} {m : Nat} {t : Sl} {rows : List MxR} (h : Mx w m t rows) : t.n = rows.length := by rw [h.own.len1, List.length_map]
theorem Mx.slot {w : World} {m : Nat} {t : Sl} {rows : List MxR} (h : Mx w m t rows) {i : Nat} {r : MxR} (hr : rows[i]? = some r) : ∃ b, t.p = some ⟨b, 0, none⟩ ∧ w.cell? ⟨b, i, none⟩ = some (slV r.1) :=
  h.own.elem1 (i := i) (v := hM r) (by rw [List.getElem?_map, hr]; rfl)
theorem Mx.rn {w : World} {m : Nat} {t : Sl} {rows : List MxR} (h : Mx w m t rows) {r : MxR} (hr : r ∈ rows) : r.1.n = r.2.length := by rw [(h.row r hr).len1, List.length_map]
theorem Mx.cell {w : World} {m : Nat} {t : Sl} {rows : List MxR} (h : Mx w m t rows) {r : MxR} (hr : r ∈ rows) {k : Nat} {v : Bool} (hv : r.2[k]? = some v) : ∃ b, r.1.p = some ⟨b, 0, none⟩ ∧ w.cell? ⟨b, k, none⟩ = some (.bool v) :=
  (h.row r hr).elem1 (i := k) (v := .bool v) (by rw [List.getElem?_map, hv]; rfl)
theorem mem_set {α : Type} {l : List α} {i : Nat} {x y : α} (h : y ∈ l.set i x) : y = x ∨ ∃ k, k ≠ i ∧ l[k]? = some y := by
  obtain ⟨k, hk, e⟩ := List.getElem_of_mem h
  rw [List.getElem_set] at e
  rw [List.length_set] at hk
  by_cases hki : i = k
  · rw [if_pos hki] at e; exact .inl e.symm
  · rw [if_neg hki] at e
    exact .inr ⟨k, fun e => hki e.symm, by rw [List.getElem?_eq_getElem hk, e]⟩
/-- A row turns. -/
theorem Mx.put {w : World} {m : Nat} {t : Sl} {rows : List MxR} (h : Mx w m t rows) {i k b : Nat} {r : MxR} (hr : rows[i]? = some r) (hk : k < r.2.length) (hp : r.1.p = some ⟨b, 0, none⟩) {v : Bool} {K : World → Prop}
    (hK : ∀ w', Mx w' m t (rows.set i (r.1, r.2.set k v)) → Ch (fun j => j = b) w w' → K w') : StoreP w b (0 + k) [.bool v] K := by
  have hm := List.mem_of_getElem? hr
  have hn := h.rn hm
  have hb : ∀ j, j = b → j ∈ blk r.1 := fun j e => by simp [blk, hp, e]
  rw [Nat.zero_add]
  refine (h.row r hm).store (vs := [.bool v]) hp (by simp; omega) (by intro v hv; rw [List.mem_singleton.1 hv]; rfl) fun w' ho hC => hK w' ?_ hC
  have e1 : (bvs r.2).take k ++ [.bool v] ++ (bvs r.2).drop (k + 1) = bvs (r.2.set k v) := by
    rw [List.set_eq_take_append_cons_drop, if_pos hk]
    simp [bvs, List.map_take, List.map_drop]
  have hset : (rows.set i (r.1, r.2.set k v)).map hM = rows.map hM := by
    apply List.ext_getElem?
    intro j
    rw [List.getElem?_map, List.getElem?_map, List.getElem?_set]
    by_cases hij : i = j
    · subst hij
      have := (List.getElem?_eq_some_iff.1 hr).1
      rw [if_pos rfl, if_pos this, hr]; rfl
    · rw [if_neg hij]
  have get : ∀ (a : Nat) (s : MxR), (rows.set i (r.1, r.2.set k v))[a]? = some s → ∃ s', rows[a]? = some s' ∧ s'.1 = s.1 := fun a s hs => by
    rw [List.getElem?_set] at hs
    by_cases hia : i = a
    · subst hia
      rw [if_pos rfl, if_pos (List.getElem?_eq_some_iff.1 hr).1] at hs
      cases hs
      exact ⟨r, hr, rfl⟩
    · rw [if_neg hia] at hs; exact ⟨s, hs, rfl⟩
  have gm : ∀ s ∈ rows.set i (r.1, r.2.set k v), ∃ s' ∈ rows, s'.1 = s.1 := fun s hs => by
    obtain ⟨a, ha, e⟩ := List.getElem_of_mem hs
    obtain ⟨s', h1, h2⟩ := get a s (by rw [List.getElem?_eq_getElem ha, e])
    exact ⟨s', List.mem_of_getElem? h1, h2⟩
  refine ⟨?_, fun s hs => ?_, fun s hs j hj => ?_, fun a c s u hac hs hu j hj => ?_, h.new, fun s hs j hj => ?_⟩
  · rw [hset]
    exact h.own.ch hC fun j hj e => h.apart r hm j (hb j e) hj
  · rcases mem_set hs with rfl | ⟨a, hai, ha⟩
    · rw [show [Value.bool v].length = 1 from rfl, e1] at ho; exact ho
    · exact (h.row s (List.mem_of_getElem? ha)).ch hC fun j hj e => h.dist a i s r hai ha hr j hj (hb j e)
  · obtain ⟨s', h1, h2⟩ := gm s hs
    exact h.apart s' h1 j (by rw [h2]; exact hj)
  · obtain ⟨s', h1, h2⟩ := get a s hs
    obtain ⟨u', h3, h4⟩ := get c u hu
    rw [← h4]
    exact h.dist a c s' u' hac h1 h3 j (by rw [h2]; exact hj)
  · obtain ⟨s', h1, h2⟩ := gm s hs
    exact h.rnew s' h1 j (by rw [h2]; exact hj)
/-- A new row is put into a slot. -/
theorem Mx.row' {w : World} {m : Nat} {t s : Sl} {rows : List MxR} {l : List Bool} (h : Mx w m t rows) {i b : Nat} (hi : i < rows.length) (hs : OwS w s 1 (bvs l)) (hn : ∀ j ∈ blk s, m ≤ j) (hap : ∀ j ∈ blk s, j ∉ blk t) (hd : ∀ r ∈ rows, ∀ j ∈ blk s, j ∉ blk r.1) (hp : t.p = some ⟨b, 0, none⟩) {K : World → Prop}
    (hK : ∀ w', Mx w' m t (rows.set i (s, l)) → Ch (fun j => j = b) w w' → K w') : StoreP w b (0 + i) [slV s] K := by
  have htn := h.n
  have hb : ∀ j, j = b → j ∈ blk t := fun j e => by simp [blk, hp, e]
  rw [Nat.zero_add]
  refine h.own.store (vs := [slV s]) hp (by simp; omega) (by intro v hv; rw [List.mem_singleton.1 hv]; rfl) fun w' ho hC => hK w' ?_ hC
  have e1 : (rows.map hM).take i ++ [slV s] ++ (rows.map hM).drop (i + 1) = (rows.set i (s, l)).map hM := by
    rw [List.set_eq_take_append_cons_drop, if_pos hi]
    simp [List.map_take, List.map_drop]
  rw [show [slV s].length = 1 from rfl, e1] at ho
  have get : ∀ (a : Nat) (r : MxR), (rows.set i (s, l))[a]? = some r → (a = i ∧ r = (s, l)) ∨ (a ≠ i ∧ rows[a]? = some r) := fun a r hr => by
    rw [List.getElem?_set] at hr
    by_cases hia : i = a
    · subst hia
      rw [if_pos rfl, if_pos hi] at hr
      cases hr; exact .inl ⟨rfl, rfl⟩
    · rw [if_neg hia] at hr; exact .inr ⟨Ne.symm hia, hr⟩
  refine ⟨ho, fun r hr => ?_, fun r hr j hj => ?_, fun a c r u hac hr hu j hj hj' => ?_, h.new, fun r hr j hj => ?_⟩
  · rcases mem_set hr with rfl | ⟨a, hai, ha⟩
    · exact hs.ch hC fun j hj e => hap j hj (hb j e)
    · exact (h.row r (List.mem_of_getElem? ha)).ch hC fun j hj e => h.apart r (List.mem_of_getElem? ha) j hj (hb j e)
  · rcases mem_set hr with rfl | ⟨a, hai, ha⟩
    · exact hap j hj
    · exact h.apart r (List.mem_of_getElem? ha) j hj
  · rcases get a r hr with ⟨rfl, rfl⟩ | ⟨h1, h2⟩
    · rcases get c u hu with ⟨rfl, _⟩ | ⟨h3, h4⟩
      · exact hac rfl
      · exact hd u (List.mem_of_getElem? h4) j hj hj'
    · rcases get c u hu with ⟨rfl, rfl⟩ | ⟨h3, h4⟩
      · exact hd r (List.mem_of_getElem? h2) j hj' hj
      · exact h.dist a c r u hac h2 h4 j hj hj'
  · rcases mem_set hr with rfl | ⟨a, hai, ha⟩
    · exact hn j hj
    · exact h.rnew r (List.mem_of_getElem? ha) j hj

/-- The place (i, k). -/
def gM (rows : List MxR) (i k : Nat) : Bool := match rows[i]? with
  | some r => r.2.getD k false
  | none => false
theorem gM_get {rows : List MxR} {i k : Nat} {r : MxR} (hr : rows[i]? = some r) (hk : k < r.2.length) : r.2[k]? = some (gM rows i k) := by
  unfold gM; rw [hr]
  dsimp only
  rw [List.getD_eq_getElem?_getD, List.getElem?_eq_getElem hk]; rfl
theorem gM_set {rows : List MxR} {i k : Nat} {r : MxR} (hr : rows[i]? = some r) (hk : k < r.2.length) (v : Bool) (a b : Nat) : gM (rows.set i (r.1, r.2.set k v)) a b = if a = i ∧ b = k then v else gM rows a b := by
  unfold gM
  rw [List.getElem?_set]
  by_cases hia : i = a
  · subst hia
    rw [if_pos rfl, if_pos (List.getElem?_eq_some_iff.1 hr).1, hr]
    dsimp only
    rw [List.getD_eq_getElem?_getD, List.getElem?_set, List.getD_eq_getElem?_getD]
    by_cases hkb : k = b
    · subst hkb; simp [hk]
    · rw [if_neg hkb, if_neg (fun h => hkb h.2.symm)]
  · rw [if_neg hia, if_neg (fun h => hia h.1.symm)]
theorem gM_row {rows : List MxR} {i : Nat} (hi : i < rows.length) (s : Sl) (n a b : Nat) : gM (rows.set i (s, List.replicate n false)) a b = if a = i then false else gM rows a b := by
  unfold gM
  rw [List.getElem?_set]
  by_cases hia : i = a
  · subst hia
    rw [if_pos rfl, if_pos hi, if_pos rfl]
    dsimp only
    rw [List.getD_eq_getElem?_getD, List.getElem?_replicate]
    split <;> rfl
  · rw [if_neg hia, if_neg (Ne.symm hia)]
end Go.Proofs.Ytmmhbjbaallkfaa.Gx

/- Written by mkf.py: what is to be shown of functions, as Gx reckons it from their code. -/
namespace Go.Proofs.Ytmmhbjbaallkfaa.Gx
open Go
set_option linter.unusedVariables false
set_option maxRecDepth 100000

def F15k1 (b1 : Nat) (n6 : Int) (t0 : Sl) (w19 : World) (n18 : Int) (b17 : Nat) (y15 : Nat → Int → World → Prop) : Prop :=
 ∃ (b22 : Nat),
 ∃ (b23 : Nat),
 some ({ block := b1, off := (0 : Nat) } : Addr) = some ({ block := b22, off := b23 } : Addr) ∧
 ((0 : Int) ≤ n6 ∧ n6 < ((((t0.2 : Int)).toNat : Nat) : Int)) ∧
 ∃ (s24 : Sl),
 w19.drew.cell? ({ block := b22, off := b23 + n6.toNat } : Addr) = some (Value.slice s24.1 s24.2 s24.3) ∧
 ∃ (b25 : Nat),
 ∃ (b26 : Nat),
 t0.1 = some ({ block := b25, off := b26 } : Addr) ∧
 ((0 : Int) ≤ n6 ∧ n6 < (t0.2 : Int)) ∧
 ∃ (n27 : Int),
 w19.drew.cell? ({ block := b25, off := b26 + n6.toNat * (6 : Nat) + (0 : Nat) } : Addr) = some (Value.int IntKind.i64 n27) ∧
 ∃ (b28 : Nat),
 ∃ (b29 : Nat),
 t0.1 = some ({ block := b28, off := b29 } : Addr) ∧
 ((0 : Int) ≤ n18 ∧ n18 < (t0.2 : Int)) ∧
 ∃ (n30 : Int),
 w19.drew.cell? ({ block := b28, off := b29 + n18.toNat * (6 : Nat) + (0 : Nat) } : Addr) = some (Value.int IntKind.i64 n30) ∧
 IfB (n27 == n30)
 (w19.drew.cell? ({ block := b22, off := b23 + n6.toNat } : Addr) = some (Value.slice s24.1 s24.2 s24.3) ∧
 ∃ (b31 : Nat),
 ∃ (b32 : Nat),
 s24.1 = some ({ block := b31, off := b32 } : Addr) ∧
 ((0 : Int) ≤ n18 ∧ n18 < (s24.2 : Int)) ∧
 #[Value.bool true].size = (1 : Nat) ∧
 StoreP w19.drew b31 (b32 + n18.toNat) [Value.bool true] fun (w33 : World) => ([] : List Nat) = [] ∧ ∃ (b34 : Nat), b34 < b17 ∧ y15 b34 (IntKind.i64.wrap (n18 + (1 : Int))) w33)
 (∃ (b35 : Nat),
 ∃ (b36 : Nat),
 t0.1 = some ({ block := b35, off := b36 } : Addr) ∧
 ((0 : Int) ≤ n6 ∧ n6 < (t0.2 : Int)) ∧
 ∃ (x37 : Int × Int × Int × Bool × Sl × Sl),
 CellsAt w19.drew b35 (b36 + n6.toNat * (6 : Nat))
 [Value.int IntKind.i64 x37.1, Value.int IntKind.i64 x37.snd.1, Value.int IntKind.i64 x37.snd.snd.1, Value.bool x37.snd.snd.snd.1,
 Value.slice x37.snd.snd.snd.snd.fst.1 x37.snd.snd.snd.snd.fst.2 x37.snd.snd.snd.snd.fst.3, Value.slice x37.snd.snd.snd.snd.snd.1 x37.snd.snd.snd.snd.snd.2 x37.snd.snd.snd.snd.snd.3] ∧
 ∃ (b38 : Nat),
 ∃ (b39 : Nat),
 t0.1 = some ({ block := b38, off := b39 } : Addr) ∧
 ((0 : Int) ≤ n18 ∧ n18 < (t0.2 : Int)) ∧
 ∃ (x40 : Int × Int × Int × Bool × Sl × Sl),
 CellsAt w19.drew b38 (b39 + n18.toNat * (6 : Nat))
 [Value.int IntKind.i64 x40.1, Value.int IntKind.i64 x40.snd.1, Value.int IntKind.i64 x40.snd.snd.1, Value.bool x40.snd.snd.snd.1,
 Value.slice x40.snd.snd.snd.snd.fst.1 x40.snd.snd.snd.snd.fst.2 x40.snd.snd.snd.snd.fst.3, Value.slice x40.snd.snd.snd.snd.snd.1 x40.snd.snd.snd.snd.snd.2 x40.snd.snd.snd.snd.snd.3] ∧
 CX Try.prog (12 : Nat)
 #[Value.agg
 #[Value.int IntKind.i64 x37.1, Value.int IntKind.i64 x37.snd.1, Value.int IntKind.i64 x37.snd.snd.1, Value.bool x37.snd.snd.snd.1,
 Value.slice x37.snd.snd.snd.snd.fst.1 x37.snd.snd.snd.snd.fst.2 x37.snd.snd.snd.snd.fst.3, Value.slice x37.snd.snd.snd.snd.snd.1 x37.snd.snd.snd.snd.snd.2 x37.snd.snd.snd.snd.snd.3],
 Value.agg
 #[Value.int IntKind.i64 x40.1, Value.int IntKind.i64 x40.snd.1, Value.int IntKind.i64 x40.snd.snd.1, Value.bool x40.snd.snd.snd.1,
 Value.slice x40.snd.snd.snd.snd.fst.1 x40.snd.snd.snd.snd.fst.2 x40.snd.snd.snd.snd.fst.3, Value.slice x40.snd.snd.snd.snd.snd.1 x40.snd.snd.snd.snd.snd.2 x40.snd.snd.snd.snd.snd.3]]
 w19.drew fun (v41 : Value) (w42 : World) =>
 ∃ (t43 : Bool),
 v41 = Value.bool t43 ∧
 w42.cell? ({ block := b22, off := b23 + n6.toNat } : Addr) = some (Value.slice s24.1 s24.2 s24.3) ∧
 ∃ (b44 : Nat),
 ∃ (b45 : Nat),
 s24.1 = some ({ block := b44, off := b45 } : Addr) ∧
 ((0 : Int) ≤ n18 ∧ n18 < (s24.2 : Int)) ∧
 #[Value.bool t43].size = (1 : Nat) ∧
 StoreP w42 b44 (b45 + n18.toNat) [Value.bool t43] fun (w46 : World) => ([] : List Nat) = [] ∧ ∃ (b47 : Nat), b47 < b17 ∧ y15 b47 (IntKind.i64.wrap (n18 + (1 : Int))) w46)
def F15j2 (t0 : Sl) (b1 : Nat) (y3 : Nat → Int → World → Prop) (b5 : Nat) (n6 : Int) (y15 : Nat → Int → World → Prop) (b17 : Nat) (n18 : Int) (w19 : World) : Prop :=
 IfB (decide (n18 < n6))
 (F15k1 b1 n6 t0 w19 n18 b17 y15)
 (([] : List Nat) = [] ∧ ∃ (b48 : Nat), b48 < b5 ∧ y3 b48 (IntKind.i64.wrap (n6 + (1 : Int))) w19)
def F15j5 (t0 : Sl) (b1 : Nat) (n52 : Int) (y56 : Nat → Int → World → Prop) (b58 : Nat) (n59 : Int) (y63 : Nat → Int → World → Prop) (b65 : Nat) (n66 : Int) (w67 : World) : Prop :=
 IfB (decide (n66 < (t0.n : Int)))
 (∃ (b70 : Nat),
 ∃ (b71 : Nat),
 some ({ block := b1, off := (0 : Nat) } : Addr) = some ({ block := b70, off := b71 } : Addr) ∧
 ((0 : Int) ≤ n59 ∧ n59 < ((((t0.2 : Int)).toNat : Nat) : Int)) ∧
 ∃ (s72 : Sl),
 w67.cell? ({ block := b70, off := b71 + n59.toNat } : Addr) = some (Value.slice s72.1 s72.2 s72.3) ∧
 ∃ (b73 : Nat),
 ∃ (b74 : Nat),
 s72.1 = some ({ block := b73, off := b74 } : Addr) ∧
 ((0 : Int) ≤ n52 ∧ n52 < (s72.2 : Int)) ∧
 ∃ (t75 : Bool),
 w67.cell? ({ block := b73, off := b74 + n52.toNat } : Addr) = some (Value.bool t75) ∧
 IfB t75
 (∃ (b76 : Nat),
 ∃ (b77 : Nat),
 some ({ block := b1, off := (0 : Nat) } : Addr) = some ({ block := b76, off := b77 } : Addr) ∧
 ((0 : Int) ≤ n52 ∧ n52 < ((((t0.2 : Int)).toNat : Nat) : Int)) ∧
 ∃ (s78 : Sl),
 w67.cell? ({ block := b76, off := b77 + n52.toNat } : Addr) = some (Value.slice s78.1 s78.2 s78.3) ∧
 ∃ (b79 : Nat),
 ∃ (b80 : Nat),
 s78.1 = some ({ block := b79, off := b80 } : Addr) ∧
 ((0 : Int) ≤ n66 ∧ n66 < (s78.2 : Int)) ∧
 ∃ (t81 : Bool),
 w67.cell? ({ block := b79, off := b80 + n66.toNat } : Addr) = some (Value.bool t81) ∧
 IfB t81
 (∃ (b82 : Nat),
 ∃ (b83 : Nat),
 some ({ block := b1, off := (0 : Nat) } : Addr) = some ({ block := b82, off := b83 } : Addr) ∧
 ((0 : Int) ≤ n59 ∧ n59 < ((((t0.2 : Int)).toNat : Nat) : Int)) ∧
 ∃ (s84 : Sl),
 w67.cell? ({ block := b82, off := b83 + n59.toNat } : Addr) = some (Value.slice s84.1 s84.2 s84.3) ∧
 ∃ (b85 : Nat),
 ∃ (b86 : Nat),
 s84.1 = some ({ block := b85, off := b86 } : Addr) ∧
 ((0 : Int) ≤ n66 ∧ n66 < (s84.2 : Int)) ∧
 #[Value.bool true].size = (1 : Nat) ∧
 StoreP w67 b85 (b86 + n66.toNat) [Value.bool true] fun (w87 : World) => ([] : List Nat) = [] ∧ ∃ (b88 : Nat), b88 < b65 ∧ y63 b88 (IntKind.i64.wrap (n66 + (1 : Int))) w87)
 (([] : List Nat) = [] ∧ ∃ (b89 : Nat), b89 < b65 ∧ y63 b89 (IntKind.i64.wrap (n66 + (1 : Int))) w67))
 (([] : List Nat) = [] ∧ ∃ (b90 : Nat), b90 < b65 ∧ y63 b90 (IntKind.i64.wrap (n66 + (1 : Int))) w67))
 (([] : List Nat) = [] ∧ ∃ (b91 : Nat), b91 < b58 ∧ y56 b91 (IntKind.i64.wrap (n59 + (1 : Int))) w67)
def F15j3 (t0 : Sl) (R : Value → World → Prop) (b1 : Nat) (y49 : Nat → Int → World → Prop) (b51 : Nat) (n52 : Int) (w53 : World) : Prop :=
 IfB (decide (n52 < (t0.n : Int)))
 (∃ (y56 : Nat → Int → World → Prop),
 (∃ (b57 : Nat), y56 b57 (0 : Int) w53) ∧
 ∀ (b58 : Nat) (n59 : Int) (w60 : World) (y61 : Nat → Value),
 y56 b58 n59 w60 →
 IfB (decide (n59 < (t0.n : Int)))
 (∃ (y63 : Nat → Int → World → Prop),
 (∃ (b64 : Nat), y63 b64 (0 : Int) w60) ∧
 ∀ (b65 : Nat) (n66 : Int) (w67 : World) (y68 : Nat → Value),
 y63 b65 n66 w67 →
 (F15j5 t0 b1 n52 y56 b58 n59 y63 b65 n66 w67))
 (([] : List Nat) = [] ∧ ∃ (b92 : Nat), b92 < b51 ∧ y49 b92 (IntKind.i64.wrap (n52 + (1 : Int))) w60))
 (R (Value.slice (some ({ block := b1, off := (0 : Nat) } : Addr)) ((t0.2 : Int)).toNat ((t0.2 : Int)).toNat) w53)
def F15j1 (t0 : Sl) (R : Value → World → Prop) (b1 : Nat) (y3 : Nat → Int → World → Prop) (b5 : Nat) (n6 : Int) (w7 : World) : Prop :=
 IfB (decide (n6 < (t0.n : Int)))
 (((0 : Int) ≤ (t0.2 : Int) ∧ (t0.2 : Int) ≤ (t0.2 : Int) ∧ (t0.2 : Int) ≤ (281474976710656 : Int) ∧ ((1 : Nat) : Int) * (t0.2 : Int) ≤ (281474976710656 : Int)) ∧
 AllocP w7 (Obj.cells { toList := zc #[Value.bool false] ((t0.2 : Int)).toNat } (4 : Nat)) fun (b10 : Nat) (w11 : World) =>
 ∃ (b12 : Nat),
 ∃ (b13 : Nat),
 some ({ block := b1, off := (0 : Nat) } : Addr) = some ({ block := b12, off := b13 } : Addr) ∧
 ((0 : Int) ≤ n6 ∧ n6 < ((((t0.2 : Int)).toNat : Nat) : Int)) ∧
 #[Value.slice (some ({ block := b10, off := (0 : Nat) } : Addr)) ((t0.2 : Int)).toNat ((t0.2 : Int)).toNat].size = (1 : Nat) ∧
 StoreP w11 b12 (b13 + n6.toNat) [Value.slice (some ({ block := b10, off := (0 : Nat) } : Addr)) ((t0.2 : Int)).toNat ((t0.2 : Int)).toNat] fun (w14 : World) =>
 ∃ (y15 : Nat → Int → World → Prop),
 (∃ (b16 : Nat), y15 b16 (0 : Int) w14) ∧
 ∀ (b17 : Nat) (n18 : Int) (w19 : World) (y20 : Nat → Value),
 y15 b17 n18 w19 →
 (F15j2 t0 b1 y3 b5 n6 y15 b17 n18 w19))
 (∃ (y49 : Nat → Int → World → Prop),
 (∃ (b50 : Nat), y49 b50 (0 : Int) w7) ∧
 ∀ (b51 : Nat) (n52 : Int) (w53 : World) (y54 : Nat → Value),
 y49 b51 n52 w53 →
 (F15j3 t0 R b1 y49 b51 n52 w53))
def F15 (t0 : Sl) (w : World) (R : Value → World → Prop) : Prop :=
 ((0 : Int) ≤ (t0.2 : Int) ∧ (t0.2 : Int) ≤ (t0.2 : Int) ∧ (t0.2 : Int) ≤ (281474976710656 : Int) ∧ ((24 : Nat) : Int) * (t0.2 : Int) ≤ (281474976710656 : Int)) ∧
 AllocP w (Obj.cells { toList := zc #[Value.slice none (0 : Nat) (0 : Nat)] ((t0.2 : Int)).toNat } (37 : Nat)) fun (b1 : Nat) (w2 : World) =>
 ∃ (y3 : Nat → Int → World → Prop),
 (∃ (b4 : Nat), y3 b4 (0 : Int) w2) ∧
 ∀ (b5 : Nat) (n6 : Int) (w7 : World) (y8 : Nat → Value),
 y3 b5 n6 w7 →
 (F15j1 t0 R b1 y3 b5 n6 w7)
theorem F15_ok (t0 : Sl) (w : World) (R : Value → World → Prop) (h : F15 t0 w R) : CW Try.prog 15 #[Value.slice t0.1 t0.2 t0.3] w R :=
  call_of tbOk mixed en15 Try.func15 rfl (.node (.nil) (.node (.nil) (.node (.nil) (.node (.node (.nil) (.loop [(5, .one (.int .i64))] [14, 15, 16, 19, 20, 21, 22, 23, 6, 24, 25, 26, 29, 30, 31, 32, 33, 34, 35, 36, 37, 38, 39, 40, 41, 42, 43, 44, 45, 46, 47, 48, 49, 50, 51, 52, 53, 54, 55, 56, 27, 28, 17, 18, 5] (.node (.nil) (.node (.node (.nil) (.node (.nil) (.loop [(6, .one (.int .i64))] [24, 25, 26, 29, 30, 31, 32, 33, 34, 35, 36, 37, 38, 39, 40, 41, 42, 43, 44, 45, 46, 47, 48, 49, 50, 51, 52, 53, 54, 55, 56, 27, 28, 6] (.node (.nil) (.node (.draw (.st 0 (.st 1 (.st 2 (.st 3 (.st 4 (.st 5 (.st 6 (.st 7 (.st 8 (.st 9 (.st 10 (.st 11 (.st 12 (.st 13 (.st 14 (.st 15 (.st 16 (.st 17 (.st 18 (.st 19 (.st 20 (.st 21 (.st 22 (.st 23 (.st 24 (.ac 25 [4, 3, 2, 1, 0] (.st 26 (.st 27 (.ac 28 [] (.fin) (.non)))) (.non)))))))))))))))))))))))))))) (.nil)))))) (.nil))))) (.node (.node (.nil) (.loop [(7, .one (.int .i64))] [57, 58, 59, 8, 62, 63, 64, 9, 67, 68, 69, 72, 73, 74, 75, 76, 77, 78, 79, 80, 81, 82, 83, 84, 85, 86, 87, 88, 89, 90, 91, 92, 93, 70, 71, 65, 66, 60, 61, 7] (.node (.nil) (.node (.node (.nil) (.loop [(8, .one (.int .i64))] [62, 63, 64, 9, 67, 68, 69, 72, 73, 74, 75, 76, 77, 78, 79, 80, 81, 82, 83, 84, 85, 86, 87, 88, 89, 90, 91, 92, 93, 70, 71, 65, 66, 8] (.node (.nil) (.node (.node (.nil) (.loop [(9, .one (.int .i64))] [67, 68, 69, 72, 73, 74, 75, 76, 77, 78, 79, 80, 81, 82, 83, 84, 85, 86, 87, 88, 89, 90, 91, 92, 93, 70, 71, 9] (.nil))) (.nil))))) (.nil))))) (.nil)))))) (by kernel_rfl) (Nat.le_of_ble_eq_true (by kernel_rfl)) (Eq.mp (α := F15 t0 w R) (by kernel_rfl) h)

def F14j2 (t0 : Sl) (t1 : Sl) (R : Value → World → Prop) (y1 : Nat → Int → World → Prop) (b3 : Nat) (n4 : Int) (y8 : Nat → Int × Int → World → Prop) (b10 : Nat) (x11 : Int × Int) (w12 : World) : Prop :=
 IfB (decide (x11.snd < (t1.n : Int)))
 (∃ (b15 : Nat),
 ∃ (b16 : Nat),
 t1.1 = some ({ block := b15, off := b16 } : Addr) ∧
 ((0 : Int) ≤ n4 ∧ n4 < (t1.2 : Int)) ∧
 ∃ (s17 : Sl),
 w12.cell? ({ block := b15, off := b16 + n4.toNat } : Addr) = some (Value.slice s17.1 s17.2 s17.3) ∧
 ∃ (b18 : Nat),
 ∃ (b19 : Nat),
 s17.1 = some ({ block := b18, off := b19 } : Addr) ∧
 ((0 : Int) ≤ x11.2 ∧ x11.2 < (s17.2 : Int)) ∧
 ∃ (t20 : Bool),
 w12.cell? ({ block := b18, off := b19 + x11.2.toNat } : Addr) = some (Value.bool t20) ∧
 IfB (!t20) (([] : List Nat) = [] ∧ ∃ (b21 : Nat), b21 < b10 ∧ y8 b21 (x11.1, IntKind.i64.wrap (x11.2 + (1 : Int))) w12)
 (∃ (b22 : Nat),
 ∃ (b23 : Nat),
 t0.1 = some ({ block := b22, off := b23 } : Addr) ∧
 ((0 : Int) ≤ n4 ∧ n4 < (t0.2 : Int)) ∧
 ∃ (s24 : Sl),
 w12.cell? ({ block := b22, off := b23 + n4.toNat } : Addr) = some (Value.slice s24.1 s24.2 s24.3) ∧
 IfB (decide ((s24.n : Int) ≤ x11.fst)) (R (Value.bool false) w12)
 (∃ (b25 : Nat),
 ∃ (b26 : Nat),
 t0.1 = some ({ block := b25, off := b26 } : Addr) ∧
 ((0 : Int) ≤ n4 ∧ n4 < (t0.2 : Int)) ∧
 ∃ (s27 : Sl),
 w12.cell? ({ block := b25, off := b26 + n4.toNat } : Addr) = some (Value.slice s27.1 s27.2 s27.3) ∧
 ∃ (b28 : Nat),
 ∃ (b29 : Nat),
 s27.1 = some ({ block := b28, off := b29 } : Addr) ∧
 ((0 : Int) ≤ x11.1 ∧ x11.1 < (s27.2 : Int)) ∧
 ∃ (n30 : Int),
 w12.cell? ({ block := b28, off := b29 + x11.1.toNat } : Addr) = some (Value.int IntKind.i64 n30) ∧
 IfB (n30 != x11.2) (R (Value.bool false) w12) (([] : List Nat) = [] ∧ ∃ (b31 : Nat), b31 < b10 ∧ y8 b31 (IntKind.i64.wrap (x11.1 + (1 : Int)), IntKind.i64.wrap (x11.2 + (1 : Int))) w12))))
 (∃ (b32 : Nat),
 ∃ (b33 : Nat),
 t0.1 = some ({ block := b32, off := b33 } : Addr) ∧
 ((0 : Int) ≤ n4 ∧ n4 < (t0.2 : Int)) ∧
 ∃ (s34 : Sl),
 w12.cell? ({ block := b32, off := b33 + n4.toNat } : Addr) = some (Value.slice s34.1 s34.2 s34.3) ∧
 IfB (x11.1 != (s34.2 : Int)) (R (Value.bool false) w12) (([] : List Nat) = [] ∧ ∃ (b35 : Nat), b35 < b3 ∧ y1 b35 (IntKind.i64.wrap (n4 + (1 : Int))) w12))
def F14 (t0 : Sl) (t1 : Sl) (w : World) (R : Value → World → Prop) : Prop :=
 IfB ((t0.2 : Int) != (t1.2 : Int)) (R (Value.bool false) w)
 (∃ (y1 : Nat → Int → World → Prop),
 (∃ (b2 : Nat), y1 b2 (0 : Int) w) ∧
 ∀ (b3 : Nat) (n4 : Int) (w5 : World) (y6 : Nat → Value),
 y1 b3 n4 w5 →
 IfB (decide (n4 < (t1.n : Int)))
 (∃ (y8 : Nat → Int × Int → World → Prop),
 (∃ (b9 : Nat), y8 b9 ((0 : Int), (0 : Int)) w5) ∧
 ∀ (b10 : Nat) (x11 : Int × Int) (w12 : World) (y13 : Nat → Value),
 y8 b10 x11 w12 →
 (F14j2 t0 t1 R y1 b3 n4 y8 b10 x11 w12))
 (R (Value.bool true) w5))
theorem F14_ok (t0 : Sl) (t1 : Sl) (w : World) (R : Value → World → Prop) (h : F14 t0 t1 w R) : CW Try.prog 14 #[Value.slice t0.1 t0.2 t0.3, Value.slice t1.1 t1.2 t1.3] w R :=
  call_of tbOk mixed en14 Try.func14 rfl (.node (.nil) (.node (.nil) (.node (.node (.nil) (.loop [(5, .one (.int .i64))] [13, 14, 15, 16, 6, 7, 19, 20, 21, 22, 25, 26, 27, 28, 29, 30, 31, 32, 33, 34, 35, 36, 37, 38, 39, 40, 41, 42, 43, 44, 45, 46, 47, 48, 49, 50, 4, 51, 52, 23, 24, 53, 54, 55, 56, 57, 58, 59, 17, 18, 5] (.node (.nil) (.node (.node (.nil) (.node (.node (.nil) (.loop [(6, .one (.int .i64)), (7, .one (.int .i64))] [19, 20, 21, 22, 25, 26, 27, 28, 29, 30, 31, 32, 33, 34, 35, 36, 37, 38, 39, 40, 41, 42, 43, 44, 45, 46, 47, 48, 49, 50, 4, 51, 52, 6, 23, 24, 7] (.nil))) (.nil))) (.nil))))) (.nil)))) (by kernel_rfl) (Nat.le_of_ble_eq_true (by kernel_rfl)) (Eq.mp (α := F14 t0 t1 w R) (by kernel_rfl) h)

def F11j1 (t0 : Sl) (R : Value → World → Prop) (y1 : Nat → Int → World → Prop) (b3 : Nat) (n4 : Int) (w5 : World) : Prop :=
 IfB (decide (n4 < (t0.n : Int)))
 (∃ (b8 : Nat),
 ∃ (b9 : Nat),
 t0.1 = some ({ block := b8, off := b9 } : Addr) ∧
 ((0 : Int) ≤ n4 ∧ n4 < (t0.2 : Int)) ∧
 ∃ (s10 : Sl),
 w5.cell? ({ block := b8, off := b9 + n4.toNat * (6 : Nat) + (4 : Nat) } : Addr) = some (Value.slice s10.1 s10.2 s10.3) ∧
 IfB (decide ((40 : Int) < (s10.n : Int))) (R (Value.bool true) w5)
 (∃ (b11 : Nat),
 ∃ (b12 : Nat),
 t0.1 = some ({ block := b11, off := b12 } : Addr) ∧
 ((0 : Int) ≤ n4 ∧ n4 < (t0.2 : Int)) ∧
 ∃ (s13 : Sl),
 w5.cell? ({ block := b11, off := b12 + n4.toNat * (6 : Nat) + (5 : Nat) } : Addr) = some (Value.slice s13.1 s13.2 s13.3) ∧
 IfB (decide ((40 : Int) < (s13.n : Int))) (R (Value.bool true) w5) (([] : List Nat) = [] ∧ ∃ (b14 : Nat), b14 < b3 ∧ y1 b14 (IntKind.i64.wrap (n4 + (1 : Int))) w5)))
 (R (Value.bool (decide ((40 : Int) < (t0.n : Int)))) w5)
def F11 (t0 : Sl) (w : World) (R : Value → World → Prop) : Prop :=
 ∃ (y1 : Nat → Int → World → Prop),
 (∃ (b2 : Nat), y1 b2 (0 : Int) w) ∧
 ∀ (b3 : Nat) (n4 : Int) (w5 : World) (y6 : Nat → Value),
 y1 b3 n4 w5 →
 (F11j1 t0 R y1 b3 n4 w5)
theorem F11_ok (t0 : Sl) (w : World) (R : Value → World → Prop) (h : F11 t0 w R) : CW Try.prog 11 #[Value.slice t0.1 t0.2 t0.3] w R :=
  call_of tbOk mixed en11 Try.func11 rfl (.node (.nil) (.node (.node (.nil) (.loop [(3, .one (.int .i64))] [4, 5, 6, 7, 10, 11, 12, 13, 14, 15, 16, 17, 18, 19, 20, 21, 22, 23, 24, 25, 2, 8, 9, 3] (.nil))) (.nil))) (by kernel_rfl) (Nat.le_of_ble_eq_true (by kernel_rfl)) (Eq.mp (α := F11 t0 w R) (by kernel_rfl) h)

def F10 (w : World) (R : Value → World → Prop) : Prop :=
 (1 : Nat) * (2 : Nat) ≤ (16777216 : Nat) ∧
 AllocP w (Obj.cells #[Value.int IntKind.i64 (5 : Int), Value.int IntKind.i64 (5 : Int)] (51 : Nat)) fun (b1 : Nat) (w2 : World) =>
 (1 : Nat) * (2 : Nat) ≤ (16777216 : Nat) ∧
 AllocP w2 (Obj.cells #[Value.int IntKind.i64 (6 : Int), Value.int IntKind.i64 (6 : Int)] (51 : Nat)) fun (b3 : Nat) (w4 : World) =>
 (4 : Nat) * (6 : Nat) ≤ (16777216 : Nat) ∧
 AllocP w4
 (Obj.cells
 #[Value.int IntKind.i64 (1 : Int), Value.int IntKind.i64 (0 : Int), Value.int IntKind.i64 (0 : Int), Value.bool false, Value.slice none (0 : Nat) (0 : Nat),
 Value.slice (some ({ block := b1, off := (0 : Nat) } : Addr)) (1 : Nat) (1 : Nat), Value.int IntKind.i64 (2 : Int), Value.int IntKind.i64 (0 : Int), Value.int IntKind.i64 (0 : Int), Value.bool false,
 Value.slice (some ({ block := b1, off := (0 : Nat) } : Addr)) (1 : Nat) (1 : Nat), Value.slice none (0 : Nat) (0 : Nat), Value.int IntKind.i64 (2 : Int), Value.int IntKind.i64 (0 : Int),
 Value.int IntKind.i64 (1 : Int), Value.bool false, Value.slice none (0 : Nat) (0 : Nat), Value.slice (some ({ block := b3, off := (0 : Nat) } : Addr)) (1 : Nat) (1 : Nat), Value.int IntKind.i64 (1 : Int),
 Value.int IntKind.i64 (0 : Int), Value.int IntKind.i64 (1 : Int), Value.bool false, Value.slice (some ({ block := b3, off := (0 : Nat) } : Addr)) (1 : Nat) (1 : Nat), Value.slice none (0 : Nat) (0 : Nat)]
 (27 : Nat))
 fun (b5 : Nat) (w6 : World) =>
 CX Try.prog (13 : Nat) #[Value.slice (some ({ block := b5, off := (0 : Nat) } : Addr)) (4 : Nat) (4 : Nat)] w6 fun (v7 : Value) (w8 : World) =>
 ∃ (s9 : Sl),
 v7 = Value.slice s9.1 s9.2 s9.3 ∧
 IfB ((s9.2 : Int) == (4 : Int))
 (∃ (b10 : Nat),
 ∃ (b11 : Nat),
 s9.1 = some ({ block := b10, off := b11 } : Addr) ∧
 ((0 : Int) ≤ (3 : Int) ∧ (3 : Int) < (s9.2 : Int)) ∧
 ∃ (s12 : Sl),
 w8.cell? ({ block := b10, off := b11 + Int.toNat (3 : Int) } : Addr) = some (Value.slice s12.1 s12.2 s12.3) ∧
 IfB ((s12.2 : Int) == (3 : Int))
 (CX Try.prog (17 : Nat) #[Value.slice (some ({ block := b5, off := (0 : Nat) } : Addr)) (4 : Nat) (4 : Nat), Value.int IntKind.i64 (2 : Int), Value.int IntKind.i64 (0 : Int)] w8
 fun (v13 : Value) (w14 : World) =>
 ∃ (t15 : Bool),
 v13 = Value.bool t15 ∧
 IfB t15
 (CX Try.prog (16 : Nat) #[Value.slice (some ({ block := b5, off := (0 : Nat) } : Addr)) (4 : Nat) (4 : Nat), Value.int IntKind.i64 (2 : Int), Value.int IntKind.i64 (0 : Int)] w14
 fun (v16 : Value) (w17 : World) => ∃ (t18 : Bool), v16 = Value.bool t18 ∧ R (Value.bool !t18) w17)
 (R (Value.bool false) w14))
 (R (Value.bool false) w8))
 (R (Value.bool false) w8)
theorem F10_ok (w : World) (R : Value → World → Prop) (h : F10  w R) : CW Try.prog 10 #[] w R :=
  call_of tbOk mixed en10 Try.func10 rfl (.nil) (by kernel_rfl) (Nat.le_of_ble_eq_true (by kernel_rfl)) (Eq.mp (α := F10  w R) (by kernel_rfl) h)

end Go.Proofs.Ytmmhbjbaallkfaa.Gx

/- The document's relation of a history (gimmalref15). -/
namespace Go.Proofs.Ytmmhbjbaallkfaa.Gx
open Go
set_option linter.unusedSimpArgs false
set_option linter.unusedVariables false

theorem EdP_lt {hs : List Nd} {a b : Nat} (h : EdP hs a b) : b < a ∧ a < hs.length := by
  obtain ⟨h1, x, y, h2, _⟩ := h
  exact ⟨h1, (List.getElem?_eq_some_iff.1 h2).1⟩
theorem Dp_len {hs : List Nd} {a b : Nat} (h : Dp hs a b) : a < hs.length := by
  obtain ⟨c, hc, _⟩ := h.first
  exact (EdP_lt hc).2

/-- All rows are n long. -/
def Sqr (n : Nat) (rows : List MxR) : Prop := rows.length = n ∧ ∀ r ∈ rows, r.2.length = n
theorem Sqr.at {n i : Nat} {rows : List MxR} (h : Sqr n rows) (hi : i < n) : ∃ r, rows[i]? = some r ∧ r.2.length = n ∧ r ∈ rows := by
  have hi' : i < rows.length := by rw [h.1]; exact hi
  exact ⟨rows[i], List.getElem?_eq_getElem hi', h.2 _ (List.getElem_mem hi'), List.getElem_mem hi'⟩
theorem Sqr.set {n i k : Nat} {rows : List MxR} {r : MxR} (h : Sqr n rows) (hr : rows[i]? = some r) (v : Bool) : Sqr n (rows.set i (r.1, r.2.set k v)) := by
  refine ⟨by rw [List.length_set]; exact h.1, fun s hs => ?_⟩
  rcases mem_set hs with rfl | ⟨a, _, ha⟩
  · show (r.2.set k v).length = n
    rw [List.length_set]; exact h.2 r (List.mem_of_getElem? hr)
  · exact h.2 s (List.mem_of_getElem? ha)

/-- Stages of the three loops: what is there lies between. -/
structure FwI (hs : List Nd) (m i k : Nat) (rows : List MxR) : Prop where
  lo : ∀ a b, Fw (EdP hs) m a b → gM rows a b = true
  hi : ∀ a b, gM rows a b = true → Dp hs a b
  done : ∀ a b, b < hs.length → (a < i ∨ (a = i ∧ b < k)) → Fw (EdP hs) (m + 1) a b → gM rows a b = true
theorem Fw_lt {hs : List Nd} {m a b : Nat} (h : Fw (EdP hs) m a b) : b < a ∧ a < hs.length := ⟨Dp_lt (Fw_tc h), Dp_len (Fw_tc h)⟩
theorem FwI.next {hs : List Nd} {m i k : Nat} {rows rows' : List MxR} (h : FwI hs m i k rows) (hle : ∀ a b, gM rows a b = true → gM rows' a b = true) (hup : ∀ a b, gM rows' a b = true → Dp hs a b)
    (hik : Fw (EdP hs) (m + 1) i k → gM rows' i k = true) : FwI hs m i (k + 1) rows' :=
  ⟨fun a b hab => hle a b (h.lo a b hab), hup, fun a b hb hab hF => by
    by_cases he : a = i ∧ b = k
    · obtain ⟨rfl, rfl⟩ := he; exact hik hF
    · exact hle a b (h.done a b hb (by omega) hF)⟩
theorem FwI.row {hs : List Nd} {m i : Nat} {rows : List MxR} (h : FwI hs m i hs.length rows) : FwI hs m (i + 1) 0 rows :=
  ⟨h.lo, h.hi, fun a b hb hab hF => h.done a b hb (by omega) hF⟩
theorem FwI.stage {hs : List Nd} {m : Nat} {rows : List MxR} (h : FwI hs m hs.length 0 rows) : FwI hs (m + 1) 0 0 rows :=
  ⟨fun a b hab => h.done a b (by have := Fw_lt hab; omega) (.inl (Fw_lt hab).2) hab, h.hi, fun a b _ hab => by omega⟩

theorem c15 {w : World} {t : Sl} {hs : List Nd} (hH : Hst w t hs) (hl : hs.length ≤ 1000) :
    CW Try.prog 15 #[slV t] w fun v w' => ∃ t' rows, v = slV t' ∧ Sqr hs.length rows ∧ (∀ i k, gM rows i k = true ↔ Dp hs i k) ∧ Mx w' w.heap.size t' rows ∧ Ext w w' := by
  have hn := hH.n
  refine F15_ok t w _ ⟨⟨by omega, by omega, by omega, by omega⟩, fun b1 w2 a2 => ?_⟩
  have e2 : Ext w w2 := a2.ch _
  have p2 := a2.here; have z2 := a2.size
  rw [Int.toNat_natCast, zc_all (v := Value.slice none 0 0) (by intro x hx; simpa using hx), hn] at a2
  obtain ⟨ts, hts⟩ : ∃ ts : Sl, ts = ⟨some ⟨b1, 0, none⟩, hs.length, hs.length⟩ := ⟨_, rfl⟩
  have hM0 : Mx w2 w.heap.size ts (List.replicate hs.length (⟨none, 0, 0⟩, [])) := by
    have hmem : ∀ r ∈ List.replicate hs.length ((⟨none, 0, 0⟩, []) : MxR), r = (⟨none, 0, 0⟩, []) := fun r hr => (List.mem_replicate.1 hr).2
    refine ⟨?_, fun r hr => ?_, fun r hr => ?_, fun a b r s _ hr _ => ?_, fun j hj => ?_, fun r hr => ?_⟩
    · rw [hts]
      refine OwS.new (w := w) (T := 37) ?_ (by simp)
      rw [List.map_replicate]
      simpa using a2
    · rw [hmem r hr]; exact .nil _ _
    · rw [hmem r hr]; simp [blk]
    · rw [hmem r (List.mem_of_getElem? hr)]; simp [blk]
    · rw [hts] at hj; simp [blk] at hj; omega
    · rw [hmem r hr]; simp [blk]
  have hslot : ∀ {i : Nat}, i < hs.length → (0 : Int) ≤ (i : Int) ∧ (i : Int) < ((((t.2 : Int)).toNat : Nat) : Int) := fun {i} h => ⟨by omega, by omega⟩
  have hst : ∀ {i : Nat}, i < hs.length → (0 : Int) ≤ (i : Int) ∧ (i : Int) < (t.n : Int) := fun {i} h => ⟨by omega, by omega⟩
  have w1 : ∀ {i : Nat}, i < hs.length → IntKind.i64.wrap ((i : Int) + 1) = ((i + 1 : Nat) : Int) := fun {i} h => by rw [wrap_of (by omega) (by omega)]; rfl
  have hb1 : ts.p = some ⟨b1, 0, none⟩ := by rw [hts]
  -- a row's header and a place of it, from memory
  have slot : ∀ {W : World} {rows : List MxR} {i : Nat} {r : MxR}, Mx W w.heap.size ts rows → rows[i]? = some r → W.cell? ⟨b1, 0 + (i : Int).toNat, none⟩ = some (slV r.1) := fun {W rows i r} hM hr => by
    obtain ⟨b, hp, hc⟩ := hM.slot hr
    rw [hb1] at hp; cases hp
    rw [Int.toNat_natCast, Nat.zero_add]; exact hc
  refine ⟨fun m x W => ∃ (i : Nat) (rows : List MxR), i ≤ hs.length ∧ m + i = hs.length ∧ x = (i : Int) ∧ rows.length = hs.length ∧ (∀ a r, rows[a]? = some r → r.2.length = if a < i then hs.length else 0) ∧ (∀ a b, gM rows a b = true ↔ a < i ∧ EdP hs a b) ∧ Mx W w.heap.size ts rows ∧ Ext w W,
    ⟨hs.length, 0, List.replicate hs.length (⟨none, 0, 0⟩, []), Nat.zero_le _, rfl, rfl, by simp, fun a r hr => ?_, fun a b => ?_, hM0, e2⟩, ?_⟩
  · rw [(List.mem_replicate.1 (List.mem_of_getElem? hr)).2]; rfl
  · unfold gM
    constructor
    · intro h
      rw [List.getElem?_replicate] at h
      split at h
      · rename_i r hr
        split at hr
        · cases hr; simp at h
        · cases hr
      · cases h
    · intro h; omega
  rintro m _ W g ⟨i, rows, hi, hmi, rfl, hrl, hrw, hg, hM, hE⟩
  unfold F15j1
  refine IfB.dec (fun hlt => ?_) fun hge => ?_
  · -- a new row
    have hi' : i < hs.length := by omega
    refine ⟨⟨by omega, by omega, by omega, by omega⟩, fun b10 w11 a11 => ?_⟩
    have p11 := a11.here; have z11 := a11.size
    have e11 : Ext W w11 := a11.ch _
    have zE := hE.size
    rw [Int.toNat_natCast, zc_all (v := Value.bool false) (by intro x hx; simpa using hx), hn] at a11
    have hrow : OwS w11 ⟨some ⟨b10, 0, none⟩, hs.length, hs.length⟩ 1 (bvs (List.replicate hs.length false)) := by
      refine OwS.new (w := W) (T := 4) ?_ (by simp)
      rw [show bvs (List.replicate hs.length false) = List.replicate hs.length (Value.bool false) from List.map_replicate]
      simpa using a11
    refine ⟨b1, 0, rfl, hslot hi', rfl, ?_⟩
    rw [Int.toNat_natCast, Int.toNat_natCast, hn]
    have hM11 := hM.ext e11
    have hbk : ∀ j ∈ blk (⟨some ⟨b10, 0, none⟩, hs.length, hs.length⟩ : Sl), j = b10 := fun j hj => by simpa [blk] using hj
    refine hM11.row' (by omega) hrow (fun j hj => by have := hbk j hj; omega) (fun j hj h => by have := hbk j hj; have := hM.own.lt j h; omega) (fun r hr j hj h => by have := hbk j hj; have := (hM.row r hr).lt j h; omega) hb1 fun w14 hM14 hC14 => ?_
    have E14 : Ext w w14 := (hE.trans e11).chN hC14 fun j e => by omega
    have hgi : ∀ a b, gM (rows.set i (⟨some ⟨b10, 0, none⟩, hs.length, hs.length⟩, List.replicate hs.length false)) a b = true ↔ (a < i ∧ EdP hs a b) ∨ (a = i ∧ b < 0 ∧ EdP hs i b) := fun a b => by
      rw [gM_row (by omega)]
      by_cases ha : a = i
      · rw [if_pos ha]
        constructor
        · intro h; cases h
        · rintro (h | h) <;> omega
      · rw [if_neg ha, hg]
        constructor
        · exact .inl
        · rintro (h | h)
          · exact h
          · exact absurd h.1 ha
    refine ⟨fun n x W' => ∃ (k : Nat) (rows : List MxR), k ≤ i ∧ n + k = i ∧ x = (k : Int) ∧ rows.length = hs.length ∧ (∀ a r, rows[a]? = some r → r.2.length = if a < i + 1 then hs.length else 0) ∧ (∀ a b, gM rows a b = true ↔ (a < i ∧ EdP hs a b) ∨ (a = i ∧ b < k ∧ EdP hs i b)) ∧ Mx W' w.heap.size ts rows ∧ Ext w W',
      ⟨i, 0, _, Nat.zero_le _, rfl, rfl, by rw [List.length_set]; exact hrl, fun a r hr => ?_, hgi, hM14, E14⟩, ?_⟩
    · rw [List.getElem?_set] at hr
      by_cases hia : i = a
      · subst hia
        rw [if_pos rfl, if_pos (by omega)] at hr
        cases hr
        rw [if_pos (by omega)]; exact List.length_replicate
      · rw [if_neg hia] at hr
        rw [hrw a r hr]
        by_cases h : a < i
        · rw [if_pos h, if_pos (by omega)]
        · rw [if_neg h, if_neg (by omega)]
    rintro n _ w19 g ⟨k, rows2, hk, hnk, rfl, hrl2, hrw2, hg2, hM2, hE2⟩
    unfold F15j2
    refine IfB.dec (fun hlt2 => ?_) fun hge2 => ?_
    · have hk' : k < i := by omega
      have hk'' : k < hs.length := by omega
      have ed := extDrew w19
      have hEd := hE2.trans ed
      have hMd := hM2.ext ed
      have hHd := hH.ext hEd
      have hr : rows2[i]? = some (rows2[i]'(by omega)) := List.getElem?_eq_getElem (by omega)
      generalize rows2[i]'_ = r at hr
      have hrl3 : r.2.length = hs.length := by have := hrw2 i r hr; rwa [if_pos (by omega)] at this
      have hrm := List.mem_of_getElem? hr
      have hrn := hMd.rn hrm
      have ha : hs[i]? = some hs[i] := List.getElem?_eq_getElem hi'
      have hb : hs[k]? = some hs[k] := List.getElem?_eq_getElem hk''
      generalize hs[i] = na at ha
      generalize hs[k] = nb at hb
      obtain ⟨x1, o1, hp1, hc1⟩ := hHd.at ha
      obtain ⟨x2, o2, hp2, hc2⟩ := hHd.at hb
      obtain ⟨bb, hpb, _⟩ := hMd.cell hrm (gM_get hr (k := k) (by omega))
      have hset : ∀ v : Bool, (v = true ↔ EdP hs i k) → ∀ a b, gM (rows2.set i (r.1, r.2.set k v)) a b = true ↔ (a < i ∧ EdP hs a b) ∨ (a = i ∧ b < k + 1 ∧ EdP hs i b) := fun v hv a b => by
        rw [gM_set hr (by omega)]
        by_cases hab : a = i ∧ b = k
        · rw [if_pos hab, hv]
          obtain ⟨rfl, rfl⟩ := hab
          constructor
          · exact fun h => .inr ⟨rfl, by omega, h⟩
          · rintro (h | h)
            · exact h.2
            · exact h.2.2
        · rw [if_neg hab, hg2]
          refine or_congr Iff.rfl (and_congr_right fun hai => and_congr_left fun _ => ?_)
          have : b ≠ k := fun h => hab ⟨hai, h⟩
          omega
      have hlen : ∀ v : Bool, ∀ a r', (rows2.set i (r.1, r.2.set k v))[a]? = some r' → r'.2.length = if a < i + 1 then hs.length else 0 := fun v a r' hr' => by
        rw [List.getElem?_set] at hr'
        by_cases hia : i = a
        · subst hia
          rw [if_pos rfl, if_pos (by omega)] at hr'
          cases hr'
          rw [if_pos (by omega)]
          show (r.2.set k v).length = _
          rw [List.length_set]; exact hrl3
        · rw [if_neg hia] at hr'; exact hrw2 a r' hr'
      have fin : ∀ (v : Bool), (v = true ↔ EdP hs i k) → ∀ W2, Ext w19.drew W2 → StoreP W2 bb (0 + (k : Int).toNat) [.bool v] fun w33 => ([] : List Nat) = [] ∧ ∃ b34, b34 < n ∧ ∃ (k' : Nat) (rows : List MxR), k' ≤ i ∧ b34 + k' = i ∧ IntKind.i64.wrap ((k : Int) + 1) = (k' : Int) ∧ rows.length = hs.length ∧ (∀ a r, rows[a]? = some r → r.2.length = if a < i + 1 then hs.length else 0) ∧ (∀ a b, gM rows a b = true ↔ (a < i ∧ EdP hs a b) ∨ (a = i ∧ b < k' ∧ EdP hs i b)) ∧ Mx w33 w.heap.size ts rows ∧ Ext w w33 := fun v hv W2 eW => by
        rw [Int.toNat_natCast]
        refine (hMd.ext eW).put hr (by omega) hpb fun w' hM' hC' => ⟨rfl, n - 1, by omega, k + 1, _, hk', by omega, w1 hk'', by rw [List.length_set]; exact hrl2, hlen v, hset v hv, hM', (hEd.trans eW).chN hC' fun j e => ?_⟩
        exact hM2.rnew r hrm j (by simp [blk, hpb, e])
      unfold F15k1
      refine ⟨b1, 0, rfl, hslot hi', r.1, slot hMd hr, x1, o1, hp1, hst hi', na.v.1, by rw [Int.toNat_natCast]; exact hc1 0 _ rfl, x2, o2, hp2, hst hk'', nb.v.1, by rw [Int.toNat_natCast]; exact hc2 0 _ rfl, IfB.intro (fun he => ?_) fun hne => ?_⟩
      · have he : na.v.1 = nb.v.1 := by simpa using he
        exact ⟨slot hMd hr, bb, 0, hpb, ⟨by omega, by show (k : Int) < (r.1.n : Int); omega⟩, rfl, fin true ⟨fun _ => ⟨hk', na, nb, ha, hb, .inl he⟩, fun _ => rfl⟩ _ (Ch.refl _ _)⟩
      · have hne : na.v.1 ≠ nb.v.1 := by simpa using hne
        refine ⟨x1, o1, hp1, hst hi', na.v, by rw [Int.toNat_natCast]; exact hc1, x2, o2, hp2, hst hk'', nb.v, by rw [Int.toNat_natCast]; exact hc2, (c12 (hHd.get ha) (hHd.get hb)).use ?_⟩
        rintro _ w42 ⟨v, rfl, hv, e42⟩
        refine ⟨v, rfl, slot (hMd.ext e42) hr, bb, 0, hpb, ⟨by omega, by show (k : Int) < (r.1.n : Int); omega⟩, rfl, fin v ?_ _ e42⟩
        rw [hv]
        constructor
        · exact fun h => ⟨hk', na, nb, ha, hb, .inr h⟩
        · rintro ⟨_, x, y, hx, hy, hd⟩
          rw [ha] at hx; rw [hb] at hy
          cases hx; cases hy
          exact hd.resolve_left hne
    · have hk' : k = i := by omega
      subst hk'
      refine ⟨rfl, m - 1, by omega, k + 1, rows2, hi', by omega, w1 hi', hrl2, hrw2, fun a b => ?_, hM2, hE2⟩
      rw [hg2]
      constructor
      · rintro (h | ⟨rfl, _, h⟩)
        · exact ⟨by omega, h.2⟩
        · exact ⟨by omega, h⟩
      · rintro ⟨h1, h2⟩
        by_cases ha : a = k
        · subst ha; exact .inr ⟨rfl, h2.1, h2⟩
        · exact .inl ⟨by omega, h2⟩
  · -- ways
    have hi' : i = hs.length := by omega
    subst hi'
    have hsq : Sqr hs.length rows := ⟨hrl, fun r hr => by
      obtain ⟨a, ha, e⟩ := List.getElem_of_mem hr
      have := hrw a r (by rw [List.getElem?_eq_getElem ha, e])
      rwa [if_pos (by omega)] at this⟩
    have hF0 : FwI hs 0 0 0 rows := ⟨fun a b h => (hg a b).2 ⟨(EdP_lt h).2, h⟩, fun a b h => .one ((hg a b).1 h).2, fun a b _ hab => by omega⟩
    refine ⟨fun n x W' => ∃ (m : Nat) (rows : List MxR), m ≤ hs.length ∧ n + m = hs.length ∧ x = (m : Int) ∧ Sqr hs.length rows ∧ FwI hs m 0 0 rows ∧ Mx W' w.heap.size ts rows ∧ Ext w W', ⟨hs.length, 0, rows, Nat.zero_le _, rfl, rfl, hsq, hF0, hM, hE⟩, ?_⟩
    rintro n _ w53 g ⟨m, rows3, hm, hnm, rfl, hsq3, hF3, hM3, hE3⟩
    unfold F15j3
    refine IfB.dec (fun hlt => ?_) fun hge => ?_
    · have hm' : m < hs.length := by omega
      refine ⟨fun q x W' => ∃ (i : Nat) (rows : List MxR), i ≤ hs.length ∧ q + i = hs.length ∧ x = (i : Int) ∧ Sqr hs.length rows ∧ FwI hs m i 0 rows ∧ Mx W' w.heap.size ts rows ∧ Ext w W', ⟨hs.length, 0, rows3, Nat.zero_le _, rfl, rfl, hsq3, hF3, hM3, hE3⟩, ?_⟩
      rintro q _ w60 g ⟨i, rows4, hi, hqi, rfl, hsq4, hF4, hM4, hE4⟩
      refine IfB.dec (fun hlt2 => ?_) fun hge2 => ?_
      · have hi' : i < hs.length := by omega
        refine ⟨fun s x W' => ∃ (k : Nat) (rows : List MxR), k ≤ hs.length ∧ s + k = hs.length ∧ x = (k : Int) ∧ Sqr hs.length rows ∧ FwI hs m i k rows ∧ Mx W' w.heap.size ts rows ∧ Ext w W', ⟨hs.length, 0, rows4, Nat.zero_le _, rfl, rfl, hsq4, hF4, hM4, hE4⟩, ?_⟩
        rintro s _ w67 g ⟨k, rows5, hk, hsk, rfl, hsq5, hF5, hM5, hE5⟩
        unfold F15j5
        refine IfB.dec (fun hlt3 => ?_) fun hge3 => ?_
        · have hk' : k < hs.length := by omega
          obtain ⟨ri, hri, hril, hrim⟩ := hsq5.at hi'
          obtain ⟨rm, hrm, hrml, hrmm⟩ := hsq5.at hm'
          have hin := hM5.rn hrim
          have hmn := hM5.rn hrmm
          obtain ⟨c1, hp1, hc1⟩ := hM5.cell hrim (gM_get hri (k := m) (by omega))
          obtain ⟨c2, hp2, hc2⟩ := hM5.cell hrmm (gM_get hrm (k := k) (by omega))
          have stay : (Fw (EdP hs) (m + 1) i k → gM rows5 i k = true) → ∃ b90, b90 < s ∧ ∃ (k' : Nat) (rows : List MxR), k' ≤ hs.length ∧ b90 + k' = hs.length ∧ IntKind.i64.wrap ((k : Int) + 1) = (k' : Int) ∧ Sqr hs.length rows ∧ FwI hs m i k' rows ∧ Mx w67 w.heap.size ts rows ∧ Ext w w67 := fun h =>
            ⟨s - 1, by omega, k + 1, rows5, hk', by omega, w1 hk', hsq5, hF5.next (fun _ _ h => h) hF5.hi h, hM5, hE5⟩
          refine ⟨b1, 0, rfl, hslot hi', ri.1, slot hM5 hri, c1, 0, hp1, ⟨by omega, by show (m : Int) < (ri.1.n : Int); omega⟩, gM rows5 i m, by rw [Int.toNat_natCast, Nat.zero_add]; exact hc1, IfB.intro (fun h1 => ?_) fun h1 => ⟨rfl, stay fun hF => ?_⟩⟩
          · refine ⟨b1, 0, rfl, hslot hm', rm.1, slot hM5 hrm, c2, 0, hp2, ⟨by omega, by show (k : Int) < (rm.1.n : Int); omega⟩, gM rows5 m k, by rw [Int.toNat_natCast, Nat.zero_add]; exact hc2, IfB.intro (fun h2 => ?_) fun h2 => ⟨rfl, stay fun hF => ?_⟩⟩
            · refine ⟨b1, 0, rfl, hslot hi', ri.1, slot hM5 hri, c1, 0, hp1, ⟨by omega, by show (k : Int) < (ri.1.n : Int); omega⟩, rfl, ?_⟩
              rw [Int.toNat_natCast]
              have hup := (hF5.hi _ _ h1).trans (hF5.hi _ _ h2)
              have hset := gM_set hri (k := k) (by omega) true
              refine hM5.put hri (by omega) hp1 fun w' hM' hC' => ⟨rfl, s - 1, by omega, k + 1, _, hk', by omega, w1 hk', hsq5.set hri _, hF5.next (fun a b h => ?_) (fun a b h => ?_) (fun _ => ?_), hM', hE5.chN hC' fun j e => hM5.rnew ri hrim j (by simp [blk, hp1, e])⟩
              · rw [hset]; split
                · rfl
                · exact h
              · rw [hset] at h
                split at h
                · rename_i hab; rw [hab.1, hab.2]; exact hup
                · exact hF5.hi a b h
              · rw [hset, if_pos ⟨rfl, rfl⟩]
            · rcases hF with hF | hF
              · exact hF5.lo _ _ hF
              · rw [hF5.lo _ _ hF.2] at h2; cases h2
          · rcases hF with hF | hF
            · exact hF5.lo _ _ hF
            · rw [hF5.lo _ _ hF.1] at h1; cases h1
        · have hk' : k = hs.length := by omega
          subst hk'
          exact ⟨rfl, q - 1, by omega, i + 1, rows5, hi', by omega, w1 hi', hsq5, hF5.row, hM5, hE5⟩
      · have hi' : i = hs.length := by omega
        subst hi'
        exact ⟨rfl, n - 1, by omega, m + 1, rows4, hm', by omega, w1 hm', hsq4, hF4.stage, hM4, hE4⟩
    · have hm' : m = hs.length := by omega
      subst hm'
      refine ⟨ts, rows3, ?_, hsq3, fun a b => ⟨hF3.hi a b, fun h => hF3.lo a b ((Fw_iff fun a b h => by have := EdP_lt h; omega).2 h)⟩, hM3, hE3⟩
      rw [hts, Int.toNat_natCast, hn]
end Go.Proofs.Ytmmhbjbaallkfaa.Gx

/- Package gimmallaw15: what its statements ask first; lists against the document's relation. -/
namespace Go.Proofs.Ytmmhbjbaallkfaa.Gx
open Go
set_option linter.unusedSimpArgs false
set_option linter.unusedVariables false

/-- More than statements look at. -/
def GrtP (hs : List Nd) : Prop := (∃ n ∈ hs, 40 < n.rs.length ∨ 40 < n.ws.length) ∨ 40 < hs.length

theorem c11 {w : World} {t : Sl} {hs : List Nd} (hr : Rd w t 6 (hs.flatMap nL)) (hn : ∀ n ∈ hs, n.v.2.2.2.2.1.n = n.rs.length ∧ n.v.2.2.2.2.2.n = n.ws.length) (hl : hs.length ≤ 9223372036854775807) :
    CW Try.prog 11 #[slV t] w fun v w' => ∃ r, v = .bool r ∧ (r = true ↔ GrtP hs) ∧ w = w' := by
  have htn := rdN nL_len (by omega) hr
  refine F11_ok t w _ ⟨fun m x W => ∃ i : Nat, i ≤ hs.length ∧ m + i = hs.length ∧ x = (i : Int) ∧ w = W ∧ ∀ n ∈ hs.take i, ¬ (40 < n.rs.length ∨ 40 < n.ws.length), ⟨hs.length, 0, Nat.zero_le _, rfl, rfl, rfl, by simp⟩, ?_⟩
  rintro m _ _ g ⟨i, hi, hmi, rfl, rfl, hno⟩
  unfold F11j1
  refine IfB.dec (fun hlt => ?_) fun hge => ?_
  · have hi' : i < hs.length := by omega
    have hx : hs[i]? = some hs[i] := List.getElem?_eq_getElem hi'
    have htk := take_succ_get hx
    generalize hs[i] = x at hx htk
    have hxm := List.mem_of_getElem? hx
    obtain ⟨hnr, hnw⟩ := hn x hxm
    obtain ⟨b, o, hp, hc⟩ := hr.elem (i := i) (by omega) (by omega) (flatGet nL_len hx)
    have hb : (0 : Int) ≤ (i : Int) ∧ (i : Int) < (t.n : Int) := ⟨by omega, by omega⟩
    refine ⟨b, o, hp, hb, x.v.2.2.2.2.1, by rw [Int.toNat_natCast]; exact hc 4 _ rfl, IfB.dec (fun h => ⟨true, rfl, ⟨fun _ => .inl ⟨x, hxm, .inl (by omega)⟩, fun _ => rfl⟩, rfl⟩) fun h1 => ⟨b, o, hp, hb, x.v.2.2.2.2.2, by rw [Int.toNat_natCast]; exact hc 5 _ rfl, IfB.dec (fun h => ⟨true, rfl, ⟨fun _ => .inl ⟨x, hxm, .inr (by omega)⟩, fun _ => rfl⟩, rfl⟩) fun h2 => ⟨rfl, m - 1, by omega, i + 1, hi', by omega, by rw [wrap_of (by omega) (by omega)]; rfl, rfl, fun n hn' => ?_⟩⟩⟩
    rw [htk] at hn'
    rcases List.mem_append.1 hn' with h | h
    · exact hno n h
    · rw [List.mem_singleton.1 h]; omega
  · have hi' : i = hs.length := by omega
    subst hi'
    rw [List.take_length] at hno
    refine ⟨_, rfl, ?_, rfl⟩
    rw [decide_eq_true_eq]
    unfold GrtP
    constructor
    · exact fun h => .inr (by omega)
    · rintro (⟨n, hn, h⟩ | h)
      · exact absurd h (hno n hn)
      · omega

/-- Lists that are the relation's are told the same. -/
theorem c14 {w : World} {tl td : Sl} {rows : List RwL} {mr : List MxR} {hs : List Nd} {m0 : Nat} (hL : Rws w tl rows) (hrl : rows.length = hs.length) (hrow : ∀ i x, rows[i]? = some x → RowOf hs i x.2) (hM : Mx w m0 td mr) (hsq : Sqr hs.length mr) (hg : ∀ i k, gM mr i k = true ↔ Dp hs i k) (hl : hs.length ≤ 1000) :
    CW Try.prog 14 #[slV tl, slV td] w fun v w' => v = .bool true ∧ w = w' := by
  have htn := hL.n
  have hdn := hM.n
  have hml := hsq.1
  refine F14_ok tl td w _ (IfB.no (by simp; omega) ⟨fun m x W => ∃ i : Nat, i ≤ hs.length ∧ m + i = hs.length ∧ x = (i : Int) ∧ w = W, ⟨hs.length, 0, Nat.zero_le _, rfl, rfl, rfl⟩, ?_⟩)
  rintro m _ _ g ⟨i, hi, hmi, rfl, rfl⟩
  refine IfB.dec (fun hlt => ?_) fun hge => ⟨rfl, rfl⟩
  have hi' : i < hs.length := by omega
  have hx : rows[i]? = some (rows[i]'(by omega)) := List.getElem?_eq_getElem (by omega)
  generalize rows[i]'_ = row at hx
  obtain ⟨⟨bl, ol, hpl, hcl⟩, hrr, hrn⟩ := hL.at hx
  have hR := hrow i row hx
  obtain ⟨r, hr, hrlen, hrm⟩ := hsq.at hi'
  obtain ⟨bd, hpd, hcd⟩ := hM.slot hr
  have hrn' := hM.rn hrm
  have hRl := hR.len
  have hbl : (0 : Int) ≤ (i : Int) ∧ (i : Int) < (tl.n : Int) := ⟨by omega, by omega⟩
  have hbd : (0 : Int) ≤ (i : Int) ∧ (i : Int) < (td.n : Int) := ⟨by omega, by omega⟩
  refine ⟨fun q x W => ∃ (k : Nat) (A B : List Int), k ≤ hs.length ∧ q + k = hs.length ∧ x = ((A.length : Int), (k : Int)) ∧ row.2 = A ++ B ∧ (∀ a ∈ A, a < (k : Int)) ∧ (∀ b ∈ B, (k : Int) ≤ b) ∧ w = W, ⟨hs.length, 0, [], row.2, Nat.zero_le _, rfl, rfl, rfl, by simp, fun b hb => ?_, rfl⟩, ?_⟩
  · obtain ⟨k', rfl, _⟩ := (hR.mem b).1 hb
    omega
  rintro q _ _ g ⟨k, A, B, hk, hqk, rfl, hAB, hA, hB, rfl⟩
  have hABl : row.2.length = A.length + B.length := by rw [hAB, List.length_append]
  unfold F14j2
  refine IfB.dec (fun hlt2 => ?_) fun hge2 => ?_
  · have hk' : k < hs.length := by dsimp only at hlt2; omega
    obtain ⟨bc, hpc, hcc⟩ := hM.cell hrm (gM_get hr (k := k) (by omega))
    have w1 : IntKind.i64.wrap ((k : Int) + 1) = ((k + 1 : Nat) : Int) := by rw [wrap_of (by omega) (by omega)]; rfl
    have hmem : gM mr i k = true ↔ (k : Int) ∈ row.2 := by
      rw [hg, hR.mem]
      exact ⟨fun h => ⟨k, rfl, h⟩, fun ⟨k', e, h⟩ => by have : k' = k := by omega
                                                        subst this; exact h⟩
    refine ⟨bd, 0, hpd, hbd, r.1, by rw [Int.toNat_natCast, Nat.zero_add]; exact hcd, bc, 0, hpc, (⟨by omega, by omega⟩ : (0 : Int) ≤ (k : Int) ∧ (k : Int) < (r.1.n : Int)), gM mr i k, by dsimp only; rw [Int.toNat_natCast, Nat.zero_add]; exact hcc, IfB.intro (fun h => ?_) fun h => ?_⟩
    · have hnk : (k : Int) ∉ row.2 := fun h' => by rw [hmem.2 h'] at h; cases h
      refine ⟨rfl, q - 1, by omega, k + 1, A, B, hk', by omega, by rw [w1], hAB, fun a ha => by have := hA a ha; omega, fun b hb => ?_, rfl⟩
      have := hB b hb
      have : b ≠ (k : Int) := fun e => hnk (by rw [hAB, ← e]; exact List.mem_append.2 (.inr hb))
      omega
    · have hkm : (k : Int) ∈ row.2 := hmem.1 (by simpa using h)
      obtain ⟨B', rfl⟩ : ∃ B', B = (k : Int) :: B' := by
        rw [hAB] at hkm
        rcases List.mem_append.1 hkm with h' | h'
        · have := hA _ h'; omega
        · match B, h', hB, hAB with
          | b :: B', h', hB, hAB =>
            have hb := hB b (by simp)
            rcases List.mem_cons.1 h' with e | e
            · exact ⟨B', by rw [e]⟩
            · have hs := hR.srt
              rw [hAB] at hs
              have := (List.pairwise_cons.1 (List.pairwise_append.1 hs).2.1).1 _ e
              omega
      have hrA : row.2[A.length]? = some (k : Int) := by rw [hAB, List.getElem?_append_right (Nat.le_refl _), Nat.sub_self]; rfl
      obtain ⟨be, oe, hpe, hce⟩ := hrr.elem1 (i := A.length) (v := iv (k : Int)) (by rw [List.getElem?_map, hrA]; rfl)
      simp at hABl
      refine ⟨bl, ol, hpl, hbl, row.1, by rw [Int.toNat_natCast]; exact hcl, IfB.no (by simp; omega) ⟨bl, ol, hpl, hbl, row.1, by rw [Int.toNat_natCast]; exact hcl, be, oe, hpe, (⟨by omega, by omega⟩ : (0 : Int) ≤ (A.length : Int) ∧ (A.length : Int) < (row.1.n : Int)), (k : Int), by dsimp only; rw [Int.toNat_natCast]; exact hce, IfB.no (by simp) ⟨rfl, q - 1, by omega, k + 1, A ++ [(k : Int)], B', hk', by omega, ?_, by rw [hAB]; simp, fun a ha => ?_, fun b hb => ?_, rfl⟩⟩⟩
      · rw [w1, wrap_of (by omega) (by omega)]; simp
      · rcases List.mem_append.1 ha with ha | ha
        · have := hA a ha; omega
        · rw [List.mem_singleton.1 ha]; omega
      · have hs := hR.srt
        rw [hAB] at hs
        have := (List.pairwise_cons.1 (List.pairwise_append.1 hs).2.1).1 _ hb
        omega
  · have hk' : k = hs.length := by dsimp only at hge2; omega
    subst hk'
    have hBn : B = [] := by
      match B, hB, hAB with
      | [], _, _ => rfl
      | b :: B', hB, hAB =>
        have hb := hB b (by simp)
        obtain ⟨k', e, hd⟩ := (hR.mem b).1 (by rw [hAB]; simp)
        have := Dp_lt hd
        omega
    subst hBn
    simp at hABl
    refine ⟨bl, ol, hpl, hbl, row.1, by rw [Int.toNat_natCast]; exact hcl, IfB.no (by simp; omega) ⟨rfl, m - 1, by omega, i + 1, hi', by omega, by rw [wrap_of (by omega) (by omega)]; rfl, rfl⟩⟩

/-! ### The document's example -/
abbrev nilS : Sl := ⟨none, 0, 0⟩
theorem c10 (w : World) : CW Try.prog 10 #[] w fun v w' => v = .bool true ∧ Ext w w' := by
  refine F10_ok w _ ⟨by decide, fun b1 w2 a2 => ⟨by decide, fun b3 w4 a4 => ⟨by decide, fun b5 w6 a6 => ?_⟩⟩⟩
  have e4 : Ext w2 w4 := a4.ch _
  have e6 : Ext w4 w6 := a6.ch _
  have E6 : Ext w w6 := ((a2.ch _).trans e4).trans e6
  obtain ⟨hs, hhs⟩ : ∃ hs : List Nd, hs = [⟨(1, 0, 0, false, nilS, ⟨some ⟨b1, 0, none⟩, 1, 1⟩), [], [(5, 5)]⟩, ⟨(2, 0, 0, false, ⟨some ⟨b1, 0, none⟩, 1, 1⟩, nilS), [(5, 5)], []⟩, ⟨(2, 0, 1, false, nilS, ⟨some ⟨b3, 0, none⟩, 1, 1⟩), [], [(6, 6)]⟩, ⟨(1, 0, 1, false, ⟨some ⟨b3, 0, none⟩, 1, 1⟩, nilS), [(6, 6)], []⟩] := ⟨_, rfl⟩
  have r5 : Rd w6 ⟨some ⟨b1, 0, none⟩, 1, 1⟩ 2 ([((5, 5) : Spn)].flatMap sv) := (((OwS.new (cs := [((5, 5) : Spn)].flatMap sv) (n := 1) (sz := 2) a2 rfl).ext e4).ext e6).rd
  have r6 : Rd w6 ⟨some ⟨b3, 0, none⟩, 1, 1⟩ 2 ([((6, 6) : Spn)].flatMap sv) := ((OwS.new (cs := [((6, 6) : Spn)].flatMap sv) (n := 1) (sz := 2) a4 rfl).ext e6).rd
  have rn : Rd w6 nilS 2 (([] : List Spn).flatMap sv) := (OwS.nil w6 2).rd
  have hH : Hst w6 ⟨some ⟨b5, 0, none⟩, 4, 4⟩ hs := by
    refine ⟨?_, fun n hn => ?_, by rw [hhs]; simp, Nat.le_refl _⟩
    · rw [hhs]; exact (OwS.new (n := 4) (sz := 6) a6 rfl).rd
    · rw [hhs] at hn
      simp only [List.mem_cons, List.not_mem_nil, or_false] at hn
      rcases hn with rfl | rfl | rfl | rfl
      · exact ⟨rn, r5, by simp, by simp⟩
      · exact ⟨r5, rn, by simp, by simp⟩
      · exact ⟨rn, r6, by simp, by simp⟩
      · exact ⟨r6, rn, by simp, by simp⟩
  have hlen : hs.length = 4 := by rw [hhs]; rfl
  have m5 : hasS [(5, 5)] 5 := ⟨_, List.mem_singleton.2 rfl, by unfold mayS; omega, by omega, by omega⟩
  have m6 : hasS [(6, 6)] 6 := ⟨_, List.mem_singleton.2 rfl, by unfold mayS; omega, by omega, by omega⟩
  have h10 : EdP hs 1 0 := ⟨by omega, _, _, by rw [hhs]; rfl, by rw [hhs]; rfl, .inr ⟨by simp, .inr (.inr ⟨5, m5, m5⟩)⟩⟩
  have h21 : EdP hs 2 1 := ⟨by omega, _, _, by rw [hhs]; rfl, by rw [hhs]; rfl, .inl (by rfl)⟩
  have h32 : EdP hs 3 2 := ⟨by omega, _, _, by rw [hhs]; rfl, by rw [hhs]; rfl, .inr ⟨by simp, .inr (.inr ⟨6, m6, m6⟩)⟩⟩
  have h20 : ¬ EdP hs 2 0 := by
    rintro ⟨_, a, b, ha, hb, hd⟩
    rw [hhs] at ha hb
    simp at ha hb
    subst ha; subst hb
    rcases hd with h | ⟨_, ⟨k, h1, h2⟩ | ⟨k, h1, h2⟩ | ⟨k, h1, h2⟩⟩
    · simp at h
    · obtain ⟨x, hx, _⟩ := h2; cases hx
    · rw [hasS_one] at h1 h2; omega
    · obtain ⟨x, hx, _⟩ := h1; cases hx
  refine (c13 hH (by omega)).use ?_
  rintro _ w8 ⟨t', rows, rfl, hrl, hrow, hO, e8⟩
  have htn := hO.n
  have hr3 : rows[3]? = some (rows[3]'(by omega)) := List.getElem?_eq_getElem (by omega)
  generalize rows[3]'_ = row at hr3
  obtain ⟨⟨b, o, hp, hc⟩, hrr, hrn⟩ := hO.rws.at hr3
  have hR := hrow 3 row hr3
  have hrow3 : row.2 = [0, 1, 2] := sorted_ext hR.srt (by decide) fun k => by
    rw [hR.mem]
    constructor
    · rintro ⟨k', rfl, hd⟩
      have := Dp_lt hd
      rcases k' with _ | _ | _ | k'
      · simp
      · simp
      · simp
      · omega
    · intro hk
      simp only [List.mem_cons, List.not_mem_nil, or_false] at hk
      rcases hk with rfl | rfl | rfl
      · exact ⟨0, rfl, ((TC.one h32).more h21).more h10⟩
      · exact ⟨1, rfl, (TC.one h32).more h21⟩
      · exact ⟨2, rfl, TC.one h32⟩
  rw [hrow3] at hrn
  refine ⟨t', rfl, IfB.yes (by simp; omega) ⟨b, o, hp, ⟨by omega, by show (3 : Int) < (t'.n : Int); omega⟩, row.1, hc, IfB.yes (by simp at hrn ⊢; omega) ?_⟩⟩
  refine (c17 (hH.ext e8) (by omega) 2 0).use ?_
  rintro _ w14 ⟨r, rfl, hr, e14⟩
  refine ⟨r, rfl, IfB.yes (hr.2 ⟨by omega, by omega, 0, rfl, (TC.one h21).more h10⟩) ((c16 ((hH.ext e8).ext e14) 2 0).use ?_)⟩
  rintro _ w17 ⟨r2, rfl, hr2, e17⟩
  refine ⟨r2, rfl, ?_, ((E6.trans e8).trans e14).trans e17⟩
  cases r2 with
  | false => rfl
  | true => exact absurd (hr2.1 rfl).2.2 h20
end Go.Proofs.Ytmmhbjbaallkfaa.Gx

/- Package gimmallaw29: the document's example. -/
namespace Go.Proofs.Ytmmhbjbaallkfaa.Gx
open Go
set_option linter.unusedSimpArgs false
set_option linter.unusedVariables false

theorem freeB_iff {ah : List (Int × Int)} {left : List Int} {s : Int} : freeB ah left s = true ↔ ¬ ∃ a ∈ left, (a, s) ∈ ah := by
  unfold freeB
  rw [Bool.not_eq_true', List.any_eq_false]
  constructor
  · rintro h ⟨a, ha, hp⟩
    have := h _ hp
    unfold waitB at this
    simp [ha] at this
  · intro h p hp hw
    unfold waitB at hw
    simp only [Bool.and_eq_true, beq_iff_eq, decide_eq_true_eq] at hw
    exact h ⟨p.1, hw.2, by rw [← hw.1]; exact hp⟩
theorem freeB_no {ah : List (Int × Int)} {left : List Int} {s : Int} : freeB ah left s = false ↔ ∃ a ∈ left, (a, s) ∈ ah := by
  rw [← Bool.not_eq_true, freeB_iff]
  exact Classical.not_not
theorem SgL.uniq {hs : List Nd} {l m : List Int} (h : SgL hs l) (k : SgL hs m) : l = m := sorted_ext h.srt k.srt fun a => (h.mem a).trans (k.mem a).symm

/-- The example's nodes. -/
def exN (sa : Int) (s : Sl) (ws : List Spn) : Nd := ⟨(sa, 0, 0, false, nilS, s), [], ws⟩
theorem ex_cnf {a b : Int} {s t : Sl} {x y : Spn} : cnfP (exN a s [x]) (exN b t [y]) ↔ a ≠ b ∧ mtP [x] [y] := by
  unfold cnfP exN
  constructor
  · rintro ⟨h, ⟨k, _, ⟨z, hz, _⟩⟩ | h' | ⟨k, ⟨z, hz, _⟩, _⟩⟩
    · cases hz
    · exact ⟨h, h'⟩
    · cases hz
  · exact fun h => ⟨h.1, .inr (.inl h.2)⟩
theorem mt55 : mtP [(5, 5)] [(5, 5)] := ⟨5, ⟨_, List.mem_singleton.2 rfl, by unfold mayS; omega, by omega, by omega⟩, ⟨_, List.mem_singleton.2 rfl, by unfold mayS; omega, by omega, by omega⟩⟩
theorem mt66 : mtP [(6, 6)] [(6, 6)] := ⟨6, ⟨_, List.mem_singleton.2 rfl, by unfold mayS; omega, by omega, by omega⟩, ⟨_, List.mem_singleton.2 rfl, by unfold mayS; omega, by omega, by omega⟩⟩
theorem mt56 : ¬ mtP [(5, 5)] [(6, 6)] := by
  rintro ⟨k, h1, h2⟩
  rw [hasS_one] at h1 h2; omega

section
variable {p q : Sl}
def exH (p q : Sl) : List Nd := [exN 1 p [(5, 5)], exN 2 p [(5, 5)], exN 2 q [(6, 6)], exN 1 q [(6, 6)]]
theorem exAh (pr : Int × Int) : AhP (exH p q) pr ↔ pr = (1, 2) ∨ pr = (2, 1) := by
  constructor
  · rintro ⟨k, j, a, b, hkj, ha, hb, rfl, hc⟩
    have hj := (List.getElem?_eq_some_iff.1 hb).1
    have hj4 : j < 4 := hj
    match k, j, hkj, hj4, ha, hb with
    | 0, 1, _, _, ha, hb => cases ha; cases hb; exact .inl rfl
    | 0, 2, _, _, ha, hb => cases ha; cases hb; exact absurd (ex_cnf.1 hc).2 mt56
    | 0, 3, _, _, ha, hb => cases ha; cases hb; exact absurd rfl (ex_cnf.1 hc).1
    | 1, 2, _, _, ha, hb => cases ha; cases hb; exact absurd rfl (ex_cnf.1 hc).1
    | 1, 3, _, _, ha, hb => cases ha; cases hb; exact absurd (ex_cnf.1 hc).2 mt56
    | 2, 3, _, _, ha, hb => cases ha; cases hb; exact .inr rfl
    | k + 3, j, h1, h2, _, _ => exact absurd h1 (by omega)
  · rintro (rfl | rfl)
    · exact ⟨0, 1, _, _, by omega, rfl, rfl, rfl, ex_cnf.2 ⟨by omega, mt55⟩⟩
    · exact ⟨2, 3, _, _, by omega, rfl, rfl, rfl, ex_cnf.2 ⟨by omega, mt66⟩⟩
theorem exAh3 (pr : Int × Int) : AhP ((exH p q).take 3) pr ↔ pr = (1, 2) := by
  constructor
  · rintro ⟨k, j, a, b, hkj, ha, hb, rfl, hc⟩
    have hj := (List.getElem?_eq_some_iff.1 hb).1
    have hj4 : j < 3 := hj
    match k, j, hkj, hj4, ha, hb with
    | 0, 1, _, _, ha, hb => cases ha; cases hb; rfl
    | 0, 2, _, _, ha, hb => cases ha; cases hb; exact absurd (ex_cnf.1 hc).2 mt56
    | 1, 2, _, _, ha, hb => cases ha; cases hb; exact absurd rfl (ex_cnf.1 hc).1
    | k + 2, j, h1, h2, _, _ => exact absurd h1 (by omega)
  · rintro rfl
    exact ⟨0, 1, _, _, by omega, rfl, rfl, rfl, ex_cnf.2 ⟨by omega, mt55⟩⟩
theorem exSg : SgL (exH p q) [1, 2] := ⟨by decide, fun k => by simp [exH, exN]; omega⟩
theorem exSg3 : SgL ((exH p q).take 3) [1, 2] := ⟨by decide, fun k => by simp [exH, exN]; omega⟩
theorem exR : SgR (exH p q) := fun n hn => by
  simp only [exH, List.mem_cons, List.not_mem_nil, or_false] at hn
  rcases hn with rfl | rfl | rfl | rfl <;> simp [exN]
end

theorem c20 (w : World) : CW Try.prog 20 #[] w fun v w' => v = .bool true ∧ Ext w w' := by
  refine F20_ok w _ ⟨by decide, fun b1 w2 a2 => ⟨by decide, fun b3 w4 a4 => ⟨by decide, fun b5 w6 a6 => ?_⟩⟩⟩
  have e4 : Ext w2 w4 := a4.ch _
  have e6 : Ext w4 w6 := a6.ch _
  have E6 : Ext w w6 := ((a2.ch _).trans e4).trans e6
  have r5 : Rd w6 ⟨some ⟨b1, 0, none⟩, 1, 1⟩ 2 ([((5, 5) : Spn)].flatMap sv) := (((OwS.new (cs := [((5, 5) : Spn)].flatMap sv) (n := 1) (sz := 2) a2 rfl).ext e4).ext e6).rd
  have r6 : Rd w6 ⟨some ⟨b3, 0, none⟩, 1, 1⟩ 2 ([((6, 6) : Spn)].flatMap sv) := ((OwS.new (cs := [((6, 6) : Spn)].flatMap sv) (n := 1) (sz := 2) a4 rfl).ext e6).rd
  have rn : Rd w6 nilS 2 (([] : List Spn).flatMap sv) := (OwS.nil w6 2).rd
  obtain ⟨hs, hhs⟩ : ∃ hs : List Nd, hs = exH ⟨some ⟨b1, 0, none⟩, 1, 1⟩ ⟨some ⟨b3, 0, none⟩, 1, 1⟩ := ⟨_, rfl⟩
  have hH : Hst w6 ⟨some ⟨b5, 0, none⟩, 4, 4⟩ hs := by
    refine ⟨?_, fun n hn => ?_, by rw [hhs]; simp [exH], Nat.le_refl _⟩
    · rw [hhs]; exact (OwS.new (n := 4) (sz := 6) a6 rfl).rd
    · rw [hhs] at hn
      simp only [exH, List.mem_cons, List.not_mem_nil, or_false] at hn
      rcases hn with rfl | rfl | rfl | rfl
      · exact ⟨rn, r5, by simp [exN], by simp [exN]⟩
      · exact ⟨rn, r5, by simp [exN], by simp [exN]⟩
      · exact ⟨rn, r6, by simp [exN], by simp [exN]⟩
      · exact ⟨rn, r6, by simp [exN], by simp [exN]⟩
  have hlen : hs.length = 4 := by rw [hhs]; rfl
  have hR : SgR hs := by rw [hhs]; exact exR
  refine (c21 hH (by omega) hR).use ?_
  rintro _ w8 ⟨s9, xs, rfl, hsrt, hmem, _, hO, e8, _⟩
  have hxs : xs.Perm [(1, 2), (2, 1)] := by
    refine (List.perm_ext_iff_of_nodup ?_ (by decide)).2 fun p => ?_
    · exact hsrt.imp fun h e => by rw [e] at h; omega
    · rw [hmem, hhs, exAh]; simp
  have hn := owsN sv_len (by omega) hO
  rw [hxs.length_eq] at hn
  have hn : s9.n = 2 := hn
  refine ⟨s9, rfl, IfB.yes (by simp [hn]) ((c32 (hH.ext e8) (by omega) hR).use ?_)⟩
  rintro _ w11 ⟨l, ah, hl, hah, rfl, e11⟩
  have hl12 : l = [1, 2] := hl.uniq (by rw [hhs]; exact exSg)
  have hno : (ordGo ah l.length l []).2 = false := by
    subst hl12
    have f1 : freeB ah [1, 2] 1 = false := freeB_no.2 ⟨2, by simp, (hah _).2 (by rw [hhs, exAh]; simp)⟩
    have f2 : freeB ah [1, 2] 2 = false := freeB_no.2 ⟨1, by simp, (hah _).2 (by rw [hhs, exAh]; simp)⟩
    show (ordGo ah 2 [1, 2] []).2 = false
    unfold ordGo
    rw [List.findIdx?_eq_none_iff.2 (by
      intro x hx
      simp only [List.mem_cons, List.not_mem_nil, or_false] at hx
      rcases hx with rfl | rfl
      · exact f1
      · exact f2)]
  rw [hno]
  refine ⟨false, rfl, IfB.yes rfl ⟨⟨by omega, by omega⟩, ?_⟩⟩
  rw [slAddr_zero]
  refine (c32 (t := ⟨some ⟨b5, 0, none⟩, 3, 4⟩) (((hH.ext e8).ext e11).cut (k := 3) (by omega)) (by rw [List.length_take]; omega) fun n hn => hR n (List.mem_of_mem_take hn)).use ?_
  rintro _ w14 ⟨l', ah', hl', hah', rfl, e14⟩
  have hl12' : l' = [1, 2] := hl'.uniq (by rw [hhs]; exact exSg3)
  have hyes : (ordGo ah' l'.length l' []).2 = true := by
    subst hl12'
    have f1 : freeB ah' [1, 2] 1 = true := freeB_iff.2 fun ⟨a, _, h⟩ => by
      have := (hah' _).1 h
      rw [hhs, exAh3] at this
      simp at this
    have f2 : freeB ah' [2] 2 = true := freeB_iff.2 fun ⟨a, ha, h⟩ => by
      have := (hah' _).1 h
      rw [hhs, exAh3] at this
      simp at ha this
      omega
    show (ordGo ah' 2 [1, 2] []).2 = true
    unfold ordGo
    rw [show [(1 : Int), 2].findIdx? (freeB ah' [1, 2]) = some 0 by rw [List.findIdx?_cons, f1]; rfl]
    show (ordGo ah' 1 [2] _).2 = true
    unfold ordGo
    rw [show [(2 : Int)].findIdx? (freeB ah' [2]) = some 0 by rw [List.findIdx?_cons, f2]; rfl]
    rfl
  rw [hyes]
  exact ⟨true, rfl, rfl, ((E6.trans e8).trans e11).trans e14⟩
end Go.Proofs.Ytmmhbjbaallkfaa.Gx

/- Written by mkf.py: what is to be shown of functions, as Gx reckons it from their code. -/
namespace Go.Proofs.Ytmmhbjbaallkfaa.Gx
open Go
set_option linter.unusedVariables false
set_option maxRecDepth 100000

def F3j4 (R : Value → World → Prop) (s34 : Sl) (y35 : Nat → Int → World → Prop) (b37 : Nat) (n38 : Int) (y42 : Nat → Int → World → Prop) (b44 : Nat) (n45 : Int) (w46 : World) : Prop :=
 ∃ (b49 : Nat),
 ∃ (b50 : Nat),
 s34.1 = some ({ block := b49, off := b50 } : Addr) ∧
 ((0 : Int) ≤ n38 ∧ n38 < (s34.2 : Int)) ∧
 ∃ (s51 : Sl),
 w46.cell? ({ block := b49, off := b50 + n38.toNat } : Addr) = some (Value.slice s51.1 s51.2 s51.3) ∧
 IfB (decide (n45 < (s51.n : Int)))
 (∃ (b52 : Nat),
 ∃ (b53 : Nat),
 s34.1 = some ({ block := b52, off := b53 } : Addr) ∧
 ((0 : Int) ≤ n38 ∧ n38 < (s34.2 : Int)) ∧
 ∃ (s54 : Sl),
 w46.cell? ({ block := b52, off := b53 + n38.toNat } : Addr) = some (Value.slice s54.1 s54.2 s54.3) ∧
 ∃ (b55 : Nat),
 ∃ (b56 : Nat),
 s54.1 = some ({ block := b55, off := b56 } : Addr) ∧
 ((0 : Int) ≤ n45 ∧ n45 < (s54.2 : Int)) ∧
 ∃ (n57 : Int),
 w46.cell? ({ block := b55, off := b56 + n45.toNat } : Addr) = some (Value.int IntKind.i64 n57) ∧
 IfB (decide (n38 ≤ n57)) (R (Value.bool false) w46) (([] : List Nat) = [] ∧ ∃ (b58 : Nat), b58 < b44 ∧ y42 b58 (IntKind.i64.wrap (n45 + (1 : Int))) w46))
 (([] : List Nat) = [] ∧ ∃ (b59 : Nat), b59 < b37 ∧ y35 b59 (IntKind.i64.wrap (n38 + (1 : Int))) w46)
def F3j3 (t0 : Sl) (t1 : Int) (t2 : Int) (R : Value → World → Prop) (t28 : Bool) (s34 : Sl) (y35 : Nat → Int → World → Prop) (b37 : Nat) (n38 : Int) (w39 : World) : Prop :=
 IfB (decide (n38 < (s34.n : Int)))
 (∃ (y42 : Nat → Int → World → Prop),
 (∃ (b43 : Nat), y42 b43 (0 : Int) w39) ∧
 ∀ (b44 : Nat) (n45 : Int) (w46 : World) (y47 : Nat → Value),
 y42 b44 n45 w46 →
 (F3j4 R s34 y35 b37 n38 y42 b44 n45 w46))
 (CX Try.prog (15 : Nat) #[Value.slice t0.1 t0.2 t0.3] w39 fun (v60 : Value) (w61 : World) =>
 ∃ (s62 : Sl),
 v60 = Value.slice s62.1 s62.2 s62.3 ∧
 CX Try.prog (14 : Nat) #[Value.slice s34.1 s34.2 s34.3, Value.slice s62.1 s62.2 s62.3] w61 fun (v63 : Value) (w64 : World) =>
 ∃ (t65 : Bool),
 v63 = Value.bool t65 ∧
 IfB t65
 (CX Try.prog (16 : Nat) #[Value.slice t0.1 t0.2 t0.3, Value.int IntKind.i64 t1, Value.int IntKind.i64 t2] w64 fun (v66 : Value) (w67 : World) =>
 ∃ (t68 : Bool), v66 = Value.bool t68 ∧ R (Value.bool (t68 == t28)) w67)
 (R (Value.bool false) w64))
def F3j1 (t0 : Sl) (t1 : Int) (t2 : Int) (R : Value → World → Prop) (t8 : Bool) (w9 : World) : Prop :=
 ∃ (y12 : Bool → World → Prop),
 IfB t8
 (∃ (b13 : Nat),
 ∃ (b14 : Nat),
 t0.1 = some ({ block := b13, off := b14 } : Addr) ∧
 ((0 : Int) ≤ t1 ∧ t1 < (t0.2 : Int)) ∧
 ∃ (n15 : Int),
 w9.drew.cell? ({ block := b13, off := b14 + t1.toNat * (6 : Nat) + (0 : Nat) } : Addr) = some (Value.int IntKind.i64 n15) ∧
 ∃ (b16 : Nat),
 ∃ (b17 : Nat),
 t0.1 = some ({ block := b16, off := b17 } : Addr) ∧
 ((0 : Int) ≤ t2 ∧ t2 < (t0.2 : Int)) ∧
 ∃ (n18 : Int),
 w9.drew.cell? ({ block := b16, off := b17 + t2.toNat * (6 : Nat) + (0 : Nat) } : Addr) = some (Value.int IntKind.i64 n18) ∧
 IfB (n15 == n18) (([] : List Nat) = [] ∧ y12 true w9.drew)
 (∃ (b19 : Nat),
 ∃ (b20 : Nat),
 t0.1 = some ({ block := b19, off := b20 } : Addr) ∧
 ((0 : Int) ≤ t1 ∧ t1 < (t0.2 : Int)) ∧
 ∃ (x21 : Int × Int × Int × Bool × Sl × Sl),
 CellsAt w9.drew b19 (b20 + t1.toNat * (6 : Nat))
 [Value.int IntKind.i64 x21.1, Value.int IntKind.i64 x21.snd.1, Value.int IntKind.i64 x21.snd.snd.1, Value.bool x21.snd.snd.snd.1,
 Value.slice x21.snd.snd.snd.snd.fst.1 x21.snd.snd.snd.snd.fst.2 x21.snd.snd.snd.snd.fst.3, Value.slice x21.snd.snd.snd.snd.snd.1 x21.snd.snd.snd.snd.snd.2 x21.snd.snd.snd.snd.snd.3] ∧
 ∃ (b22 : Nat),
 ∃ (b23 : Nat),
 t0.1 = some ({ block := b22, off := b23 } : Addr) ∧
 ((0 : Int) ≤ t2 ∧ t2 < (t0.2 : Int)) ∧
 ∃ (x24 : Int × Int × Int × Bool × Sl × Sl),
 CellsAt w9.drew b22 (b23 + t2.toNat * (6 : Nat))
 [Value.int IntKind.i64 x24.1, Value.int IntKind.i64 x24.snd.1, Value.int IntKind.i64 x24.snd.snd.1, Value.bool x24.snd.snd.snd.1,
 Value.slice x24.snd.snd.snd.snd.fst.1 x24.snd.snd.snd.snd.fst.2 x24.snd.snd.snd.snd.fst.3, Value.slice x24.snd.snd.snd.snd.snd.1 x24.snd.snd.snd.snd.snd.2 x24.snd.snd.snd.snd.snd.3] ∧
 CX Try.prog (12 : Nat)
 #[Value.agg
 #[Value.int IntKind.i64 x21.1, Value.int IntKind.i64 x21.snd.1, Value.int IntKind.i64 x21.snd.snd.1, Value.bool x21.snd.snd.snd.1,
 Value.slice x21.snd.snd.snd.snd.fst.1 x21.snd.snd.snd.snd.fst.2 x21.snd.snd.snd.snd.fst.3, Value.slice x21.snd.snd.snd.snd.snd.1 x21.snd.snd.snd.snd.snd.2 x21.snd.snd.snd.snd.snd.3],
 Value.agg
 #[Value.int IntKind.i64 x24.1, Value.int IntKind.i64 x24.snd.1, Value.int IntKind.i64 x24.snd.snd.1, Value.bool x24.snd.snd.snd.1,
 Value.slice x24.snd.snd.snd.snd.fst.1 x24.snd.snd.snd.snd.fst.2 x24.snd.snd.snd.snd.fst.3, Value.slice x24.snd.snd.snd.snd.snd.1 x24.snd.snd.snd.snd.snd.2 x24.snd.snd.snd.snd.snd.3]]
 w9.drew fun (v25 : Value) (w26 : World) => ∃ (t27 : Bool), v25 = Value.bool t27 ∧ ([] : List Nat) = [] ∧ y12 t27 w26))
 (([] : List Nat) = [] ∧ y12 false w9.drew) ∧
 ∀ (t28 : Bool) (w29 : World) (y30 : Nat → Value),
 y12 t28 w29 →
 CX Try.prog (13 : Nat) #[Value.slice t0.1 t0.2 t0.3] w29 fun (v32 : Value) (w33 : World) =>
 ∃ (s34 : Sl),
 v32 = Value.slice s34.1 s34.2 s34.3 ∧
 ∃ (y35 : Nat → Int → World → Prop),
 (∃ (b36 : Nat), y35 b36 (0 : Int) w33) ∧
 ∀ (b37 : Nat) (n38 : Int) (w39 : World) (y40 : Nat → Value),
 y35 b37 n38 w39 →
 (F3j3 t0 t1 t2 R t28 s34 y35 b37 n38 w39)
def F3 (t0 : Sl) (t1 : Int) (t2 : Int) (w : World) (R : Value → World → Prop) : Prop :=
 CX Try.prog (10 : Nat) #[] w fun (v1 : Value) (w2 : World) =>
 ∃ (t3 : Bool),
 v1 = Value.bool t3 ∧
 IfB (!t3) (R (Value.bool false) w2)
 (CX Try.prog (11 : Nat) #[Value.slice t0.1 t0.2 t0.3] w2 fun (v4 : Value) (w5 : World) =>
 ∃ (t6 : Bool),
 v4 = Value.bool t6 ∧
 IfB t6 (R (Value.bool true) w5)
 (∃ (y7 : Bool → World → Prop),
 IfB (decide ((0 : Int) ≤ t1)) (IfB (decide (t1 < (t0.n : Int))) (IfB (decide ((0 : Int) ≤ t2)) (([] : List Nat) = [] ∧ y7 (decide (t2 < t1)) w5) (([] : List Nat) = [] ∧ y7 false w5)) (([] : List Nat) = [] ∧ y7 false w5))
 (([] : List Nat) = [] ∧ y7 false w5) ∧
 ∀ (t8 : Bool) (w9 : World) (y10 : Nat → Value),
 y7 t8 w9 →
 (F3j1 t0 t1 t2 R t8 w9)))
theorem F3_ok (t0 : Sl) (t1 : Int) (t2 : Int) (w : World) (R : Value → World → Prop) (h : F3 t0 t1 t2 w R) : CW Try.prog 3 #[Value.slice t0.1 t0.2 t0.3, Value.int IntKind.i64 t1, Value.int IntKind.i64 t2] w R :=
  call_of tbOk mixed en3 Try.func3 rfl (.node (.nil) (.node (.nil) (.node (.nil) (.join [(7, .one (.bool))] [16, 17, 18, 19, 20, 21, 22, 23, 24, 25, 26, 27, 28, 29, 30, 31, 32, 7] (.nil) (.join [(8, .one (.bool))] [33, 34, 35, 36, 37, 38, 39, 40, 41, 42, 43, 44, 45, 46, 47, 48, 49, 50, 51, 52, 53, 54, 55, 56, 57, 8] (.draw (.st 0 (.st 1 (.st 2 (.st 3 (.st 4 (.st 5 (.st 6 (.st 7 (.st 8 (.st 9 (.st 10 (.st 11 (.st 12 (.st 13 (.st 14 (.st 15 (.st 16 (.st 17 (.st 18 (.st 19 (.st 20 (.st 21 (.ac 22 [] (.st 23 (.st 24 (.st 25 (.fin)))) (.non))))))))))))))))))))))))) (.node (.nil) (.node (.node (.nil) (.loop [(10, .one (.int .i64))] [60, 61, 62, 63, 11, 66, 67, 68, 69, 70, 71, 72, 75, 76, 77, 78, 79, 80, 81, 82, 83, 6, 73, 74, 64, 65, 10] (.node (.nil) (.node (.node (.nil) (.loop [(11, .one (.int .i64))] [66, 67, 68, 69, 70, 71, 72, 75, 76, 77, 78, 79, 80, 81, 82, 83, 6, 73, 74, 11] (.nil))) (.nil))))) (.nil)))))))) (by kernel_rfl) (Nat.le_of_ble_eq_true (by kernel_rfl)) (Eq.mp (α := F3 t0 t1 t2 w R) (by kernel_rfl) h)

def F4j2 (R : Value → World → Prop) (s9 : Sl) (s12 : Sl) (n16 : Int) (y20 : Unit → World → Prop) (y27 : Nat → Int → World → Prop) (b29 : Nat) (n30 : Int) (w31 : World) : Prop :=
 ∃ (b34 : Nat),
 ∃ (b35 : Nat),
 s9.1 = some ({ block := b34, off := b35 } : Addr) ∧
 ((0 : Int) ≤ n16 ∧ n16 < (s9.2 : Int)) ∧
 ∃ (s36 : Sl),
 w31.cell? ({ block := b34, off := b35 + n16.toNat } : Addr) = some (Value.slice s36.1 s36.2 s36.3) ∧
 IfB (decide (n30 < (s36.n : Int)))
 (∃ (b37 : Nat),
 ∃ (b38 : Nat),
 s12.1 = some ({ block := b37, off := b38 } : Addr) ∧
 ((0 : Int) ≤ n16 ∧ n16 < (s12.2 : Int)) ∧
 ∃ (s39 : Sl),
 w31.drew.cell? ({ block := b37, off := b38 + n16.toNat } : Addr) = some (Value.slice s39.1 s39.2 s39.3) ∧
 ∃ (b40 : Nat),
 ∃ (b41 : Nat),
 s39.1 = some ({ block := b40, off := b41 } : Addr) ∧
 ((0 : Int) ≤ n30 ∧ n30 < (s39.2 : Int)) ∧
 ∃ (n42 : Int),
 w31.drew.cell? ({ block := b40, off := b41 + n30.toNat } : Addr) = some (Value.int IntKind.i64 n42) ∧
 ∃ (b43 : Nat),
 ∃ (b44 : Nat),
 s9.1 = some ({ block := b43, off := b44 } : Addr) ∧
 ((0 : Int) ≤ n16 ∧ n16 < (s9.2 : Int)) ∧
 ∃ (s45 : Sl),
 w31.drew.cell? ({ block := b43, off := b44 + n16.toNat } : Addr) = some (Value.slice s45.1 s45.2 s45.3) ∧
 ∃ (b46 : Nat),
 ∃ (b47 : Nat),
 s45.1 = some ({ block := b46, off := b47 } : Addr) ∧
 ((0 : Int) ≤ n30 ∧ n30 < (s45.2 : Int)) ∧
 ∃ (n48 : Int),
 w31.drew.cell? ({ block := b46, off := b47 + n30.toNat } : Addr) = some (Value.int IntKind.i64 n48) ∧
 IfB (n42 != n48) (R (Value.bool false) w31.drew) (([] : List Nat) = [] ∧ ∃ (b49 : Nat), b49 < b29 ∧ y27 b49 (IntKind.i64.wrap (n30 + (1 : Int))) w31.drew))
 (([] : List Nat) = [] ∧ y20 PUnit.unit w31)
def F4j6 (R : Value → World → Prop) (s9 : Sl) (n16 : Int) (s72 : Sl) (y73 : Nat → Int → World → Prop) (b75 : Nat) (n76 : Int) (y80 : Nat → Bool × Int → World → Prop) (b82 : Nat) (x83 : Bool × Int) (w84 : World) : Prop :=
 ∃ (b87 : Nat),
 ∃ (b88 : Nat),
 s9.1 = some ({ block := b87, off := b88 } : Addr) ∧
 ((0 : Int) ≤ n16 ∧ n16 < (s9.2 : Int)) ∧
 ∃ (s89 : Sl),
 w84.cell? ({ block := b87, off := b88 + n16.toNat } : Addr) = some (Value.slice s89.1 s89.2 s89.3) ∧
 IfB (decide (x83.snd < (s89.n : Int)))
 (∃ (y90 : Bool → World → Prop),
 IfB x83.1 (([] : List Nat) = [] ∧ y90 true w84.drew)
 (∃ (b91 : Nat),
 ∃ (b92 : Nat),
 s9.1 = some ({ block := b91, off := b92 } : Addr) ∧
 ((0 : Int) ≤ n16 ∧ n16 < (s9.2 : Int)) ∧
 ∃ (s93 : Sl),
 w84.drew.cell? ({ block := b91, off := b92 + n16.toNat } : Addr) = some (Value.slice s93.1 s93.2 s93.3) ∧
 ∃ (b94 : Nat),
 ∃ (b95 : Nat),
 s93.1 = some ({ block := b94, off := b95 } : Addr) ∧
 ((0 : Int) ≤ x83.2 ∧ x83.2 < (s93.2 : Int)) ∧
 ∃ (n96 : Int),
 w84.drew.cell? ({ block := b94, off := b95 + x83.2.toNat } : Addr) = some (Value.int IntKind.i64 n96) ∧
 ∃ (b97 : Nat),
 ∃ (b98 : Nat),
 s72.1 = some ({ block := b97, off := b98 } : Addr) ∧
 ((0 : Int) ≤ n76 ∧ n76 < (s72.2 : Int)) ∧ ∃ (n99 : Int), w84.drew.cell? ({ block := b97, off := b98 + n76.toNat } : Addr) = some (Value.int IntKind.i64 n99) ∧ ([] : List Nat) = [] ∧ y90 (n96 == n99) w84.drew) ∧
 ∀ (t100 : Bool) (w101 : World) (y102 : Nat → Value), y90 t100 w101 → ([] : List Nat) = [] ∧ ∃ (b104 : Nat), b104 < b82 ∧ y80 b104 (t100, IntKind.i64.wrap (x83.2 + (1 : Int))) w101)
 (IfB (!x83.1) (R (Value.bool false) w84) (([] : List Nat) = [] ∧ ∃ (b105 : Nat), b105 < b75 ∧ y73 b105 (IntKind.i64.wrap (n76 + (1 : Int))) w84))
def F4j4 (R : Value → World → Prop) (s9 : Sl) (y13 : Nat → Int → World → Prop) (b15 : Nat) (n16 : Int) (y54 : Nat → Int → World → Prop) (b56 : Nat) (n57 : Int) (w58 : World) : Prop :=
 ∃ (b61 : Nat),
 ∃ (b62 : Nat),
 s9.1 = some ({ block := b61, off := b62 } : Addr) ∧
 ((0 : Int) ≤ n16 ∧ n16 < (s9.2 : Int)) ∧
 ∃ (s63 : Sl),
 w58.cell? ({ block := b61, off := b62 + n16.toNat } : Addr) = some (Value.slice s63.1 s63.2 s63.3) ∧
 IfB (decide (n57 < (s63.n : Int)))
 (∃ (b64 : Nat),
 ∃ (b65 : Nat),
 s9.1 = some ({ block := b64, off := b65 } : Addr) ∧
 ((0 : Int) ≤ n16 ∧ n16 < (s9.2 : Int)) ∧
 ∃ (s66 : Sl),
 w58.cell? ({ block := b64, off := b65 + n16.toNat } : Addr) = some (Value.slice s66.1 s66.2 s66.3) ∧
 ∃ (b67 : Nat),
 ∃ (b68 : Nat),
 s66.1 = some ({ block := b67, off := b68 } : Addr) ∧
 ((0 : Int) ≤ n57 ∧ n57 < (s66.2 : Int)) ∧
 ∃ (n69 : Int),
 w58.cell? ({ block := b67, off := b68 + n57.toNat } : Addr) = some (Value.int IntKind.i64 n69) ∧
 ∃ (b70 : Nat),
 ∃ (b71 : Nat),
 s9.1 = some ({ block := b70, off := b71 } : Addr) ∧
 ((0 : Int) ≤ n69 ∧ n69 < (s9.2 : Int)) ∧
 ∃ (s72 : Sl),
 w58.cell? ({ block := b70, off := b71 + n69.toNat } : Addr) = some (Value.slice s72.1 s72.2 s72.3) ∧
 ∃ (y73 : Nat → Int → World → Prop),
 (∃ (b74 : Nat), y73 b74 (0 : Int) w58) ∧
 ∀ (b75 : Nat) (n76 : Int) (w77 : World) (y78 : Nat → Value),
 y73 b75 n76 w77 →
 IfB (decide (n76 < (s72.n : Int)))
 (∃ (y80 : Nat → Bool × Int → World → Prop),
 (∃ (b81 : Nat), y80 b81 (false, (0 : Int)) w77) ∧
 ∀ (b82 : Nat) (x83 : Bool × Int) (w84 : World) (y85 : Nat → Value),
 y80 b82 x83 w84 →
 (F4j6 R s9 n16 s72 y73 b75 n76 y80 b82 x83 w84))
 (([] : List Nat) = [] ∧ ∃ (b106 : Nat), b106 < b56 ∧ y54 b106 (IntKind.i64.wrap (n57 + (1 : Int))) w77))
 (([] : List Nat) = [] ∧ ∃ (b107 : Nat), b107 < b15 ∧ y13 b107 (IntKind.i64.wrap (n16 + (1 : Int))) w58)
def F4j1 (t0 : Sl) (t1 : Int) (R : Value → World → Prop) (s9 : Sl) (s12 : Sl) (y13 : Nat → Int → World → Prop) (b15 : Nat) (n16 : Int) (w17 : World) : Prop :=
 IfB (decide (n16 < (s9.n : Int)))
 (∃ (y20 : Unit → World → Prop),
 IfB (decide (n16 < (IntKind.i64.wrap t1).tmod (IntKind.i64.wrap ((t0.n : Int) + (1 : Int)))))
 (∃ (b21 : Nat),
 ∃ (b22 : Nat),
 s12.1 = some ({ block := b21, off := b22 } : Addr) ∧
 ((0 : Int) ≤ n16 ∧ n16 < (s12.2 : Int)) ∧
 ∃ (s23 : Sl),
 w17.drew.cell? ({ block := b21, off := b22 + n16.toNat } : Addr) = some (Value.slice s23.1 s23.2 s23.3) ∧
 ∃ (b24 : Nat),
 ∃ (b25 : Nat),
 s9.1 = some ({ block := b24, off := b25 } : Addr) ∧
 ((0 : Int) ≤ n16 ∧ n16 < (s9.2 : Int)) ∧
 ∃ (s26 : Sl),
 w17.drew.cell? ({ block := b24, off := b25 + n16.toNat } : Addr) = some (Value.slice s26.1 s26.2 s26.3) ∧
 IfB ((s23.2 : Int) != (s26.2 : Int)) (R (Value.bool false) w17.drew)
 (∃ (y27 : Nat → Int → World → Prop),
 (∃ (b28 : Nat), y27 b28 (0 : Int) w17.drew) ∧
 ∀ (b29 : Nat) (n30 : Int) (w31 : World) (y32 : Nat → Value),
 y27 b29 n30 w31 →
 (F4j2 R s9 s12 n16 y20 y27 b29 n30 w31)))
 (([] : List Nat) = [] ∧ y20 PUnit.unit w17) ∧
 ∀ (y50 : Unit) (w51 : World) (y52 : Nat → Value),
 y20 y50 w51 →
 ∃ (y54 : Nat → Int → World → Prop),
 (∃ (b55 : Nat), y54 b55 (0 : Int) w51) ∧
 ∀ (b56 : Nat) (n57 : Int) (w58 : World) (y59 : Nat → Value),
 y54 b56 n57 w58 →
 (F4j4 R s9 y13 b15 n16 y54 b56 n57 w58))
 (R (Value.bool true) w17)
def F4 (t0 : Sl) (t1 : Int) (w : World) (R : Value → World → Prop) : Prop :=
 CX Try.prog (10 : Nat) #[] w fun (v1 : Value) (w2 : World) =>
 ∃ (t3 : Bool),
 v1 = Value.bool t3 ∧
 IfB (!t3) (R (Value.bool false) w2)
 (CX Try.prog (11 : Nat) #[Value.slice t0.1 t0.2 t0.3] w2 fun (v4 : Value) (w5 : World) =>
 ∃ (t6 : Bool),
 v4 = Value.bool t6 ∧
 IfB t6 (R (Value.bool true) w5)
 (CX Try.prog (13 : Nat) #[Value.slice t0.1 t0.2 t0.3] w5 fun (v7 : Value) (w8 : World) =>
 ∃ (s9 : Sl),
 v7 = Value.slice s9.1 s9.2 s9.3 ∧
 ¬IntKind.i64.wrap ((t0.2 : Int) + (1 : Int)) = (0 : Int) ∧
 ((0 : Int) ≤ (IntKind.i64.wrap t1).tmod (IntKind.i64.wrap ((t0.2 : Int) + (1 : Int))) ∧ (IntKind.i64.wrap t1).tmod (IntKind.i64.wrap ((t0.2 : Int) + (1 : Int))) ≤ (t0.3 : Int)) ∧
 CX Try.prog (13 : Nat) #[Value.slice (slAddr t0.1 t0.3 (0 : Nat) (6 : Nat)) ((IntKind.i64.wrap t1).tmod (IntKind.i64.wrap ((t0.2 : Int) + (1 : Int)))).toNat t0.3] w8
 fun (v10 : Value) (w11 : World) =>
 ∃ (s12 : Sl),
 v10 = Value.slice s12.1 s12.2 s12.3 ∧
 IfB ((s9.2 : Int) != (t0.2 : Int)) (R (Value.bool false) w11)
 (IfB ((s12.2 : Int) != (IntKind.i64.wrap t1).tmod (IntKind.i64.wrap ((t0.2 : Int) + (1 : Int)))) (R (Value.bool false) w11)
 (∃ (y13 : Nat → Int → World → Prop),
 (∃ (b14 : Nat), y13 b14 (0 : Int) w11) ∧
 ∀ (b15 : Nat) (n16 : Int) (w17 : World) (y18 : Nat → Value),
 y13 b15 n16 w17 →
 (F4j1 t0 t1 R s9 s12 y13 b15 n16 w17)))))
theorem F4_ok (t0 : Sl) (t1 : Int) (w : World) (R : Value → World → Prop) (h : F4 t0 t1 w R) : CW Try.prog 4 #[Value.slice t0.1 t0.2 t0.3, Value.int IntKind.u8 t1] w R :=
  call_of tbOk mixed en4 Try.func4 rfl (.node (.nil) (.node (.nil) (.node (.nil) (.node (.nil) (.node (.nil) (.node (.nil) (.node (.nil) (.node (.node (.nil) (.loop [(8, .one (.int .i64))] [42, 43, 44, 45, 48, 49, 50, 51, 52, 53, 54, 55, 56, 57, 58, 59, 60, 61, 4, 9, 62, 63, 64, 65, 66, 67, 68, 71, 72, 73, 74, 75, 76, 77, 78, 79, 80, 81, 82, 83, 84, 85, 69, 70, 10, 86, 87, 88, 89, 90, 91, 92, 95, 96, 97, 98, 99, 100, 101, 102, 103, 104, 11, 12, 105, 106, 107, 108, 13, 14, 111, 112, 113, 114, 115, 116, 117, 120, 121, 122, 123, 124, 125, 126, 127, 128, 129, 130, 131, 132, 133, 134, 118, 119, 135, 136, 109, 110, 93, 94, 46, 47, 8] (.node (.nil) (.node (.join [] [48, 49, 50, 51, 52, 53, 54, 55, 56, 57, 58, 59, 60, 61, 4, 9, 62, 63, 64, 65, 66, 67, 68, 71, 72, 73, 74, 75, 76, 77, 78, 79, 80, 81, 82, 83, 84, 85, 69, 70] (.node (.nil) (.node (.node (.node (.draw (.st 0 (.st 1 (.st 2 (.st 3 (.st 4 (.st 5 (.st 6 (.st 7 (.st 8 (.st 9 (.st 10 (.fin))))))))))))) (.nil)) (.node (.nil) (.loop [(9, .one (.int .i64))] [62, 63, 64, 65, 66, 67, 68, 71, 72, 73, 74, 75, 76, 77, 78, 79, 80, 81, 82, 83, 84, 85, 4, 69, 70, 9] (.node (.nil) (.node (.node (.draw (.st 0 (.st 1 (.st 2 (.st 3 (.st 4 (.st 5 (.st 6 (.st 7 (.st 8 (.st 9 (.st 10 (.st 11 (.st 12 (.st 13 (.st 14 (.fin))))))))))))))))) (.nil)) (.nil)))))) (.nil))) (.node (.nil) (.loop [(10, .one (.int .i64))] [86, 87, 88, 89, 90, 91, 92, 95, 96, 97, 98, 99, 100, 101, 102, 103, 104, 11, 12, 105, 106, 107, 108, 13, 14, 111, 112, 113, 114, 115, 116, 117, 120, 121, 122, 123, 124, 125, 126, 127, 128, 129, 130, 131, 132, 133, 134, 118, 119, 135, 136, 4, 109, 110, 93, 94, 10] (.node (.nil) (.node (.node (.nil) (.node (.nil) (.loop [(12, .one (.int .i64))] [105, 106, 107, 108, 13, 14, 111, 112, 113, 114, 115, 116, 117, 120, 121, 122, 123, 124, 125, 126, 127, 128, 129, 130, 131, 132, 133, 134, 118, 119, 135, 136, 4, 109, 110, 12] (.node (.nil) (.node (.node (.nil) (.node (.node (.nil) (.loop [(13, .one (.bool)), (14, .one (.int .i64))] [111, 112, 113, 114, 115, 116, 117, 120, 121, 122, 123, 124, 125, 126, 127, 128, 129, 130, 131, 132, 133, 134, 13, 118, 119, 14] (.node (.nil) (.join [(13, .one (.bool))] [120, 121, 122, 123, 124, 125, 126, 127, 128, 129, 130, 131, 132, 133, 134, 13] (.draw (.st 0 (.st 1 (.st 2 (.st 3 (.st 4 (.st 5 (.st 6 (.st 7 (.st 8 (.st 9 (.st 10 (.st 11 (.st 12 (.st 13 (.st 14 (.st 15 (.fin)))))))))))))))))) (.nil))))) (.nil))) (.nil)))))) (.nil)))))) (.nil))))) (.nil))))))))) (by kernel_rfl) (Nat.le_of_ble_eq_true (by kernel_rfl)) (Eq.mp (α := F4 t0 t1 w R) (by kernel_rfl) h)

def F5j1 (t0 : Sl) (t1 : Int) (t2 : Int) (R : Value → World → Prop) (t8 : Bool) (w9 : World) : Prop :=
 IfB t8
 (CX Try.prog (17 : Nat) #[Value.slice t0.1 t0.2 t0.3, Value.int IntKind.i64 t1, Value.int IntKind.i64 t2] w9 fun (v12 : Value) (w13 : World) =>
 ∃ (t14 : Bool),
 v12 = Value.bool t14 ∧
 IfB (!t14)
 (CX Try.prog (18 : Nat) #[Value.slice t0.1 t0.2 t0.3, Value.int IntKind.i64 t1, Value.int IntKind.i64 t2] w13 fun (v15 : Value) (w16 : World) =>
 ∃ (t17 : Bool), v15 = Value.bool t17 ∧ R (Value.bool !t17) w16)
 (R (Value.bool false) w13))
 (CX Try.prog (15 : Nat) #[Value.slice t0.1 t0.2 t0.3] w9 fun (v18 : Value) (w19 : World) =>
 ∃ (s20 : Sl),
 v18 = Value.slice s20.1 s20.2 s20.3 ∧
 ∃ (b21 : Nat),
 ∃ (b22 : Nat),
 s20.1 = some ({ block := b21, off := b22 } : Addr) ∧
 ((0 : Int) ≤ t1 ∧ t1 < (s20.2 : Int)) ∧
 ∃ (s23 : Sl),
 w19.drew.cell? ({ block := b21, off := b22 + t1.toNat } : Addr) = some (Value.slice s23.1 s23.2 s23.3) ∧
 ∃ (b24 : Nat),
 ∃ (b25 : Nat),
 s23.1 = some ({ block := b24, off := b25 } : Addr) ∧
 ((0 : Int) ≤ t2 ∧ t2 < (s23.2 : Int)) ∧
 ∃ (t26 : Bool),
 w19.drew.cell? ({ block := b24, off := b25 + t2.toNat } : Addr) = some (Value.bool t26) ∧
 CX Try.prog (17 : Nat) #[Value.slice t0.1 t0.2 t0.3, Value.int IntKind.i64 t1, Value.int IntKind.i64 t2] w19.drew fun (v27 : Value) (w28 : World) =>
 ∃ (t29 : Bool),
 v27 = Value.bool t29 ∧
 w28.cell? ({ block := b24, off := b25 + t2.toNat } : Addr) = some (Value.bool t26) ∧
 w28.cell? ({ block := b21, off := b22 + t1.toNat } : Addr) = some (Value.slice s23.1 s23.2 s23.3) ∧
 IfB (t29 == t26)
 (∃ (b30 : Nat),
 ∃ (b31 : Nat),
 s20.1 = some ({ block := b30, off := b31 } : Addr) ∧
 ((0 : Int) ≤ t1 ∧ t1 < (s20.2 : Int)) ∧
 ∃ (s32 : Sl),
 w28.cell? ({ block := b30, off := b31 + t1.toNat } : Addr) = some (Value.slice s32.1 s32.2 s32.3) ∧
 ∃ (b33 : Nat),
 ∃ (b34 : Nat),
 s32.1 = some ({ block := b33, off := b34 } : Addr) ∧
 ((0 : Int) ≤ t2 ∧ t2 < (s32.2 : Int)) ∧
 ∃ (t35 : Bool),
 w28.cell? ({ block := b33, off := b34 + t2.toNat } : Addr) = some (Value.bool t35) ∧
 CX Try.prog (18 : Nat) #[Value.slice t0.1 t0.2 t0.3, Value.int IntKind.i64 t1, Value.int IntKind.i64 t2] w28 fun (v36 : Value) (w37 : World) =>
 ∃ (t38 : Bool),
 v36 = Value.bool t38 ∧
 w37.cell? ({ block := b33, off := b34 + t2.toNat } : Addr) = some (Value.bool t35) ∧
 w37.cell? ({ block := b30, off := b31 + t1.toNat } : Addr) = some (Value.slice s32.1 s32.2 s32.3) ∧
 IfB (!t35)
 (∃ (b39 : Nat),
 ∃ (b40 : Nat),
 s20.1 = some ({ block := b39, off := b40 } : Addr) ∧
 ((0 : Int) ≤ t2 ∧ t2 < (s20.2 : Int)) ∧
 ∃ (s41 : Sl),
 w37.cell? ({ block := b39, off := b40 + t2.toNat } : Addr) = some (Value.slice s41.1 s41.2 s41.3) ∧
 ∃ (b42 : Nat),
 ∃ (b43 : Nat),
 s41.1 = some ({ block := b42, off := b43 } : Addr) ∧
 ((0 : Int) ≤ t1 ∧ t1 < (s41.2 : Int)) ∧ ∃ (t44 : Bool), w37.cell? ({ block := b42, off := b43 + t1.toNat } : Addr) = some (Value.bool t44) ∧ R (Value.bool (t38 == !t44)) w37)
 (R (Value.bool (t38 == false)) w37))
 (R (Value.bool false) w28))
def F5 (t0 : Sl) (t1 : Int) (t2 : Int) (w : World) (R : Value → World → Prop) : Prop :=
 CX Try.prog (10 : Nat) #[] w fun (v1 : Value) (w2 : World) =>
 ∃ (t3 : Bool),
 v1 = Value.bool t3 ∧
 IfB (!t3) (R (Value.bool false) w2)
 (CX Try.prog (11 : Nat) #[Value.slice t0.1 t0.2 t0.3] w2 fun (v4 : Value) (w5 : World) =>
 ∃ (t6 : Bool),
 v4 = Value.bool t6 ∧
 IfB t6 (R (Value.bool true) w5)
 (∃ (y7 : Bool → World → Prop),
 IfB (decide (t1 < (0 : Int))) (([] : List Nat) = [] ∧ y7 true w5)
 (IfB (decide ((t0.n : Int) ≤ t1)) (([] : List Nat) = [] ∧ y7 true w5) (IfB (decide (t2 < (0 : Int))) (([] : List Nat) = [] ∧ y7 true w5) (([] : List Nat) = [] ∧ y7 (decide ((t0.n : Int) ≤ t2)) w5))) ∧
 ∀ (t8 : Bool) (w9 : World) (y10 : Nat → Value),
 y7 t8 w9 →
 (F5j1 t0 t1 t2 R t8 w9)))
theorem F5_ok (t0 : Sl) (t1 : Int) (t2 : Int) (w : World) (R : Value → World → Prop) (h : F5 t0 t1 t2 w R) : CW Try.prog 5 #[Value.slice t0.1 t0.2 t0.3, Value.int IntKind.i64 t1, Value.int IntKind.i64 t2] w R :=
  call_of tbOk mixed en5 Try.func5 rfl (.node (.nil) (.node (.nil) (.node (.nil) (.node (.join [(29, .one (.bool))] [12, 13, 14, 15, 16, 17, 18, 19, 20, 21, 22, 23, 24, 25, 26, 27, 28, 29] (.nil) (.nil)) (.node (.nil) (.node (.draw (.st 0 (.st 1 (.st 2 (.st 4 (.st 5 (.st 6 (.st 7 (.st 8 (.st 9 (.st 10 (.ac 3 [10, 9, 8, 7, 6, 5, 4] (.st 11 (.st 12 (.st 13 (.st 14 (.st 15 (.st 17 (.st 18 (.st 19 (.st 20 (.st 21 (.st 22 (.st 23 (.st 24 (.ac 16 [24, 23, 22, 21, 20, 19, 18, 17] (.st 25 (.st 26 (.st 27 (.st 28 (.st 29 (.st 30 (.st 31 (.st 32 (.st 33 (.st 34 (.st 35 (.st 36 (.st 37 (.fin)))))))))))))) (.non))))))))))))))) (.non))))))))))))) (.nil))))))) (by kernel_rfl) (Nat.le_of_ble_eq_true (by kernel_rfl)) (Eq.mp (α := F5 t0 t1 t2 w R) (by kernel_rfl) h)

def F6k1 (t0 : Sl) (w18 : World) (b1 : Nat) (R : Value → World → Prop) : Prop :=
 CX Try.prog (13 : Nat) #[Value.slice t0.1 t0.2 t0.3] w18 fun (v20 : Value) (w21 : World) =>
 ∃ (s22 : Sl),
 v20 = Value.slice s22.1 s22.2 s22.3 ∧
 ∃ (x23 : Int × Int × Int × Bool × Sl × Sl),
 CellsAt w21 b1 (0 : Nat)
 [Value.int IntKind.i64 x23.1, Value.int IntKind.i64 x23.snd.1, Value.int IntKind.i64 x23.snd.snd.1, Value.bool x23.snd.snd.snd.1,
 Value.slice x23.snd.snd.snd.snd.fst.1 x23.snd.snd.snd.snd.fst.2 x23.snd.snd.snd.snd.fst.3, Value.slice x23.snd.snd.snd.snd.snd.1 x23.snd.snd.snd.snd.snd.2 x23.snd.snd.snd.snd.snd.3] ∧
 CX Try.prog (19 : Nat)
 #[Value.slice s22.1 s22.2 s22.3, Value.slice t0.1 t0.2 t0.3,
 Value.agg
 #[Value.int IntKind.i64 x23.1, Value.int IntKind.i64 x23.snd.1, Value.int IntKind.i64 x23.snd.snd.1, Value.bool x23.snd.snd.snd.1,
 Value.slice x23.snd.snd.snd.snd.fst.1 x23.snd.snd.snd.snd.fst.2 x23.snd.snd.snd.snd.fst.3, Value.slice x23.snd.snd.snd.snd.snd.1 x23.snd.snd.snd.snd.snd.2 x23.snd.snd.snd.snd.snd.3]]
 w21 fun (v24 : Value) (w25 : World) =>
 ∃ (s26 : Sl),
 v24 = Value.slice s26.1 s26.2 s26.3 ∧
 ∃ (x27 : Int × Int × Int × Bool × Sl × Sl),
 CellsAt w25.drew b1 (0 : Nat)
 [Value.int IntKind.i64 x27.1, Value.int IntKind.i64 x27.snd.1, Value.int IntKind.i64 x27.snd.snd.1, Value.bool x27.snd.snd.snd.1,
 Value.slice x27.snd.snd.snd.snd.fst.1 x27.snd.snd.snd.snd.fst.2 x27.snd.snd.snd.snd.fst.3, Value.slice x27.snd.snd.snd.snd.snd.1 x27.snd.snd.snd.snd.snd.2 x27.snd.snd.snd.snd.snd.3] ∧
 ((0 : Nat) * (6 : Nat) ≤ (16777216 : Nat) ∧
 AllocP w25.drew (Obj.cells #[] (27 : Nat)) fun (b28 : Nat) (w29 : World) =>
 CellsAt w29 b1 (0 : Nat)
 [Value.int IntKind.i64 x27.1, Value.int IntKind.i64 x27.snd.1, Value.int IntKind.i64 x27.snd.snd.1, Value.bool x27.snd.snd.snd.1,
 Value.slice x27.snd.snd.snd.snd.fst.1 x27.snd.snd.snd.snd.fst.2 x27.snd.snd.snd.snd.fst.3, Value.slice x27.snd.snd.snd.snd.snd.1 x27.snd.snd.snd.snd.snd.2 x27.snd.snd.snd.snd.snd.3] ∧
 (∃ (l30 : List Value),
 ReadC w29 t0.1 (t0.2 * (6 : Nat)) l30 ∧
 AppendP tt27 (27 : Nat) w29 (some ({ block := b28, off := (0 : Nat) } : Addr)) (0 : Nat) (0 : Nat) t0.2 l30 fun (s31 : Sl) (w32 : World) =>
 CellsAt w32 b1 (0 : Nat)
 [Value.int IntKind.i64 x27.1, Value.int IntKind.i64 x27.snd.1, Value.int IntKind.i64 x27.snd.snd.1, Value.bool x27.snd.snd.snd.1,
 Value.slice x27.snd.snd.snd.snd.fst.1 x27.snd.snd.snd.snd.fst.2 x27.snd.snd.snd.snd.fst.3, Value.slice x27.snd.snd.snd.snd.snd.1 x27.snd.snd.snd.snd.snd.2 x27.snd.snd.snd.snd.snd.3] ∧
 (1 : Nat) * (6 : Nat) ≤ (16777216 : Nat) ∧
 AllocP w32
 (Obj.cells
 #[Value.int IntKind.i64 x27.1, Value.int IntKind.i64 x27.snd.1, Value.int IntKind.i64 x27.snd.snd.1, Value.bool x27.snd.snd.snd.1,
 Value.slice x27.snd.snd.snd.snd.fst.1 x27.snd.snd.snd.snd.fst.2 x27.snd.snd.snd.snd.fst.3, Value.slice x27.snd.snd.snd.snd.snd.1 x27.snd.snd.snd.snd.snd.2 x27.snd.snd.snd.snd.snd.3]
 (27 : Nat))
 fun (b33 : Nat) (w34 : World) =>
 ∃ (l35 : List Value),
 ReadC w34 (some ({ block := b33, off := (0 : Nat) } : Addr)) ((1 : Nat) * (6 : Nat)) l35 ∧
 AppendP tt27 (27 : Nat) w34 s31.1 s31.2 s31.3 (1 : Nat) l35 fun (s36 : Sl) (w37 : World) =>
 CX Try.prog (15 : Nat) #[Value.slice s36.1 s36.2 s36.3] w37 fun (v38 : Value) (w39 : World) =>
 ∃ (s40 : Sl),
 v38 = Value.slice s40.1 s40.2 s40.3 ∧
 CX Try.prog (14 : Nat) #[Value.slice s26.1 s26.2 s26.3, Value.slice s40.1 s40.2 s40.3] w39 fun (v41 : Value) (w42 : World) =>
 ∃ (t43 : Bool),
 v41 = Value.bool t43 ∧
 IfB t43
 (CX Try.prog (15 : Nat) #[Value.slice t0.1 t0.2 t0.3] w42 fun (v44 : Value) (w45 : World) =>
 ∃ (s46 : Sl),
 v44 = Value.slice s46.1 s46.2 s46.3 ∧
 CX Try.prog (14 : Nat) #[Value.slice s22.1 s22.2 s22.3, Value.slice s46.1 s46.2 s46.3] w45 fun (v47 : Value) (w48 : World) =>
 ∃ (t49 : Bool), v47 = Value.bool t49 ∧ R (Value.bool t49) w48)
 (R (Value.bool false) w42)) ∧
 (1 : Nat) * (6 : Nat) ≤ (16777216 : Nat) ∧
 AllocP w29
 (Obj.cells
 #[Value.int IntKind.i64 x27.1, Value.int IntKind.i64 x27.snd.1, Value.int IntKind.i64 x27.snd.snd.1, Value.bool x27.snd.snd.snd.1,
 Value.slice x27.snd.snd.snd.snd.fst.1 x27.snd.snd.snd.snd.fst.2 x27.snd.snd.snd.snd.fst.3, Value.slice x27.snd.snd.snd.snd.snd.1 x27.snd.snd.snd.snd.snd.2 x27.snd.snd.snd.snd.snd.3]
 (27 : Nat))
 fun (b50 : Nat) (w51 : World) =>
 ∃ (l52 : List Value),
 ReadC w51 t0.1 (t0.2 * (6 : Nat)) l52 ∧
 AppendP tt27 (27 : Nat) w51 (some ({ block := b28, off := (0 : Nat) } : Addr)) (0 : Nat) (0 : Nat) t0.2 l52 fun (s53 : Sl) (w54 : World) =>
 ∃ (l55 : List Value),
 ReadC w54 (some ({ block := b50, off := (0 : Nat) } : Addr)) ((1 : Nat) * (6 : Nat)) l55 ∧
 AppendP tt27 (27 : Nat) w54 s53.1 s53.2 s53.3 (1 : Nat) l55 fun (s56 : Sl) (w57 : World) =>
 CX Try.prog (15 : Nat) #[Value.slice s56.1 s56.2 s56.3] w57 fun (v58 : Value) (w59 : World) =>
 ∃ (s60 : Sl),
 v58 = Value.slice s60.1 s60.2 s60.3 ∧
 CX Try.prog (14 : Nat) #[Value.slice s26.1 s26.2 s26.3, Value.slice s60.1 s60.2 s60.3] w59 fun (v61 : Value) (w62 : World) =>
 ∃ (t63 : Bool),
 v61 = Value.bool t63 ∧
 IfB t63
 (CX Try.prog (15 : Nat) #[Value.slice t0.1 t0.2 t0.3] w62 fun (v64 : Value) (w65 : World) =>
 ∃ (s66 : Sl),
 v64 = Value.slice s66.1 s66.2 s66.3 ∧
 CX Try.prog (14 : Nat) #[Value.slice s22.1 s22.2 s22.3, Value.slice s66.1 s66.2 s66.3] w65 fun (v67 : Value) (w68 : World) =>
 ∃ (t69 : Bool), v67 = Value.bool t69 ∧ R (Value.bool t69) w68)
 (R (Value.bool false) w62)) ∧
 (1 : Nat) * (6 : Nat) ≤ (16777216 : Nat) ∧
 AllocP w25.drew
 (Obj.cells
 #[Value.int IntKind.i64 x27.1, Value.int IntKind.i64 x27.snd.1, Value.int IntKind.i64 x27.snd.snd.1, Value.bool x27.snd.snd.snd.1,
 Value.slice x27.snd.snd.snd.snd.fst.1 x27.snd.snd.snd.snd.fst.2 x27.snd.snd.snd.snd.fst.3, Value.slice x27.snd.snd.snd.snd.snd.1 x27.snd.snd.snd.snd.snd.2 x27.snd.snd.snd.snd.snd.3]
 (27 : Nat))
 fun (b70 : Nat) (w71 : World) =>
 (0 : Nat) * (6 : Nat) ≤ (16777216 : Nat) ∧
 AllocP w71 (Obj.cells #[] (27 : Nat)) fun (b72 : Nat) (w73 : World) =>
 ∃ (l74 : List Value),
 ReadC w73 t0.1 (t0.2 * (6 : Nat)) l74 ∧
 AppendP tt27 (27 : Nat) w73 (some ({ block := b72, off := (0 : Nat) } : Addr)) (0 : Nat) (0 : Nat) t0.2 l74 fun (s75 : Sl) (w76 : World) =>
 ∃ (l77 : List Value),
 ReadC w76 (some ({ block := b70, off := (0 : Nat) } : Addr)) ((1 : Nat) * (6 : Nat)) l77 ∧
 AppendP tt27 (27 : Nat) w76 s75.1 s75.2 s75.3 (1 : Nat) l77 fun (s78 : Sl) (w79 : World) =>
 CX Try.prog (15 : Nat) #[Value.slice s78.1 s78.2 s78.3] w79 fun (v80 : Value) (w81 : World) =>
 ∃ (s82 : Sl),
 v80 = Value.slice s82.1 s82.2 s82.3 ∧
 CX Try.prog (14 : Nat) #[Value.slice s26.1 s26.2 s26.3, Value.slice s82.1 s82.2 s82.3] w81 fun (v83 : Value) (w84 : World) =>
 ∃ (t85 : Bool),
 v83 = Value.bool t85 ∧
 IfB t85
 (CX Try.prog (15 : Nat) #[Value.slice t0.1 t0.2 t0.3] w84 fun (v86 : Value) (w87 : World) =>
 ∃ (s88 : Sl),
 v86 = Value.slice s88.1 s88.2 s88.3 ∧
 CX Try.prog (14 : Nat) #[Value.slice s22.1 s22.2 s22.3, Value.slice s88.1 s88.2 s88.3] w87 fun (v89 : Value) (w90 : World) =>
 ∃ (t91 : Bool), v89 = Value.bool t91 ∧ R (Value.bool t91) w90)
 (R (Value.bool false) w84)
def F6k2 (w4 : World) (b1 : Nat) (t0 : Sl) (R : Value → World → Prop) : Prop :=
 ∃ (x6 : Int × Int × Int × Bool × Sl × Sl),
 CellsAt w4.drew b1 (0 : Nat)
 [Value.int IntKind.i64 x6.1, Value.int IntKind.i64 x6.snd.1, Value.int IntKind.i64 x6.snd.snd.1, Value.bool x6.snd.snd.snd.1,
 Value.slice x6.snd.snd.snd.snd.fst.1 x6.snd.snd.snd.snd.fst.2 x6.snd.snd.snd.snd.fst.3, Value.slice x6.snd.snd.snd.snd.snd.1 x6.snd.snd.snd.snd.snd.2 x6.snd.snd.snd.snd.snd.3] ∧
 ((0 : Nat) * (6 : Nat) ≤ (16777216 : Nat) ∧
 AllocP w4.drew (Obj.cells #[] (27 : Nat)) fun (b7 : Nat) (w8 : World) =>
 CellsAt w8 b1 (0 : Nat)
 [Value.int IntKind.i64 x6.1, Value.int IntKind.i64 x6.snd.1, Value.int IntKind.i64 x6.snd.snd.1, Value.bool x6.snd.snd.snd.1,
 Value.slice x6.snd.snd.snd.snd.fst.1 x6.snd.snd.snd.snd.fst.2 x6.snd.snd.snd.snd.fst.3, Value.slice x6.snd.snd.snd.snd.snd.1 x6.snd.snd.snd.snd.snd.2 x6.snd.snd.snd.snd.snd.3] ∧
 (∃ (l9 : List Value),
 ReadC w8 t0.1 (t0.2 * (6 : Nat)) l9 ∧
 AppendP tt27 (27 : Nat) w8 (some ({ block := b7, off := (0 : Nat) } : Addr)) (0 : Nat) (0 : Nat) t0.2 l9 fun (s10 : Sl) (w11 : World) =>
 CellsAt w11 b1 (0 : Nat)
 [Value.int IntKind.i64 x6.1, Value.int IntKind.i64 x6.snd.1, Value.int IntKind.i64 x6.snd.snd.1, Value.bool x6.snd.snd.snd.1,
 Value.slice x6.snd.snd.snd.snd.fst.1 x6.snd.snd.snd.snd.fst.2 x6.snd.snd.snd.snd.fst.3, Value.slice x6.snd.snd.snd.snd.snd.1 x6.snd.snd.snd.snd.snd.2 x6.snd.snd.snd.snd.snd.3] ∧
 (1 : Nat) * (6 : Nat) ≤ (16777216 : Nat) ∧
 AllocP w11
 (Obj.cells
 #[Value.int IntKind.i64 x6.1, Value.int IntKind.i64 x6.snd.1, Value.int IntKind.i64 x6.snd.snd.1, Value.bool x6.snd.snd.snd.1,
 Value.slice x6.snd.snd.snd.snd.fst.1 x6.snd.snd.snd.snd.fst.2 x6.snd.snd.snd.snd.fst.3, Value.slice x6.snd.snd.snd.snd.snd.1 x6.snd.snd.snd.snd.snd.2 x6.snd.snd.snd.snd.snd.3]
 (27 : Nat))
 fun (b12 : Nat) (w13 : World) =>
 ∃ (l14 : List Value),
 ReadC w13 (some ({ block := b12, off := (0 : Nat) } : Addr)) ((1 : Nat) * (6 : Nat)) l14 ∧
 AppendP tt27 (27 : Nat) w13 s10.1 s10.2 s10.3 (1 : Nat) l14 fun (s15 : Sl) (w16 : World) =>
 CX Try.prog (11 : Nat) #[Value.slice s15.1 s15.2 s15.3] w16 fun (v17 : Value) (w18 : World) =>
 ∃ (t19 : Bool),
 v17 = Value.bool t19 ∧
 IfB t19 (R (Value.bool true) w18)
 (F6k1 t0 w18 b1 R)) ∧
 (1 : Nat) * (6 : Nat) ≤ (16777216 : Nat) ∧
 AllocP w8
 (Obj.cells
 #[Value.int IntKind.i64 x6.1, Value.int IntKind.i64 x6.snd.1, Value.int IntKind.i64 x6.snd.snd.1, Value.bool x6.snd.snd.snd.1,
 Value.slice x6.snd.snd.snd.snd.fst.1 x6.snd.snd.snd.snd.fst.2 x6.snd.snd.snd.snd.fst.3, Value.slice x6.snd.snd.snd.snd.snd.1 x6.snd.snd.snd.snd.snd.2 x6.snd.snd.snd.snd.snd.3]
 (27 : Nat))
 fun (b92 : Nat) (w93 : World) =>
 ∃ (l94 : List Value),
 ReadC w93 t0.1 (t0.2 * (6 : Nat)) l94 ∧
 AppendP tt27 (27 : Nat) w93 (some ({ block := b7, off := (0 : Nat) } : Addr)) (0 : Nat) (0 : Nat) t0.2 l94 fun (s95 : Sl) (w96 : World) =>
 ∃ (l97 : List Value),
 ReadC w96 (some ({ block := b92, off := (0 : Nat) } : Addr)) ((1 : Nat) * (6 : Nat)) l97 ∧
 AppendP tt27 (27 : Nat) w96 s95.1 s95.2 s95.3 (1 : Nat) l97 fun (s98 : Sl) (w99 : World) =>
 CX Try.prog (11 : Nat) #[Value.slice s98.1 s98.2 s98.3] w99 fun (v100 : Value) (w101 : World) =>
 ∃ (t102 : Bool),
 v100 = Value.bool t102 ∧
 IfB t102 (R (Value.bool true) w101)
 (F6k1 t0 w101 b1 R)) ∧
 (1 : Nat) * (6 : Nat) ≤ (16777216 : Nat) ∧
 AllocP w4.drew
 (Obj.cells
 #[Value.int IntKind.i64 x6.1, Value.int IntKind.i64 x6.snd.1, Value.int IntKind.i64 x6.snd.snd.1, Value.bool x6.snd.snd.snd.1,
 Value.slice x6.snd.snd.snd.snd.fst.1 x6.snd.snd.snd.snd.fst.2 x6.snd.snd.snd.snd.fst.3, Value.slice x6.snd.snd.snd.snd.snd.1 x6.snd.snd.snd.snd.snd.2 x6.snd.snd.snd.snd.snd.3]
 (27 : Nat))
 fun (b175 : Nat) (w176 : World) =>
 (0 : Nat) * (6 : Nat) ≤ (16777216 : Nat) ∧
 AllocP w176 (Obj.cells #[] (27 : Nat)) fun (b177 : Nat) (w178 : World) =>
 ∃ (l179 : List Value),
 ReadC w178 t0.1 (t0.2 * (6 : Nat)) l179 ∧
 AppendP tt27 (27 : Nat) w178 (some ({ block := b177, off := (0 : Nat) } : Addr)) (0 : Nat) (0 : Nat) t0.2 l179 fun (s180 : Sl) (w181 : World) =>
 ∃ (l182 : List Value),
 ReadC w181 (some ({ block := b175, off := (0 : Nat) } : Addr)) ((1 : Nat) * (6 : Nat)) l182 ∧
 AppendP tt27 (27 : Nat) w181 s180.1 s180.2 s180.3 (1 : Nat) l182 fun (s183 : Sl) (w184 : World) =>
 CX Try.prog (11 : Nat) #[Value.slice s183.1 s183.2 s183.3] w184 fun (v185 : Value) (w186 : World) =>
 ∃ (t187 : Bool),
 v185 = Value.bool t187 ∧
 IfB t187 (R (Value.bool true) w186)
 (F6k1 t0 w186 b1 R)
def F6 (t0 : Sl) (t1 : (Leaf.int IntKind.i64).den × dens [Leaf.int IntKind.i64, Leaf.int IntKind.i64, Leaf.bool, Leaf.sl, Leaf.sl]) (w : World) (R : Value → World → Prop) : Prop :=
 AllocP w
 (Obj.cells
 #[Value.int IntKind.i64 t1.1, Value.int IntKind.i64 t1.snd.1, Value.int IntKind.i64 t1.snd.snd.1, Value.bool t1.snd.snd.snd.1,
 Value.slice t1.snd.snd.snd.snd.fst.1 t1.snd.snd.snd.snd.fst.2 t1.snd.snd.snd.snd.fst.3, Value.slice t1.snd.snd.snd.snd.snd.1 t1.snd.snd.snd.snd.snd.2 t1.snd.snd.snd.snd.snd.3]
 (27 : Nat))
 fun (b1 : Nat) (w2 : World) =>
 CX Try.prog (10 : Nat) #[] w2 fun (v3 : Value) (w4 : World) =>
 ∃ (t5 : Bool),
 v3 = Value.bool t5 ∧
 IfB (!t5) (R (Value.bool false) w4)
 (F6k2 w4 b1 t0 R)
theorem F6_ok (t0 : Sl) (t1 : (Leaf.int IntKind.i64).den × dens [Leaf.int IntKind.i64, Leaf.int IntKind.i64, Leaf.bool, Leaf.sl, Leaf.sl]) (w : World) (R : Value → World → Prop) (h : F6 t0 t1 w R) : CW Try.prog 6 #[Value.slice t0.1 t0.2 t0.3, Value.agg #[Value.int IntKind.i64 t1.1, Value.int IntKind.i64 t1.snd.1, Value.int IntKind.i64 t1.snd.snd.1, Value.bool t1.snd.snd.snd.1, Value.slice t1.snd.snd.snd.snd.fst.1 t1.snd.snd.snd.snd.fst.2 t1.snd.snd.snd.snd.fst.3, Value.slice t1.snd.snd.snd.snd.snd.1 t1.snd.snd.snd.snd.snd.2 t1.snd.snd.snd.snd.snd.3]] w R :=
  call_of tbOk mixed en6 Try.func6 rfl (.node (.nil) (.node (.nil) (.node (.node (.draw (.st 1 (.st 3 (.ac 0 [3, 1] (.ac 2 [3] (.ac 4 [] (.ac 5 [] (.ac 6 [] (.fin) (.non)) (.non)) (.non)) (.ac 4 [1] (.ac 2 [] (.ac 5 [] (.ac 6 [] (.fin) (.non)) (.non)) (.non)) (.non))) (.ac 4 [1] (.ac 0 [1] (.ac 2 [] (.ac 5 [] (.ac 6 [] (.fin) (.non)) (.non)) (.non)) (.non)) (.non)))))) (.nil)) (.node (.nil) (.node (.nil) (.node (.draw (.st 0 (.st 2 (.st 4 (.ac 1 [4, 2, 0] (.ac 3 [4, 0] (.ac 5 [0] (.ac 6 [0] (.ac 7 [0] (.ac 8 [] (.st 9 (.st 10 (.st 11 (.ac 12 [10] (.ac 13 [] (.st 14 (.st 15 (.fin))) (.non)) (.non))))) (.non)) (.non)) (.non)) (.non)) (.ac 5 [2, 0] (.ac 3 [0] (.ac 6 [0] (.ac 7 [0] (.ac 8 [] (.st 9 (.st 10 (.st 11 (.ac 12 [10] (.ac 13 [] (.st 14 (.st 15 (.fin))) (.non)) (.non))))) (.non)) (.non)) (.non)) (.non)) (.non))) (.ac 5 [2, 0] (.ac 1 [2, 0] (.ac 3 [0] (.ac 6 [0] (.ac 7 [0] (.ac 8 [] (.st 9 (.st 10 (.st 11 (.ac 12 [10] (.ac 13 [] (.st 14 (.st 15 (.fin))) (.non)) (.non))))) (.non)) (.non)) (.non)) (.non)) (.non)) (.non))))))) (.nil))))))) (by kernel_rfl) (Nat.le_of_ble_eq_true (by kernel_rfl)) (Eq.mp (α := F6 t0 t1 w R) (by kernel_rfl) h)

end Go.Proofs.Ytmmhbjbaallkfaa.Gx

/- Package gimmallaw15: its statements of histories. -/
namespace Go.Proofs.Ytmmhbjbaallkfaa.Gx
open Go
set_option linter.unusedSimpArgs false
set_option linter.unusedVariables false

/-! ### A history as an argument -/
abbrev tySp : Ty := .pair (.int .i64) (.int .i64)
abbrev tyNd : Ty := .pair (.int .i64) (.pair (.int .i64) (.pair (.int .i64) (.pair .bool (.pair (.sl tySp) (.sl tySp)))))
theorem pickAll {α : Type} {f : α → List Value} {Q : α → Prop} : ∀ {css : List (List Value)}, (∀ c ∈ css, ∃ n, c = f n ∧ Q n) → ∃ ns : List α, css = ns.map f ∧ ∀ n ∈ ns, Q n
  | [], _ => ⟨[], rfl, by simp⟩
  | c :: css, h => by
    obtain ⟨n, hn, hq⟩ := h c (by simp)
    obtain ⟨ns, hns, hqs⟩ := pickAll (css := css) fun c hc => h c (List.mem_cons_of_mem _ hc)
    exact ⟨n :: ns, by rw [hn, hns]; rfl, fun m hm => (List.mem_cons.1 hm).elim (fun e => e ▸ hq) (hqs m)⟩
theorem rep_each {A : Nat → Prop} {w : World} {e : Ty} {l : List e.den} {css : List (List Value)} (hl : css.length = l.length) (hr : ∀ (i : Nat) c x, css[i]? = some c → l[i]? = some x → rep A w e x c) : ∀ c ∈ css, ∃ x, rep A w e x c := fun c hc => by
  obtain ⟨i, hi, rfl⟩ := List.getElem_of_mem hc
  exact ⟨_, hr i _ _ (List.getElem?_eq_getElem hi) (List.getElem?_eq_getElem (by omega))⟩
/-- A list of spans, somewhere. -/
theorem rep_spans {A : Nat → Prop} {w : World} {l : List tySp.den} {cs : List Value} (h : rep A w (.sl tySp) l cs) : ∃ (s : Sl) (xs : List Spn), cs = [slV s] ∧ Rd w s 2 (xs.flatMap sv) ∧ s.n ≤ s.c ∧ s.c ≤ maxLen := by
  obtain ⟨s, rfl, h1, h2, h3, h4, css, h5, h6, h7⟩ := h
  obtain ⟨ns, hns, _⟩ := pickAll (f := sv) (Q := fun _ => True) fun c hc => by
    obtain ⟨x, c1, c2, rfl, hx1, hx2⟩ := rep_each h5 h6 c hc
    obtain ⟨rfl, _⟩ := hx1
    obtain ⟨rfl, _⟩ := hx2
    exact ⟨x, rfl, trivial⟩
  refine ⟨s, ns, rfl, ?_, h2, h3⟩
  rw [List.flatMap_def, ← hns]; exact h7
structure NdIn (w : World) (n : Nd) : Prop where
  rs : Rd w n.v.2.2.2.2.1 2 (n.rs.flatMap sv)
  ws : Rd w n.v.2.2.2.2.2 2 (n.ws.flatMap sv)
theorem NdIn.rn {w : World} {n : Nd} (h : NdIn w n) : n.v.2.2.2.2.1.n = n.rs.length ∧ n.v.2.2.2.2.2.n = n.ws.length := ⟨rdN sv_len (by omega) h.rs, rdN sv_len (by omega) h.ws⟩
theorem NdIn.ext {w w' : World} {n : Nd} (h : NdIn w n) (e : Ext w w') : NdIn w' n := ⟨h.rs.ext e, h.ws.ext e⟩
theorem rep_nd {A : Nat → Prop} {w : World} {x : tyNd.den} {cs : List Value} (h : rep A w tyNd x cs) : ∃ n : Nd, cs = nL n ∧ NdIn w n := by
  obtain ⟨c1, d1, rfl, ⟨rfl, _⟩, c2, d2, rfl, ⟨rfl, _⟩, c3, d3, rfl, ⟨rfl, _⟩, c4, d4, rfl, h4, c5, d5, rfl, h5, h6⟩ := h
  obtain ⟨s, xs, rfl, hxs, _⟩ := rep_spans h5
  obtain ⟨t, ys, rfl, hys, _⟩ := rep_spans h6
  have h4 : c4 = [.bool x.2.2.2.1] := h4
  subst h4
  exact ⟨⟨(x.1, x.2.1, x.2.2.1, x.2.2.2.1, s, t), xs, ys⟩, rfl, hxs, hys⟩
structure HIn (w : World) (t : Sl) (hs : List Nd) : Prop where
  rd : Rd w t 6 (hs.flatMap nL)
  nd : ∀ n ∈ hs, NdIn w n
  cap : t.n ≤ t.c
  len : hs.length ≤ maxLen
theorem HIn.n {w : World} {t : Sl} {hs : List Nd} (h : HIn w t hs) : t.n = hs.length := rdN nL_len (by omega) h.rd
theorem HIn.ext {w w' : World} {t : Sl} {hs : List Nd} (h : HIn w t hs) (e : Ext w w') : HIn w' t hs := ⟨h.rd.ext e, fun n hn => (h.nd n hn).ext e, h.cap, h.len⟩
theorem HIn.hst {w : World} {t : Sl} {hs : List Nd} (h : HIn w t hs) (hg : ¬ GrtP hs) : Hst w t hs := by
  refine ⟨h.rd, fun n hn => ⟨(h.nd n hn).rs, (h.nd n hn).ws, ?_, ?_⟩, ?_, h.cap⟩
  · have : ¬ 40 < n.rs.length := fun h' => hg (.inl ⟨n, hn, .inl h'⟩)
    omega
  · have : ¬ 40 < n.ws.length := fun h' => hg (.inl ⟨n, hn, .inr h'⟩)
    omega
  · have : ¬ 40 < hs.length := fun h' => hg (.inr h')
    omega
theorem rep_hist {A : Nat → Prop} {w : World} {l : List tyNd.den} {cs : List Value} (h : rep A w (.sl tyNd) l cs) : ∃ (t : Sl) (hs : List Nd), cs = [slV t] ∧ HIn w t hs := by
  obtain ⟨s, rfl, h1, h2, h3, h4, css, h5, h6, h7⟩ := h
  obtain ⟨ns, hns, hq⟩ := pickAll (f := nL) (Q := NdIn w) fun c hc => by
    obtain ⟨x, hx⟩ := rep_each h5 h6 c hc
    exact rep_nd hx
  have hlen : ns.length = l.length := by rw [← h5, hns, List.length_map]
  refine ⟨s, ns, rfl, ?_, hq, h2, by omega⟩
  rw [List.flatMap_def, ← hns]; exact h7
theorem maxLen_le : maxLen ≤ 9223372036854775807 := by decide +kernel

/-- What each statement asks first. -/
theorem first {w : World} {t : Sl} {hs : List Nd} (hH : HIn w t hs) {R : Value → World → Prop} {K : World → Prop} (h0 : ∀ w', Ext w w' → R (.bool true) w') (hK : ∀ w', ¬ GrtP hs → Hst w' t hs → hs.length ≤ 40 → Ext w w' → K w') :
    CX Try.prog 10 #[] w fun v w2 => ∃ t3, v = .bool t3 ∧ IfB (!t3) (R (.bool false) w2) (CX Try.prog 11 #[slV t] w2 fun v w5 => ∃ t6, v = .bool t6 ∧ IfB t6 (R (.bool true) w5) (K w5)) := by
  refine (c10 w).use ?_
  rintro _ w2 ⟨rfl, e2⟩
  have h2 := hH.ext e2
  refine ⟨true, rfl, IfB.no rfl ((c11 h2.rd (fun n hn => (h2.nd n hn).rn) (Nat.le_trans hH.len maxLen_le)).use ?_)⟩
  rintro _ _ ⟨r, rfl, hr, rfl⟩
  refine ⟨r, rfl, IfB.intro (fun h => h0 w2 e2) fun h => ?_⟩
  have hg : ¬ GrtP hs := fun h' => by rw [hr.2 h'] at h; cases h
  exact hK w2 hg (h2.hst hg) (by have : ¬ 40 < hs.length := fun h' => hg (.inr h'); omega) e2

theorem depsOf (w : World) {l : List tyNd.den} {c0 : Value} (h0 : rep (fun _ => True) w (.sl tyNd) l [c0]) {i : Int} {c1 : Value} (h1 : rep (fun _ => True) w (.int .i64) i [c1]) {k : Int} {q2 : Value} (h2 : rep (fun _ => True) w (.int .i64) k [q2]) :
    CW Try.prog 3 #[c0, c1, q2] w fun v w' => v = .bool true ∧ Ext w w' := by
  obtain ⟨t, hs, e0, hH⟩ := rep_hist h0
  obtain ⟨e1, _⟩ := h1
  obtain ⟨e2, _⟩ := h2
  simp only [List.cons.injEq, and_true] at e0 e1 e2
  subst e0; subst e1; subst e2
  refine F3_ok t i k w _ (first hH (R := fun v w' => v = .bool true ∧ Ext w w') (fun w' e => ⟨rfl, e⟩) fun w5 hg hS hl e5 => ?_)
  have htn := hS.n
  refine ⟨fun r W => w5 = W ∧ (r = true ↔ (0 ≤ i ∧ i < (hs.length : Int)) ∧ 0 ≤ k ∧ k < i), IfB.dec (fun a1 => IfB.dec (fun a2 => IfB.dec (fun a3 => ⟨rfl, rfl, ?_⟩) fun a3 => ⟨rfl, rfl, ?_⟩) fun a2 => ⟨rfl, rfl, ?_⟩) fun a1 => ⟨rfl, rfl, ?_⟩, ?_⟩
  · rw [decide_eq_true_eq]; exact ⟨fun h => ⟨⟨a1, by omega⟩, a3, h⟩, fun h => h.2.2⟩
  · exact ⟨fun h => (by cases h), fun h => absurd h.2.1 a3⟩
  · exact ⟨fun h => (by cases h), fun h => by omega⟩
  · exact ⟨fun h => (by cases h), fun h => absurd h.1.1 a1⟩
  rintro r1 _ g ⟨rfl, hr1⟩
  have ed := extDrew w5
  have hD := hS.ext ed
  unfold F3j1
  refine ⟨fun r W => Ext w5 W ∧ (r = true ↔ 0 ≤ i ∧ 0 ≤ k ∧ EdP hs i.toNat k.toNat), IfB.intro (fun hr => ?_) fun hr => ⟨rfl, ed, ⟨fun h => (by cases h), fun ⟨b1, b2, hE⟩ => ?_⟩⟩, ?_⟩
  · obtain ⟨⟨b1, b2⟩, b3, b4⟩ := hr1.1 hr
    have hi : i.toNat < hs.length := by omega
    have hk : k.toNat < hs.length := by omega
    have ha : hs[i.toNat]? = some hs[i.toNat] := List.getElem?_eq_getElem hi
    have hb : hs[k.toNat]? = some hs[k.toNat] := List.getElem?_eq_getElem hk
    generalize hs[i.toNat] = a at ha
    generalize hs[k.toNat] = b at hb
    obtain ⟨x1, o1, hp1, hc1⟩ := hD.at ha
    obtain ⟨x2, o2, hp2, hc2⟩ := hD.at hb
    have hbi : 0 ≤ i ∧ i < (t.n : Int) := ⟨b1, by omega⟩
    have hbk : 0 ≤ k ∧ k < (t.n : Int) := ⟨b3, by omega⟩
    have hEd : (0 ≤ i ∧ 0 ≤ k ∧ EdP hs i.toNat k.toNat) ↔ dirP a b := by
      constructor
      · rintro ⟨_, _, _, x, y, hx, hy, hd⟩
        rw [ha] at hx; rw [hb] at hy
        cases hx; cases hy; exact hd
      · exact fun hd => ⟨b1, b3, by omega, a, b, ha, hb, hd⟩
    refine ⟨x1, o1, hp1, hbi, a.v.1, hc1 0 _ rfl, x2, o2, hp2, hbk, b.v.1, hc2 0 _ rfl, IfB.intro (fun he => ⟨rfl, ed, ?_⟩) fun hne => ⟨x1, o1, hp1, hbi, a.v, hc1, x2, o2, hp2, hbk, b.v, hc2, (c12 (hD.get ha) (hD.get hb)).use ?_⟩⟩
    · rw [hEd]; exact ⟨fun _ => .inl (by simpa using he), fun _ => rfl⟩
    · rintro _ w26 ⟨r, rfl, hr', e26⟩
      refine ⟨r, rfl, rfl, ed.trans e26, ?_⟩
      rw [hEd, hr']
      exact ⟨.inr, fun h => h.resolve_left (by simpa using hne)⟩
  · have := EdP_lt hE
    rw [hr1.2 ⟨⟨b1, by omega⟩, b2, by omega⟩] at hr; cases hr
  rintro want w29 g ⟨e29, hwant⟩
  refine (c13 (hS.ext e29) (by omega)).use ?_
  rintro _ w33 ⟨tl, rows, rfl, hrl, hrow, hO, e33⟩
  have hL := hO.rws
  have hLn := hL.n
  refine ⟨tl, rfl, fun m x W => ∃ j : Nat, j ≤ hs.length ∧ m + j = hs.length ∧ x = (j : Int) ∧ w33 = W, ⟨hs.length, 0, Nat.zero_le _, rfl, rfl, rfl⟩, ?_⟩
  rintro m _ _ g ⟨j, hj, hmj, rfl, rfl⟩
  unfold F3j3
  refine IfB.dec (fun hlt => ?_) fun hge => ?_
  · have hj' : j < hs.length := by omega
    have hx : rows[j]? = some (rows[j]'(by omega)) := List.getElem?_eq_getElem (by omega)
    generalize rows[j]'_ = row at hx
    obtain ⟨⟨bl, ol, hpl, hcl⟩, hrr, hrn⟩ := hL.at hx
    have hR := hrow j row hx
    have hRl := hR.len
    have hbj : (0 : Int) ≤ (j : Int) ∧ (j : Int) < (tl.n : Int) := ⟨by omega, by omega⟩
    refine ⟨fun q x W => ∃ p : Nat, p ≤ row.2.length ∧ q + p = row.2.length ∧ x = (p : Int) ∧ w33 = W, ⟨row.2.length, 0, Nat.zero_le _, rfl, rfl, rfl⟩, ?_⟩
    rintro q _ _ g ⟨p, hp, hqp, rfl, rfl⟩
    unfold F3j4
    refine ⟨bl, ol, hpl, hbj, row.1, by rw [Int.toNat_natCast]; exact hcl, IfB.dec (fun hlt2 => ?_) fun hge2 => ⟨rfl, m - 1, by omega, j + 1, hj', by omega, by rw [wrap_of (by omega) (by omega)]; rfl, rfl⟩⟩
    have hp' : p < row.2.length := by omega
    have hy : row.2[p]? = some row.2[p] := List.getElem?_eq_getElem hp'
    generalize row.2[p] = y at hy
    obtain ⟨bc, oc, hpc, hcc⟩ := hrr.elem1 (i := p) (v := iv y) (by rw [List.getElem?_map, hy]; rfl)
    obtain ⟨k', rfl, hd⟩ := (hR.mem y).1 (List.mem_of_getElem? hy)
    have := Dp_lt hd
    exact ⟨bl, ol, hpl, hbj, row.1, by rw [Int.toNat_natCast]; exact hcl, bc, oc, hpc, ⟨by omega, hlt2⟩, (k' : Int), by rw [Int.toNat_natCast]; exact hcc, IfB.no (by simp; omega) ⟨rfl, q - 1, by omega, p + 1, hp', by omega, by rw [wrap_of (by omega) (by omega)]; rfl, rfl⟩⟩
  · refine (c15 ((hS.ext e29).ext e33) (by omega)).use ?_
    rintro _ w61 ⟨td, mr, rfl, hsq, hgm, hM, e61⟩
    refine ⟨td, rfl, (c14 (hL.ext e61) hrl hrow hM hsq hgm (by omega)).use ?_⟩
    rintro _ _ ⟨rfl, rfl⟩
    refine ⟨true, rfl, IfB.yes rfl ((c16 (((hS.ext e29).ext e33).ext e61) i k).use ?_)⟩
    rintro _ w67 ⟨r, rfl, hr, e67⟩
    refine ⟨r, rfl, ?_, (((e5.trans e29).trans e33).trans e61).trans e67⟩
    have : r = want := by rw [Bool.eq_iff_iff, hr, hwant]
    rw [this]; simp

theorem depsTwo (w : World) {l : List tyNd.den} {c0 : Value} (h0 : rep (fun _ => True) w (.sl tyNd) l [c0]) {i : Int} {c1 : Value} (h1 : rep (fun _ => True) w (.int .i64) i [c1]) {k : Int} {q2 : Value} (h2 : rep (fun _ => True) w (.int .i64) k [q2]) :
    CW Try.prog 5 #[c0, c1, q2] w fun v w' => v = .bool true ∧ Ext w w' := by
  obtain ⟨t, hs, e0, hH⟩ := rep_hist h0
  obtain ⟨e1, _⟩ := h1
  obtain ⟨e2, _⟩ := h2
  simp only [List.cons.injEq, and_true] at e0 e1 e2
  subst e0; subst e1; subst e2
  refine F5_ok t i k w _ (first hH (R := fun v w' => v = .bool true ∧ Ext w w') (fun w' e => ⟨rfl, e⟩) fun w5 hg hS hl e5 => ?_)
  have htn := hS.n
  refine ⟨fun r W => w5 = W ∧ (r = false ↔ (0 ≤ i ∧ i < (hs.length : Int)) ∧ 0 ≤ k ∧ k < (hs.length : Int)), IfB.dec (fun a1 => ⟨rfl, rfl, ⟨fun h => (by cases h), fun h => by omega⟩⟩) fun a1 => IfB.dec (fun a2 => ⟨rfl, rfl, ⟨fun h => (by cases h), fun h => by omega⟩⟩) fun a2 => IfB.dec (fun a3 => ⟨rfl, rfl, ⟨fun h => (by cases h), fun h => by omega⟩⟩) fun a3 => ⟨rfl, rfl, ?_⟩, ?_⟩
  · rw [decide_eq_false_iff_not]; exact ⟨fun h => by omega, fun h => by omega⟩
  rintro r1 _ g ⟨rfl, hr1⟩
  unfold F5j1
  refine IfB.intro (fun hr => ?_) fun hr => ?_
  · have hno : ¬ ((0 ≤ i ∧ i < (hs.length : Int)) ∧ 0 ≤ k ∧ k < (hs.length : Int)) := fun h => by rw [hr1.2 h] at hr; cases hr
    refine (c17 hS (by omega) i k).use ?_
    rintro _ w13 ⟨r, rfl, hr2, e13⟩
    refine ⟨r, rfl, IfB.intro (fun _ => (c18 (hS.ext e13) (by omega) i k).use ?_) fun h => ?_⟩
    · rintro _ w16 ⟨r', rfl, hr3, e16⟩
      refine ⟨r', rfl, ?_, (e5.trans e13).trans e16⟩
      cases r' with
      | false => rfl
      | true => have := hr3.1 rfl; exact absurd ⟨this.1, this.2.1⟩ hno
    · have h : r = true := by simpa using h
      obtain ⟨d1, d2, k', rfl, hd⟩ := hr2.1 h
      have := Dp_lt hd
      exact absurd ⟨⟨d1, d2⟩, by omega, by omega⟩ hno
  · obtain ⟨⟨a1, a2⟩, a3, a4⟩ := hr1.1 hr
    obtain ⟨i, rfl⟩ : ∃ n : Nat, i = (n : Int) := ⟨i.toNat, by omega⟩
    obtain ⟨k, rfl⟩ : ∃ n : Nat, k = (n : Int) := ⟨k.toNat, by omega⟩
    have hi : i < hs.length := by omega
    have hk : k < hs.length := by omega
    refine (c15 hS (by omega)).use ?_
    rintro _ w19 ⟨td, mr, rfl, hsq, hgm, hM, e19⟩
    have hdn := hM.n
    have hml := hsq.1
    have ed := extDrew w19
    obtain ⟨ri, hri, hril, hrim⟩ := hsq.at hi
    obtain ⟨rk, hrk, hrkl, hrkm⟩ := hsq.at hk
    have hin := hM.rn hrim
    have hkn := hM.rn hrkm
    have hbi : (0 : Int) ≤ (i : Int) ∧ (i : Int) < (td.n : Int) := ⟨by omega, by omega⟩
    have hbk : (0 : Int) ≤ (k : Int) ∧ (k : Int) < (td.n : Int) := ⟨by omega, by omega⟩
    have hbik : (0 : Int) ≤ (k : Int) ∧ (k : Int) < (ri.1.n : Int) := ⟨by omega, by omega⟩
    have hbki : (0 : Int) ≤ (i : Int) ∧ (i : Int) < (rk.1.n : Int) := ⟨by omega, by omega⟩
    obtain ⟨bt, hpt, _⟩ := hM.slot hri
    have slot : ∀ {W : World} {j : Nat} {r : MxR}, Mx W w5.heap.size td mr → mr[j]? = some r → W.cell? ⟨bt, 0 + (j : Int).toNat, none⟩ = some (slV r.1) := fun {W j r} h hj => by
      obtain ⟨b, hp, hc⟩ := h.slot hj
      rw [hpt] at hp; cases hp
      rw [Int.toNat_natCast, Nat.zero_add]; exact hc
    obtain ⟨bi, hpi, _⟩ := hM.cell hrim (gM_get hri (k := k) (by omega))
    obtain ⟨bk, hpk, _⟩ := hM.cell hrkm (gM_get hrk (k := i) (by omega))
    have ci : ∀ {W : World}, Mx W w5.heap.size td mr → W.cell? ⟨bi, 0 + (k : Int).toNat, none⟩ = some (.bool (gM mr i k)) := fun {W} h => by
      obtain ⟨b, hp, hc⟩ := h.cell hrim (gM_get hri (k := k) (by omega))
      rw [hpi] at hp; cases hp
      rw [Int.toNat_natCast, Nat.zero_add]; exact hc
    have ck : ∀ {W : World}, Mx W w5.heap.size td mr → W.cell? ⟨bk, 0 + (i : Int).toNat, none⟩ = some (.bool (gM mr k i)) := fun {W} h => by
      obtain ⟨b, hp, hc⟩ := h.cell hrkm (gM_get hrk (k := i) (by omega))
      rw [hpk] at hp; cases hp
      rw [Int.toNat_natCast, Nat.zero_add]; exact hc
    have hMd := hM.ext ed
    refine ⟨td, rfl, bt, 0, hpt, hbi, ri.1, slot hMd hri, bi, 0, hpi, hbik, gM mr i k, ci hMd, (c17 (hS.ext (e19.trans ed)) (by omega) (i : Int) (k : Int)).use ?_⟩
    rintro _ w28 ⟨r, rfl, hr2, e28⟩
    have hM28 := hMd.ext e28
    have hrg : r = gM mr i k := by
      rw [Bool.eq_iff_iff, hr2, hgm]
      exact ⟨fun ⟨_, _, k', e, hd⟩ => by have e : k = k' := by omega
                                         subst e; exact hd, fun hd => ⟨by omega, by omega, k, rfl, hd⟩⟩
    refine ⟨r, rfl, ci hM28, slot hM28 hri, IfB.yes (by rw [hrg]; simp) ⟨bt, 0, hpt, hbi, ri.1, slot hM28 hri, bi, 0, hpi, hbik, gM mr i k, ci hM28, (c18 (hS.ext ((e19.trans ed).trans e28)) (by omega) (i : Int) (k : Int)).use ?_⟩⟩
    rintro _ w37 ⟨r', rfl, hr3, e37⟩
    have hM37 := hM28.ext e37
    have hr3 : r' = true ↔ gM mr i k = false ∧ gM mr k i = false := by
      rw [hr3, Bool.eq_false_iff, Bool.eq_false_iff, Ne, hgm, Ne, hgm]
      exact ⟨fun h => ⟨h.2.2.1, h.2.2.2⟩, fun h => ⟨⟨by omega, by omega⟩, ⟨by omega, by omega⟩, h.1, h.2⟩⟩
    have E : Ext w w37 := ((e5.trans e19).trans (ed.trans e28)).trans e37
    refine ⟨r', rfl, ci hM37, slot hM37 hri, IfB.intro (fun h => ⟨bt, 0, hpt, hbk, rk.1, slot hM37 hrk, bk, 0, hpk, hbki, gM mr k i, ck hM37, ?_, E⟩) fun h => ⟨?_, E⟩⟩
    · have h : gM mr i k = false := by simpa using h
      have : r' = !gM mr k i := by
        rw [Bool.eq_iff_iff, hr3]; simp [h]
      rw [this]; simp
    · have h : gM mr i k = true := by simpa using h
      have : r' = false := by
        rw [Bool.eq_false_iff]; intro h'; rw [(hr3.1 h').1] at h; cases h
      rw [this]; rfl

theorem depsFar (w : World) {l : List tyNd.den} {c0 : Value} (h0 : rep (fun _ => True) w (.sl tyNd) l [c0]) {cut : Int} {c1 : Value} (h1 : rep (fun _ => True) w (.int .u8) cut [c1]) :
    CW Try.prog 4 #[c0, c1] w fun v w' => v = .bool true ∧ Ext w w' := by
  obtain ⟨t, hs, e0, hH⟩ := rep_hist h0
  obtain ⟨e1, hc0, hc1⟩ := h1
  have hc0 : 0 ≤ cut := hc0
  have hc1 : cut ≤ 255 := hc1
  simp only [List.cons.injEq, and_true] at e0 e1
  subst e0; subst e1
  refine F4_ok t cut w _ (first hH (R := fun v w' => v = .bool true ∧ Ext w w') (fun w' e => ⟨rfl, e⟩) fun w5 hg hS hl e5 => ?_)
  have htn := hS.n
  refine (c13 hS (by omega)).use ?_
  rintro _ w8 ⟨tl, rows, rfl, hrl, hrow, hO, e8⟩
  obtain ⟨n, hn⟩ : ∃ n : Nat, (IntKind.i64.wrap cut).tmod (IntKind.i64.wrap ((t.2 : Int) + 1)) = (n : Int) ∧ n ≤ hs.length := by
    rw [wrap_of (n := cut) (by omega) (by omega), wrap_of (by omega) (by omega)]
    have h1 := Int.tmod_nonneg ((t.2 : Int) + 1) hc0
    have h2 := Int.tmod_lt_of_pos cut (show (0 : Int) < (t.2 : Int) + 1 by omega)
    refine ⟨(cut.tmod ((t.2 : Int) + 1)).toNat, by omega, by omega⟩
  obtain ⟨hn, hnl⟩ := hn
  have hcap := hS.cap
  refine ⟨tl, rfl, by rw [wrap_of (by omega) (by omega)]; omega, by rw [hn]; exact ⟨by omega, by omega⟩, ?_⟩
  rw [hn, Int.toNat_natCast, slAddr_zero]
  refine (c13 (t := ⟨t.p, n, t.c⟩) ((hS.ext e8).cut (k := n) hnl) (by rw [List.length_take]; omega)).use ?_
  rintro _ w11 ⟨tm, rowm, rfl, hrlm, hrowm, hOm, e11⟩
  rw [List.length_take, Nat.min_eq_left hnl] at hrlm
  have hL := (hO.ext e11).rws
  have hLm := hOm.rws
  have hLn := hL.n
  have hLmn := hLm.n
  have E11 := (e5.trans e8).trans e11
  refine ⟨tm, rfl, IfB.no (by simp; omega) (IfB.no (by simp; omega) ⟨fun m x W => ∃ i : Nat, i ≤ hs.length ∧ m + i = hs.length ∧ x = (i : Int) ∧ Ext w11 W, ⟨hs.length, 0, Nat.zero_le _, rfl, rfl, Ch.refl _ _⟩, ?_⟩)⟩
  rintro m _ w17 g ⟨i, hi, hmi, rfl, e17⟩
  unfold F4j1
  rw [hn]
  refine IfB.dec (fun hlt => ?_) fun hge => ⟨rfl, E11.trans e17⟩
  have hi' : i < hs.length := by omega
  have hx : rows[i]? = some (rows[i]'(by omega)) := List.getElem?_eq_getElem (by omega)
  generalize rows[i]'_ = row at hx
  have hR := hrow i row hx
  have hRl := hR.len
  have hbi : (0 : Int) ≤ (i : Int) ∧ (i : Int) < (tl.n : Int) := ⟨by omega, by omega⟩
  obtain ⟨⟨bl, ol, hpl, _⟩, _, hrn⟩ := hL.at hx
  have cl : ∀ {W : World}, Ext w11 W → W.cell? ⟨bl, ol + (i : Int).toNat, none⟩ = some (slV row.1) := fun {W} e => by
    obtain ⟨⟨b, o, hp, hc⟩, _⟩ := (hL.ext e).at hx
    rw [hpl] at hp; cases hp
    rw [Int.toNat_natCast]; exact hc
  have ce : ∀ {W : World} {p : Nat} {y : Int}, Ext w11 W → row.2[p]? = some y → ∃ b o, row.1.p = some ⟨b, o, none⟩ ∧ W.cell? ⟨b, o + (p : Int).toNat, none⟩ = some (iv y) := fun {W p y} e hy => by
    obtain ⟨_, hrr, _⟩ := (hL.ext e).at hx
    rw [Int.toNat_natCast]
    exact hrr.elem1 (i := p) (v := iv y) (by rw [List.getElem?_map, hy]; rfl)
  refine ⟨fun _ W => Ext w11 W, IfB.dec (fun hin => ?_) fun _ => ⟨rfl, e17⟩, ?_⟩
  · have hin' : i < n := by omega
    have hy : rowm[i]? = some (rowm[i]'(by omega)) := List.getElem?_eq_getElem (by omega)
    generalize rowm[i]'_ = rm at hy
    have hRm := (RowOf_take hin').1 (hrowm i rm hy)
    have heq : rm.2 = row.2 := hRm.uniq hR
    have hbm : (0 : Int) ≤ (i : Int) ∧ (i : Int) < (tm.n : Int) := ⟨by omega, by omega⟩
    obtain ⟨⟨bm, om, hpm, _⟩, _, hrmn⟩ := hLm.at hy
    have cm : ∀ {W : World}, Ext w11 W → W.cell? ⟨bm, om + (i : Int).toNat, none⟩ = some (slV rm.1) := fun {W} e => by
      obtain ⟨⟨b, o, hp, hc⟩, _⟩ := (hLm.ext e).at hy
      rw [hpm] at hp; cases hp
      rw [Int.toNat_natCast]; exact hc
    have cme : ∀ {W : World} {p : Nat} {y : Int}, Ext w11 W → row.2[p]? = some y → ∃ b o, rm.1.p = some ⟨b, o, none⟩ ∧ W.cell? ⟨b, o + (p : Int).toNat, none⟩ = some (iv y) := fun {W p y} e hy' => by
      obtain ⟨_, hrr, _⟩ := (hLm.ext e).at hy
      rw [Int.toNat_natCast]
      exact hrr.elem1 (i := p) (v := iv y) (by rw [heq, List.getElem?_map, hy']; rfl)
    have ed := e17.trans (extDrew w17)
    refine ⟨bm, om, hpm, hbm, rm.1, cm ed, bl, ol, hpl, hbi, row.1, cl ed, IfB.no (by simp; rw [heq] at hrmn; omega) ⟨fun q x W => ∃ p : Nat, p ≤ row.2.length ∧ q + p = row.2.length ∧ x = (p : Int) ∧ Ext w11 W, ⟨row.2.length, 0, Nat.zero_le _, rfl, rfl, ed⟩, ?_⟩⟩
    rintro q _ w31 g ⟨p, hp, hqp, rfl, e31⟩
    unfold F4j2
    refine ⟨bl, ol, hpl, hbi, row.1, cl e31, IfB.dec (fun hlt2 => ?_) fun hge2 => ⟨rfl, e31⟩⟩
    have hp' : p < row.2.length := by omega
    have hz : row.2[p]? = some row.2[p] := List.getElem?_eq_getElem hp'
    generalize row.2[p] = z at hz
    have ed31 := e31.trans (extDrew w31)
    obtain ⟨b1, o1, hq1, hd1⟩ := cme ed31 hz
    obtain ⟨b2, o2, hq2, hd2⟩ := ce ed31 hz
    exact ⟨bm, om, hpm, hbm, rm.1, cm ed31, b1, o1, hq1, ⟨by omega, by rw [heq] at hrmn; show (p : Int) < (rm.1.n : Int); omega⟩, z, hd1, bl, ol, hpl, hbi, row.1, cl ed31, b2, o2, hq2, ⟨by omega, hlt2⟩, z, hd2, IfB.no (by simp) ⟨rfl, q - 1, by omega, p + 1, hp', by omega, by rw [wrap_of (by omega) (by omega)]; rfl, ed31⟩⟩
  rintro _ w51 g e51
  refine ⟨fun q x W => ∃ p : Nat, p ≤ row.2.length ∧ q + p = row.2.length ∧ x = (p : Int) ∧ Ext w11 W, ⟨row.2.length, 0, Nat.zero_le _, rfl, rfl, e51⟩, ?_⟩
  rintro q _ w58 g ⟨p, hp, hqp, rfl, e58⟩
  unfold F4j4
  refine ⟨bl, ol, hpl, hbi, row.1, cl e58, IfB.dec (fun hlt2 => ?_) fun hge2 => ⟨rfl, m - 1, by omega, i + 1, hi', by omega, by rw [wrap_of (by omega) (by omega)]; rfl, e58⟩⟩
  have hp' : p < row.2.length := by omega
  have hz : row.2[p]? = some row.2[p] := List.getElem?_eq_getElem hp'
  generalize row.2[p] = z at hz
  obtain ⟨b1, o1, hq1, hd1⟩ := ce e58 hz
  obtain ⟨k, rfl, hd⟩ := (hR.mem z).1 (List.mem_of_getElem? hz)
  have hki := Dp_lt hd
  have hf : rows[k]? = some (rows[k]'(by omega)) := List.getElem?_eq_getElem (by omega)
  generalize rows[k]'_ = far at hf
  have hRf := hrow k far hf
  have hRfl := hRf.len
  obtain ⟨⟨bf, of, hpf, hcf⟩, _, hfn⟩ := (hL.ext e58).at hf
  refine ⟨bl, ol, hpl, hbi, row.1, cl e58, b1, o1, hq1, ⟨by omega, hlt2⟩, (k : Int), hd1, bf, of, hpf, ⟨by omega, by omega⟩, far.1, by rw [Int.toNat_natCast]; exact hcf, fun s x W => ∃ a : Nat, a ≤ far.2.length ∧ s + a = far.2.length ∧ x = (a : Int) ∧ Ext w11 W, ⟨far.2.length, 0, Nat.zero_le _, rfl, rfl, e58⟩, ?_⟩
  rintro s _ w77 g ⟨a, ha, hsa, rfl, e77⟩
  refine IfB.dec (fun hlt3 => ?_) fun hge3 => ⟨rfl, q - 1, by omega, p + 1, hp', by omega, by rw [wrap_of (by omega) (by omega)]; rfl, e77⟩
  have ha' : a < far.2.length := by omega
  have hu : far.2[a]? = some far.2[a] := List.getElem?_eq_getElem ha'
  generalize far.2[a] = u at hu
  obtain ⟨ku, rfl, hdu⟩ := (hRf.mem u).1 (List.mem_of_getElem? hu)
  have hin : (ku : Int) ∈ row.2 := (hR.mem _).2 ⟨ku, rfl, hd.trans hdu⟩
  refine ⟨fun v x W => ∃ b : Nat, b ≤ row.2.length ∧ v + b = row.2.length ∧ x = (decide ((ku : Int) ∈ row.2.take b), (b : Int)) ∧ Ext w11 W, ⟨row.2.length, 0, Nat.zero_le _, rfl, by simp, e77⟩, ?_⟩
  rintro v _ w84 g ⟨b, hb, hvb, rfl, e84⟩
  unfold F4j6
  refine ⟨bl, ol, hpl, hbi, row.1, cl e84, IfB.dec (fun hlt4 => ?_) fun hge4 => ?_⟩
  · have hb' : b < row.2.length := by dsimp only at hlt4; omega
    have hr : row.2[b]? = some row.2[b] := List.getElem?_eq_getElem hb'
    generalize row.2[b] = rb at hr
    have ed := e84.trans (extDrew w84)
    have htk := take_succ_get hr
    have w1 : IntKind.i64.wrap ((b : Int) + 1) = ((b + 1 : Nat) : Int) := by rw [wrap_of (by omega) (by omega)]; rfl
    have hnext : decide ((ku : Int) ∈ row.2.take (b + 1)) = (decide ((ku : Int) ∈ row.2.take b) || rb == (ku : Int)) := by
      rw [htk, Bool.eq_iff_iff]
      simp only [decide_eq_true_eq, List.mem_append, List.mem_singleton, Bool.or_eq_true, beq_iff_eq]
      exact or_congr Iff.rfl eq_comm
    refine ⟨fun r W => Ext w11 W ∧ r = decide ((ku : Int) ∈ row.2.take (b + 1)), IfB.intro (fun h => ⟨rfl, ed, ?_⟩) fun h => ?_, ?_⟩
    · have h : decide ((ku : Int) ∈ row.2.take b) = true := h
      rw [hnext, h]; rfl
    · have h : decide ((ku : Int) ∈ row.2.take b) = false := h
      obtain ⟨b3, o3, hq3, hd3⟩ := ce ed hr
      obtain ⟨_, hff, _⟩ := (hL.ext ed).at hf
      obtain ⟨b4, o4, hq4, hd4⟩ := hff.elem1 (i := a) (v := iv (ku : Int)) (by rw [List.getElem?_map, hu]; rfl)
      exact ⟨bl, ol, hpl, hbi, row.1, cl ed, b3, o3, hq3, ⟨by dsimp only; omega, hlt4⟩, rb, hd3, b4, o4, hq4, ⟨by omega, hlt3⟩, (ku : Int), by rw [Int.toNat_natCast]; exact hd4, rfl, ed, by rw [hnext, h]; rfl⟩
    · rintro r w101 g ⟨e101, rfl⟩
      exact ⟨rfl, v - 1, by omega, b + 1, hb', by omega, by rw [w1], e101⟩
  · have hb' : b = row.2.length := by dsimp only at hge4; omega
    subst hb'
    rw [List.take_length]
    exact IfB.no (by simp [hin]) ⟨rfl, s - 1, by omega, a + 1, ha', by omega, by rw [wrap_of (by omega) (by omega)]; rfl, e84⟩
end Go.Proofs.Ytmmhbjbaallkfaa.Gx

/- Written by mkf.py: what is to be shown of functions, as Gx reckons it from their code. -/
namespace Go.Proofs.Ytmmhbjbaallkfaa.Gx
open Go
set_option linter.unusedVariables false
set_option maxRecDepth 100000

def F7j5 (t0 : Sl) (R : Value → World → Prop) (s20 : Sl) (s23 : Sl) (y50 : Nat → Int → World → Prop) (b52 : Nat) (n53 : Int) (y57 : Nat → Int × Int → World → Prop) (b59 : Nat) (x60 : Int × Int) (w61 : World) : Prop :=
 IfB (decide (x60.snd < (t0.n : Int)))
 (∃ (b64 : Nat),
 ∃ (b65 : Nat),
 t0.1 = some ({ block := b64, off := b65 } : Addr) ∧
 ((0 : Int) ≤ x60.2 ∧ x60.2 < (t0.2 : Int)) ∧
 ∃ (n66 : Int),
 w61.drew.cell? ({ block := b64, off := b65 + x60.2.toNat * (6 : Nat) + (0 : Nat) } : Addr) = some (Value.int IntKind.i64 n66) ∧
 ∃ (b67 : Nat),
 ∃ (b68 : Nat),
 s20.1 = some ({ block := b67, off := b68 } : Addr) ∧
 ((0 : Int) ≤ n53 ∧ n53 < (s20.2 : Int)) ∧
 ∃ (n69 : Int),
 w61.drew.cell? ({ block := b67, off := b68 + n53.toNat } : Addr) = some (Value.int IntKind.i64 n69) ∧
 IfB (n66 == n69) (([] : List Nat) = [] ∧ ∃ (b70 : Nat), b70 < b59 ∧ y57 b70 (IntKind.i64.wrap (x60.1 + (1 : Int)), IntKind.i64.wrap (x60.2 + (1 : Int))) w61.drew)
 (([] : List Nat) = [] ∧ ∃ (b71 : Nat), b71 < b59 ∧ y57 b71 (x60.1, IntKind.i64.wrap (x60.2 + (1 : Int))) w61.drew))
 (∃ (b72 : Nat),
 ∃ (b73 : Nat),
 s23.1 = some ({ block := b72, off := b73 } : Addr) ∧
 ((0 : Int) ≤ n53 ∧ n53 < (s23.2 : Int)) ∧
 ∃ (n74 : Int),
 w61.cell? ({ block := b72, off := b73 + n53.toNat } : Addr) = some (Value.int IntKind.i64 n74) ∧
 IfB (n74 != x60.1) (R (Value.bool false) w61) (([] : List Nat) = [] ∧ ∃ (b75 : Nat), b75 < b52 ∧ y50 b75 (IntKind.i64.wrap (n53 + (1 : Int))) w61))
def F7j3 (t0 : Sl) (R : Value → World → Prop) (s14 : Sl) (s17 : Sl) (s20 : Sl) (s23 : Sl) (y35 : Nat → Int → World → Prop) (b37 : Nat) (n38 : Int) (w39 : World) : Prop :=
 IfB (decide (n38 < (s14.n : Int)))
 (∃ (b42 : Nat),
 ∃ (b43 : Nat),
 s14.1 = some ({ block := b42, off := b43 } : Addr) ∧
 ((0 : Int) ≤ n38 ∧ n38 < (s14.2 : Int)) ∧
 ∃ (x44 : Int × Int),
 CellsAt w39.drew b42 (b43 + n38.toNat * (2 : Nat)) [Value.int IntKind.i64 x44.1, Value.int IntKind.i64 x44.2] ∧
 ∃ (b45 : Nat),
 ∃ (b46 : Nat),
 s17.1 = some ({ block := b45, off := b46 } : Addr) ∧
 ((0 : Int) ≤ n38 ∧ n38 < (s17.2 : Int)) ∧
 ∃ (x47 : Int × Int),
 CellsAt w39.drew b45 (b46 + n38.toNat * (2 : Nat)) [Value.int IntKind.i64 x47.1, Value.int IntKind.i64 x47.2] ∧
 ∃ (t48 : Bool),
 EqAt Try.prog (44 : Nat) (Value.agg #[Value.int IntKind.i64 x44.1, Value.int IntKind.i64 x44.2]) (Value.agg #[Value.int IntKind.i64 x47.1, Value.int IntKind.i64 x47.2]) t48 ∧
 IfB (!t48) (R (Value.bool false) w39.drew) (([] : List Nat) = [] ∧ ∃ (b49 : Nat), b49 < b37 ∧ y35 b49 (IntKind.i64.wrap (n38 + (1 : Int))) w39.drew))
 (∃ (y50 : Nat → Int → World → Prop),
 (∃ (b51 : Nat), y50 b51 (0 : Int) w39) ∧
 ∀ (b52 : Nat) (n53 : Int) (w54 : World) (y55 : Nat → Value),
 y50 b52 n53 w54 →
 IfB (decide (n53 < (s20.n : Int)))
 (∃ (y57 : Nat → Int × Int → World → Prop),
 (∃ (b58 : Nat), y57 b58 ((0 : Int), (0 : Int)) w54) ∧
 ∀ (b59 : Nat) (x60 : Int × Int) (w61 : World) (y62 : Nat → Value),
 y57 b59 x60 w61 →
 (F7j5 t0 R s20 s23 y50 b52 n53 y57 b59 x60 w61))
 (R (Value.bool true) w54))
def F7j1 (t0 : Sl) (R : Value → World → Prop) (t8 : Bool) (w9 : World) : Prop :=
 IfB t8 (R (Value.bool true) w9)
 (CX Try.prog (21 : Nat) #[Value.slice t0.1 t0.2 t0.3] w9 fun (v12 : Value) (w13 : World) =>
 ∃ (s14 : Sl),
 v12 = Value.slice s14.1 s14.2 s14.3 ∧
 CX Try.prog (22 : Nat) #[Value.slice t0.1 t0.2 t0.3] w13 fun (v15 : Value) (w16 : World) =>
 ∃ (s17 : Sl),
 v15 = Value.slice s17.1 s17.2 s17.3 ∧
 CX Try.prog (23 : Nat) #[Value.slice t0.1 t0.2 t0.3] w16 fun (v18 : Value) (w19 : World) =>
 ∃ (s20 : Sl),
 v18 = Value.slice s20.1 s20.2 s20.3 ∧
 CX Try.prog (24 : Nat) #[Value.slice t0.1 t0.2 t0.3] w19 fun (v21 : Value) (w22 : World) =>
 ∃ (s23 : Sl),
 v21 = Value.slice s23.1 s23.2 s23.3 ∧
 ∃ (y24 : Bool → World → Prop),
 IfB ((s14.2 : Int) != (s17.2 : Int)) (([] : List Nat) = [] ∧ y24 true w22)
 (CX Try.prog (26 : Nat) #[Value.slice t0.1 t0.2 t0.3] w22 fun (v25 : Value) (w26 : World) =>
 ∃ (s27 : Sl),
 v25 = Value.slice s27.1 s27.2 s27.3 ∧
 CX Try.prog (25 : Nat) #[Value.slice s27.1 s27.2 s27.3, Value.slice s20.1 s20.2 s20.3] w26 fun (v28 : Value) (w29 : World) =>
 ∃ (t30 : Bool), v28 = Value.bool t30 ∧ IfB (!t30) (([] : List Nat) = [] ∧ y24 true w29) (([] : List Nat) = [] ∧ y24 ((s23.2 : Int) != (s20.2 : Int)) w29)) ∧
 ∀ (t31 : Bool) (w32 : World) (y33 : Nat → Value),
 y24 t31 w32 →
 IfB t31 (R (Value.bool false) w32)
 (∃ (y35 : Nat → Int → World → Prop),
 (∃ (b36 : Nat), y35 b36 (0 : Int) w32) ∧
 ∀ (b37 : Nat) (n38 : Int) (w39 : World) (y40 : Nat → Value),
 y35 b37 n38 w39 →
 (F7j3 t0 R s14 s17 s20 s23 y35 b37 n38 w39)))
def F7 (t0 : Sl) (w : World) (R : Value → World → Prop) : Prop :=
 CX Try.prog (20 : Nat) #[] w fun (v1 : Value) (w2 : World) =>
 ∃ (t3 : Bool),
 v1 = Value.bool t3 ∧
 IfB (!t3) (R (Value.bool false) w2)
 (∃ (y4 : Bool → World → Prop),
 (CX Try.prog (11 : Nat) #[Value.slice t0.1 t0.2 t0.3] w2 fun (v5 : Value) (w6 : World) =>
 ∃ (t7 : Bool), v5 = Value.bool t7 ∧ IfB t7 (([] : List Nat) = [] ∧ y4 true w6) (([] : List Nat) = [] ∧ y4 (decide ((20 : Int) < (t0.n : Int))) w6)) ∧
 ∀ (t8 : Bool) (w9 : World) (y10 : Nat → Value),
 y4 t8 w9 →
 (F7j1 t0 R t8 w9))
theorem F7_ok (t0 : Sl) (w : World) (R : Value → World → Prop) (h : F7 t0 w R) : CW Try.prog 7 #[Value.slice t0.1 t0.2 t0.3] w R :=
  call_of tbOk mixed en7 Try.func7 rfl (.node (.nil) (.node (.nil) (.node (.join [(19, .one (.bool))] [13, 14, 15, 16, 17, 18, 19] (.nil) (.nil)) (.node (.nil) (.node (.nil) (.node (.nil) (.node (.join [(46, .one (.bool))] [28, 29, 30, 31, 32, 33, 34, 35, 36, 37, 38, 39, 40, 41, 42, 43, 44, 45, 46] (.nil) (.nil)) (.node (.node (.nil) (.loop [(7, .one (.int .i64))] [47, 48, 49, 50, 53, 54, 55, 56, 57, 58, 59, 60, 61, 2, 51, 52, 7] (.node (.nil) (.node (.node (.draw (.st 0 (.st 1 (.st 2 (.st 3 (.st 4 (.st 5 (.st 6 (.st 7 (.st 8 (.fin))))))))))) (.nil)) (.nil))))) (.node (.node (.nil) (.loop [(8, .one (.int .i64))] [62, 63, 64, 65, 9, 10, 68, 69, 70, 71, 74, 75, 76, 77, 78, 79, 80, 81, 82, 83, 84, 85, 72, 73, 86, 87, 88, 89, 90, 91, 2, 66, 67, 8] (.node (.nil) (.node (.node (.nil) (.node (.node (.nil) (.loop [(9, .one (.int .i64)), (10, .one (.int .i64))] [68, 69, 70, 71, 74, 75, 76, 77, 78, 79, 80, 81, 82, 83, 84, 85, 9, 72, 73, 10] (.node (.nil) (.node (.node (.draw (.st 0 (.st 1 (.st 2 (.st 3 (.st 4 (.st 5 (.st 6 (.st 7 (.st 8 (.st 9 (.fin)))))))))))) (.nil)) (.nil))))) (.nil))) (.nil))))) (.nil)))))))))) (by kernel_rfl) (Nat.le_of_ble_eq_true (by kernel_rfl)) (Eq.mp (α := F7 t0 w R) (by kernel_rfl) h)

def F9j2 (t0 : Sl) (R : Value → World → Prop) (t31 : Bool) (w32 : World) : Prop :=
 IfB t31 (R (Value.bool false) w32)
 (CX Try.prog (23 : Nat) #[Value.slice t0.1 t0.2 t0.3] w32 fun (v35 : Value) (w36 : World) =>
 ∃ (s37 : Sl),
 v35 = Value.slice s37.1 s37.2 s37.3 ∧
 CX Try.prog (28 : Nat) #[Value.slice t0.1 t0.2 t0.3, Value.slice s37.1 s37.2 s37.3] w36 fun (v38 : Value) (w39 : World) =>
 ∃ (s40 : Sl),
 v38 = Value.slice s40.1 s40.2 s40.3 ∧
 CX Try.prog (33 : Nat) #[Value.slice s40.1 s40.2 s40.3] w39 fun (v41 : Value) (w42 : World) =>
 ∃ (t43 : Bool), v41 = Value.bool t43 ∧ IfB t43 (R (Value.bool ((s40.2 : Int) == (t0.2 : Int))) w42) (R (Value.bool false) w42))
def F9j1 (t0 : Sl) (R : Value → World → Prop) (t8 : Bool) (w9 : World) : Prop :=
 IfB t8 (R (Value.bool true) w9)
 (CX Try.prog (30 : Nat) #[Value.slice t0.1 t0.2 t0.3] w9 fun (v12 : Value) (w13 : World) =>
 ∃ (x14 : Sl × Bool),
 v12 = Value.tuple #[Value.slice x14.fst.1 x14.fst.2 x14.fst.3, Value.bool x14.2] ∧
 CX Try.prog (31 : Nat) #[Value.slice t0.1 t0.2 t0.3] w13 fun (v15 : Value) (w16 : World) =>
 ∃ (x17 : Sl × Bool),
 v15 = Value.tuple #[Value.slice x17.fst.1 x17.fst.2 x17.fst.3, Value.bool x17.2] ∧
 ∃ (y18 : Bool → World → Prop),
 IfB (!x14.2 == x17.2) (([] : List Nat) = [] ∧ y18 true w16)
 (CX Try.prog (25 : Nat) #[Value.slice x14.fst.1 x14.fst.2 x14.fst.3, Value.slice x17.fst.1 x17.fst.2 x17.fst.3] w16 fun (v19 : Value) (w20 : World) =>
 ∃ (t21 : Bool),
 v19 = Value.bool t21 ∧
 IfB (!t21) (([] : List Nat) = [] ∧ y18 true w20)
 (CX Try.prog (32 : Nat) #[Value.slice t0.1 t0.2 t0.3] w20 fun (v22 : Value) (w23 : World) =>
 ∃ (t24 : Bool),
 v22 = Value.bool t24 ∧
 IfB (!t24 == x17.2) (([] : List Nat) = [] ∧ y18 true w23)
 (CX Try.prog (33 : Nat) #[Value.slice t0.1 t0.2 t0.3] w23 fun (v25 : Value) (w26 : World) =>
 ∃ (t27 : Bool),
 v25 = Value.bool t27 ∧
 CX Try.prog (34 : Nat) #[Value.slice t0.1 t0.2 t0.3] w26 fun (v28 : Value) (w29 : World) => ∃ (t30 : Bool), v28 = Value.bool t30 ∧ ([] : List Nat) = [] ∧ y18 (!t27 == t30) w29))) ∧
 ∀ (t31 : Bool) (w32 : World) (y33 : Nat → Value),
 y18 t31 w32 →
 (F9j2 t0 R t31 w32))
def F9 (t0 : Sl) (w : World) (R : Value → World → Prop) : Prop :=
 CX Try.prog (20 : Nat) #[] w fun (v1 : Value) (w2 : World) =>
 ∃ (t3 : Bool),
 v1 = Value.bool t3 ∧
 IfB (!t3) (R (Value.bool false) w2)
 (∃ (y4 : Bool → World → Prop),
 (CX Try.prog (11 : Nat) #[Value.slice t0.1 t0.2 t0.3] w2 fun (v5 : Value) (w6 : World) =>
 ∃ (t7 : Bool), v5 = Value.bool t7 ∧ IfB t7 (([] : List Nat) = [] ∧ y4 true w6) (([] : List Nat) = [] ∧ y4 (decide ((20 : Int) < (t0.n : Int))) w6)) ∧
 ∀ (t8 : Bool) (w9 : World) (y10 : Nat → Value),
 y4 t8 w9 →
 (F9j1 t0 R t8 w9))
theorem F9_ok (t0 : Sl) (w : World) (R : Value → World → Prop) (h : F9 t0 w R) : CW Try.prog 9 #[Value.slice t0.1 t0.2 t0.3] w R :=
  call_of tbOk mixed en9 Try.func9 rfl (.node (.nil) (.node (.nil) (.node (.join [(16, .one (.bool))] [10, 11, 12, 13, 14, 15, 16] (.nil) (.nil)) (.node (.nil) (.node (.nil) (.node (.join [(48, .one (.bool))] [27, 28, 29, 30, 31, 32, 33, 34, 35, 36, 37, 38, 39, 40, 41, 42, 43, 44, 45, 46, 47, 48] (.nil) (.nil)) (.nil))))))) (by kernel_rfl) (Nat.le_of_ble_eq_true (by kernel_rfl)) (Eq.mp (α := F9 t0 w R) (by kernel_rfl) h)

end Go.Proofs.Ytmmhbjbaallkfaa.Gx

/- Package gimmallaw29: SerialAhead. -/
namespace Go.Proofs.Ytmmhbjbaallkfaa.Gx
open Go
set_option linter.unusedSimpArgs false
set_option linter.unusedVariables false

theorem rep_ndR {A : Nat → Prop} {w : World} {x : tyNd.den} {cs : List Value} (h : rep A w tyNd x cs) : ∃ n : Nd, cs = nL n ∧ NdIn w n ∧ (-9223372036854775808 ≤ n.v.1 ∧ n.v.1 ≤ 9223372036854775807) := by
  obtain ⟨c1, d1, rfl, ⟨rfl, k1, k2⟩, c2, d2, rfl, ⟨rfl, _⟩, c3, d3, rfl, ⟨rfl, _⟩, c4, d4, rfl, h4, c5, d5, rfl, h5, h6⟩ := h
  obtain ⟨s, xs, rfl, hxs, _⟩ := rep_spans h5
  obtain ⟨t, ys, rfl, hys, _⟩ := rep_spans h6
  have h4 : c4 = [.bool x.2.2.2.1] := h4
  subst h4
  exact ⟨⟨(x.1, x.2.1, x.2.2.1, x.2.2.2.1, s, t), xs, ys⟩, rfl, ⟨hxs, hys⟩, k1, k2⟩
theorem rep_histR {A : Nat → Prop} {w : World} {l : List tyNd.den} {cs : List Value} (h : rep A w (.sl tyNd) l cs) : ∃ (t : Sl) (hs : List Nd), cs = [slV t] ∧ HIn w t hs ∧ SgR hs := by
  obtain ⟨s, rfl, h1, h2, h3, h4, css, h5, h6, h7⟩ := h
  obtain ⟨ns, hns, hq⟩ := pickAll (f := nL) (Q := fun n => NdIn w n ∧ (-9223372036854775808 ≤ n.v.1 ∧ n.v.1 ≤ 9223372036854775807)) fun c hc => by
    obtain ⟨x, hx⟩ := rep_each h5 h6 c hc
    exact rep_ndR hx
  have hlen : ns.length = l.length := by rw [← h5, hns, List.length_map]
  refine ⟨s, ns, rfl, ⟨?_, fun n hn => (hq n hn).1, h2, by omega⟩, fun n hn => (hq n hn).2⟩
  rw [List.flatMap_def, ← hns]; exact h7

theorem eqPr (x y : Int × Int) : EqAt Try.prog 44 (prV x) (prV y) ([x.1, x.2] == [y.1, y.2]) :=
  eqAt_ints tbOk (ti := tt44) (e := 3) (te := tt3) (k := .i64) (k' := .i64) (n := 2) (xs := [x.1, x.2]) (ys := [y.1, y.2]) rfl rfl rfl rfl rfl rfl rfl (by kernel_rfl)

theorem keys_ext : ∀ {xs ys : List (Int × Int)}, xs.Pairwise (fun x y => SfP.key x < SfP.key y) → ys.Pairwise (fun x y => SfP.key x < SfP.key y) → (∀ p, p ∈ xs ↔ p ∈ ys) → xs = ys
  | [], [], _, _, _ => rfl
  | [], y :: ys, _, _, h => by have := (h y).2 (by simp); cases this
  | x :: xs, [], _, _, h => by have := (h x).1 (by simp); cases this
  | x :: xs, y :: ys, hx, hy, h => by
    rw [List.pairwise_cons] at hx hy
    have e : x = y := by
      rcases List.mem_cons.1 ((h x).1 (by simp)) with e | e
      · exact e
      · rcases List.mem_cons.1 ((h y).2 (by simp)) with e' | e'
        · exact e'.symm
        · have := hx.1 _ e'; have := hy.1 _ e; omega
    subst e
    refine congrArg _ (keys_ext hx.2 hy.2 fun k => ?_)
    constructor
    · intro hk
      rcases List.mem_cons.1 ((h k).1 (List.mem_cons_of_mem _ hk)) with e | e
      · rw [e] at hk; have := hx.1 _ hk; omega
      · exact e
    · intro hk
      rcases List.mem_cons.1 ((h k).2 (List.mem_cons_of_mem _ hk)) with e | e
      · rw [e] at hk; have := hy.1 _ hk; omega
      · exact e

theorem serialAhead (w : World) {l : List tyNd.den} {c0 : Value} (h0 : rep (fun _ => True) w (.sl tyNd) l [c0]) : CW Try.prog 7 #[c0] w fun v w' => v = .bool true ∧ Ext w w' := by
  obtain ⟨t, hs, e0, hH, hq⟩ := rep_histR h0
  simp only [List.cons.injEq, and_true] at e0
  subst e0
  refine F7_ok t w _ ((c20 w).use ?_)
  rintro _ w2 ⟨rfl, e2⟩
  have h2 := hH.ext e2
  have hn := hH.n
  refine ⟨true, rfl, IfB.no rfl ⟨fun r W => w2 = W ∧ (r = false → ¬ GrtP hs ∧ hs.length ≤ 20), (c11 h2.rd (fun n hn => (h2.nd n hn).rn) (Nat.le_trans hH.len maxLen_le)).use ?_, ?_⟩⟩
  · rintro _ _ ⟨r, rfl, hr, rfl⟩
    refine ⟨r, rfl, IfB.intro (fun h => ⟨rfl, rfl, fun h => (by cases h)⟩) fun h => ⟨rfl, rfl, fun h' => ⟨fun hg => (by rw [hr.2 hg] at h; cases h), ?_⟩⟩⟩
    have := of_decide_eq_false h'
    omega
  rintro r _ g ⟨rfl, hr⟩
  unfold F7j1
  refine IfB.intro (fun h => ⟨rfl, e2⟩) fun h => ?_
  obtain ⟨hg, hl20⟩ := hr h
  have hS := h2.hst hg
  refine (c21 hS (by omega) hq).use ?_
  rintro _ w13 ⟨s14, xs, rfl, hx1, hx2, hxl, hO14, e13, _⟩
  refine ⟨s14, rfl, (c22 (hS.ext e13) (by omega) hq).use ?_⟩
  rintro _ w16 ⟨s17, ys, rfl, hy1, hy2, hyl, hO17, e16, _⟩
  have hxy : xs = ys := keys_ext hx1 hy1 fun p => (hx2 p).trans (hy2 p).symm
  subst hxy
  have E16 : Ext w2 w16 := e13.trans e16
  refine ⟨s17, rfl, (c23 (hS.ext E16)).use ?_⟩
  rintro _ w19 ⟨s20, ls, rfl, hls, hlsl, hO20, e19, _⟩
  have E19 := E16.trans e19
  refine ⟨s20, rfl, (c24 (hS.ext E19) (by omega)).use ?_⟩
  rintro _ w22 ⟨s23, ls', rfl, hls', hO23, e22, _⟩
  have hle := hls'.uniq hls
  subst hle
  have E22 := E19.trans e22
  have n14 := owsN sv_len (by omega) hO14
  have n17 := owsN sv_len (by omega) hO17
  have n20 := owsI hO20
  have n23 := owsI hO23
  rw [List.length_map] at n23
  refine ⟨s23, rfl, fun r W => Ext w22 W ∧ r = false, IfB.no (by simp; omega) ((c26 (hS.ext E22)).use ?_), ?_⟩
  · rintro _ w26 ⟨s27, ls2, rfl, hls2, _, hO27, e26, _⟩
    have hle := hls2.uniq hls
    subst hle
    refine ⟨s27, rfl, (c25 hO27.rd ((hO20.ext e22).ext e26).rd (by omega)).use ?_⟩
    rintro _ w29 ⟨rfl, e29⟩
    exact ⟨_, rfl, IfB.no (by simp) ⟨rfl, e26.trans e29, by simp; omega⟩⟩
  rintro _ w32 g ⟨e32, rfl⟩
  have E32 := E22.trans e32
  have R14 := (((hO14.ext e16).ext e19).ext e22).ext e32
  have R17 := ((hO17.ext e19).ext e22).ext e32
  have R20 := (hO20.ext e22).ext e32
  have R23 := hO23.ext e32
  refine IfB.no rfl ⟨fun m x W => ∃ i : Nat, i ≤ xs.length ∧ m + i = xs.length ∧ x = (i : Int) ∧ Ext w32 W, ⟨xs.length, 0, Nat.zero_le _, rfl, rfl, Ch.refl _ _⟩, ?_⟩
  rintro m _ w39 g ⟨i, hi, hmi, rfl, e39⟩
  unfold F7j3
  refine IfB.dec (fun hlt => ?_) fun hge => ?_
  · have hi' : i < xs.length := by omega
    have hx : xs[i]? = some xs[i] := List.getElem?_eq_getElem hi'
    generalize xs[i] = x at hx
    have ed := e39.trans (extDrew w39)
    obtain ⟨b1, o1, hp1, hc1⟩ := (R14.ext ed).rd.elem (i := i) (by omega) (by omega) (flatGet sv_len hx)
    obtain ⟨b2, o2, hp2, hc2⟩ := (R17.ext ed).rd.elem (i := i) (by omega) (by omega) (flatGet sv_len hx)
    exact ⟨b1, o1, hp1, ⟨by omega, hlt⟩, x, by rw [Int.toNat_natCast]; exact hc1, b2, o2, hp2, ⟨by omega, by omega⟩, x, by rw [Int.toNat_natCast]; exact hc2, _, eqPr x x, IfB.no (by simp) ⟨rfl, m - 1, by omega, i + 1, hi', by omega, by rw [wrap_of (by omega) (by omega)]; rfl, ed⟩⟩
  · refine ⟨fun m x W => ∃ i : Nat, i ≤ ls'.length ∧ m + i = ls'.length ∧ x = (i : Int) ∧ Ext w32 W, ⟨ls'.length, 0, Nat.zero_le _, rfl, rfl, e39⟩, ?_⟩
    rintro m _ w54 g ⟨j, hj, hmj, rfl, e54⟩
    refine IfB.dec (fun hlt2 => ?_) fun hge2 => ⟨rfl, (e2.trans E32).trans e54⟩
    have hj' : j < ls'.length := by omega
    have hx : ls'[j]? = some ls'[j] := List.getElem?_eq_getElem hj'
    generalize ls'[j] = s at hx
    refine ⟨fun q x W => ∃ k : Nat, k ≤ hs.length ∧ q + k = hs.length ∧ x = (((ownL (hs.take k) s).length : Int), (k : Int)) ∧ Ext w32 W, ⟨hs.length, 0, Nat.zero_le _, rfl, rfl, e54⟩, ?_⟩
    rintro q _ w61 g ⟨k, hk, hqk, rfl, e61⟩
    have hol := ownL_len (hs.take k) s
    rw [List.length_take] at hol
    unfold F7j5
    refine IfB.dec (fun hlt3 => ?_) fun hge3 => ?_
    · have hk' : k < hs.length := by dsimp only at hlt3; omega
      have hy : hs[k]? = some hs[k] := List.getElem?_eq_getElem hk'
      have htk := take_succ_get hy
      generalize hs[k] = n at hy htk
      have ed := e61.trans (extDrew w61)
      obtain ⟨b1, o1, hp1, hc1⟩ := ((hS.ext E32).ext ed).sg hy
      obtain ⟨b2, o2, hp2, hc2⟩ := rdI_get (R20.ext ed).rd hx
      have w1 : IntKind.i64.wrap ((k : Int) + 1) = ((k + 1 : Nat) : Int) := by rw [wrap_of (by omega) (by omega)]; rfl
      have hown : ownL (hs.take (k + 1)) s = ownL (hs.take k) s ++ if n.v.1 == s then [n] else [] := by
        unfold ownL; rw [htk, List.filter_append]; congr 1; cases hh : n.v.1 == s <;> simp [hh]
      refine ⟨b1, o1, hp1, (⟨by omega, by omega⟩ : (0 : Int) ≤ (k : Int) ∧ (k : Int) < (t.n : Int)), n.v.1, hc1, b2, o2, hp2, ⟨by omega, hlt2⟩, s, by rw [Int.toNat_natCast]; exact hc2, IfB.intro (fun h => ⟨rfl, q - 1, by omega, k + 1, hk', by omega, ?_, ed⟩) fun h => ⟨rfl, q - 1, by omega, k + 1, hk', by omega, ?_, ed⟩⟩
      · rw [hown, h, w1, wrap_of (by dsimp only; omega) (by dsimp only; omega)]; simp
      · rw [hown, h, w1]; simp
    · have hk' : k = hs.length := by dsimp only at hge3; omega
      subst hk'
      rw [List.take_length]
      obtain ⟨b3, o3, hp3, hc3⟩ := rdI_get (R23.ext e61).rd (i := j) (x := ((ownL hs s).length : Int)) (by rw [List.getElem?_map, hx]; rfl)
      exact ⟨b3, o3, hp3, ⟨by omega, by omega⟩, _, by rw [Int.toNat_natCast]; exact hc3, IfB.no (by simp) ⟨rfl, m - 1, by omega, j + 1, hj', by omega, by rw [wrap_of (by omega) (by omega)]; rfl, e61⟩⟩
end Go.Proofs.Ytmmhbjbaallkfaa.Gx

/- gimmallaw29.SerialAhead returns true for all arguments, and leaves what was there as it was. No condition beyond the statement. -/
namespace Go.Proofs.Ytmmhbjbaallkfaa.serialAhead
open Go.ChangeShapes Go.WideShapes Go.ChangeAt Go.RowKit
open Go.ChangeMaps (open_string shut_string)
set_option linter.unusedVariables false

theorem own : ownKnob Try.prog.godebug = none := by kernel_rfl

set_option maxRecDepth 100000 in
theorem lifted (os : Os) (started : os.Started) (H : Type) (enc : TypeId × Value → H) :
    ReturnsInHanded {} Try.checked os 7 .any (Rows.serialAheadSpec.pre6 enc Try.prog Try.f7 Rows.serialAheadRow.domain false) (Rows.serialAheadSpec.post enc Try.prog Try.f7 false true false false) := by
  refine returnsInHanded_of_change (C := Try.checked) own started (by kernel_rfl) Try.func7
    (ChangeSpec.witness6 (enc := enc) (C := Try.checked) false ⟨#[], #[.slice none 0 0], []⟩ 8 (by kernel_rfl) (by kernel_rfl) (by kernel_rfl) (by kernel_rfl)) ?_
  intro W base args ds gs before hval0 hW hcnd _
  have hval : ∀ (j : Nat) t v, Try.f7.params[j]? = some t → args[j]? = some v → Value.okWide Try.prog W .any base t v := hval0
  have hW' := hW
  have hlt := hW.lt
  obtain ⟨p, q, hA0, hV, rfl, hfz, hnd⟩ := hW
  have hA : DataW.TrodAll enc Try.prog W 0 (fun _ => true) true Try.f7.params.toList args.toList ds p := hA0
  have hpar : Try.f7.params = #[22] := rfl
  rw [hpar] at hA hval
  obtain ⟨v0, vs0, d0, ds0, p0, q0, hargs, rfl, rfl, h0, r0⟩ := trodAll_cons hA
  obtain ⟨rfl, rfl, rfl⟩ := trodAll_nil r0
  obtain rfl : args = #[v0] := by cases args; simp_all
  obtain ⟨rfl, rfl⟩ := trodVars_none hV
  clear hA0 hval0
  obtain ⟨x0, e0⟩ := Gx.open_arg (d := 12) (ty := (.sl (.pair (.int .i64) (.pair (.int .i64) (.pair (.int .i64) (.pair .bool (.pair (.sl (.pair (.int .i64) (.int .i64))) (.sl (.pair (.int .i64) (.int .i64)))))))))) (by kernel_rfl) h0
  obtain ⟨c0, g0⟩ : ∃ c, v0.cells.toList = [c] := List.length_eq_one_iff.1 (Gx.rep_len e0)
  have f0 : v0 = c0 := Gx.val_of_cells (hval 0 22 v0 rfl rfl) (fun fs n e => by rw [Try.underlying22]; exact ⟨by simp, by simp⟩) g0
  rw [g0] at e0
  have call : Calls Try.prog 7 #[v0] W fun e w' => e = .returned (.bool true) ∧ Below W.heap.size W w' := by
    rw [f0]
    refine (Gx.serialAhead W e0).calls.mono ?_
    rintro e w' ⟨v, rfl, rfl, hx⟩
    exact ⟨rfl, hx.below⟩
  refine call.mono fun e W' ⟨he, hg⟩ => ?_
  subst he
  have b0 : ∀ sp : Nat → Bool, (∀ x ∈ p0, sp x.block = true) → DataW.Trod enc Try.prog W' 0 sp true 22 v0 d0 p0 := fun sp hsp => Gx.trod_keep (by kernel_rfl) (by kernel_rfl) (by decide +kernel) h0 hg (fun x hx => hlt x (by simp [hx])) hsp
  exact ⟨_, rfl, Gx.post_of_below (pa := (p0 ++ [])) (pv := []) hW' hg (fun _ _ _ => (trodAll_cons_mk (shut_bool Try.underlying4 _) trodAll_mk0)) (fun sp hsp => by rw [hpar]; exact (trodAll_cons_mk (b0 sp fun x hx => hsp x (by simp [hx])) trodAll_mk0)) (fun _ _ => rfl) (by simp)
    (ok_one (by kernel_rfl) rfl (okWide_bool_mk Try.underlying4 _))⟩

theorem over : Rows.serialAheadRow.holds Try.pinned (OpenSpec.ofChange Rows.serialAheadSpec) :=
  OpenClaim.holds_of_wide 7 Try.f7 rfl rfl rfl rfl rfl rfl rfl ⟨rfl, rfl, rfl, rfl, rfl⟩ rfl rfl rfl rfl rfl (by kernel_rfl) Try.func7 (by kernel_rfl)
    (of_decide_eq_true (by kernel_rfl)) (by unfold Func.isWrapper; first | (rw [if_pos (by decide +kernel)]; kernel_rfl) | (rw [if_neg (by decide +kernel)]; exact ⟨rfl, rfl⟩))
    (fun os started H enc _ => lifted os started H enc)

/-- The statement. -/
theorem proved : Rows.SerialAheadSaid :=
  over
#print axioms proved
end Go.Proofs.Ytmmhbjbaallkfaa.serialAhead
