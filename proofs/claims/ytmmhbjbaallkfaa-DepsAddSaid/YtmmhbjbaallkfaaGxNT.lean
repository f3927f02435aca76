/- Written by mkf.py: what is to be shown of functions, as Gx reckons it from their code. -/
import Derived.Test.YtmmhbjbaallkfaaGxT
namespace Go.Proofs.Ytmmhbjbaallkfaa.Gx
open Go
set_option linter.unusedVariables false
set_option maxRecDepth 100000

def F15k1 (b1 : Nat) (n6 : Int) (t0 : Sl) (w19 : World) (n18 : Int) (b17 : Nat) (y15 : Nat → Int → World → Prop) : Prop :=
 ∃ (b22 : Nat),
 ∃ (b23 : Nat),
 some ({ block := b1, off := (0 : Nat) } : Addr) = some ({ block := b22, off := b23 } : Addr) ∧
 ((0 : Int) ≤ n6 ∧ n6 < ((((t0.2 : Int)).toNat : Nat) : Int)) ∧
 ∃ (s24 : Sl),
 w19.drew.cell? ({ block := b22, off := b23 + n6.toNat } : Addr) = some (Value.slice s24.1 s24.2 s24.3) ∧
 ∃ (b25 : Nat),
 ∃ (b26 : Nat),
 t0.1 = some ({ block := b25, off := b26 } : Addr) ∧
 ((0 : Int) ≤ n6 ∧ n6 < (t0.2 : Int)) ∧
 ∃ (n27 : Int),
 w19.drew.cell? ({ block := b25, off := b26 + n6.toNat * (6 : Nat) + (0 : Nat) } : Addr) = some (Value.int IntKind.i64 n27) ∧
 ∃ (b28 : Nat),
 ∃ (b29 : Nat),
 t0.1 = some ({ block := b28, off := b29 } : Addr) ∧
 ((0 : Int) ≤ n18 ∧ n18 < (t0.2 : Int)) ∧
 ∃ (n30 : Int),
 w19.drew.cell? ({ block := b28, off := b29 + n18.toNat * (6 : Nat) + (0 : Nat) } : Addr) = some (Value.int IntKind.i64 n30) ∧
 IfB (n27 == n30)
 (w19.drew.cell? ({ block := b22, off := b23 + n6.toNat } : Addr) = some (Value.slice s24.1 s24.2 s24.3) ∧
 ∃ (b31 : Nat),
 ∃ (b32 : Nat),
 s24.1 = some ({ block := b31, off := b32 } : Addr) ∧
 ((0 : Int) ≤ n18 ∧ n18 < (s24.2 : Int)) ∧
 #[Value.bool true].size = (1 : Nat) ∧
 StoreP w19.drew b31 (b32 + n18.toNat) [Value.bool true] fun (w33 : World) => ([] : List Nat) = [] ∧ ∃ (b34 : Nat), b34 < b17 ∧ y15 b34 (IntKind.i64.wrap (n18 + (1 : Int))) w33)
 (∃ (b35 : Nat),
 ∃ (b36 : Nat),
 t0.1 = some ({ block := b35, off := b36 } : Addr) ∧
 ((0 : Int) ≤ n6 ∧ n6 < (t0.2 : Int)) ∧
 ∃ (x37 : Int × Int × Int × Bool × Sl × Sl),
 CellsAt w19.drew b35 (b36 + n6.toNat * (6 : Nat))
 [Value.int IntKind.i64 x37.1, Value.int IntKind.i64 x37.snd.1, Value.int IntKind.i64 x37.snd.snd.1, Value.bool x37.snd.snd.snd.1,
 Value.slice x37.snd.snd.snd.snd.fst.1 x37.snd.snd.snd.snd.fst.2 x37.snd.snd.snd.snd.fst.3, Value.slice x37.snd.snd.snd.snd.snd.1 x37.snd.snd.snd.snd.snd.2 x37.snd.snd.snd.snd.snd.3] ∧
 ∃ (b38 : Nat),
 ∃ (b39 : Nat),
 t0.1 = some ({ block := b38, off := b39 } : Addr) ∧
 ((0 : Int) ≤ n18 ∧ n18 < (t0.2 : Int)) ∧
 ∃ (x40 : Int × Int × Int × Bool × Sl × Sl),
 CellsAt w19.drew b38 (b39 + n18.toNat * (6 : Nat))
 [Value.int IntKind.i64 x40.1, Value.int IntKind.i64 x40.snd.1, Value.int IntKind.i64 x40.snd.snd.1, Value.bool x40.snd.snd.snd.1,
 Value.slice x40.snd.snd.snd.snd.fst.1 x40.snd.snd.snd.snd.fst.2 x40.snd.snd.snd.snd.fst.3, Value.slice x40.snd.snd.snd.snd.snd.1 x40.snd.snd.snd.snd.snd.2 x40.snd.snd.snd.snd.snd.3] ∧
 CX Try.prog (12 : Nat)
 #[Value.agg
 #[Value.int IntKind.i64 x37.1, Value.int IntKind.i64 x37.snd.1, Value.int IntKind.i64 x37.snd.snd.1, Value.bool x37.snd.snd.snd.1,
 Value.slice x37.snd.snd.snd.snd.fst.1 x37.snd.snd.snd.snd.fst.2 x37.snd.snd.snd.snd.fst.3, Value.slice x37.snd.snd.snd.snd.snd.1 x37.snd.snd.snd.snd.snd.2 x37.snd.snd.snd.snd.snd.3],
 Value.agg
 #[Value.int IntKind.i64 x40.1, Value.int IntKind.i64 x40.snd.1, Value.int IntKind.i64 x40.snd.snd.1, Value.bool x40.snd.snd.snd.1,
 Value.slice x40.snd.snd.snd.snd.fst.1 x40.snd.snd.snd.snd.fst.2 x40.snd.snd.snd.snd.fst.3, Value.slice x40.snd.snd.snd.snd.snd.1 x40.snd.snd.snd.snd.snd.2 x40.snd.snd.snd.snd.snd.3]]
 w19.drew fun (v41 : Value) (w42 : World) =>
 ∃ (t43 : Bool),
 v41 = Value.bool t43 ∧
 w42.cell? ({ block := b22, off := b23 + n6.toNat } : Addr) = some (Value.slice s24.1 s24.2 s24.3) ∧
 ∃ (b44 : Nat),
 ∃ (b45 : Nat),
 s24.1 = some ({ block := b44, off := b45 } : Addr) ∧
 ((0 : Int) ≤ n18 ∧ n18 < (s24.2 : Int)) ∧
 #[Value.bool t43].size = (1 : Nat) ∧
 StoreP w42 b44 (b45 + n18.toNat) [Value.bool t43] fun (w46 : World) => ([] : List Nat) = [] ∧ ∃ (b47 : Nat), b47 < b17 ∧ y15 b47 (IntKind.i64.wrap (n18 + (1 : Int))) w46)
def F15j2 (t0 : Sl) (b1 : Nat) (y3 : Nat → Int → World → Prop) (b5 : Nat) (n6 : Int) (y15 : Nat → Int → World → Prop) (b17 : Nat) (n18 : Int) (w19 : World) : Prop :=
 IfB (decide (n18 < n6))
 (F15k1 b1 n6 t0 w19 n18 b17 y15)
 (([] : List Nat) = [] ∧ ∃ (b48 : Nat), b48 < b5 ∧ y3 b48 (IntKind.i64.wrap (n6 + (1 : Int))) w19)
def F15j5 (t0 : Sl) (b1 : Nat) (n52 : Int) (y56 : Nat → Int → World → Prop) (b58 : Nat) (n59 : Int) (y63 : Nat → Int → World → Prop) (b65 : Nat) (n66 : Int) (w67 : World) : Prop :=
 IfB (decide (n66 < (t0.n : Int)))
 (∃ (b70 : Nat),
 ∃ (b71 : Nat),
 some ({ block := b1, off := (0 : Nat) } : Addr) = some ({ block := b70, off := b71 } : Addr) ∧
 ((0 : Int) ≤ n59 ∧ n59 < ((((t0.2 : Int)).toNat : Nat) : Int)) ∧
 ∃ (s72 : Sl),
 w67.cell? ({ block := b70, off := b71 + n59.toNat } : Addr) = some (Value.slice s72.1 s72.2 s72.3) ∧
 ∃ (b73 : Nat),
 ∃ (b74 : Nat),
 s72.1 = some ({ block := b73, off := b74 } : Addr) ∧
 ((0 : Int) ≤ n52 ∧ n52 < (s72.2 : Int)) ∧
 ∃ (t75 : Bool),
 w67.cell? ({ block := b73, off := b74 + n52.toNat } : Addr) = some (Value.bool t75) ∧
 IfB t75
 (∃ (b76 : Nat),
 ∃ (b77 : Nat),
 some ({ block := b1, off := (0 : Nat) } : Addr) = some ({ block := b76, off := b77 } : Addr) ∧
 ((0 : Int) ≤ n52 ∧ n52 < ((((t0.2 : Int)).toNat : Nat) : Int)) ∧
 ∃ (s78 : Sl),
 w67.cell? ({ block := b76, off := b77 + n52.toNat } : Addr) = some (Value.slice s78.1 s78.2 s78.3) ∧
 ∃ (b79 : Nat),
 ∃ (b80 : Nat),
 s78.1 = some ({ block := b79, off := b80 } : Addr) ∧
 ((0 : Int) ≤ n66 ∧ n66 < (s78.2 : Int)) ∧
 ∃ (t81 : Bool),
 w67.cell? ({ block := b79, off := b80 + n66.toNat } : Addr) = some (Value.bool t81) ∧
 IfB t81
 (∃ (b82 : Nat),
 ∃ (b83 : Nat),
 some ({ block := b1, off := (0 : Nat) } : Addr) = some ({ block := b82, off := b83 } : Addr) ∧
 ((0 : Int) ≤ n59 ∧ n59 < ((((t0.2 : Int)).toNat : Nat) : Int)) ∧
 ∃ (s84 : Sl),
 w67.cell? ({ block := b82, off := b83 + n59.toNat } : Addr) = some (Value.slice s84.1 s84.2 s84.3) ∧
 ∃ (b85 : Nat),
 ∃ (b86 : Nat),
 s84.1 = some ({ block := b85, off := b86 } : Addr) ∧
 ((0 : Int) ≤ n66 ∧ n66 < (s84.2 : Int)) ∧
 #[Value.bool true].size = (1 : Nat) ∧
 StoreP w67 b85 (b86 + n66.toNat) [Value.bool true] fun (w87 : World) => ([] : List Nat) = [] ∧ ∃ (b88 : Nat), b88 < b65 ∧ y63 b88 (IntKind.i64.wrap (n66 + (1 : Int))) w87)
 (([] : List Nat) = [] ∧ ∃ (b89 : Nat), b89 < b65 ∧ y63 b89 (IntKind.i64.wrap (n66 + (1 : Int))) w67))
 (([] : List Nat) = [] ∧ ∃ (b90 : Nat), b90 < b65 ∧ y63 b90 (IntKind.i64.wrap (n66 + (1 : Int))) w67))
 (([] : List Nat) = [] ∧ ∃ (b91 : Nat), b91 < b58 ∧ y56 b91 (IntKind.i64.wrap (n59 + (1 : Int))) w67)
def F15j3 (t0 : Sl) (R : Value → World → Prop) (b1 : Nat) (y49 : Nat → Int → World → Prop) (b51 : Nat) (n52 : Int) (w53 : World) : Prop :=
 IfB (decide (n52 < (t0.n : Int)))
 (∃ (y56 : Nat → Int → World → Prop),
 (∃ (b57 : Nat), y56 b57 (0 : Int) w53) ∧
 ∀ (b58 : Nat) (n59 : Int) (w60 : World) (y61 : Nat → Value),
 y56 b58 n59 w60 →
 IfB (decide (n59 < (t0.n : Int)))
 (∃ (y63 : Nat → Int → World → Prop),
 (∃ (b64 : Nat), y63 b64 (0 : Int) w60) ∧
 ∀ (b65 : Nat) (n66 : Int) (w67 : World) (y68 : Nat → Value),
 y63 b65 n66 w67 →
 (F15j5 t0 b1 n52 y56 b58 n59 y63 b65 n66 w67))
 (([] : List Nat) = [] ∧ ∃ (b92 : Nat), b92 < b51 ∧ y49 b92 (IntKind.i64.wrap (n52 + (1 : Int))) w60))
 (R (Value.slice (some ({ block := b1, off := (0 : Nat) } : Addr)) ((t0.2 : Int)).toNat ((t0.2 : Int)).toNat) w53)
def F15j1 (t0 : Sl) (R : Value → World → Prop) (b1 : Nat) (y3 : Nat → Int → World → Prop) (b5 : Nat) (n6 : Int) (w7 : World) : Prop :=
 IfB (decide (n6 < (t0.n : Int)))
 (((0 : Int) ≤ (t0.2 : Int) ∧ (t0.2 : Int) ≤ (t0.2 : Int) ∧ (t0.2 : Int) ≤ (281474976710656 : Int) ∧ ((1 : Nat) : Int) * (t0.2 : Int) ≤ (281474976710656 : Int)) ∧
 AllocP w7 (Obj.cells { toList := zc #[Value.bool false] ((t0.2 : Int)).toNat } (4 : Nat)) fun (b10 : Nat) (w11 : World) =>
 ∃ (b12 : Nat),
 ∃ (b13 : Nat),
 some ({ block := b1, off := (0 : Nat) } : Addr) = some ({ block := b12, off := b13 } : Addr) ∧
 ((0 : Int) ≤ n6 ∧ n6 < ((((t0.2 : Int)).toNat : Nat) : Int)) ∧
 #[Value.slice (some ({ block := b10, off := (0 : Nat) } : Addr)) ((t0.2 : Int)).toNat ((t0.2 : Int)).toNat].size = (1 : Nat) ∧
 StoreP w11 b12 (b13 + n6.toNat) [Value.slice (some ({ block := b10, off := (0 : Nat) } : Addr)) ((t0.2 : Int)).toNat ((t0.2 : Int)).toNat] fun (w14 : World) =>
 ∃ (y15 : Nat → Int → World → Prop),
 (∃ (b16 : Nat), y15 b16 (0 : Int) w14) ∧
 ∀ (b17 : Nat) (n18 : Int) (w19 : World) (y20 : Nat → Value),
 y15 b17 n18 w19 →
 (F15j2 t0 b1 y3 b5 n6 y15 b17 n18 w19))
 (∃ (y49 : Nat → Int → World → Prop),
 (∃ (b50 : Nat), y49 b50 (0 : Int) w7) ∧
 ∀ (b51 : Nat) (n52 : Int) (w53 : World) (y54 : Nat → Value),
 y49 b51 n52 w53 →
 (F15j3 t0 R b1 y49 b51 n52 w53))
def F15 (t0 : Sl) (w : World) (R : Value → World → Prop) : Prop :=
 ((0 : Int) ≤ (t0.2 : Int) ∧ (t0.2 : Int) ≤ (t0.2 : Int) ∧ (t0.2 : Int) ≤ (281474976710656 : Int) ∧ ((24 : Nat) : Int) * (t0.2 : Int) ≤ (281474976710656 : Int)) ∧
 AllocP w (Obj.cells { toList := zc #[Value.slice none (0 : Nat) (0 : Nat)] ((t0.2 : Int)).toNat } (37 : Nat)) fun (b1 : Nat) (w2 : World) =>
 ∃ (y3 : Nat → Int → World → Prop),
 (∃ (b4 : Nat), y3 b4 (0 : Int) w2) ∧
 ∀ (b5 : Nat) (n6 : Int) (w7 : World) (y8 : Nat → Value),
 y3 b5 n6 w7 →
 (F15j1 t0 R b1 y3 b5 n6 w7)
theorem F15_ok (t0 : Sl) (w : World) (R : Value → World → Prop) (h : F15 t0 w R) : CW Try.prog 15 #[Value.slice t0.1 t0.2 t0.3] w R :=
  call_of tbOk mixed en15 Try.func15 rfl (.node (.nil) (.node (.nil) (.node (.nil) (.node (.node (.nil) (.loop [(5, .one (.int .i64))] [14, 15, 16, 19, 20, 21, 22, 23, 6, 24, 25, 26, 29, 30, 31, 32, 33, 34, 35, 36, 37, 38, 39, 40, 41, 42, 43, 44, 45, 46, 47, 48, 49, 50, 51, 52, 53, 54, 55, 56, 27, 28, 17, 18, 5] (.node (.nil) (.node (.node (.nil) (.node (.nil) (.loop [(6, .one (.int .i64))] [24, 25, 26, 29, 30, 31, 32, 33, 34, 35, 36, 37, 38, 39, 40, 41, 42, 43, 44, 45, 46, 47, 48, 49, 50, 51, 52, 53, 54, 55, 56, 27, 28, 6] (.node (.nil) (.node (.draw (.st 0 (.st 1 (.st 2 (.st 3 (.st 4 (.st 5 (.st 6 (.st 7 (.st 8 (.st 9 (.st 10 (.st 11 (.st 12 (.st 13 (.st 14 (.st 15 (.st 16 (.st 17 (.st 18 (.st 19 (.st 20 (.st 21 (.st 22 (.st 23 (.st 24 (.ac 25 [4, 3, 2, 1, 0] (.st 26 (.st 27 (.ac 28 [] (.fin) (.non)))) (.non)))))))))))))))))))))))))))) (.nil)))))) (.nil))))) (.node (.node (.nil) (.loop [(7, .one (.int .i64))] [57, 58, 59, 8, 62, 63, 64, 9, 67, 68, 69, 72, 73, 74, 75, 76, 77, 78, 79, 80, 81, 82, 83, 84, 85, 86, 87, 88, 89, 90, 91, 92, 93, 70, 71, 65, 66, 60, 61, 7] (.node (.nil) (.node (.node (.nil) (.loop [(8, .one (.int .i64))] [62, 63, 64, 9, 67, 68, 69, 72, 73, 74, 75, 76, 77, 78, 79, 80, 81, 82, 83, 84, 85, 86, 87, 88, 89, 90, 91, 92, 93, 70, 71, 65, 66, 8] (.node (.nil) (.node (.node (.nil) (.loop [(9, .one (.int .i64))] [67, 68, 69, 72, 73, 74, 75, 76, 77, 78, 79, 80, 81, 82, 83, 84, 85, 86, 87, 88, 89, 90, 91, 92, 93, 70, 71, 9] (.nil))) (.nil))))) (.nil))))) (.nil)))))) (by kernel_rfl) (Nat.le_of_ble_eq_true (by kernel_rfl)) (Eq.mp (α := F15 t0 w R) (by kernel_rfl) h)

def F14j2 (t0 : Sl) (t1 : Sl) (R : Value → World → Prop) (y1 : Nat → Int → World → Prop) (b3 : Nat) (n4 : Int) (y8 : Nat → Int × Int → World → Prop) (b10 : Nat) (x11 : Int × Int) (w12 : World) : Prop :=
 IfB (decide (x11.snd < (t1.n : Int)))
 (∃ (b15 : Nat),
 ∃ (b16 : Nat),
 t1.1 = some ({ block := b15, off := b16 } : Addr) ∧
 ((0 : Int) ≤ n4 ∧ n4 < (t1.2 : Int)) ∧
 ∃ (s17 : Sl),
 w12.cell? ({ block := b15, off := b16 + n4.toNat } : Addr) = some (Value.slice s17.1 s17.2 s17.3) ∧
 ∃ (b18 : Nat),
 ∃ (b19 : Nat),
 s17.1 = some ({ block := b18, off := b19 } : Addr) ∧
 ((0 : Int) ≤ x11.2 ∧ x11.2 < (s17.2 : Int)) ∧
 ∃ (t20 : Bool),
 w12.cell? ({ block := b18, off := b19 + x11.2.toNat } : Addr) = some (Value.bool t20) ∧
 IfB (!t20) (([] : List Nat) = [] ∧ ∃ (b21 : Nat), b21 < b10 ∧ y8 b21 (x11.1, IntKind.i64.wrap (x11.2 + (1 : Int))) w12)
 (∃ (b22 : Nat),
 ∃ (b23 : Nat),
 t0.1 = some ({ block := b22, off := b23 } : Addr) ∧
 ((0 : Int) ≤ n4 ∧ n4 < (t0.2 : Int)) ∧
 ∃ (s24 : Sl),
 w12.cell? ({ block := b22, off := b23 + n4.toNat } : Addr) = some (Value.slice s24.1 s24.2 s24.3) ∧
 IfB (decide ((s24.n : Int) ≤ x11.fst)) (R (Value.bool false) w12)
 (∃ (b25 : Nat),
 ∃ (b26 : Nat),
 t0.1 = some ({ block := b25, off := b26 } : Addr) ∧
 ((0 : Int) ≤ n4 ∧ n4 < (t0.2 : Int)) ∧
 ∃ (s27 : Sl),
 w12.cell? ({ block := b25, off := b26 + n4.toNat } : Addr) = some (Value.slice s27.1 s27.2 s27.3) ∧
 ∃ (b28 : Nat),
 ∃ (b29 : Nat),
 s27.1 = some ({ block := b28, off := b29 } : Addr) ∧
 ((0 : Int) ≤ x11.1 ∧ x11.1 < (s27.2 : Int)) ∧
 ∃ (n30 : Int),
 w12.cell? ({ block := b28, off := b29 + x11.1.toNat } : Addr) = some (Value.int IntKind.i64 n30) ∧
 IfB (n30 != x11.2) (R (Value.bool false) w12) (([] : List Nat) = [] ∧ ∃ (b31 : Nat), b31 < b10 ∧ y8 b31 (IntKind.i64.wrap (x11.1 + (1 : Int)), IntKind.i64.wrap (x11.2 + (1 : Int))) w12))))
 (∃ (b32 : Nat),
 ∃ (b33 : Nat),
 t0.1 = some ({ block := b32, off := b33 } : Addr) ∧
 ((0 : Int) ≤ n4 ∧ n4 < (t0.2 : Int)) ∧
 ∃ (s34 : Sl),
 w12.cell? ({ block := b32, off := b33 + n4.toNat } : Addr) = some (Value.slice s34.1 s34.2 s34.3) ∧
 IfB (x11.1 != (s34.2 : Int)) (R (Value.bool false) w12) (([] : List Nat) = [] ∧ ∃ (b35 : Nat), b35 < b3 ∧ y1 b35 (IntKind.i64.wrap (n4 + (1 : Int))) w12))
def F14 (t0 : Sl) (t1 : Sl) (w : World) (R : Value → World → Prop) : Prop :=
 IfB ((t0.2 : Int) != (t1.2 : Int)) (R (Value.bool false) w)
 (∃ (y1 : Nat → Int → World → Prop),
 (∃ (b2 : Nat), y1 b2 (0 : Int) w) ∧
 ∀ (b3 : Nat) (n4 : Int) (w5 : World) (y6 : Nat → Value),
 y1 b3 n4 w5 →
 IfB (decide (n4 < (t1.n : Int)))
 (∃ (y8 : Nat → Int × Int → World → Prop),
 (∃ (b9 : Nat), y8 b9 ((0 : Int), (0 : Int)) w5) ∧
 ∀ (b10 : Nat) (x11 : Int × Int) (w12 : World) (y13 : Nat → Value),
 y8 b10 x11 w12 →
 (F14j2 t0 t1 R y1 b3 n4 y8 b10 x11 w12))
 (R (Value.bool true) w5))
theorem F14_ok (t0 : Sl) (t1 : Sl) (w : World) (R : Value → World → Prop) (h : F14 t0 t1 w R) : CW Try.prog 14 #[Value.slice t0.1 t0.2 t0.3, Value.slice t1.1 t1.2 t1.3] w R :=
  call_of tbOk mixed en14 Try.func14 rfl (.node (.nil) (.node (.nil) (.node (.node (.nil) (.loop [(5, .one (.int .i64))] [13, 14, 15, 16, 6, 7, 19, 20, 21, 22, 25, 26, 27, 28, 29, 30, 31, 32, 33, 34, 35, 36, 37, 38, 39, 40, 41, 42, 43, 44, 45, 46, 47, 48, 49, 50, 4, 51, 52, 23, 24, 53, 54, 55, 56, 57, 58, 59, 17, 18, 5] (.node (.nil) (.node (.node (.nil) (.node (.node (.nil) (.loop [(6, .one (.int .i64)), (7, .one (.int .i64))] [19, 20, 21, 22, 25, 26, 27, 28, 29, 30, 31, 32, 33, 34, 35, 36, 37, 38, 39, 40, 41, 42, 43, 44, 45, 46, 47, 48, 49, 50, 4, 51, 52, 6, 23, 24, 7] (.nil))) (.nil))) (.nil))))) (.nil)))) (by kernel_rfl) (Nat.le_of_ble_eq_true (by kernel_rfl)) (Eq.mp (α := F14 t0 t1 w R) (by kernel_rfl) h)

def F11j1 (t0 : Sl) (R : Value → World → Prop) (y1 : Nat → Int → World → Prop) (b3 : Nat) (n4 : Int) (w5 : World) : Prop :=
 IfB (decide (n4 < (t0.n : Int)))
 (∃ (b8 : Nat),
 ∃ (b9 : Nat),
 t0.1 = some ({ block := b8, off := b9 } : Addr) ∧
 ((0 : Int) ≤ n4 ∧ n4 < (t0.2 : Int)) ∧
 ∃ (s10 : Sl),
 w5.cell? ({ block := b8, off := b9 + n4.toNat * (6 : Nat) + (4 : Nat) } : Addr) = some (Value.slice s10.1 s10.2 s10.3) ∧
 IfB (decide ((40 : Int) < (s10.n : Int))) (R (Value.bool true) w5)
 (∃ (b11 : Nat),
 ∃ (b12 : Nat),
 t0.1 = some ({ block := b11, off := b12 } : Addr) ∧
 ((0 : Int) ≤ n4 ∧ n4 < (t0.2 : Int)) ∧
 ∃ (s13 : Sl),
 w5.cell? ({ block := b11, off := b12 + n4.toNat * (6 : Nat) + (5 : Nat) } : Addr) = some (Value.slice s13.1 s13.2 s13.3) ∧
 IfB (decide ((40 : Int) < (s13.n : Int))) (R (Value.bool true) w5) (([] : List Nat) = [] ∧ ∃ (b14 : Nat), b14 < b3 ∧ y1 b14 (IntKind.i64.wrap (n4 + (1 : Int))) w5)))
 (R (Value.bool (decide ((40 : Int) < (t0.n : Int)))) w5)
def F11 (t0 : Sl) (w : World) (R : Value → World → Prop) : Prop :=
 ∃ (y1 : Nat → Int → World → Prop),
 (∃ (b2 : Nat), y1 b2 (0 : Int) w) ∧
 ∀ (b3 : Nat) (n4 : Int) (w5 : World) (y6 : Nat → Value),
 y1 b3 n4 w5 →
 (F11j1 t0 R y1 b3 n4 w5)
theorem F11_ok (t0 : Sl) (w : World) (R : Value → World → Prop) (h : F11 t0 w R) : CW Try.prog 11 #[Value.slice t0.1 t0.2 t0.3] w R :=
  call_of tbOk mixed en11 Try.func11 rfl (.node (.nil) (.node (.node (.nil) (.loop [(3, .one (.int .i64))] [4, 5, 6, 7, 10, 11, 12, 13, 14, 15, 16, 17, 18, 19, 20, 21, 22, 23, 24, 25, 2, 8, 9, 3] (.nil))) (.nil))) (by kernel_rfl) (Nat.le_of_ble_eq_true (by kernel_rfl)) (Eq.mp (α := F11 t0 w R) (by kernel_rfl) h)

def F10 (w : World) (R : Value → World → Prop) : Prop :=
 (1 : Nat) * (2 : Nat) ≤ (16777216 : Nat) ∧
 AllocP w (Obj.cells #[Value.int IntKind.i64 (5 : Int), Value.int IntKind.i64 (5 : Int)] (51 : Nat)) fun (b1 : Nat) (w2 : World) =>
 (1 : Nat) * (2 : Nat) ≤ (16777216 : Nat) ∧
 AllocP w2 (Obj.cells #[Value.int IntKind.i64 (6 : Int), Value.int IntKind.i64 (6 : Int)] (51 : Nat)) fun (b3 : Nat) (w4 : World) =>
 (4 : Nat) * (6 : Nat) ≤ (16777216 : Nat) ∧
 AllocP w4
 (Obj.cells
 #[Value.int IntKind.i64 (1 : Int), Value.int IntKind.i64 (0 : Int), Value.int IntKind.i64 (0 : Int), Value.bool false, Value.slice none (0 : Nat) (0 : Nat),
 Value.slice (some ({ block := b1, off := (0 : Nat) } : Addr)) (1 : Nat) (1 : Nat), Value.int IntKind.i64 (2 : Int), Value.int IntKind.i64 (0 : Int), Value.int IntKind.i64 (0 : Int), Value.bool false,
 Value.slice (some ({ block := b1, off := (0 : Nat) } : Addr)) (1 : Nat) (1 : Nat), Value.slice none (0 : Nat) (0 : Nat), Value.int IntKind.i64 (2 : Int), Value.int IntKind.i64 (0 : Int),
 Value.int IntKind.i64 (1 : Int), Value.bool false, Value.slice none (0 : Nat) (0 : Nat), Value.slice (some ({ block := b3, off := (0 : Nat) } : Addr)) (1 : Nat) (1 : Nat), Value.int IntKind.i64 (1 : Int),
 Value.int IntKind.i64 (0 : Int), Value.int IntKind.i64 (1 : Int), Value.bool false, Value.slice (some ({ block := b3, off := (0 : Nat) } : Addr)) (1 : Nat) (1 : Nat), Value.slice none (0 : Nat) (0 : Nat)]
 (27 : Nat))
 fun (b5 : Nat) (w6 : World) =>
 CX Try.prog (13 : Nat) #[Value.slice (some ({ block := b5, off := (0 : Nat) } : Addr)) (4 : Nat) (4 : Nat)] w6 fun (v7 : Value) (w8 : World) =>
 ∃ (s9 : Sl),
 v7 = Value.slice s9.1 s9.2 s9.3 ∧
 IfB ((s9.2 : Int) == (4 : Int))
 (∃ (b10 : Nat),
 ∃ (b11 : Nat),
 s9.1 = some ({ block := b10, off := b11 } : Addr) ∧
 ((0 : Int) ≤ (3 : Int) ∧ (3 : Int) < (s9.2 : Int)) ∧
 ∃ (s12 : Sl),
 w8.cell? ({ block := b10, off := b11 + Int.toNat (3 : Int) } : Addr) = some (Value.slice s12.1 s12.2 s12.3) ∧
 IfB ((s12.2 : Int) == (3 : Int))
 (CX Try.prog (17 : Nat) #[Value.slice (some ({ block := b5, off := (0 : Nat) } : Addr)) (4 : Nat) (4 : Nat), Value.int IntKind.i64 (2 : Int), Value.int IntKind.i64 (0 : Int)] w8
 fun (v13 : Value) (w14 : World) =>
 ∃ (t15 : Bool),
 v13 = Value.bool t15 ∧
 IfB t15
 (CX Try.prog (16 : Nat) #[Value.slice (some ({ block := b5, off := (0 : Nat) } : Addr)) (4 : Nat) (4 : Nat), Value.int IntKind.i64 (2 : Int), Value.int IntKind.i64 (0 : Int)] w14
 fun (v16 : Value) (w17 : World) => ∃ (t18 : Bool), v16 = Value.bool t18 ∧ R (Value.bool !t18) w17)
 (R (Value.bool false) w14))
 (R (Value.bool false) w8))
 (R (Value.bool false) w8)
theorem F10_ok (w : World) (R : Value → World → Prop) (h : F10  w R) : CW Try.prog 10 #[] w R :=
  call_of tbOk mixed en10 Try.func10 rfl (.nil) (by kernel_rfl) (Nat.le_of_ble_eq_true (by kernel_rfl)) (Eq.mp (α := F10  w R) (by kernel_rfl) h)

end Go.Proofs.Ytmmhbjbaallkfaa.Gx
