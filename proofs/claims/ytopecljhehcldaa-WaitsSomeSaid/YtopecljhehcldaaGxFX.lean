/- Written by mkf.py: what is to be shown of functions, as Gx reckons it from their code. -/
import Derived.Test.YtopecljhehcldaaGxT
namespace Go.Proofs.Ytopecljhehcldaa.Gx
open Go
set_option linter.unusedVariables false
set_option maxRecDepth 100000

def F13j2 (t0 : Sl) (n9 : Int) (y13 : Sl → World → Prop) (y14 : Nat → Sl × Int → World → Prop) (b16 : Nat) (x17 : Sl × Int) (w18 : World) : Prop :=
 ∃ (b21 : Nat),
 ∃ (b22 : Nat),
 t0.1 = some ({ block := b21, off := b22 } : Addr) ∧
 ((0 : Int) ≤ n9 ∧ n9 < (t0.2 : Int)) ∧
 ∃ (s23 : Sl),
 w18.cell? ({ block := b21, off := b22 + n9.toNat * (3 : Nat) + (2 : Nat) } : Addr) = some (Value.slice s23.1 s23.2 s23.3) ∧
 IfB (decide (x17.snd < (s23.n : Int)))
 (IfB (decide (x17.snd < (20 : Int)))
 (∃ (b24 : Nat),
 ∃ (b25 : Nat),
 t0.1 = some ({ block := b24, off := b25 } : Addr) ∧
 ((0 : Int) ≤ n9 ∧ n9 < (t0.2 : Int)) ∧
 ∃ (s26 : Sl),
 w18.cell? ({ block := b24, off := b25 + n9.toNat * (3 : Nat) + (2 : Nat) } : Addr) = some (Value.slice s26.1 s26.2 s26.3) ∧
 ∃ (b27 : Nat),
 ∃ (b28 : Nat),
 s26.1 = some ({ block := b27, off := b28 } : Addr) ∧
 ((0 : Int) ≤ x17.2 ∧ x17.2 < (s26.2 : Int)) ∧
 ∃ (n29 : Int),
 w18.cell? ({ block := b27, off := b28 + x17.2.toNat } : Addr) = some (Value.int IntKind.u8 n29) ∧
 (1 : Nat) * (1 : Nat) ≤ (16777216 : Nat) ∧
 AllocP w18 (Obj.cells #[Value.int IntKind.i64 (IntKind.i64.wrap n29)] (3 : Nat)) fun (b30 : Nat) (w31 : World) =>
 ∃ (l32 : List Value),
 ReadC w31 (some ({ block := b30, off := (0 : Nat) } : Addr)) ((1 : Nat) * (1 : Nat)) l32 ∧
 AppendP tt3 (3 : Nat) w31 x17.fst.1 x17.fst.2 x17.fst.3
 (1 : Nat) l32 fun (s33 : Sl) (w34 : World) => ([] : List Nat) = [] ∧ ∃ (b35 : Nat), b35 < b16 ∧ y14 b35 ({ p := s33.1, n := s33.2, c := s33.3 }, IntKind.i64.wrap (x17.2 + (1 : Int))) w34)
 (([] : List Nat) = [] ∧ y13 { p := x17.fst.1, n := x17.fst.2, c := x17.fst.3 } w18))
 (([] : List Nat) = [] ∧ y13 { p := x17.fst.1, n := x17.fst.2, c := x17.fst.3 } w18)
def F13j5 (b4 : Nat) (y49 : Nat → Bool × Int → World → Prop) (b51 : Nat) (x52 : Bool × Int) (s61 : Sl) (y62 : Nat → Bool × Int → World → Prop) (b64 : Nat) (x65 : Bool × Int) (w66 : World) : Prop :=
 IfB (decide (x65.snd < (s61.n : Int)))
 (IfB x65.1
 (∃ (b69 : Nat),
 ∃ (b70 : Nat),
 s61.1 = some ({ block := b69, off := b70 } : Addr) ∧
 ((0 : Int) ≤ x65.2 ∧ x65.2 < (s61.2 : Int)) ∧
 ∃ (n71 : Int),
 w66.cell? ({ block := b69, off := b70 + x65.2.toNat } : Addr) = some (Value.int IntKind.i64 n71) ∧
 CX Try.prog (57 : Nat) #[Value.pointer (some ({ block := b4, off := (0 : Nat) } : Addr)), Value.int IntKind.i64 n71] w66 fun (v72 : Value) (w73 : World) =>
 ∃ (s74 : Sl), v72 = Value.slice s74.1 s74.2 s74.3 ∧ ([] : List Nat) = [] ∧ ∃ (b75 : Nat), b75 < b64 ∧ y62 b75 ((s74.2 : Int) == (0 : Int), IntKind.i64.wrap (x65.2 + (1 : Int))) w73)
 (([] : List Nat) = [] ∧ ∃ (b76 : Nat), b76 < b64 ∧ y62 b76 (false, IntKind.i64.wrap (x65.2 + (1 : Int))) w66))
 (IfB x52.1 (([] : List Nat) = [] ∧ ∃ (b77 : Nat), b77 < b51 ∧ y49 b77 (true, IntKind.i64.wrap (x52.2 + (1 : Int))) w66)
 (([] : List Nat) = [] ∧ ∃ (b78 : Nat), b78 < b51 ∧ y49 b78 (x65.1, IntKind.i64.wrap (x52.2 + (1 : Int))) w66))
def F13j4 (R : Value → World → Prop) (b4 : Nat) (y6 : Nat → Int → World → Prop) (b8 : Nat) (n9 : Int) (s48 : Sl) (y49 : Nat → Bool × Int → World → Prop) (b51 : Nat) (x52 : Bool × Int) (w53 : World) : Prop :=
 IfB (decide (x52.snd < (s48.n : Int)))
 (∃ (b56 : Nat),
 ∃ (b57 : Nat),
 s48.1 = some ({ block := b56, off := b57 } : Addr) ∧
 ((0 : Int) ≤ x52.2 ∧ x52.2 < (s48.2 : Int)) ∧
 ∃ (n58 : Int),
 w53.cell? ({ block := b56, off := b57 + x52.2.toNat } : Addr) = some (Value.int IntKind.i64 n58) ∧
 CX Try.prog (57 : Nat) #[Value.pointer (some ({ block := b4, off := (0 : Nat) } : Addr)), Value.int IntKind.i64 n58] w53 fun (v59 : Value) (w60 : World) =>
 ∃ (s61 : Sl),
 v59 = Value.slice s61.1 s61.2 s61.3 ∧
 ∃ (y62 : Nat → Bool × Int → World → Prop),
 (∃ (b63 : Nat), y62 b63 (true, (0 : Int)) w60) ∧
 ∀ (b64 : Nat) (x65 : Bool × Int) (w66 : World) (y67 : Nat → Value),
 y62 b64 x65 w66 →
 (F13j5 b4 y49 b51 x52 s61 y62 b64 x65 w66))
 (IfB (!x52.1) (R (Value.bool false) w53) (([] : List Nat) = [] ∧ ∃ (b79 : Nat), b79 < b8 ∧ y6 b79 (IntKind.i64.wrap (n9 + (1 : Int))) w53))
def F13j3 (t0 : Sl) (R : Value → World → Prop) (b4 : Nat) (y6 : Nat → Int → World → Prop) (b8 : Nat) (n9 : Int) (s36 : Sl) (w37 : World) : Prop :=
 ∃ (b40 : Nat),
 ∃ (b41 : Nat),
 t0.1 = some ({ block := b40, off := b41 } : Addr) ∧
 ((0 : Int) ≤ n9 ∧ n9 < (t0.2 : Int)) ∧
 ∃ (n42 : Int),
 w37.cell? ({ block := b40, off := b41 + n9.toNat * (3 : Nat) + (1 : Nat) } : Addr) = some (Value.int IntKind.u8 n42) ∧
 CX Try.prog (55 : Nat) #[Value.pointer (some ({ block := b4, off := (0 : Nat) } : Addr)), Value.int IntKind.i64 (IntKind.i64.wrap n42), Value.slice s36.1 s36.2 s36.3] w37
 fun (v43 : Value) (w44 : World) =>
 ∃ (t45 : Bool),
 v43 = Value.bool t45 ∧
 CX Try.prog (56 : Nat) #[Value.pointer (some ({ block := b4, off := (0 : Nat) } : Addr))] w44 fun (v46 : Value) (w47 : World) =>
 ∃ (s48 : Sl),
 v46 = Value.slice s48.1 s48.2 s48.3 ∧
 ∃ (y49 : Nat → Bool × Int → World → Prop),
 (∃ (b50 : Nat), y49 b50 ((s48.2 : Int) == (0 : Int), (0 : Int)) w47) ∧
 ∀ (b51 : Nat) (x52 : Bool × Int) (w53 : World) (y54 : Nat → Value),
 y49 b51 x52 w53 →
 (F13j4 R b4 y6 b8 n9 s48 y49 b51 x52 w53)
def F13j1 (t0 : Sl) (R : Value → World → Prop) (b4 : Nat) (y6 : Nat → Int → World → Prop) (b8 : Nat) (n9 : Int) (w10 : World) : Prop :=
 IfB (decide (n9 < (t0.n : Int)))
 (IfB (decide (n9 < (60 : Int)))
 (∃ (y13 : Sl → World → Prop),
 (∃ (y14 : Nat → Sl × Int → World → Prop),
 (∃ (b15 : Nat), y14 b15 ({ p := none, n := (0 : Nat), c := (0 : Nat) }, (0 : Int)) w10) ∧
 ∀ (b16 : Nat) (x17 : Sl × Int) (w18 : World) (y19 : Nat → Value),
 y14 b16 x17 w18 →
 (F13j2 t0 n9 y13 y14 b16 x17 w18)) ∧
 ∀ (s36 : Sl) (w37 : World) (y38 : Nat → Value),
 y13 s36 w37 →
 (F13j3 t0 R b4 y6 b8 n9 s36 w37))
 (R (Value.bool true) w10))
 (R (Value.bool true) w10)
def F13 (t0 : Sl) (w : World) (R : Value → World → Prop) : Prop :=
 CX Try.prog (54 : Nat) #[] w fun (v1 : Value) (w2 : World) =>
 ∃ (t3 : Bool),
 v1 = Value.bool t3 ∧
 IfB (!t3) (R (Value.bool false) w2)
 (AllocP w2 (Obj.cells #[Value.map none] (94 : Nat)) fun (b4 : Nat) (w5 : World) =>
 ∃ (y6 : Nat → Int → World → Prop),
 (∃ (b7 : Nat), y6 b7 (0 : Int) w5) ∧
 ∀ (b8 : Nat) (n9 : Int) (w10 : World) (y11 : Nat → Value),
 y6 b8 n9 w10 →
 (F13j1 t0 R b4 y6 b8 n9 w10))
theorem F13_ok (t0 : Sl) (w : World) (R : Value → World → Prop) (h : F13 t0 w R) : CW Try.prog 13 #[Value.slice t0.1 t0.2 t0.3] w R :=
  call_of tbOk mixed en13 Try.func13 rfl (.node (.nil) (.node (.nil) (.node (.nil) (.node (.node (.nil) (.loop [(4, .one (.int .i64))] [15, 16, 17, 18, 19, 20, 21, 22, 5, 6, 25, 26, 27, 28, 29, 30, 31, 32, 33, 34, 35, 36, 39, 40, 41, 42, 43, 44, 45, 46, 47, 48, 49, 50, 37, 38, 51, 52, 53, 54, 55, 56, 57, 58, 59, 7, 60, 61, 62, 8, 9, 63, 64, 65, 66, 10, 69, 70, 71, 72, 73, 11, 12, 74, 75, 76, 77, 80, 81, 82, 83, 84, 85, 86, 87, 88, 89, 78, 79, 90, 91, 92, 93, 67, 68, 94, 95, 2, 23, 24, 4] (.node (.nil) (.node (.node (.nil) (.join [(5, .one (.sl))] [6, 25, 26, 27, 28, 29, 30, 31, 32, 33, 34, 35, 36, 39, 40, 41, 42, 43, 44, 45, 46, 47, 48, 49, 50, 5, 37, 38] (.node (.nil) (.loop [(5, .one (.sl)), (6, .one (.int .i64))] [25, 26, 27, 28, 29, 30, 31, 32, 33, 34, 35, 36, 39, 40, 41, 42, 43, 44, 45, 46, 47, 48, 49, 50, 5, 37, 38, 6] (.nil))) (.node (.nil) (.node (.nil) (.node (.nil) (.node (.node (.nil) (.loop [(8, .one (.bool)), (9, .one (.int .i64))] [63, 64, 65, 66, 10, 69, 70, 71, 72, 73, 11, 12, 74, 75, 76, 77, 80, 81, 82, 83, 84, 85, 86, 87, 88, 89, 78, 79, 90, 91, 92, 93, 8, 67, 68, 9] (.node (.nil) (.node (.node (.nil) (.node (.nil) (.node (.node (.nil) (.loop [(10, .one (.bool)), (12, .one (.int .i64))] [74, 75, 76, 77, 80, 81, 82, 83, 84, 85, 86, 87, 88, 89, 10, 78, 79, 12] (.nil))) (.nil)))) (.nil))))) (.nil))))))) (.nil))))) (.nil))))) (by kernel_rfl) (Nat.le_of_ble_eq_true (by kernel_rfl)) (Eq.mp (α := F13 t0 w R) (by kernel_rfl) h)

end Go.Proofs.Ytopecljhehcldaa.Gx
