/- Written by mkf.py: what is to be shown of functions, as Gx reckons it from their code. -/
import Derived.Test.YtmmhbjbaallkfaaGxT
namespace Go.Proofs.Ytmmhbjbaallkfaa.Gx
open Go
set_option linter.unusedVariables false
set_option maxRecDepth 100000

noncomputable def R60_0 : Code := codeAt [1, 0, 1, 0] (bodyOf Try.f60)
def R60_0a : An := .nil
theorem R60_0ok1 : okC tb Try.f60.ntmps (rA R60_0) .nil = true := by kernel_rfl
theorem R60_0ok2 : okC tb Try.f60.ntmps (rB R60_0) R60_0a = true := by kernel_rfl
theorem R60_0okp : (rP R60_0).toList.all (fun p => Nat.blt p Try.f60.ntmps) = true := by kernel_rfl
def F60 (t0 : Sl) (t1 : Sl) (w : World) (R : Value → World → Prop) : Prop :=
 AllocP w (Obj.cells #[Value.bool false] (4 : Nat)) fun (b1 : Nat) (w2 : World) =>
 (1 : Nat) * (1 : Nat) ≤ (16777216 : Nat) ∧
 AllocP w2 (Obj.cells #[Value.slice t0.1 t0.2 t0.3] (25 : Nat)) fun (b3 : Nat) (w4 : World) =>
 CX Try.prog (74 : Nat) #[Value.slice (some ({ block := b3, off := (0 : Nat) } : Addr)) (1 : Nat) (1 : Nat)] w4 fun (v5 : Value) (w6 : World) =>
 ∃ (s7 : Sl),
 v5 = Value.slice s7.1 s7.2 s7.3 ∧
 (1 : Nat) * (1 : Nat) ≤ (16777216 : Nat) ∧
 AllocP w6 (Obj.cells #[Value.slice t1.1 t1.2 t1.3] (25 : Nat)) fun (b8 : Nat) (w9 : World) =>
 CX Try.prog (74 : Nat) #[Value.slice (some ({ block := b8, off := (0 : Nat) } : Addr)) (1 : Nat) (1 : Nat)] w9 fun (v10 : Value) (w11 : World) =>
 ∃ (s12 : Sl),
 v10 = Value.slice s12.1 s12.2 s12.3 ∧
 CX Try.prog (73 : Nat) #[Value.slice s7.1 s7.2 s7.3, Value.slice s12.1 s12.2 s12.3] w11 fun (v13 : Value) (w14 : World) =>
 ∃ (x15 : Nat × Array Value),
 v13 = Value.func (Fn.func x15.1) #[] x15.2 ∧
 ∀ (y16 : Nat → Value),
 RangeP Try.prog tb (nat_lit 13) none R60_0a (rG R60_0) (rP R60_0) (rA R60_0) (rB R60_0)
 (frC y16 [((4 : Nat), Value.pointer (some ({ block := b1, off := (0 : Nat) } : Addr))), ((11 : Nat), Value.func (Fn.func x15.1) #[] x15.2)]) [] w14
 (fun (l17 : List Nat) (w18 : World) =>
 #[Value.bool false].size = (1 : Nat) ∧
 StoreP w18 b1 (0 : Nat) [Value.bool false] fun (w19 : World) =>
 marksP w19 l17 fun (w20 : World) => ∃ (t21 : Bool), w20.cell? ({ block := b1, off := (0 : Nat) } : Addr) = some (Value.bool t21) ∧ R (Value.bool t21) w20)
 (fun (l22 : List Nat) (w23 : World) => marksP w23 l22 fun (w24 : World) => ∃ (t25 : Bool), w24.cell? ({ block := b1, off := (0 : Nat) } : Addr) = some (Value.bool t25) ∧ R (Value.bool t25) w24)
 fun (b26 : Nat) (l27 : List Nat) (w28 : World) =>
 match b26.beq (0 : Nat) with
 | true =>
 #[Value.bool false].size = (1 : Nat) ∧
 StoreP w28 b1 (0 : Nat) [Value.bool false] fun (w30 : World) =>
 marksP w30 l27 fun (w31 : World) => ∃ (t32 : Bool), w31.cell? ({ block := b1, off := (0 : Nat) } : Addr) = some (Value.bool t32) ∧ R (Value.bool t32) w31
 | false => False
theorem F60_ok (t0 : Sl) (t1 : Sl) (w : World) (R : Value → World → Prop) (h : F60 t0 t1 w R) : CW Try.prog 60 #[Value.slice t0.1 t0.2 t0.3, Value.slice t1.1 t1.2 t1.3] w R :=
  call_of tbOk mixed en60 Try.func60 rfl (.node (.nil) (.node (.node (.nil) (.rng [(4, .one (.box)), (11, .one (.clo))] (.nil))) (.nil))) (by kernel_rfl) (Nat.le_of_ble_eq_true (by kernel_rfl)) (Eq.mp (α := F60 t0 t1 w R) (by kernel_rfl) h)

def F60b0 (t4 : Nat) (t11 : Nat × Array Value) (x12 : Value) (l D n₀ : Nat) (Jn : World → Prop) (Jx : Code → World → Prop) (W : World) : Prop :=
  ([] : List Nat) = [] ∧
 (W.1[l]? = W.1[l]? ∧ W.1[D]? = W.1[D]?) ∧
 ∀ (w9 : World),
 Stb n₀ W w9 →
 Its W w9 →
 (∃ (y12 : Loop), w9.1[l]? = some (Obj.loop y12)) →
 #[Value.bool true].size = (1 : Nat) ∧ StoreP w9 t4 (0 : Nat) [Value.bool true] fun (w16 : World) => (w16.1[l]? = w9.1[l]? ∧ w16.1[D]? = w9.1[D]?) ∧ Jx Code.ret w16
theorem F60b0_ok (t4 : Nat) (t11 : Nat × Array Value) (x12 : Value) (l D n₀ : Nat) (Jn : World → Prop) (Jx : Code → World → Prop) (W : World) {g : Nat → Value} (h : F60b0 t4 t11 x12 l D n₀ Jn Jx W) :
    BodyP Try.prog tb Try.f60.ntmps l D n₀ R60_0a (rP R60_0) (rA R60_0) (rB R60_0) (frC g [(4, Value.pointer (some ({ block := t4, off := 0 } : Addr))), (11, Value.func (Fn.func t11.1) #[] t11.2)]) Jn Jx [x12] W :=
  Eq.mp (α := F60b0 t4 t11 x12 l D n₀ Jn Jx W) (by kernel_rfl) h

def F73 (t0 : Sl) (t1 : Sl) (w : World) (R : Value → World → Prop) : Prop :=
 AllocP w (Obj.cells #[Value.slice t0.1 t0.2 t0.3] (25 : Nat)) fun (b1 : Nat) (w2 : World) =>
 AllocP w2 (Obj.cells #[Value.slice t1.1 t1.2 t1.3] (25 : Nat)) fun (b3 : Nat) (w4 : World) =>
 R (Value.func (Fn.func (96 : Nat)) #[] #[Value.pointer (some ({ block := b1, off := (0 : Nat) } : Addr)), Value.pointer (some ({ block := b3, off := (0 : Nat) } : Addr))]) w4
theorem F73_ok (t0 : Sl) (t1 : Sl) (w : World) (R : Value → World → Prop) (h : F73 t0 t1 w R) : CW Try.prog 73 #[Value.slice t0.1 t0.2 t0.3, Value.slice t1.1 t1.2 t1.3] w R :=
  call_of tbOk mixed en73 Try.func73 rfl (.nil) (by kernel_rfl) (Nat.le_of_ble_eq_true (by kernel_rfl)) (Eq.mp (α := F73 t0 t1 w R) (by kernel_rfl) h)

def F96j2 (t0 : Nat) (R : Value → World → Prop) (y2 : Nat → Int → World → Prop) (b4 : Nat) (n5 : Int) (b12 : Nat) (s15 : Sl) (y16 : Nat → Int → World → Prop) (b18 : Nat) (n19 : Int) (w20 : World) : Prop :=
 IfB (decide (n19 < (s15.n : Int)))
 (∃ (b23 : Nat),
 ∃ (b24 : Nat),
 s15.1 = some ({ block := b23, off := b24 } : Addr) ∧
 ((0 : Int) ≤ n19 ∧ n19 < (s15.2 : Int)) ∧
 ∃ (x25 : Int × Int),
 CellsAt w20 b23 (b24 + n19.toNat * (2 : Nat)) [Value.int IntKind.i64 x25.1, Value.int IntKind.i64 x25.2] ∧
 AllocP w20 (Obj.cells #[Value.int IntKind.i64 (0 : Int), Value.int IntKind.i64 (0 : Int)] (51 : Nat)) fun (b26 : Nat) (w27 : World) =>
 #[Value.int IntKind.i64 x25.1, Value.int IntKind.i64 x25.2].size = (2 : Nat) ∧
 StoreP w27 b26 (0 : Nat) [Value.int IntKind.i64 x25.1, Value.int IntKind.i64 x25.2] fun (w28 : World) =>
 ∃ (n29 : Int),
 w28.cell? ({ block := b12, off := (0 : Nat) + (0 : Nat) } : Addr) = some (Value.int IntKind.i64 n29) ∧
 ∃ (n30 : Int),
 w28.cell? ({ block := b26, off := (0 : Nat) + (0 : Nat) } : Addr) = some (Value.int IntKind.i64 n30) ∧
 ∃ (n31 : Int),
 w28.cell? ({ block := b12, off := (0 : Nat) + (1 : Nat) } : Addr) = some (Value.int IntKind.i64 n31) ∧
 ∃ (n32 : Int),
 w28.cell? ({ block := b26, off := (0 : Nat) + (1 : Nat) } : Addr) = some (Value.int IntKind.i64 n32) ∧
 AllocP w28 (Obj.cells #[Value.int IntKind.i64 (0 : Int), Value.int IntKind.i64 (0 : Int)] (51 : Nat)) fun (b33 : Nat) (w34 : World) =>
 #[Value.int IntKind.i64 (if n29 < n30 then n30 else n29), Value.int IntKind.i64 (if n32 < n31 then n32 else n31)].size = (2 : Nat) ∧
 StoreP w34 b33 (0 : Nat) [Value.int IntKind.i64 (if n29 < n30 then n30 else n29), Value.int IntKind.i64 (if n32 < n31 then n32 else n31)] fun (w35 : World) =>
 ∃ (n36 : Int),
 w35.cell? ({ block := b33, off := (0 : Nat) + (0 : Nat) } : Addr) = some (Value.int IntKind.i64 n36) ∧
 ∃ (n37 : Int),
 w35.cell? ({ block := b33, off := (0 : Nat) + (1 : Nat) } : Addr) = some (Value.int IntKind.i64 n37) ∧
 IfB (decide (n36 ≤ n37))
 (∃ (x38 : Int × Int),
 CellsAt w35 b33 (0 : Nat) [Value.int IntKind.i64 x38.1, Value.int IntKind.i64 x38.2] ∧
 YW Try.prog t0 #[Value.agg #[Value.int IntKind.i64 x38.1, Value.int IntKind.i64 x38.2]] w35 fun (t39 : Bool) (w40 : World) =>
 IfB (!t39) (R (Value.tuple #[]) w40) (([] : List Nat) = [] ∧ ∃ (b41 : Nat), b41 < b18 ∧ y16 b41 (IntKind.i64.wrap (n19 + (1 : Int))) w40))
 (([] : List Nat) = [] ∧ ∃ (b42 : Nat), b42 < b18 ∧ y16 b42 (IntKind.i64.wrap (n19 + (1 : Int))) w35))
 (([] : List Nat) = [] ∧ ∃ (b43 : Nat), b43 < b4 ∧ y2 b43 (IntKind.i64.wrap (n5 + (1 : Int))) w20)
def F96j1 (t0 : Nat) (t2 : Nat) (R : Value → World → Prop) (s1 : Sl) (y2 : Nat → Int → World → Prop) (b4 : Nat) (n5 : Int) (w6 : World) : Prop :=
 IfB (decide (n5 < (s1.n : Int)))
 (∃ (b9 : Nat),
 ∃ (b10 : Nat),
 s1.1 = some ({ block := b9, off := b10 } : Addr) ∧
 ((0 : Int) ≤ n5 ∧ n5 < (s1.2 : Int)) ∧
 ∃ (x11 : Int × Int),
 CellsAt w6 b9 (b10 + n5.toNat * (2 : Nat)) [Value.int IntKind.i64 x11.1, Value.int IntKind.i64 x11.2] ∧
 AllocP w6 (Obj.cells #[Value.int IntKind.i64 (0 : Int), Value.int IntKind.i64 (0 : Int)] (51 : Nat)) fun (b12 : Nat) (w13 : World) =>
 #[Value.int IntKind.i64 x11.1, Value.int IntKind.i64 x11.2].size = (2 : Nat) ∧
 StoreP w13 b12 (0 : Nat) [Value.int IntKind.i64 x11.1, Value.int IntKind.i64 x11.2] fun (w14 : World) =>
 ∃ (s15 : Sl),
 w14.cell? ({ block := t2, off := (0 : Nat) } : Addr) = some (Value.slice s15.1 s15.2 s15.3) ∧
 ∃ (y16 : Nat → Int → World → Prop),
 (∃ (b17 : Nat), y16 b17 (0 : Int) w14) ∧
 ∀ (b18 : Nat) (n19 : Int) (w20 : World) (y21 : Nat → Value),
 y16 b18 n19 w20 →
 (F96j2 t0 R y2 b4 n5 b12 s15 y16 b18 n19 w20))
 (R (Value.tuple #[]) w6)
def F96 (t0 : Nat) (t1 : Nat) (t2 : Nat) (w : World) (R : Value → World → Prop) : Prop :=
 ∃ (s1 : Sl),
 w.cell? ({ block := t1, off := (0 : Nat) } : Addr) = some (Value.slice s1.1 s1.2 s1.3) ∧
 ∃ (y2 : Nat → Int → World → Prop),
 (∃ (b3 : Nat), y2 b3 (0 : Int) w) ∧
 ∀ (b4 : Nat) (n5 : Int) (w6 : World) (y7 : Nat → Value),
 y2 b4 n5 w6 →
 (F96j1 t0 t2 R s1 y2 b4 n5 w6)
theorem F96_ok (t0 : Nat) (t1 : Nat) (t2 : Nat) (w : World) (R : Value → World → Prop) (h : F96 t0 t1 t2 w R) : CW Try.prog 96 #[Value.func (Fn.yield t0) #[] #[], Value.pointer (some ({ block := t1, off := 0 } : Addr)), Value.pointer (some ({ block := t2, off := 0 } : Addr))] w R :=
  call_of tbOk mixed en96 Try.func96 rfl (.node (.nil) (.loop [(11, .one (.int .i64))] [12, 13, 14, 5, 15, 16, 17, 18, 19, 20, 7, 21, 22, 23, 24, 25, 26, 27, 28, 29, 30, 31, 8, 32, 33, 34, 35, 36, 37, 38, 39, 40, 41, 42, 43, 44, 11] (.node (.nil) (.node (.nil) (.node (.node (.nil) (.node (.nil) (.loop [(17, .one (.int .i64))] [18, 19, 20, 7, 21, 22, 23, 24, 25, 26, 27, 28, 29, 30, 31, 8, 32, 33, 34, 35, 36, 37, 38, 39, 40, 41, 42, 43, 17] (.nil)))) (.nil)))))) (by kernel_rfl) (Nat.le_of_ble_eq_true (by kernel_rfl)) (Eq.mp (α := F96 t0 t1 t2 w R) (by kernel_rfl) h)

def F74k1 (w22 : World) (b20 : Nat) (x13 : Sl × Int) (b12 : Nat) (y10 : Nat → Sl × Int → World → Prop) : Prop :=
 ∃ (x42 : Int × Int),
 CellsAt w22.drew b20 (0 : Nat) [Value.int IntKind.i64 x42.1, Value.int IntKind.i64 x42.2] ∧
 (1 : Nat) * (2 : Nat) ≤ (16777216 : Nat) ∧
 AllocP w22.drew (Obj.cells #[Value.int IntKind.i64 x42.1, Value.int IntKind.i64 x42.2] (51 : Nat)) fun (b43 : Nat) (w44 : World) =>
 ∃ (l45 : List Value),
 ReadC w44 (some ({ block := b43, off := (0 : Nat) } : Addr)) ((1 : Nat) * (2 : Nat)) l45 ∧
 AppendP tt51 (51 : Nat) w44 x13.fst.1 x13.fst.2 x13.fst.3 (1 : Nat) l45 fun (s46 : Sl) (w47 : World) =>
 ([] : List Nat) = [] ∧ ∃ (b48 : Nat), b48 < b12 ∧ y10 b48 ({ p := s46.1, n := s46.2, c := s46.3 }, IntKind.i64.wrap (x13.2 + (1 : Int))) w47
def F74j1 (R : Value → World → Prop) (s6 : Sl) (y10 : Nat → Sl × Int → World → Prop) (b12 : Nat) (x13 : Sl × Int) (w14 : World) : Prop :=
 IfB (decide (x13.snd < (s6.n : Int)))
 (∃ (b17 : Nat),
 ∃ (b18 : Nat),
 s6.1 = some ({ block := b17, off := b18 } : Addr) ∧
 ((0 : Int) ≤ x13.2 ∧ x13.2 < (s6.2 : Int)) ∧
 ∃ (x19 : Int × Int),
 CellsAt w14 b17 (b18 + x13.2.toNat * (2 : Nat)) [Value.int IntKind.i64 x19.1, Value.int IntKind.i64 x19.2] ∧
 AllocP w14 (Obj.cells #[Value.int IntKind.i64 (0 : Int), Value.int IntKind.i64 (0 : Int)] (51 : Nat)) fun (b20 : Nat) (w21 : World) =>
 #[Value.int IntKind.i64 x19.1, Value.int IntKind.i64 x19.2].size = (2 : Nat) ∧
 StoreP w21 b20 (0 : Nat) [Value.int IntKind.i64 x19.1, Value.int IntKind.i64 x19.2] fun (w22 : World) =>
 IfB (decide ((0 : Int) < (x13.fst.n : Int)))
 (∃ (n23 : Int),
 w22.drew.cell? ({ block := b20, off := (0 : Nat) + (0 : Nat) } : Addr) = some (Value.int IntKind.i64 n23) ∧
 ∃ (b24 : Nat),
 ∃ (b25 : Nat),
 x13.fst.1 = some ({ block := b24, off := b25 } : Addr) ∧
 ((0 : Int) ≤ IntKind.i64.wrap ((x13.fst.2 : Int) - (1 : Int)) ∧ IntKind.i64.wrap ((x13.fst.2 : Int) - (1 : Int)) < (x13.fst.2 : Int)) ∧
 ∃ (n26 : Int),
 w22.drew.cell? ({ block := b24, off := b25 + (IntKind.i64.wrap ((x13.fst.2 : Int) - (1 : Int))).toNat * (2 : Nat) + (1 : Nat) } : Addr) = some (Value.int IntKind.i64 n26) ∧
 IfB (decide (n23 ≤ IntKind.i64.wrap (n26 + (1 : Int))))
 (∃ (b27 : Nat),
 ∃ (b28 : Nat),
 x13.fst.1 = some ({ block := b27, off := b28 } : Addr) ∧
 ((0 : Int) ≤ IntKind.i64.wrap ((x13.fst.2 : Int) - (1 : Int)) ∧ IntKind.i64.wrap ((x13.fst.2 : Int) - (1 : Int)) < (x13.fst.2 : Int)) ∧
 ∃ (n29 : Int),
 w22.drew.drew.cell? ({ block := b27, off := b28 + (IntKind.i64.wrap ((x13.fst.2 : Int) - (1 : Int))).toNat * (2 : Nat) + (1 : Nat) } : Addr) = some (Value.int IntKind.i64 n29) ∧
 ∃ (n30 : Int),
 w22.drew.drew.cell? ({ block := b20, off := (0 : Nat) + (1 : Nat) } : Addr) = some (Value.int IntKind.i64 n30) ∧
 ∃ (b31 : Nat),
 ∃ (b32 : Nat),
 x13.fst.1 = some ({ block := b31, off := b32 } : Addr) ∧
 ((0 : Int) ≤ IntKind.i64.wrap ((x13.fst.2 : Int) - (1 : Int)) ∧ IntKind.i64.wrap ((x13.fst.2 : Int) - (1 : Int)) < (x13.fst.2 : Int)) ∧
 #[Value.int IntKind.i64 (if n29 < n30 then n30 else n29)].size = (1 : Nat) ∧
 StoreP w22.drew.drew b31 (b32 + (IntKind.i64.wrap ((x13.fst.2 : Int) - (1 : Int))).toNat * (2 : Nat) + (1 : Nat)) [Value.int IntKind.i64 (if n29 < n30 then n30 else n29)] fun (w33 : World) =>
 ([] : List Nat) = [] ∧ ∃ (b34 : Nat), b34 < b12 ∧ y10 b34 ({ p := x13.fst.1, n := x13.fst.2, c := x13.fst.3 }, IntKind.i64.wrap (x13.2 + (1 : Int))) w33)
 (F74k1 w22 b20 x13 b12 y10))
 (F74k1 w22 b20 x13 b12 y10))
 (R (Value.slice x13.fst.1 x13.fst.2 x13.fst.3) w14)
def F74 (t0 : Sl) (w : World) (R : Value → World → Prop) : Prop :=
 CX Try.prog (98 : Nat) #[Value.slice t0.1 t0.2 t0.3] w fun (v1 : Value) (w2 : World) =>
 ∃ (s3 : Sl),
 v1 = Value.slice s3.1 s3.2 s3.3 ∧
 CX Try.prog (97 : Nat) #[Value.slice s3.1 s3.2 s3.3, Value.func (Fn.func (99 : Nat)) #[] #[]] w2 fun (v4 : Value) (w5 : World) =>
 ∃ (s6 : Sl),
 v4 = Value.slice s6.1 s6.2 s6.3 ∧
 CX Try.prog (101 : Nat) #[Value.slice s6.1 s6.2 s6.3, Value.func (Fn.func (102 : Nat)) #[] #[]] w5 fun (v7 : Value) (w8 : World) =>
 ∃ (y9 : Unit),
 v7 = Value.tuple #[] ∧
 ∃ (y10 : Nat → Sl × Int → World → Prop),
 (∃ (b11 : Nat), y10 b11 ({ p := none, n := (0 : Nat), c := (0 : Nat) }, (0 : Int)) w8) ∧
 ∀ (b12 : Nat) (x13 : Sl × Int) (w14 : World) (y15 : Nat → Value),
 y10 b12 x13 w14 →
 (F74j1 R s6 y10 b12 x13 w14)
theorem F74_ok (t0 : Sl) (w : World) (R : Value → World → Prop) (h : F74 t0 w R) : CW Try.prog 74 #[Value.slice t0.1 t0.2 t0.3] w R :=
  call_of tbOk mixed en74 Try.func74 rfl (.node (.nil) (.node (.nil) (.node (.nil) (.node (.nil) (.node (.node (.nil) (.loop [(4, .one (.sl)), (15, .one (.int .i64))] [16, 17, 18, 6, 19, 20, 7, 21, 22, 23, 24, 25, 26, 27, 28, 29, 30, 31, 32, 33, 34, 35, 36, 37, 38, 39, 40, 41, 42, 43, 44, 45, 46, 47, 48, 49, 50, 51, 52, 4, 53, 15] (.node (.nil) (.node (.nil) (.node (.node (.nil) (.node (.nil) (.node (.node (.draw (.st 0 (.st 1 (.st 2 (.st 3 (.st 4 (.st 5 (.st 6 (.st 7 (.st 8 (.st 9 (.st 10 (.st 11 (.st 12 (.st 13 (.fin)))))))))))))))) (.node (.node (.draw (.st 0 (.st 1 (.st 2 (.st 3 (.st 4 (.st 5 (.st 6 (.st 7 (.st 8 (.st 9 (.st 10 (.st 11 (.st 12 (.st 13 (.ac 14 [] (.fin) (.non))))))))))))))))) (.nil)) (.nil))) (.nil)))) (.nil)))))) (.nil)))))) (by kernel_rfl) (Nat.le_of_ble_eq_true (by kernel_rfl)) (Eq.mp (α := F74 t0 w R) (by kernel_rfl) h)

def F99 (t0 : (Leaf.int IntKind.i64).den × dens [Leaf.int IntKind.i64]) (w : World) (R : Value → World → Prop) : Prop :=
 AllocP w (Obj.cells #[Value.int IntKind.i64 t0.1, Value.int IntKind.i64 t0.2] (51 : Nat)) fun (b1 : Nat) (w2 : World) =>
 ∃ (x3 : Int × Int),
 CellsAt w2 b1 (0 : Nat) [Value.int IntKind.i64 x3.1, Value.int IntKind.i64 x3.2] ∧
 CX Try.prog (100 : Nat) #[Value.agg #[Value.int IntKind.i64 x3.1, Value.int IntKind.i64 x3.2]] w2 fun (v4 : Value) (w5 : World) =>
 ∃ (t6 : Bool), v4 = Value.bool t6 ∧ R (Value.bool !t6) w5
theorem F99_ok (t0 : (Leaf.int IntKind.i64).den × dens [Leaf.int IntKind.i64]) (w : World) (R : Value → World → Prop) (h : F99 t0 w R) : CW Try.prog 99 #[Value.agg #[Value.int IntKind.i64 t0.1, Value.int IntKind.i64 t0.2]] w R :=
  call_of tbOk mixed en99 Try.func99 rfl (.nil) (by kernel_rfl) (Nat.le_of_ble_eq_true (by kernel_rfl)) (Eq.mp (α := F99 t0 w R) (by kernel_rfl) h)

def F102 (t0 : (Leaf.int IntKind.i64).den × dens [Leaf.int IntKind.i64]) (t1 : (Leaf.int IntKind.i64).den × dens [Leaf.int IntKind.i64]) (w : World) (R : Value → World → Prop) : Prop :=
 AllocP w (Obj.cells #[Value.int IntKind.i64 t0.1, Value.int IntKind.i64 t0.2] (51 : Nat)) fun (b1 : Nat) (w2 : World) =>
 AllocP w2 (Obj.cells #[Value.int IntKind.i64 t1.1, Value.int IntKind.i64 t1.2] (51 : Nat)) fun (b3 : Nat) (w4 : World) =>
 ∃ (n5 : Int),
 w4.cell? ({ block := b1, off := (0 : Nat) + (0 : Nat) } : Addr) = some (Value.int IntKind.i64 n5) ∧
 ∃ (n6 : Int),
 w4.cell? ({ block := b3, off := (0 : Nat) + (0 : Nat) } : Addr) = some (Value.int IntKind.i64 n6) ∧
 CX Try.prog (46 : Nat) #[Value.int IntKind.i64 n5, Value.int IntKind.i64 n6] w4 fun (v7 : Value) (w8 : World) =>
 ∃ (n9 : Int), v7 = Value.int IntKind.i64 n9 ∧ R (Value.int IntKind.i64 n9) w8
theorem F102_ok (t0 : (Leaf.int IntKind.i64).den × dens [Leaf.int IntKind.i64]) (t1 : (Leaf.int IntKind.i64).den × dens [Leaf.int IntKind.i64]) (w : World) (R : Value → World → Prop) (h : F102 t0 t1 w R) : CW Try.prog 102 #[Value.agg #[Value.int IntKind.i64 t0.1, Value.int IntKind.i64 t0.2], Value.agg #[Value.int IntKind.i64 t1.1, Value.int IntKind.i64 t1.2]] w R :=
  call_of tbOk mixed en102 Try.func102 rfl (.nil) (by kernel_rfl) (Nat.le_of_ble_eq_true (by kernel_rfl)) (Eq.mp (α := F102 t0 t1 w R) (by kernel_rfl) h)

def F100 (t0 : (Leaf.int IntKind.i64).den × dens [Leaf.int IntKind.i64]) (w : World) (R : Value → World → Prop) : Prop :=
 AllocP w (Obj.cells #[Value.int IntKind.i64 t0.1, Value.int IntKind.i64 t0.2] (51 : Nat)) fun (b1 : Nat) (w2 : World) =>
 ∃ (n3 : Int),
 w2.cell? ({ block := b1, off := (0 : Nat) + (0 : Nat) } : Addr) = some (Value.int IntKind.i64 n3) ∧
 IfB (decide ((0 : Int) ≤ n3))
 (∃ (n4 : Int),
 w2.cell? ({ block := b1, off := (0 : Nat) + (0 : Nat) } : Addr) = some (Value.int IntKind.i64 n4) ∧
 ∃ (n5 : Int),
 w2.cell? ({ block := b1, off := (0 : Nat) + (1 : Nat) } : Addr) = some (Value.int IntKind.i64 n5) ∧
 IfB (decide (n4 ≤ n5)) (∃ (n6 : Int), w2.cell? ({ block := b1, off := (0 : Nat) + (1 : Nat) } : Addr) = some (Value.int IntKind.i64 n6) ∧ R (Value.bool (decide (n6 ≤ (999 : Int)))) w2)
 (R (Value.bool false) w2))
 (R (Value.bool false) w2)
theorem F100_ok (t0 : (Leaf.int IntKind.i64).den × dens [Leaf.int IntKind.i64]) (w : World) (R : Value → World → Prop) (h : F100 t0 w R) : CW Try.prog 100 #[Value.agg #[Value.int IntKind.i64 t0.1, Value.int IntKind.i64 t0.2]] w R :=
  call_of tbOk mixed en100 Try.func100 rfl (.nil) (by kernel_rfl) (Nat.le_of_ble_eq_true (by kernel_rfl)) (Eq.mp (α := F100 t0 w R) (by kernel_rfl) h)

def F98j2 (t0 : Sl) (R : Value → World → Prop) (y15 : Nat → Sl × Int → World → Prop) (b17 : Nat) (x18 : Sl × Int) (w19 : World) : Prop :=
 IfB (decide (x18.snd < (t0.n : Int)))
 (∃ (b22 : Nat),
 ∃ (b23 : Nat),
 t0.1 = some ({ block := b22, off := b23 } : Addr) ∧
 ((0 : Int) ≤ x18.2 ∧ x18.2 < (t0.2 : Int)) ∧
 ∃ (s24 : Sl),
 w19.cell? ({ block := b22, off := b23 + x18.2.toNat } : Addr) = some (Value.slice s24.1 s24.2 s24.3) ∧
 ∃ (l25 : List Value),
 ReadC w19 s24.1 (s24.2 * (2 : Nat)) l25 ∧
 AppendP tt51 (51 : Nat) w19 x18.fst.1 x18.fst.2 x18.fst.3 s24.2 l25 fun (s26 : Sl) (w27 : World) =>
 ([] : List Nat) = [] ∧ ∃ (b28 : Nat), b28 < b17 ∧ y15 b28 ({ p := s26.1, n := s26.2, c := s26.3 }, IntKind.i64.wrap (x18.2 + (1 : Int))) w27)
 (R (Value.slice x18.fst.1 x18.fst.2 x18.fst.3) w19)
def F98j1 (t0 : Sl) (R : Value → World → Prop) (y1 : Nat → Int × Int → World → Prop) (b3 : Nat) (x4 : Int × Int) (w5 : World) : Prop :=
 IfB (decide (x4.snd < (t0.n : Int)))
 (∃ (b8 : Nat),
 ∃ (b9 : Nat),
 t0.1 = some ({ block := b8, off := b9 } : Addr) ∧
 ((0 : Int) ≤ x4.2 ∧ x4.2 < (t0.2 : Int)) ∧
 ∃ (s10 : Sl),
 w5.cell? ({ block := b8, off := b9 + x4.2.toNat } : Addr) = some (Value.slice s10.1 s10.2 s10.3) ∧
 IfB (decide (IntKind.i64.wrap (x4.fst + (s10.n : Int)) < (0 : Int))) False (([] : List Nat) = [] ∧ ∃ (b11 : Nat), b11 < b3 ∧ y1 b11 (IntKind.i64.wrap (x4.1 + (s10.2 : Int)), IntKind.i64.wrap (x4.2 + (1 : Int))) w5))
 (CX Try.prog (112 : Nat) #[Value.slice none (0 : Nat) (0 : Nat), Value.int IntKind.i64 x4.1] w5 fun (v12 : Value) (w13 : World) =>
 ∃ (s14 : Sl),
 v12 = Value.slice s14.1 s14.2 s14.3 ∧
 ∃ (y15 : Nat → Sl × Int → World → Prop),
 (∃ (b16 : Nat), y15 b16 ({ p := s14.1, n := s14.2, c := s14.3 }, (0 : Int)) w13) ∧
 ∀ (b17 : Nat) (x18 : Sl × Int) (w19 : World) (y20 : Nat → Value),
 y15 b17 x18 w19 →
 (F98j2 t0 R y15 b17 x18 w19))
def F98 (t0 : Sl) (w : World) (R : Value → World → Prop) : Prop :=
 ∃ (y1 : Nat → Int × Int → World → Prop),
 (∃ (b2 : Nat), y1 b2 ((0 : Int), (0 : Int)) w) ∧
 ∀ (b3 : Nat) (x4 : Int × Int) (w5 : World) (y6 : Nat → Value),
 y1 b3 x4 w5 →
 (F98j1 t0 R y1 b3 x4 w5)
theorem F98_ok (t0 : Sl) (w : World) (R : Value → World → Prop) (h : F98 t0 w R) : CW Try.prog 98 #[Value.slice t0.1 t0.2 t0.3] w R :=
  call_of tbOk mixed en98 Try.func98 rfl (.node (.nil) (.node (.nil) (.node (.node (.nil) (.loop [(3, .one (.int .i64)), (11, .one (.int .i64))] [12, 13, 14, 5, 15, 16, 17, 18, 3, 19, 20, 21, 22, 11] (.nil))) (.node (.nil) (.node (.node (.nil) (.loop [(6, .one (.sl)), (27, .one (.int .i64))] [28, 29, 30, 8, 31, 32, 33, 6, 34, 27] (.nil))) (.nil)))))) (by kernel_rfl) (Nat.le_of_ble_eq_true (by kernel_rfl)) (Eq.mp (α := F98 t0 w R) (by kernel_rfl) h)

def F97j1 (t0 : Sl) (t1 : Nat × Array Value) (R : Value → World → Prop) (y4 : Nat → Int × Int → World → Prop) (b6 : Nat) (x7 : Int × Int) (w8 : World) : Prop :=
 IfB (decide (x7.snd < (t0.n : Int)))
 (∃ (b11 : Nat),
 ∃ (b12 : Nat),
 t0.1 = some ({ block := b11, off := b12 } : Addr) ∧
 ((0 : Int) ≤ x7.2 ∧ x7.2 < (t0.2 : Int)) ∧
 ∃ (x13 : Int × Int),
 CellsAt w8 b11 (b12 + x7.2.toNat * (2 : Nat)) [Value.int IntKind.i64 x13.1, Value.int IntKind.i64 x13.2] ∧
 AllocP w8 (Obj.cells #[Value.int IntKind.i64 (0 : Int), Value.int IntKind.i64 (0 : Int)] (51 : Nat)) fun (b14 : Nat) (w15 : World) =>
 #[Value.int IntKind.i64 x13.1, Value.int IntKind.i64 x13.2].size = (2 : Nat) ∧
 StoreP w15 b14 (0 : Nat) [Value.int IntKind.i64 x13.1, Value.int IntKind.i64 x13.2] fun (w16 : World) =>
 ∃ (x17 : Int × Int),
 CellsAt w16 b14 (0 : Nat) [Value.int IntKind.i64 x17.1, Value.int IntKind.i64 x17.2] ∧
 CX Try.prog t1.1 { toList := Value.agg #[Value.int IntKind.i64 x17.1, Value.int IntKind.i64 x17.2] :: t1.snd.1 } w16 fun (v18 : Value) (w19 : World) =>
 ∃ (t20 : Bool),
 v18 = Value.bool t20 ∧
 IfB (!t20)
 (∃ (x21 : Int × Int),
 CellsAt w19 b14 (0 : Nat) [Value.int IntKind.i64 x21.1, Value.int IntKind.i64 x21.2] ∧
 ∃ (b22 : Nat),
 ∃ (b23 : Nat),
 t0.1 = some ({ block := b22, off := b23 } : Addr) ∧
 ((0 : Int) ≤ x7.1 ∧ x7.1 < (t0.2 : Int)) ∧
 #[Value.int IntKind.i64 x21.1, Value.int IntKind.i64 x21.2].size = (2 : Nat) ∧
 StoreP w19 b22 (b23 + x7.1.toNat * (2 : Nat)) [Value.int IntKind.i64 x21.1, Value.int IntKind.i64 x21.2] fun (w24 : World) =>
 ([] : List Nat) = [] ∧ ∃ (b25 : Nat), b25 < b6 ∧ y4 b25 (IntKind.i64.wrap (x7.1 + (1 : Int)), IntKind.i64.wrap (x7.2 + (1 : Int))) w24)
 (([] : List Nat) = [] ∧ ∃ (b26 : Nat), b26 < b6 ∧ y4 b26 (x7.1, IntKind.i64.wrap (x7.2 + (1 : Int))) w19))
 (((0 : Int) ≤ x7.1 ∧ x7.1 ≤ (t0.2 : Int)) ∧
 match slAddr t0.1 t0.3 x7.1.toNat (2 : Nat) with
 | none => ((0 : Int) ≤ x7.1 ∧ x7.1 ≤ (t0.3 : Int)) ∧ R (Value.slice (slAddr t0.1 t0.3 (0 : Nat) (2 : Nat)) x7.1.toNat t0.3) w8
 | some ({ block := b28, off := b29, spot := none } : Addr) =>
 StoreP w8 b28 b29 (zc #[Value.int IntKind.i64 (0 : Int), Value.int IntKind.i64 (0 : Int)] (t0.2 - x7.1.toNat)) fun (w30 : World) =>
 ((0 : Int) ≤ x7.1 ∧ x7.1 ≤ (t0.3 : Int)) ∧ R (Value.slice (slAddr t0.1 t0.3 (0 : Nat) (2 : Nat)) x7.1.toNat t0.3) w30
 | some y31 => False)
def F97 (t0 : Sl) (t1 : Nat × Array Value) (w : World) (R : Value → World → Prop) : Prop :=
 CX Try.prog (111 : Nat) #[Value.slice t0.1 t0.2 t0.3, Value.func (Fn.func t1.1) #[] t1.2] w fun (v1 : Value) (w2 : World) =>
 ∃ (n3 : Int),
 v1 = Value.int IntKind.i64 n3 ∧
 IfB (n3 == (-1 : Int)) (R (Value.slice t0.1 t0.2 t0.3) w2)
 (∃ (y4 : Nat → Int × Int → World → Prop),
 (∃ (b5 : Nat), y4 b5 (n3, IntKind.i64.wrap (n3 + (1 : Int))) w2) ∧
 ∀ (b6 : Nat) (x7 : Int × Int) (w8 : World) (y9 : Nat → Value),
 y4 b6 x7 w8 →
 (F97j1 t0 t1 R y4 b6 x7 w8))
theorem F97_ok (t0 : Sl) (t1 : Nat × Array Value) (w : World) (R : Value → World → Prop) (h : F97 t0 t1 w R) : CW Try.prog 97 #[Value.slice t0.1 t0.2 t0.3, Value.func (Fn.func t1.1) #[] t1.2] w R :=
  call_of tbOk mixed en97 Try.func97 rfl (.node (.nil) (.node (.nil) (.node (.nil) (.node (.node (.nil) (.loop [(5, .one (.int .i64)), (6, .one (.int .i64))] [16, 17, 18, 19, 22, 23, 24, 25, 7, 26, 27, 28, 29, 30, 31, 32, 33, 34, 35, 5, 20, 21, 6] (.nil))) (.nil))))) (by kernel_rfl) (Nat.le_of_ble_eq_true (by kernel_rfl)) (Eq.mp (α := F97 t0 t1 w R) (by kernel_rfl) h)

def F111j1 (t0 : Sl) (t1 : Nat × Array Value) (R : Value → World → Prop) (y1 : Nat → Int → World → Prop) (b3 : Nat) (n4 : Int) (w5 : World) : Prop :=
 IfB (decide (n4 < (t0.n : Int)))
 (∃ (b8 : Nat),
 ∃ (b9 : Nat),
 t0.1 = some ({ block := b8, off := b9 } : Addr) ∧
 ((0 : Int) ≤ n4 ∧ n4 < (t0.2 : Int)) ∧
 ∃ (x10 : Int × Int),
 CellsAt w5 b8 (b9 + n4.toNat * (2 : Nat)) [Value.int IntKind.i64 x10.1, Value.int IntKind.i64 x10.2] ∧
 CX Try.prog t1.1 { toList := Value.agg #[Value.int IntKind.i64 x10.1, Value.int IntKind.i64 x10.2] :: t1.snd.1 } w5 fun (v11 : Value) (w12 : World) =>
 ∃ (t13 : Bool), v11 = Value.bool t13 ∧ IfB t13 (R (Value.int IntKind.i64 n4) w12) (([] : List Nat) = [] ∧ ∃ (b14 : Nat), b14 < b3 ∧ y1 b14 (IntKind.i64.wrap (n4 + (1 : Int))) w12))
 (R (Value.int IntKind.i64 (-1 : Int)) w5)
def F111 (t0 : Sl) (t1 : Nat × Array Value) (w : World) (R : Value → World → Prop) : Prop :=
 ∃ (y1 : Nat → Int → World → Prop),
 (∃ (b2 : Nat), y1 b2 (0 : Int) w) ∧
 ∀ (b3 : Nat) (n4 : Int) (w5 : World) (y6 : Nat → Value),
 y1 b3 n4 w5 →
 (F111j1 t0 t1 R y1 b3 n4 w5)
theorem F111_ok (t0 : Sl) (t1 : Nat × Array Value) (w : World) (R : Value → World → Prop) (h : F111 t0 t1 w R) : CW Try.prog 111 #[Value.slice t0.1 t0.2 t0.3, Value.func (Fn.func t1.1) #[] t1.2] w R :=
  call_of tbOk mixed en111 Try.func111 rfl (.node (.nil) (.node (.node (.nil) (.loop [(8, .one (.int .i64))] [9, 10, 5, 11, 12, 13, 14, 15, 16, 17, 4, 18, 8] (.nil))) (.nil))) (by kernel_rfl) (Nat.le_of_ble_eq_true (by kernel_rfl)) (Eq.mp (α := F111 t0 t1 w R) (by kernel_rfl) h)

def F112 (t0 : Sl) (t1 : Int) (w : World) (R : Value → World → Prop) : Prop :=
 IfB (decide (t1 < (0 : Int))) False
 (IfB (decide ((0 : Int) < IntKind.i64.wrap (t1 - IntKind.i64.wrap ((t0.c : Int) - (t0.n : Int)))))
 (((0 : Int) ≤ (t0.3 : Int) ∧ (t0.3 : Int) ≤ (t0.3 : Int)) ∧
 ((0 : Int) ≤ IntKind.i64.wrap (t1 - IntKind.i64.wrap ((t0.3 : Int) - (t0.2 : Int))) ∧
 IntKind.i64.wrap (t1 - IntKind.i64.wrap ((t0.3 : Int) - (t0.2 : Int))) ≤ (281474976710656 : Int) ∧ IntKind.i64.wrap (t1 - IntKind.i64.wrap ((t0.3 : Int) - (t0.2 : Int))) * ((16 : Nat) : Int) ≤ (281474976710656 : Int)) ∧
 AppendP tt51 (51 : Nat) w (slAddr t0.1 t0.3 (0 : Nat) (2 : Nat)) ((t0.3 : Int)).toNat t0.3 (IntKind.i64.wrap (t1 - IntKind.i64.wrap ((t0.3 : Int) - (t0.2 : Int)))).toNat
 (zc #[Value.int IntKind.i64 (0 : Int), Value.int IntKind.i64 (0 : Int)] (IntKind.i64.wrap (t1 - IntKind.i64.wrap ((t0.3 : Int) - (t0.2 : Int)))).toNat) fun (s1 : Sl) (w2 : World) =>
 ((0 : Int) ≤ (t0.2 : Int) ∧ (t0.2 : Int) ≤ (s1.3 : Int)) ∧ R (Value.slice (slAddr s1.1 s1.3 (0 : Nat) (2 : Nat)) ((t0.2 : Int)).toNat s1.3) w2)
 (R (Value.slice t0.1 t0.2 t0.3) w))
theorem F112_ok (t0 : Sl) (t1 : Int) (w : World) (R : Value → World → Prop) (h : F112 t0 t1 w R) : CW Try.prog 112 #[Value.slice t0.1 t0.2 t0.3, Value.int IntKind.i64 t1] w R :=
  call_of tbOk mixed en112 Try.func112 rfl (.nil) (by kernel_rfl) (Nat.le_of_ble_eq_true (by kernel_rfl)) (Eq.mp (α := F112 t0 t1 w R) (by kernel_rfl) h)

def F46 (t0 : Int) (t1 : Int) (w : World) (R : Value → World → Prop) : Prop :=
 CX Try.prog (63 : Nat) #[Value.int IntKind.i64 t0] w fun (v1 : Value) (w2 : World) =>
 ∃ (t3 : Bool),
 v1 = Value.bool t3 ∧
 CX Try.prog (63 : Nat) #[Value.int IntKind.i64 t1] w2 fun (v4 : Value) (w5 : World) =>
 ∃ (t6 : Bool),
 v4 = Value.bool t6 ∧
 IfB t3 (IfB t6 (R (Value.int IntKind.i64 (0 : Int)) w5) (R (Value.int IntKind.i64 (-1 : Int)) w5))
 (IfB t6 (R (Value.int IntKind.i64 (1 : Int)) w5)
 (IfB (decide (t0 < t1)) (R (Value.int IntKind.i64 (-1 : Int)) w5) (IfB (decide (t1 < t0)) (R (Value.int IntKind.i64 (1 : Int)) w5) (R (Value.int IntKind.i64 (0 : Int)) w5))))
theorem F46_ok (t0 : Int) (t1 : Int) (w : World) (R : Value → World → Prop) (h : F46 t0 t1 w R) : CW Try.prog 46 #[Value.int IntKind.i64 t0, Value.int IntKind.i64 t1] w R :=
  call_of tbOk mixed en46 Try.func46 rfl (.nil) (by kernel_rfl) (Nat.le_of_ble_eq_true (by kernel_rfl)) (Eq.mp (α := F46 t0 t1 w R) (by kernel_rfl) h)

end Go.Proofs.Ytmmhbjbaallkfaa.Gx
