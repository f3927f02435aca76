/- Written by mkf.py: what is to be shown of functions, as Gx reckons it from their code. -/
import Derived.Test.YtmmhbjbaallkfaaGxT
namespace Go.Proofs.Ytmmhbjbaallkfaa.Gx
open Go
set_option linter.unusedVariables false
set_option maxRecDepth 100000

def F35j3 (t0 : Sl) (b1 : Nat) (y3 : Nat → Int → World → Prop) (b5 : Nat) (n6 : Int) (y26 : Nat → Int → World → Prop) (b28 : Nat) (n29 : Int) (w30 : World) : Prop :=
 ∃ (b33 : Nat),
 ∃ (b34 : Nat),
 t0.1 = some ({ block := b33, off := b34 } : Addr) ∧
 ((0 : Int) ≤ n6 ∧ n6 < (t0.2 : Int)) ∧
 ∃ (n35 : Int),
 w30.cell? ({ block := b33, off := b34 + n6.toNat * (2 : Nat) + (1 : Nat) } : Addr) = some (Value.int IntKind.i64 n35) ∧
 IfB (decide (n29 ≤ n35))
 (((0 : Int) ≤ n29 ∧ n29 < ((1000 : Nat) : Int)) ∧
 #[Value.bool true].size = (1 : Nat) ∧
 StoreP w30 b1 ((0 : Nat) + n29.toNat) [Value.bool true] fun (w36 : World) => ([] : List Nat) = [] ∧ ∃ (b37 : Nat), b37 < b28 ∧ y26 b37 (IntKind.i64.wrap (n29 + (1 : Int))) w36)
 (([] : List Nat) = [] ∧ ∃ (b38 : Nat), b38 < b5 ∧ y3 b38 (IntKind.i64.wrap (n6 + (1 : Int))) w30)
def F35j2 (t0 : Sl) (b1 : Nat) (y3 : Nat → Int → World → Prop) (b5 : Nat) (n6 : Int) (w12 : World) : Prop :=
 ∃ (b15 : Nat),
 ∃ (b16 : Nat),
 t0.1 = some ({ block := b15, off := b16 } : Addr) ∧
 ((0 : Int) ≤ n6 ∧ n6 < (t0.2 : Int)) ∧
 ∃ (n17 : Int),
 w12.cell? ({ block := b15, off := b16 + n6.toNat * (2 : Nat) + (0 : Nat) } : Addr) = some (Value.int IntKind.i64 n17) ∧
 IfB (decide (n17 < (0 : Int))) (([] : List Nat) = [] ∧ ∃ (b18 : Nat), b18 < b5 ∧ y3 b18 (IntKind.i64.wrap (n6 + (1 : Int))) w12)
 (∃ (b19 : Nat),
 ∃ (b20 : Nat),
 t0.1 = some ({ block := b19, off := b20 } : Addr) ∧
 ((0 : Int) ≤ n6 ∧ n6 < (t0.2 : Int)) ∧
 ∃ (n21 : Int),
 w12.cell? ({ block := b19, off := b20 + n6.toNat * (2 : Nat) + (1 : Nat) } : Addr) = some (Value.int IntKind.i64 n21) ∧
 IfB (decide ((999 : Int) < n21)) (([] : List Nat) = [] ∧ ∃ (b22 : Nat), b22 < b5 ∧ y3 b22 (IntKind.i64.wrap (n6 + (1 : Int))) w12)
 (∃ (b23 : Nat),
 ∃ (b24 : Nat),
 t0.1 = some ({ block := b23, off := b24 } : Addr) ∧
 ((0 : Int) ≤ n6 ∧ n6 < (t0.2 : Int)) ∧
 ∃ (n25 : Int),
 w12.cell? ({ block := b23, off := b24 + n6.toNat * (2 : Nat) + (0 : Nat) } : Addr) = some (Value.int IntKind.i64 n25) ∧
 ∃ (y26 : Nat → Int → World → Prop),
 (∃ (b27 : Nat), y26 b27 n25 w12) ∧
 ∀ (b28 : Nat) (n29 : Int) (w30 : World) (y31 : Nat → Value),
 y26 b28 n29 w30 →
 (F35j3 t0 b1 y3 b5 n6 y26 b28 n29 w30)))
def F35 (t0 : Sl) (w : World) (R : Value → World → Prop) : Prop :=
 AllocP w (Obj.cells (Array.replicate (1000 : Nat) (Value.bool false)) (72 : Nat)) fun (b1 : Nat) (w2 : World) =>
 ∃ (y3 : Nat → Int → World → Prop),
 (∃ (b4 : Nat), y3 b4 (0 : Int) w2) ∧
 ∀ (b5 : Nat) (n6 : Int) (w7 : World) (y8 : Nat → Value),
 y3 b5 n6 w7 →
 ∃ (y10 : Unit → World → Prop),
 IfB (decide (n6 < (t0.n : Int))) (([] : List Nat) = [] ∧ y10 PUnit.unit w7) (R (Value.pointer (some ({ block := b1, off := (0 : Nat) } : Addr))) w7) ∧
 ∀ (y11 : Unit) (w12 : World) (y13 : Nat → Value),
 y10 y11 w12 →
 (F35j2 t0 b1 y3 b5 n6 w12)
theorem F35_ok (t0 : Sl) (w : World) (R : Value → World → Prop) (h : F35 t0 w R) : CW Try.prog 35 #[Value.slice t0.1 t0.2 t0.3] w R :=
  call_of tbOk mixed en35 Try.func35 rfl (.node (.nil) (.node (.nil) (.node (.node (.nil) (.loop [(4, .one (.int .i64))] [6, 7, 8, 9, 12, 13, 14, 15, 16, 17, 18, 19, 20, 21, 22, 23, 24, 25, 26, 27, 28, 29, 30, 5, 31, 32, 33, 34, 35, 36, 37, 40, 41, 38, 39, 10, 11, 4] (.join [] [6, 7, 8, 9] (.nil) (.node (.node (.nil) (.node (.nil) (.loop [(5, .one (.int .i64))] [31, 32, 33, 34, 35, 36, 37, 40, 41, 38, 39, 5] (.nil)))) (.nil))))) (.nil)))) (by kernel_rfl) (Nat.le_of_ble_eq_true (by kernel_rfl)) (Eq.mp (α := F35 t0 w R) (by kernel_rfl) h)

def F36j1 (t0 : Option Addr) (t1 : Option Addr) (R : Value → World → Prop) (y1 : Nat → Int → World → Prop) (b3 : Nat) (n4 : Int) (w5 : World) : Prop :=
 IfB (decide (n4 < (1000 : Int)))
 (∃ (y8 : Bool → World → Prop),
 (∃ (b9 : Nat),
 ∃ (b10 : Nat),
 t0 = some ({ block := b9, off := b10 } : Addr) ∧
 ((0 : Int) ≤ n4 ∧ n4 < ((1000 : Nat) : Int)) ∧
 ∃ (t11 : Bool),
 w5.cell? ({ block := b9, off := b10 + n4.toNat } : Addr) = some (Value.bool t11) ∧
 IfB t11
 (∃ (b12 : Nat),
 ∃ (b13 : Nat),
 t1 = some ({ block := b12, off := b13 } : Addr) ∧ ((0 : Int) ≤ n4 ∧ n4 < ((1000 : Nat) : Int)) ∧ ∃ (t14 : Bool), w5.cell? ({ block := b12, off := b13 + n4.toNat } : Addr) = some (Value.bool t14) ∧ ([] : List Nat) = [] ∧ y8 t14 w5)
 (([] : List Nat) = [] ∧ y8 false w5)) ∧
 ∀ (t15 : Bool) (w16 : World) (y17 : Nat → Value), y8 t15 w16 → IfB t15 (R (Value.bool true) w16) (([] : List Nat) = [] ∧ ∃ (b19 : Nat), b19 < b3 ∧ y1 b19 (IntKind.i64.wrap (n4 + (1 : Int))) w16))
 (R (Value.bool false) w5)
def F36 (t0 : Option Addr) (t1 : Option Addr) (w : World) (R : Value → World → Prop) : Prop :=
 ∃ (y1 : Nat → Int → World → Prop),
 (∃ (b2 : Nat), y1 b2 (0 : Int) w) ∧
 ∀ (b3 : Nat) (n4 : Int) (w5 : World) (y6 : Nat → Value),
 y1 b3 n4 w5 →
 (F36j1 t0 t1 R y1 b3 n4 w5)
theorem F36_ok (t0 : Option Addr) (t1 : Option Addr) (w : World) (R : Value → World → Prop) (h : F36 t0 t1 w R) : CW Try.prog 36 #[Value.pointer t0, Value.pointer t1] w R :=
  call_of tbOk mixed en36 Try.func36 rfl (.node (.nil) (.node (.node (.nil) (.loop [(5, .one (.int .i64))] [6, 7, 10, 11, 12, 13, 14, 15, 16, 17, 18, 19, 20, 21, 4, 8, 9, 5] (.node (.nil) (.node (.join [(21, .one (.bool))] [10, 11, 12, 13, 14, 15, 16, 17, 18, 19, 20, 21] (.nil) (.nil)) (.nil))))) (.nil))) (by kernel_rfl) (Nat.le_of_ble_eq_true (by kernel_rfl)) (Eq.mp (α := F36 t0 t1 w R) (by kernel_rfl) h)

def F12 (t0 : (Leaf.int IntKind.i64).den × dens [Leaf.int IntKind.i64, Leaf.int IntKind.i64, Leaf.bool, Leaf.sl, Leaf.sl]) (t1 : (Leaf.int IntKind.i64).den × dens [Leaf.int IntKind.i64, Leaf.int IntKind.i64, Leaf.bool, Leaf.sl, Leaf.sl]) (w : World) (R : Value → World → Prop) : Prop :=
 AllocP w
 (Obj.cells
 #[Value.int IntKind.i64 t0.1, Value.int IntKind.i64 t0.snd.1, Value.int IntKind.i64 t0.snd.snd.1, Value.bool t0.snd.snd.snd.1,
 Value.slice t0.snd.snd.snd.snd.fst.1 t0.snd.snd.snd.snd.fst.2 t0.snd.snd.snd.snd.fst.3, Value.slice t0.snd.snd.snd.snd.snd.1 t0.snd.snd.snd.snd.snd.2 t0.snd.snd.snd.snd.snd.3]
 (27 : Nat))
 fun (b1 : Nat) (w2 : World) =>
 AllocP w2
 (Obj.cells
 #[Value.int IntKind.i64 t1.1, Value.int IntKind.i64 t1.snd.1, Value.int IntKind.i64 t1.snd.snd.1, Value.bool t1.snd.snd.snd.1,
 Value.slice t1.snd.snd.snd.snd.fst.1 t1.snd.snd.snd.snd.fst.2 t1.snd.snd.snd.snd.fst.3, Value.slice t1.snd.snd.snd.snd.snd.1 t1.snd.snd.snd.snd.snd.2 t1.snd.snd.snd.snd.snd.3]
 (27 : Nat))
 fun (b3 : Nat) (w4 : World) =>
 ∃ (n5 : Int),
 w4.cell? ({ block := b1, off := (0 : Nat) + (0 : Nat) } : Addr) = some (Value.int IntKind.i64 n5) ∧
 ∃ (n6 : Int),
 w4.cell? ({ block := b3, off := (0 : Nat) + (0 : Nat) } : Addr) = some (Value.int IntKind.i64 n6) ∧
 IfB (n5 == n6) (R (Value.bool false) w4)
 (∃ (s7 : Sl),
 w4.drew.cell? ({ block := b1, off := (0 : Nat) + (4 : Nat) } : Addr) = some (Value.slice s7.1 s7.2 s7.3) ∧
 ∃ (s8 : Sl),
 w4.drew.cell? ({ block := b1, off := (0 : Nat) + (5 : Nat) } : Addr) = some (Value.slice s8.1 s8.2 s8.3) ∧
 ∃ (s9 : Sl),
 w4.drew.cell? ({ block := b3, off := (0 : Nat) + (4 : Nat) } : Addr) = some (Value.slice s9.1 s9.2 s9.3) ∧
 ∃ (s10 : Sl),
 w4.drew.cell? ({ block := b3, off := (0 : Nat) + (5 : Nat) } : Addr) = some (Value.slice s10.1 s10.2 s10.3) ∧
 CX Try.prog (35 : Nat) #[Value.slice s7.1 s7.2 s7.3] w4.drew fun (v11 : Value) (w12 : World) =>
 ∃ (p13 : Option Addr),
 v11 = Value.pointer p13 ∧
 w12.cell? ({ block := b3, off := (0 : Nat) + (5 : Nat) } : Addr) = some (Value.slice s10.1 s10.2 s10.3) ∧
 w12.cell? ({ block := b3, off := (0 : Nat) + (4 : Nat) } : Addr) = some (Value.slice s9.1 s9.2 s9.3) ∧
 w12.cell? ({ block := b1, off := (0 : Nat) + (5 : Nat) } : Addr) = some (Value.slice s8.1 s8.2 s8.3) ∧
 CX Try.prog (35 : Nat) #[Value.slice s8.1 s8.2 s8.3] w12 fun (v14 : Value) (w15 : World) =>
 ∃ (p16 : Option Addr),
 v14 = Value.pointer p16 ∧
 w15.cell? ({ block := b3, off := (0 : Nat) + (5 : Nat) } : Addr) = some (Value.slice s10.1 s10.2 s10.3) ∧
 w15.cell? ({ block := b3, off := (0 : Nat) + (4 : Nat) } : Addr) = some (Value.slice s9.1 s9.2 s9.3) ∧
 CX Try.prog (35 : Nat) #[Value.slice s9.1 s9.2 s9.3] w15 fun (v17 : Value) (w18 : World) =>
 ∃ (p19 : Option Addr),
 v17 = Value.pointer p19 ∧
 w18.cell? ({ block := b3, off := (0 : Nat) + (5 : Nat) } : Addr) = some (Value.slice s10.1 s10.2 s10.3) ∧
 CX Try.prog (35 : Nat) #[Value.slice s10.1 s10.2 s10.3] w18 fun (v20 : Value) (w21 : World) =>
 ∃ (p22 : Option Addr),
 v20 = Value.pointer p22 ∧
 CX Try.prog (36 : Nat) #[Value.pointer p16, Value.pointer p19] w21 fun (v23 : Value) (w24 : World) =>
 ∃ (t25 : Bool),
 v23 = Value.bool t25 ∧
 IfB t25 (R (Value.bool true) w24)
 (CX Try.prog (36 : Nat) #[Value.pointer p16, Value.pointer p22] w24 fun (v26 : Value) (w27 : World) =>
 ∃ (t28 : Bool),
 v26 = Value.bool t28 ∧
 IfB t28 (R (Value.bool true) w27)
 (CX Try.prog (36 : Nat) #[Value.pointer p13, Value.pointer p22] w27 fun (v29 : Value) (w30 : World) => ∃ (t31 : Bool), v29 = Value.bool t31 ∧ R (Value.bool t31) w30)))
theorem F12_ok (t0 : (Leaf.int IntKind.i64).den × dens [Leaf.int IntKind.i64, Leaf.int IntKind.i64, Leaf.bool, Leaf.sl, Leaf.sl]) (t1 : (Leaf.int IntKind.i64).den × dens [Leaf.int IntKind.i64, Leaf.int IntKind.i64, Leaf.bool, Leaf.sl, Leaf.sl]) (w : World) (R : Value → World → Prop) (h : F12 t0 t1 w R) : CW Try.prog 12 #[Value.agg #[Value.int IntKind.i64 t0.1, Value.int IntKind.i64 t0.snd.1, Value.int IntKind.i64 t0.snd.snd.1, Value.bool t0.snd.snd.snd.1, Value.slice t0.snd.snd.snd.snd.fst.1 t0.snd.snd.snd.snd.fst.2 t0.snd.snd.snd.snd.fst.3, Value.slice t0.snd.snd.snd.snd.snd.1 t0.snd.snd.snd.snd.snd.2 t0.snd.snd.snd.snd.snd.3], Value.agg #[Value.int IntKind.i64 t1.1, Value.int IntKind.i64 t1.snd.1, Value.int IntKind.i64 t1.snd.snd.1, Value.bool t1.snd.snd.snd.1, Value.slice t1.snd.snd.snd.snd.fst.1 t1.snd.snd.snd.snd.fst.2 t1.snd.snd.snd.snd.fst.3, Value.slice t1.snd.snd.snd.snd.snd.1 t1.snd.snd.snd.snd.snd.2 t1.snd.snd.snd.snd.snd.3]] w R :=
  call_of tbOk mixed en12 Try.func12 rfl (.node (.nil) (.node (.nil) (.node (.draw (.st 0 (.st 1 (.st 3 (.st 4 (.st 6 (.st 7 (.st 9 (.st 10 (.ac 2 [10, 9, 7, 6, 4, 3] (.ac 5 [10, 9, 7, 6] (.ac 8 [10, 9] (.ac 11 [] (.st 12 (.st 13 (.st 14 (.st 15 (.fin))))) (.non)) (.non)) (.non)) (.non))))))))))) (.nil)))) (by kernel_rfl) (Nat.le_of_ble_eq_true (by kernel_rfl)) (Eq.mp (α := F12 t0 t1 w R) (by kernel_rfl) h)

end Go.Proofs.Ytmmhbjbaallkfaa.Gx
