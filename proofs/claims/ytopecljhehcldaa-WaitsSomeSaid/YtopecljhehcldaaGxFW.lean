/- Written by mkf.py: what is to be shown of functions, as Gx reckons it from their code. -/
import Derived.Test.YtopecljhehcldaaGxT
namespace Go.Proofs.Ytopecljhehcldaa.Gx
open Go
set_option linter.unusedVariables false
set_option maxRecDepth 100000

def F54 (w : World) (R : Value → World → Prop) : Prop :=
 AllocP w (Obj.cells #[Value.map none] (94 : Nat)) fun (b1 : Nat) (w2 : World) =>
 (1 : Nat) * (1 : Nat) ≤ (16777216 : Nat) ∧
 AllocP w2 (Obj.cells #[Value.int IntKind.i64 (2 : Int)] (3 : Nat)) fun (b3 : Nat) (w4 : World) =>
 CX Try.prog (55 : Nat) #[Value.pointer (some ({ block := b1, off := (0 : Nat) } : Addr)), Value.int IntKind.i64 (1 : Int), Value.slice (some ({ block := b3, off := (0 : Nat) } : Addr)) (1 : Nat) (1 : Nat)]
 w4 fun (v5 : Value) (w6 : World) =>
 ∃ (t7 : Bool),
 v5 = Value.bool t7 ∧
 IfB t7
 ((1 : Nat) * (1 : Nat) ≤ (16777216 : Nat) ∧
 AllocP w6 (Obj.cells #[Value.int IntKind.i64 (1 : Int)] (3 : Nat)) fun (b8 : Nat) (w9 : World) =>
 CX Try.prog (55 : Nat) #[Value.pointer (some ({ block := b1, off := (0 : Nat) } : Addr)), Value.int IntKind.i64 (2 : Int), Value.slice (some ({ block := b8, off := (0 : Nat) } : Addr)) (1 : Nat) (1 : Nat)]
 w9 fun (v10 : Value) (w11 : World) =>
 ∃ (t12 : Bool),
 v10 = Value.bool t12 ∧
 IfB (!t12)
 (CX Try.prog (57 : Nat) #[Value.pointer (some ({ block := b1, off := (0 : Nat) } : Addr)), Value.int IntKind.i64 (1 : Int)] w11 fun (v13 : Value) (w14 : World) =>
 ∃ (s15 : Sl), v13 = Value.slice s15.1 s15.2 s15.3 ∧ R (Value.bool ((s15.2 : Int) == (1 : Int))) w14)
 (R (Value.bool false) w11))
 (R (Value.bool false) w6)
theorem F54_ok (w : World) (R : Value → World → Prop) (h : F54  w R) : CW Try.prog 54 #[] w R :=
  call_of tbOk mixed en54 Try.func54 rfl (.nil) (by kernel_rfl) (Nat.le_of_ble_eq_true (by kernel_rfl)) (Eq.mp (α := F54  w R) (by kernel_rfl) h)

def F55 (t0 : Option Addr) (t1 : Int) (t2 : Sl) (w : World) (R : Value → World → Prop) : Prop :=
 AllocP w (Obj.cells #[Value.pointer t0] (109 : Nat)) fun (b1 : Nat) (w2 : World) =>
 AllocP w2 (Obj.cells #[Value.int IntKind.i64 t1] (3 : Nat)) fun (b3 : Nat) (w4 : World) =>
 ∃ (p5 : Option Addr),
 w4.cell? ({ block := b1, off := (0 : Nat) } : Addr) = some (Value.pointer p5) ∧
 IfB p5.isNone (R (Value.bool false) w4)
 (∃ (p6 : Option Addr),
 w4.drew.cell? ({ block := b1, off := (0 : Nat) } : Addr) = some (Value.pointer p6) ∧
 ∃ (b7 : Nat),
 ∃ (b8 : Nat),
 p6 = some ({ block := b7, off := b8 } : Addr) ∧
 ∃ (p9 : Option Nat),
 w4.drew.cell? ({ block := b7, off := b8 + (0 : Nat) } : Addr) = some (Value.map p9) ∧
 ∃ (n10 : Int),
 w4.drew.cell? ({ block := b3, off := (0 : Nat) } : Addr) = some (Value.int IntKind.i64 n10) ∧
 MapGetP (TypeDesc.int IntKind.i64) w4.drew (Value.map p9) (Value.int IntKind.i64 n10) (Value.slice none (0 : Nat) (0 : Nat)) fun (v11 : Value) (t12 : Bool) =>
 ∃ (s13 : Sl),
 v11 = Value.slice s13.1 s13.2 s13.3 ∧
 CX Try.prog (85 : Nat) #[Value.slice t2.1 t2.2 t2.3] w4.drew fun (v14 : Value) (w15 : World) =>
 ∃ (x16 : Nat × Array Value),
 v14 = Value.func (Fn.func x16.1) #[] x16.2 ∧
 CX Try.prog (80 : Nat) #[Value.func (Fn.func x16.1) #[] x16.2] w15 fun (v17 : Value) (w18 : World) =>
 ∃ (s19 : Sl),
 v17 = Value.slice s19.1 s19.2 s19.3 ∧
 CX Try.prog (86 : Nat) #[Value.slice s19.1 s19.2 s19.3] w18 fun (v20 : Value) (w21 : World) =>
 ∃ (s22 : Sl),
 v20 = Value.slice s22.1 s22.2 s22.3 ∧
 CX Try.prog (84 : Nat)
 #[Value.slice s22.1 s22.2 s22.3, Value.bool (decide ((0 : Int) < (s22.n : Int))), Value.pointer (some ({ block := b1, off := (0 : Nat) } : Addr)), Value.pointer (some ({ block := b3, off := (0 : Nat) } : Addr))]
 w21 fun (v23 : Value) (w24 : World) =>
 ∃ (y25 : Unit),
 v23 = Value.tuple #[] ∧
 ∃ (p26 : Option Addr),
 w24.drew.cell? ({ block := b1, off := (0 : Nat) } : Addr) = some (Value.pointer p26) ∧
 ∃ (n27 : Int),
 w24.drew.cell? ({ block := b3, off := (0 : Nat) } : Addr) = some (Value.int IntKind.i64 n27) ∧
 ∃ (n28 : Int),
 w24.drew.cell? ({ block := b3, off := (0 : Nat) } : Addr) = some (Value.int IntKind.i64 n28) ∧
 CX Try.prog (88 : Nat) #[Value.pointer p26, Value.int IntKind.i64 n27] w24.drew fun (v29 : Value) (w30 : World) =>
 ∃ (s31 : Sl),
 v29 = Value.slice s31.1 s31.2 s31.3 ∧
 w30.cell? ({ block := b3, off := (0 : Nat) } : Addr) = some (Value.int IntKind.i64 n28) ∧
 CX Try.prog (87 : Nat) #[Value.slice s31.1 s31.2 s31.3, Value.int IntKind.i64 n28] w30 fun (v32 : Value) (w33 : World) =>
 ∃ (t34 : Bool),
 v32 = Value.bool t34 ∧
 IfB t34
 (CX Try.prog (84 : Nat) #[Value.slice s13.1 s13.2 s13.3, Value.bool t12, Value.pointer (some ({ block := b1, off := (0 : Nat) } : Addr)), Value.pointer (some ({ block := b3, off := (0 : Nat) } : Addr))]
 w33 fun (v35 : Value) (w36 : World) => ∃ (y37 : Unit), v35 = Value.tuple #[] ∧ R (Value.bool false) w36)
 (R (Value.bool true) w33))
theorem F55_ok (t0 : Option Addr) (t1 : Int) (t2 : Sl) (w : World) (R : Value → World → Prop) (h : F55 t0 t1 t2 w R) : CW Try.prog 55 #[Value.pointer t0, Value.int IntKind.i64 t1, Value.slice t2.1 t2.2 t2.3] w R :=
  call_of tbOk mixed en55 Try.func55 rfl (.node (.nil) (.node (.nil) (.node (.draw (.st 0 (.st 1 (.st 2 (.st 3 (.st 4 (.ac 5 [] (.st 6 (.st 7 (.st 8 (.st 9 (.st 10 (.fin)))))) (.non)))))))) (.node (.nil) (.node (.nil) (.node (.nil) (.node (.nil) (.node (.node (.draw (.st 0 (.st 1 (.st 3 (.ac 2 [3] (.ac 4 [] (.fin) (.non)) (.non)))))) (.nil)) (.nil))))))))) (by kernel_rfl) (Nat.le_of_ble_eq_true (by kernel_rfl)) (Eq.mp (α := F55 t0 t1 t2 w R) (by kernel_rfl) h)

def F56 (t0 : Option Addr) (w : World) (R : Value → World → Prop) : Prop :=
 IfB t0.isNone (R (Value.slice none (0 : Nat) (0 : Nat)) w)
 (∃ (b1 : Nat),
 ∃ (b2 : Nat),
 t0 = some ({ block := b1, off := b2 } : Addr) ∧
 ∃ (p3 : Option Nat),
 w.cell? ({ block := b1, off := b2 + (0 : Nat) } : Addr) = some (Value.map p3) ∧
 CX Try.prog (89 : Nat) #[Value.map p3] w fun (v4 : Value) (w5 : World) =>
 ∃ (x6 : Nat × Array Value),
 v4 = Value.func (Fn.func x6.1) #[] x6.2 ∧
 CX Try.prog (80 : Nat) #[Value.func (Fn.func x6.1) #[] x6.2] w5 fun (v7 : Value) (w8 : World) =>
 ∃ (s9 : Sl), v7 = Value.slice s9.1 s9.2 s9.3 ∧ R (Value.slice s9.1 s9.2 s9.3) w8)
theorem F56_ok (t0 : Option Addr) (w : World) (R : Value → World → Prop) (h : F56 t0 w R) : CW Try.prog 56 #[Value.pointer t0] w R :=
  call_of tbOk mixed en56 Try.func56 rfl (.nil) (by kernel_rfl) (Nat.le_of_ble_eq_true (by kernel_rfl)) (Eq.mp (α := F56 t0 w R) (by kernel_rfl) h)

def F57 (t0 : Option Addr) (t1 : Int) (w : World) (R : Value → World → Prop) : Prop :=
 IfB t0.isNone (R (Value.slice none (0 : Nat) (0 : Nat)) w)
 (∃ (b1 : Nat),
 ∃ (b2 : Nat),
 t0 = some ({ block := b1, off := b2 } : Addr) ∧
 ∃ (p3 : Option Nat),
 w.cell? ({ block := b1, off := b2 + (0 : Nat) } : Addr) = some (Value.map p3) ∧
 MapGetP (TypeDesc.int IntKind.i64) w (Value.map p3) (Value.int IntKind.i64 t1) (Value.slice none (0 : Nat) (0 : Nat)) fun (v4 : Value) (t5 : Bool) =>
 ∃ (s6 : Sl),
 v4 = Value.slice s6.1 s6.2 s6.3 ∧
 CX Try.prog (90 : Nat) #[Value.slice s6.1 s6.2 s6.3] w fun (v7 : Value) (w8 : World) => ∃ (s9 : Sl), v7 = Value.slice s9.1 s9.2 s9.3 ∧ R (Value.slice s9.1 s9.2 s9.3) w8)
theorem F57_ok (t0 : Option Addr) (t1 : Int) (w : World) (R : Value → World → Prop) (h : F57 t0 t1 w R) : CW Try.prog 57 #[Value.pointer t0, Value.int IntKind.i64 t1] w R :=
  call_of tbOk mixed en57 Try.func57 rfl (.nil) (by kernel_rfl) (Nat.le_of_ble_eq_true (by kernel_rfl)) (Eq.mp (α := F57 t0 t1 w R) (by kernel_rfl) h)

def F58j1 (t0 : Option Addr) (R : Value → World → Prop) (b1 : Nat) (b11 : Nat) (y13 : Nat → Unit → World → Prop) (b15 : Nat) (w17 : World) : Prop :=
 NextP w17 b11 (fun (w20 : World) => R (Value.tuple #[]) w20) fun (v21 v22 : Value) (w23 : World) =>
 EntryP w23 b11 fun (v24 v25 : Value) =>
 CX Try.prog (90 : Nat) #[v25] w23 fun (v26 : Value) (w27 : World) =>
 ∃ (s28 : Sl),
 v26 = Value.slice s28.1 s28.2 s28.3 ∧
 CX Try.prog (91 : Nat) #[Value.slice s28.1 s28.2 s28.3, Value.func (Fn.func (92 : Nat)) #[] #[Value.pointer (some ({ block := b1, off := (0 : Nat) } : Addr))]] w27
 fun (v29 : Value) (w30 : World) =>
 ∃ (s31 : Sl),
 v29 = Value.slice s31.1 s31.2 s31.3 ∧
 IfB ((s31.2 : Int) == (0 : Int))
 (∃ (b32 : Nat),
 ∃ (b33 : Nat),
 t0 = some ({ block := b32, off := b33 } : Addr) ∧
 ∃ (p34 : Option Nat),
 w30.cell? ({ block := b32, off := b33 + (0 : Nat) } : Addr) = some (Value.map p34) ∧
 MapDelP (TypeDesc.int IntKind.i64) w30 p34 v24 fun (w35 : World) => ([] : List Nat) = [] ∧ ∃ (b36 : Nat), b36 < b15 ∧ y13 b36 PUnit.unit w35)
 (∃ (b37 : Nat),
 ∃ (b38 : Nat),
 t0 = some ({ block := b37, off := b38 } : Addr) ∧
 ∃ (p39 : Option Nat),
 w30.cell? ({ block := b37, off := b38 + (0 : Nat) } : Addr) = some (Value.map p39) ∧
 MapSetP (TypeDesc.int IntKind.i64) w30 (Value.map p39) v24 (Value.slice s31.1 s31.2 s31.3) fun (w40 : World) => ([] : List Nat) = [] ∧ ∃ (b41 : Nat), b41 < b15 ∧ y13 b41 PUnit.unit w40)
def F58 (t0 : Option Addr) (t1 : Int) (w : World) (R : Value → World → Prop) : Prop :=
 AllocP w (Obj.cells #[Value.int IntKind.i64 t1] (3 : Nat)) fun (b1 : Nat) (w2 : World) =>
 IfB t0.isNone (R (Value.tuple #[]) w2)
 (∃ (b3 : Nat),
 ∃ (b4 : Nat),
 t0 = some ({ block := b3, off := b4 } : Addr) ∧
 ∃ (p5 : Option Nat),
 w2.drew.cell? ({ block := b3, off := b4 + (0 : Nat) } : Addr) = some (Value.map p5) ∧
 ∃ (n6 : Int),
 w2.drew.cell? ({ block := b1, off := (0 : Nat) } : Addr) = some (Value.int IntKind.i64 n6) ∧
 MapDelP (TypeDesc.int IntKind.i64) w2.drew p5 (Value.int IntKind.i64 n6) fun (w7 : World) =>
 ∃ (b8 : Nat),
 ∃ (b9 : Nat),
 t0 = some ({ block := b8, off := b9 } : Addr) ∧
 ∃ (p10 : Option Nat),
 w7.cell? ({ block := b8, off := b9 + (0 : Nat) } : Addr) = some (Value.map p10) ∧
 MapItP w7 (Value.map p10) fun (b11 : Nat) (w12 : World) =>
 ∃ (y13 : Nat → Unit → World → Prop),
 (∃ (b14 : Nat), y13 b14 PUnit.unit w12) ∧
 ∀ (b15 : Nat) (y16 : Unit) (w17 : World) (y18 : Nat → Value),
 y13 b15 y16 w17 →
 (F58j1 t0 R b1 b11 y13 b15 w17))
theorem F58_ok (t0 : Option Addr) (t1 : Int) (w : World) (R : Value → World → Prop) (h : F58 t0 t1 w R) : CW Try.prog 58 #[Value.pointer t0, Value.int IntKind.i64 t1] w R :=
  call_of tbOk mixed en58 Try.func58 rfl (.node (.nil) (.node (.nil) (.node (.draw (.st 0 (.st 1 (.st 2 (.st 3 (.st 4 (.ac 5 [] (.fin) (.non)))))))) (.node (.nil) (.loop [] [18, 19, 20, 21, 22, 4, 5, 23, 24, 25, 26, 27, 28, 29, 30, 31, 32, 33, 34, 35, 36, 37, 38, 39, 40] (.nil)))))) (by kernel_rfl) (Nat.le_of_ble_eq_true (by kernel_rfl)) (Eq.mp (α := F58 t0 t1 w R) (by kernel_rfl) h)

def F84 (t0 : Sl) (t1 : Bool) (t2 : Nat) (t3 : Nat) (w : World) (R : Value → World → Prop) : Prop :=
 ∃ (p1 : Option Addr),
 w.drew.cell? ({ block := t2, off := (0 : Nat) } : Addr) = some (Value.pointer p1) ∧
 ∃ (b2 : Nat),
 ∃ (b3 : Nat),
 p1 = some ({ block := b2, off := b3 } : Addr) ∧
 ∃ (p4 : Option Nat),
 w.drew.cell? ({ block := b2, off := b3 + (0 : Nat) } : Addr) = some (Value.map p4) ∧
 ∃ (n5 : Int),
 w.drew.cell? ({ block := t3, off := (0 : Nat) } : Addr) = some (Value.int IntKind.i64 n5) ∧
 MapDelP (TypeDesc.int IntKind.i64) w.drew p4 (Value.int IntKind.i64 n5) fun (w6 : World) =>
 IfB t1
 (∃ (p7 : Option Addr),
 w6.cell? ({ block := t2, off := (0 : Nat) } : Addr) = some (Value.pointer p7) ∧
 ∃ (b8 : Nat),
 ∃ (b9 : Nat),
 p7 = some ({ block := b8, off := b9 } : Addr) ∧
 ∃ (p10 : Option Nat),
 w6.cell? ({ block := b8, off := b9 + (0 : Nat) } : Addr) = some (Value.map p10) ∧
 IfB p10.isNone
 (∃ (p11 : Option Addr),
 w6.cell? ({ block := t2, off := (0 : Nat) } : Addr) = some (Value.pointer p11) ∧
 AllocP w6 (Obj.map #[] (0 : Nat)) fun (b12 : Nat) (w13 : World) =>
 ∃ (b14 : Nat),
 ∃ (b15 : Nat),
 p11 = some ({ block := b14, off := b15 } : Addr) ∧
 #[Value.map (some b12)].size = (1 : Nat) ∧
 StoreP w13 b14 (b15 + (0 : Nat)) [Value.map (some b12)] fun (w16 : World) =>
 ∃ (p17 : Option Addr),
 w16.drew.cell? ({ block := t2, off := (0 : Nat) } : Addr) = some (Value.pointer p17) ∧
 ∃ (b18 : Nat),
 ∃ (b19 : Nat),
 p17 = some ({ block := b18, off := b19 } : Addr) ∧
 ∃ (p20 : Option Nat),
 w16.drew.cell? ({ block := b18, off := b19 + (0 : Nat) } : Addr) = some (Value.map p20) ∧
 ∃ (n21 : Int),
 w16.drew.cell? ({ block := t3, off := (0 : Nat) } : Addr) = some (Value.int IntKind.i64 n21) ∧
 MapSetP (TypeDesc.int IntKind.i64) w16.drew (Value.map p20) (Value.int IntKind.i64 n21) (Value.slice t0.1 t0.2 t0.3) fun (w22 : World) => R (Value.tuple #[]) w22)
 (∃ (p23 : Option Addr),
 w6.drew.cell? ({ block := t2, off := (0 : Nat) } : Addr) = some (Value.pointer p23) ∧
 ∃ (b24 : Nat),
 ∃ (b25 : Nat),
 p23 = some ({ block := b24, off := b25 } : Addr) ∧
 ∃ (p26 : Option Nat),
 w6.drew.cell? ({ block := b24, off := b25 + (0 : Nat) } : Addr) = some (Value.map p26) ∧
 ∃ (n27 : Int),
 w6.drew.cell? ({ block := t3, off := (0 : Nat) } : Addr) = some (Value.int IntKind.i64 n27) ∧
 MapSetP (TypeDesc.int IntKind.i64) w6.drew (Value.map p26) (Value.int IntKind.i64 n27) (Value.slice t0.1 t0.2 t0.3) fun (w28 : World) => R (Value.tuple #[]) w28))
 (R (Value.tuple #[]) w6)
theorem F84_ok (t0 : Sl) (t1 : Bool) (t2 : Nat) (t3 : Nat) (w : World) (R : Value → World → Prop) (h : F84 t0 t1 t2 t3 w R) : CW Try.prog 84 #[Value.slice t0.1 t0.2 t0.3, Value.bool t1, Value.pointer (some ({ block := t2, off := 0 } : Addr)), Value.pointer (some ({ block := t3, off := 0 } : Addr))] w R :=
  call_of tbOk mixed en84 Try.func84 rfl (.node (.draw (.st 0 (.st 1 (.st 2 (.st 3 (.st 4 (.ac 5 [] (.fin) (.non)))))))) (.node (.nil) (.node (.node (.nil) (.draw (.st 0 (.st 1 (.st 2 (.st 3 (.st 4 (.st 5 (.ac 6 [] (.fin) (.non)))))))))) (.nil)))) (by kernel_rfl) (Nat.le_of_ble_eq_true (by kernel_rfl)) (Eq.mp (α := F84 t0 t1 t2 t3 w R) (by kernel_rfl) h)

def F85 (t0 : Sl) (w : World) (R : Value → World → Prop) : Prop :=
 AllocP w (Obj.cells #[Value.slice t0.1 t0.2 t0.3] (24 : Nat)) fun (b1 : Nat) (w2 : World) =>
 R (Value.func (Fn.func (111 : Nat)) #[] #[Value.pointer (some ({ block := b1, off := (0 : Nat) } : Addr))]) w2
theorem F85_ok (t0 : Sl) (w : World) (R : Value → World → Prop) (h : F85 t0 w R) : CW Try.prog 85 #[Value.slice t0.1 t0.2 t0.3] w R :=
  call_of tbOk mixed en85 Try.func85 rfl (.nil) (by kernel_rfl) (Nat.le_of_ble_eq_true (by kernel_rfl)) (Eq.mp (α := F85 t0 w R) (by kernel_rfl) h)

def F86j2 (t0 : Sl) (R : Value → World → Prop) (n4 : Int) (y14 : Nat → Int × Int → World → Prop) (b16 : Nat) (x17 : Int × Int) (w18 : World) : Prop :=
 IfB (decide (x17.snd < (((t0.n - n4.toNat : Nat) : Int) : Int)))
 (∃ (b21 : Nat),
 ∃ (b22 : Nat),
 slAddr t0.1 t0.3 n4.toNat (1 : Nat) = some ({ block := b21, off := b22 } : Addr) ∧
 ((0 : Int) ≤ x17.2 ∧ x17.2 < ((t0.2 - n4.toNat : Nat) : Int)) ∧
 ∃ (n23 : Int),
 w18.drew.cell? ({ block := b21, off := b22 + x17.2.toNat } : Addr) = some (Value.int IntKind.i64 n23) ∧
 ∃ (b24 : Nat),
 ∃ (b25 : Nat),
 slAddr t0.1 t0.3 n4.toNat (1 : Nat) = some ({ block := b24, off := b25 } : Addr) ∧
 ((0 : Int) ≤ IntKind.i64.wrap (x17.2 - (1 : Int)) ∧ IntKind.i64.wrap (x17.2 - (1 : Int)) < ((t0.2 - n4.toNat : Nat) : Int)) ∧
 ∃ (n26 : Int),
 w18.drew.cell? ({ block := b24, off := b25 + (IntKind.i64.wrap (x17.2 - (1 : Int))).toNat } : Addr) = some (Value.int IntKind.i64 n26) ∧
 IfB (n23 != n26)
 (∃ (b27 : Nat),
 ∃ (b28 : Nat),
 slAddr t0.1 t0.3 n4.toNat (1 : Nat) = some ({ block := b27, off := b28 } : Addr) ∧
 ((0 : Int) ≤ x17.2 ∧ x17.2 < ((t0.2 - n4.toNat : Nat) : Int)) ∧
 ∃ (n29 : Int),
 w18.drew.cell? ({ block := b27, off := b28 + x17.2.toNat } : Addr) = some (Value.int IntKind.i64 n29) ∧
 ∃ (b30 : Nat),
 ∃ (b31 : Nat),
 t0.1 = some ({ block := b30, off := b31 } : Addr) ∧
 ((0 : Int) ≤ x17.1 ∧ x17.1 < (t0.2 : Int)) ∧
 #[Value.int IntKind.i64 n29].size = (1 : Nat) ∧
 StoreP w18.drew b30 (b31 + x17.1.toNat) [Value.int IntKind.i64 n29] fun (w32 : World) =>
 ([] : List Nat) = [] ∧ ∃ (b33 : Nat), b33 < b16 ∧ y14 b33 (IntKind.i64.wrap (x17.1 + (1 : Int)), IntKind.i64.wrap (x17.2 + (1 : Int))) w32)
 (([] : List Nat) = [] ∧ ∃ (b34 : Nat), b34 < b16 ∧ y14 b34 (x17.1, IntKind.i64.wrap (x17.2 + (1 : Int))) w18.drew))
 (((0 : Int) ≤ x17.1 ∧ x17.1 ≤ (t0.2 : Int)) ∧
 match slAddr t0.1 t0.3 x17.1.toNat (1 : Nat) with
 | none => ((0 : Int) ≤ x17.1 ∧ x17.1 ≤ (t0.3 : Int)) ∧ R (Value.slice (slAddr t0.1 t0.3 (0 : Nat) (1 : Nat)) x17.1.toNat t0.3) w18
 | some ({ block := b36, off := b37, spot := none } : Addr) =>
 StoreP w18 b36 b37 (zc #[Value.int IntKind.i64 (0 : Int)] (t0.2 - x17.1.toNat)) fun (w38 : World) =>
 ((0 : Int) ≤ x17.1 ∧ x17.1 ≤ (t0.3 : Int)) ∧ R (Value.slice (slAddr t0.1 t0.3 (0 : Nat) (1 : Nat)) x17.1.toNat t0.3) w38
 | some y39 => False)
def F86j1 (t0 : Sl) (R : Value → World → Prop) (y1 : Nat → Int → World → Prop) (b3 : Nat) (n4 : Int) (w5 : World) : Prop :=
 IfB (decide (n4 < (t0.n : Int)))
 (∃ (b8 : Nat),
 ∃ (b9 : Nat),
 t0.1 = some ({ block := b8, off := b9 } : Addr) ∧
 ((0 : Int) ≤ n4 ∧ n4 < (t0.2 : Int)) ∧
 ∃ (n10 : Int),
 w5.drew.cell? ({ block := b8, off := b9 + n4.toNat } : Addr) = some (Value.int IntKind.i64 n10) ∧
 ∃ (b11 : Nat),
 ∃ (b12 : Nat),
 t0.1 = some ({ block := b11, off := b12 } : Addr) ∧
 ((0 : Int) ≤ IntKind.i64.wrap (n4 - (1 : Int)) ∧ IntKind.i64.wrap (n4 - (1 : Int)) < (t0.2 : Int)) ∧
 ∃ (n13 : Int),
 w5.drew.cell? ({ block := b11, off := b12 + (IntKind.i64.wrap (n4 - (1 : Int))).toNat } : Addr) = some (Value.int IntKind.i64 n13) ∧
 IfB (n10 == n13)
 (((0 : Int) ≤ n4 ∧ n4 ≤ (t0.2 : Int)) ∧
 ∃ (y14 : Nat → Int × Int → World → Prop),
 (∃ (b15 : Nat), y14 b15 (n4, (1 : Int)) w5.drew) ∧
 ∀ (b16 : Nat) (x17 : Int × Int) (w18 : World) (y19 : Nat → Value),
 y14 b16 x17 w18 →
 (F86j2 t0 R n4 y14 b16 x17 w18))
 (([] : List Nat) = [] ∧ ∃ (b40 : Nat), b40 < b3 ∧ y1 b40 (IntKind.i64.wrap (n4 + (1 : Int))) w5.drew))
 (R (Value.slice t0.1 t0.2 t0.3) w5)
def F86 (t0 : Sl) (w : World) (R : Value → World → Prop) : Prop :=
 IfB (decide ((t0.n : Int) < (2 : Int))) (R (Value.slice t0.1 t0.2 t0.3) w)
 (∃ (y1 : Nat → Int → World → Prop),
 (∃ (b2 : Nat), y1 b2 (1 : Int) w) ∧
 ∀ (b3 : Nat) (n4 : Int) (w5 : World) (y6 : Nat → Value),
 y1 b3 n4 w5 →
 (F86j1 t0 R y1 b3 n4 w5))
theorem F86_ok (t0 : Sl) (w : World) (R : Value → World → Prop) (h : F86 t0 w R) : CW Try.prog 86 #[Value.slice t0.1 t0.2 t0.3] w R :=
  call_of tbOk mixed en86 Try.func86 rfl (.node (.nil) (.node (.nil) (.node (.node (.nil) (.loop [(3, .one (.int .i64))] [10, 11, 12, 13, 16, 17, 18, 19, 20, 21, 22, 23, 24, 25, 26, 27, 28, 4, 5, 29, 30, 31, 32, 35, 36, 37, 38, 39, 40, 41, 42, 43, 44, 45, 46, 47, 48, 49, 50, 51, 52, 53, 3, 33, 34, 54, 55, 56, 57, 58, 59, 2, 14, 15] (.node (.nil) (.node (.node (.draw (.st 0 (.st 1 (.st 2 (.st 3 (.st 4 (.st 5 (.st 6 (.st 7 (.st 8 (.st 9 (.fin)))))))))))) (.node (.node (.nil) (.node (.node (.nil) (.loop [(3, .one (.int .i64)), (5, .one (.int .i64))] [29, 30, 31, 32, 35, 36, 37, 38, 39, 40, 41, 42, 43, 44, 45, 46, 47, 48, 49, 50, 51, 52, 53, 3, 33, 34, 5] (.node (.nil) (.node (.node (.draw (.st 0 (.st 1 (.st 2 (.st 3 (.st 4 (.st 5 (.st 6 (.st 7 (.st 8 (.st 9 (.fin)))))))))))) (.nil)) (.nil))))) (.nil))) (.nil))) (.nil))))) (.nil)))) (by kernel_rfl) (Nat.le_of_ble_eq_true (by kernel_rfl)) (Eq.mp (α := F86 t0 w R) (by kernel_rfl) h)

def F87 (t0 : Sl) (t1 : Int) (w : World) (R : Value → World → Prop) : Prop :=
 CX Try.prog (112 : Nat) #[Value.slice t0.1 t0.2 t0.3, Value.int IntKind.i64 t1] w fun (v1 : Value) (w2 : World) =>
 ∃ (n3 : Int), v1 = Value.int IntKind.i64 n3 ∧ R (Value.bool (decide ((0 : Int) ≤ n3))) w2
theorem F87_ok (t0 : Sl) (t1 : Int) (w : World) (R : Value → World → Prop) (h : F87 t0 t1 w R) : CW Try.prog 87 #[Value.slice t0.1 t0.2 t0.3, Value.int IntKind.i64 t1] w R :=
  call_of tbOk mixed en87 Try.func87 rfl (.nil) (by kernel_rfl) (Nat.le_of_ble_eq_true (by kernel_rfl)) (Eq.mp (α := F87 t0 t1 w R) (by kernel_rfl) h)

def F88j1 (t0 : Option Addr) (R : Value → World → Prop) (b1 : Nat) (y6 : Nat → Sl → World → Prop) (b8 : Nat) (s9 : Sl) (w10 : World) : Prop :=
 IfB (decide ((0 : Int) < (s9.n : Int)))
 (∃ (b13 : Nat),
 ∃ (b14 : Nat),
 s9.1 = some ({ block := b13, off := b14 } : Addr) ∧
 ((0 : Int) ≤ (0 : Int) ∧ (0 : Int) < (s9.2 : Int)) ∧
 ∃ (n15 : Int),
 w10.cell? ({ block := b13, off := b14 + Int.toNat (0 : Int) } : Addr) = some (Value.int IntKind.i64 n15) ∧
 ((0 : Int) ≤ (1 : Int) ∧ (1 : Int) ≤ (s9.2 : Int)) ∧
 MapGetP (TypeDesc.int IntKind.i64) w10 (Value.map (some b1)) (Value.int IntKind.i64 n15) (Value.bool false) fun (v16 : Value) (t17 : Bool) =>
 ∃ (t18 : Bool),
 v16 = Value.bool t18 ∧
 IfB (!t18)
 (MapSetP (TypeDesc.int IntKind.i64) w10 (Value.map (some b1)) (Value.int IntKind.i64 n15) (Value.bool true) fun (w19 : World) =>
 CX Try.prog (57 : Nat) #[Value.pointer t0, Value.int IntKind.i64 n15] w19 fun (v20 : Value) (w21 : World) =>
 ∃ (s22 : Sl),
 v20 = Value.slice s22.1 s22.2 s22.3 ∧
 ∃ (l23 : List Value),
 ReadC w21 s22.1 (s22.2 * (1 : Nat)) l23 ∧
 AppendP tt3 (3 : Nat) w21
 (slAddr s9.1 s9.3 (Int.toNat (1 : Int)) (1 : Nat)) (s9.2 - Int.toNat (1 : Int)) (s9.3 - Int.toNat (1 : Int)) s22.2 l23 fun (s24 : Sl) (w25 : World) =>
 ([] : List Nat) = [] ∧ ∃ (b26 : Nat), b26 < b8 ∧ y6 b26 { p := s24.1, n := s24.2, c := s24.3 } w25)
 (([] : List Nat) = [] ∧ ∃ (b27 : Nat), b27 < b8 ∧ y6 b27 { p := slAddr s9.1 s9.3 (Int.toNat (1 : Int)) (1 : Nat), n := s9.2 - Int.toNat (1 : Int), c := s9.3 - Int.toNat (1 : Int) } w10))
 (CX Try.prog (113 : Nat) #[Value.map (some b1)] w10 fun (v28 : Value) (w29 : World) =>
 ∃ (x30 : Nat × Array Value),
 v28 = Value.func (Fn.func x30.1) #[] x30.2 ∧
 CX Try.prog (80 : Nat) #[Value.func (Fn.func x30.1) #[] x30.2] w29 fun (v31 : Value) (w32 : World) =>
 ∃ (s33 : Sl), v31 = Value.slice s33.1 s33.2 s33.3 ∧ R (Value.slice s33.1 s33.2 s33.3) w32)
def F88 (t0 : Option Addr) (t1 : Int) (w : World) (R : Value → World → Prop) : Prop :=
 AllocP w (Obj.map #[] (0 : Nat)) fun (b1 : Nat) (w2 : World) =>
 CX Try.prog (57 : Nat) #[Value.pointer t0, Value.int IntKind.i64 t1] w2 fun (v3 : Value) (w4 : World) =>
 ∃ (s5 : Sl),
 v3 = Value.slice s5.1 s5.2 s5.3 ∧
 ∃ (y6 : Nat → Sl → World → Prop),
 (∃ (b7 : Nat), y6 b7 { p := s5.1, n := s5.2, c := s5.3 } w4) ∧
 ∀ (b8 : Nat) (s9 : Sl) (w10 : World) (y11 : Nat → Value),
 y6 b8 s9 w10 →
 (F88j1 t0 R b1 y6 b8 s9 w10)
theorem F88_ok (t0 : Option Addr) (t1 : Int) (w : World) (R : Value → World → Prop) (h : F88 t0 t1 w R) : CW Try.prog 88 #[Value.pointer t0, Value.int IntKind.i64 t1] w R :=
  call_of tbOk mixed en88 Try.func88 rfl (.node (.nil) (.node (.nil) (.node (.node (.nil) (.loop [(6, .one (.sl))] [12, 13, 14, 15, 16, 17, 7, 18, 19, 6, 20, 21, 22, 23, 24, 25, 26, 27, 28, 29, 30] (.nil))) (.nil)))) (by kernel_rfl) (Nat.le_of_ble_eq_true (by kernel_rfl)) (Eq.mp (α := F88 t0 t1 w R) (by kernel_rfl) h)

def F89 (t0 : Option Nat) (w : World) (R : Value → World → Prop) : Prop :=
 AllocP w (Obj.cells #[Value.map t0] (92 : Nat)) fun (b1 : Nat) (w2 : World) =>
 R (Value.func (Fn.func (114 : Nat)) #[] #[Value.pointer (some ({ block := b1, off := (0 : Nat) } : Addr))]) w2
theorem F89_ok (t0 : Option Nat) (w : World) (R : Value → World → Prop) (h : F89 t0 w R) : CW Try.prog 89 #[Value.map t0] w R :=
  call_of tbOk mixed en89 Try.func89 rfl (.nil) (by kernel_rfl) (Nat.le_of_ble_eq_true (by kernel_rfl)) (Eq.mp (α := F89 t0 w R) (by kernel_rfl) h)

def F90 (t0 : Sl) (w : World) (R : Value → World → Prop) : Prop :=
 IfB t0.1.isNone (R (Value.slice none (0 : Nat) (0 : Nat)) w)
 ((0 : Nat) * (1 : Nat) ≤ (16777216 : Nat) ∧
 AllocP w (Obj.cells #[] (3 : Nat)) fun (b1 : Nat) (w2 : World) =>
 ∃ (l3 : List Value),
 ReadC w2 t0.1 (t0.2 * (1 : Nat)) l3 ∧
 AppendP tt3 (3 : Nat) w2
 (some ({ block := b1, off := (0 : Nat) } : Addr)) (0 : Nat) (0 : Nat) t0.2 l3 fun (s4 : Sl) (w5 : World) => R (Value.slice s4.1 s4.2 s4.3) w5)
theorem F90_ok (t0 : Sl) (w : World) (R : Value → World → Prop) (h : F90 t0 w R) : CW Try.prog 90 #[Value.slice t0.1 t0.2 t0.3] w R :=
  call_of tbOk mixed en90 Try.func90 rfl (.nil) (by kernel_rfl) (Nat.le_of_ble_eq_true (by kernel_rfl)) (Eq.mp (α := F90 t0 w R) (by kernel_rfl) h)

def F91j1 (t0 : Sl) (t1 : Nat × Array Value) (R : Value → World → Prop) (y4 : Nat → Int × Int → World → Prop) (b6 : Nat) (x7 : Int × Int) (w8 : World) : Prop :=
 IfB (decide (x7.snd < (t0.n : Int)))
 (∃ (b11 : Nat),
 ∃ (b12 : Nat),
 t0.1 = some ({ block := b11, off := b12 } : Addr) ∧
 ((0 : Int) ≤ x7.2 ∧ x7.2 < (t0.2 : Int)) ∧
 ∃ (n13 : Int),
 w8.cell? ({ block := b11, off := b12 + x7.2.toNat } : Addr) = some (Value.int IntKind.i64 n13) ∧
 CX Try.prog t1.1 { toList := Value.int IntKind.i64 n13 :: t1.snd.1 } w8 fun (v14 : Value) (w15 : World) =>
 ∃ (t16 : Bool),
 v14 = Value.bool t16 ∧
 IfB (!t16)
 (∃ (b17 : Nat),
 ∃ (b18 : Nat),
 t0.1 = some ({ block := b17, off := b18 } : Addr) ∧
 ((0 : Int) ≤ x7.1 ∧ x7.1 < (t0.2 : Int)) ∧
 #[Value.int IntKind.i64 n13].size = (1 : Nat) ∧
 StoreP w15 b17 (b18 + x7.1.toNat) [Value.int IntKind.i64 n13] fun (w19 : World) =>
 ([] : List Nat) = [] ∧ ∃ (b20 : Nat), b20 < b6 ∧ y4 b20 (IntKind.i64.wrap (x7.1 + (1 : Int)), IntKind.i64.wrap (x7.2 + (1 : Int))) w19)
 (([] : List Nat) = [] ∧ ∃ (b21 : Nat), b21 < b6 ∧ y4 b21 (x7.1, IntKind.i64.wrap (x7.2 + (1 : Int))) w15))
 (((0 : Int) ≤ x7.1 ∧ x7.1 ≤ (t0.2 : Int)) ∧
 match slAddr t0.1 t0.3 x7.1.toNat (1 : Nat) with
 | none => ((0 : Int) ≤ x7.1 ∧ x7.1 ≤ (t0.3 : Int)) ∧ R (Value.slice (slAddr t0.1 t0.3 (0 : Nat) (1 : Nat)) x7.1.toNat t0.3) w8
 | some ({ block := b23, off := b24, spot := none } : Addr) =>
 StoreP w8 b23 b24 (zc #[Value.int IntKind.i64 (0 : Int)] (t0.2 - x7.1.toNat)) fun (w25 : World) =>
 ((0 : Int) ≤ x7.1 ∧ x7.1 ≤ (t0.3 : Int)) ∧ R (Value.slice (slAddr t0.1 t0.3 (0 : Nat) (1 : Nat)) x7.1.toNat t0.3) w25
 | some y26 => False)
def F91 (t0 : Sl) (t1 : Nat × Array Value) (w : World) (R : Value → World → Prop) : Prop :=
 CX Try.prog (115 : Nat) #[Value.slice t0.1 t0.2 t0.3, Value.func (Fn.func t1.1) #[] t1.2] w fun (v1 : Value) (w2 : World) =>
 ∃ (n3 : Int),
 v1 = Value.int IntKind.i64 n3 ∧
 IfB (n3 == (-1 : Int)) (R (Value.slice t0.1 t0.2 t0.3) w2)
 (∃ (y4 : Nat → Int × Int → World → Prop),
 (∃ (b5 : Nat), y4 b5 (n3, IntKind.i64.wrap (n3 + (1 : Int))) w2) ∧
 ∀ (b6 : Nat) (x7 : Int × Int) (w8 : World) (y9 : Nat → Value),
 y4 b6 x7 w8 →
 (F91j1 t0 t1 R y4 b6 x7 w8))
theorem F91_ok (t0 : Sl) (t1 : Nat × Array Value) (w : World) (R : Value → World → Prop) (h : F91 t0 t1 w R) : CW Try.prog 91 #[Value.slice t0.1 t0.2 t0.3, Value.func (Fn.func t1.1) #[] t1.2] w R :=
  call_of tbOk mixed en91 Try.func91 rfl (.node (.nil) (.node (.nil) (.node (.nil) (.node (.node (.nil) (.loop [(5, .one (.int .i64)), (6, .one (.int .i64))] [16, 17, 18, 19, 22, 23, 24, 25, 7, 26, 27, 28, 29, 30, 31, 32, 33, 34, 35, 5, 20, 21, 6] (.nil))) (.nil))))) (by kernel_rfl) (Nat.le_of_ble_eq_true (by kernel_rfl)) (Eq.mp (α := F91 t0 t1 w R) (by kernel_rfl) h)

def F92 (t0 : Int) (t1 : Nat) (w : World) (R : Value → World → Prop) : Prop :=
 ∃ (n1 : Int), w.cell? ({ block := t1, off := (0 : Nat) } : Addr) = some (Value.int IntKind.i64 n1) ∧ R (Value.bool (t0 == n1)) w
theorem F92_ok (t0 : Int) (t1 : Nat) (w : World) (R : Value → World → Prop) (h : F92 t0 t1 w R) : CW Try.prog 92 #[Value.int IntKind.i64 t0, Value.pointer (some ({ block := t1, off := 0 } : Addr))] w R :=
  call_of tbOk mixed en92 Try.func92 rfl (.nil) (by kernel_rfl) (Nat.le_of_ble_eq_true (by kernel_rfl)) (Eq.mp (α := F92 t0 t1 w R) (by kernel_rfl) h)

def F94j1 (t0 : Sl) (t1 : Sl) (R : Value → World → Prop) (y1 : Nat → Int → World → Prop) (b3 : Nat) (n4 : Int) (w5 : World) : Prop :=
 IfB (decide (n4 < (t0.n : Int)))
 (∃ (b8 : Nat),
 ∃ (b9 : Nat),
 t0.1 = some ({ block := b8, off := b9 } : Addr) ∧
 ((0 : Int) ≤ n4 ∧ n4 < (t0.2 : Int)) ∧
 ∃ (n10 : Int),
 w5.drew.cell? ({ block := b8, off := b9 + n4.toNat } : Addr) = some (Value.int IntKind.i64 n10) ∧
 ∃ (b11 : Nat),
 ∃ (b12 : Nat),
 t1.1 = some ({ block := b11, off := b12 } : Addr) ∧
 ((0 : Int) ≤ n4 ∧ n4 < (t1.2 : Int)) ∧
 ∃ (n13 : Int),
 w5.drew.cell? ({ block := b11, off := b12 + n4.toNat } : Addr) = some (Value.int IntKind.i64 n13) ∧
 IfB (n10 != n13) (R (Value.bool false) w5.drew) (([] : List Nat) = [] ∧ ∃ (b14 : Nat), b14 < b3 ∧ y1 b14 (IntKind.i64.wrap (n4 + (1 : Int))) w5.drew))
 (R (Value.bool true) w5)
def F94 (t0 : Sl) (t1 : Sl) (w : World) (R : Value → World → Prop) : Prop :=
 IfB ((t0.2 : Int) != (t1.2 : Int)) (R (Value.bool false) w)
 (∃ (y1 : Nat → Int → World → Prop),
 (∃ (b2 : Nat), y1 b2 (0 : Int) w) ∧
 ∀ (b3 : Nat) (n4 : Int) (w5 : World) (y6 : Nat → Value),
 y1 b3 n4 w5 →
 (F94j1 t0 t1 R y1 b3 n4 w5))
theorem F94_ok (t0 : Sl) (t1 : Sl) (w : World) (R : Value → World → Prop) (h : F94 t0 t1 w R) : CW Try.prog 94 #[Value.slice t0.1 t0.2 t0.3, Value.slice t1.1 t1.2 t1.3] w R :=
  call_of tbOk mixed en94 Try.func94 rfl (.node (.nil) (.node (.nil) (.node (.node (.nil) (.loop [(5, .one (.int .i64))] [11, 12, 13, 14, 17, 18, 19, 20, 21, 22, 23, 24, 25, 4, 15, 16, 5] (.node (.nil) (.node (.node (.draw (.st 0 (.st 1 (.st 2 (.st 3 (.st 4 (.st 5 (.st 6 (.st 7 (.st 8 (.fin))))))))))) (.nil)) (.nil))))) (.nil)))) (by kernel_rfl) (Nat.le_of_ble_eq_true (by kernel_rfl)) (Eq.mp (α := F94 t0 t1 w R) (by kernel_rfl) h)

def F111j1 (t0 : Nat) (R : Value → World → Prop) (s1 : Sl) (y2 : Nat → Int → World → Prop) (b4 : Nat) (n5 : Int) (w6 : World) : Prop :=
 IfB (decide (n5 < (s1.n : Int)))
 (∃ (b9 : Nat),
 ∃ (b10 : Nat),
 s1.1 = some ({ block := b9, off := b10 } : Addr) ∧
 ((0 : Int) ≤ n5 ∧ n5 < (s1.2 : Int)) ∧
 ∃ (n11 : Int),
 w6.cell? ({ block := b9, off := b10 + n5.toNat } : Addr) = some (Value.int IntKind.i64 n11) ∧
 YW Try.prog t0 #[Value.int IntKind.i64 n11] w6 fun (t12 : Bool) (w13 : World) =>
 IfB (!t12) (R (Value.tuple #[]) w13) (([] : List Nat) = [] ∧ ∃ (b14 : Nat), b14 < b4 ∧ y2 b14 (IntKind.i64.wrap (n5 + (1 : Int))) w13))
 (R (Value.tuple #[]) w6)
def F111 (t0 : Nat) (t1 : Nat) (w : World) (R : Value → World → Prop) : Prop :=
 ∃ (s1 : Sl),
 w.cell? ({ block := t1, off := (0 : Nat) } : Addr) = some (Value.slice s1.1 s1.2 s1.3) ∧
 ∃ (y2 : Nat → Int → World → Prop),
 (∃ (b3 : Nat), y2 b3 (0 : Int) w) ∧
 ∀ (b4 : Nat) (n5 : Int) (w6 : World) (y7 : Nat → Value),
 y2 b4 n5 w6 →
 (F111j1 t0 R s1 y2 b4 n5 w6)
theorem F111_ok (t0 : Nat) (t1 : Nat) (w : World) (R : Value → World → Prop) (h : F111 t0 t1 w R) : CW Try.prog 111 #[Value.func (Fn.yield t0) #[] #[], Value.pointer (some ({ block := t1, off := 0 } : Addr))] w R :=
  call_of tbOk mixed en111 Try.func111 rfl (.node (.nil) (.loop [(7, .one (.int .i64))] [8, 9, 10, 4, 11, 12, 13, 14, 15, 7] (.nil))) (by kernel_rfl) (Nat.le_of_ble_eq_true (by kernel_rfl)) (Eq.mp (α := F111 t0 t1 w R) (by kernel_rfl) h)

def F112j1 (t0 : Sl) (t1 : Int) (R : Value → World → Prop) (y1 : Nat → Int → World → Prop) (b3 : Nat) (n4 : Int) (w5 : World) : Prop :=
 IfB (decide (n4 < (t0.n : Int)))
 (∃ (b8 : Nat),
 ∃ (b9 : Nat),
 t0.1 = some ({ block := b8, off := b9 } : Addr) ∧
 ((0 : Int) ≤ n4 ∧ n4 < (t0.2 : Int)) ∧
 ∃ (n10 : Int),
 w5.cell? ({ block := b8, off := b9 + n4.toNat } : Addr) = some (Value.int IntKind.i64 n10) ∧
 IfB (t1 == n10) (R (Value.int IntKind.i64 n4) w5) (([] : List Nat) = [] ∧ ∃ (b11 : Nat), b11 < b3 ∧ y1 b11 (IntKind.i64.wrap (n4 + (1 : Int))) w5))
 (R (Value.int IntKind.i64 (-1 : Int)) w5)
def F112 (t0 : Sl) (t1 : Int) (w : World) (R : Value → World → Prop) : Prop :=
 ∃ (y1 : Nat → Int → World → Prop),
 (∃ (b2 : Nat), y1 b2 (0 : Int) w) ∧
 ∀ (b3 : Nat) (n4 : Int) (w5 : World) (y6 : Nat → Value),
 y1 b3 n4 w5 →
 (F112j1 t0 t1 R y1 b3 n4 w5)
theorem F112_ok (t0 : Sl) (t1 : Int) (w : World) (R : Value → World → Prop) (h : F112 t0 t1 w R) : CW Try.prog 112 #[Value.slice t0.1 t0.2 t0.3, Value.int IntKind.i64 t1] w R :=
  call_of tbOk mixed en112 Try.func112 rfl (.node (.nil) (.node (.node (.nil) (.loop [(8, .one (.int .i64))] [9, 10, 5, 11, 12, 13, 14, 15, 16, 17, 4, 18, 8] (.nil))) (.nil))) (by kernel_rfl) (Nat.le_of_ble_eq_true (by kernel_rfl)) (Eq.mp (α := F112 t0 t1 w R) (by kernel_rfl) h)

def F113 (t0 : Option Nat) (w : World) (R : Value → World → Prop) : Prop :=
 AllocP w (Obj.cells #[Value.map t0] (162 : Nat)) fun (b1 : Nat) (w2 : World) =>
 R (Value.func (Fn.func (122 : Nat)) #[] #[Value.pointer (some ({ block := b1, off := (0 : Nat) } : Addr))]) w2
theorem F113_ok (t0 : Option Nat) (w : World) (R : Value → World → Prop) (h : F113 t0 w R) : CW Try.prog 113 #[Value.map t0] w R :=
  call_of tbOk mixed en113 Try.func113 rfl (.nil) (by kernel_rfl) (Nat.le_of_ble_eq_true (by kernel_rfl)) (Eq.mp (α := F113 t0 w R) (by kernel_rfl) h)

def F114 (t0 : Nat) (t1 : Nat) (w : World) (R : Value → World → Prop) : Prop :=
 ∃ (p1 : Option Nat),
 w.cell? ({ block := t1, off := (0 : Nat) } : Addr) = some (Value.map p1) ∧
 MapItP w (Value.map p1) fun (b2 : Nat) (w3 : World) =>
 ∃ (y4 : Nat → Unit → World → Prop),
 (∃ (b5 : Nat), y4 b5 PUnit.unit w3) ∧
 ∀ (b6 : Nat) (y7 : Unit) (w8 : World) (y9 : Nat → Value),
 y4 b6 y7 w8 →
 NextP w8 b2 (fun (w11 : World) => R (Value.tuple #[]) w11) fun (v12 v13 : Value) (w14 : World) =>
 EntryP w14 b2 fun (v15 v16 : Value) =>
 YW Try.prog t0 #[v15] w14 fun (t17 : Bool) (w18 : World) => IfB (!t17) (R (Value.tuple #[]) w18) (([] : List Nat) = [] ∧ ∃ (b19 : Nat), b19 < b6 ∧ y4 b19 PUnit.unit w18)
theorem F114_ok (t0 : Nat) (t1 : Nat) (w : World) (R : Value → World → Prop) (h : F114 t0 t1 w R) : CW Try.prog 114 #[Value.func (Fn.yield t0) #[] #[], Value.pointer (some ({ block := t1, off := 0 } : Addr))] w R :=
  call_of tbOk mixed en114 Try.func114 rfl (.node (.nil) (.loop [] [6, 7, 8, 9, 3, 10, 11, 12, 13] (.nil))) (by kernel_rfl) (Nat.le_of_ble_eq_true (by kernel_rfl)) (Eq.mp (α := F114 t0 t1 w R) (by kernel_rfl) h)

def F115j1 (t0 : Sl) (t1 : Nat × Array Value) (R : Value → World → Prop) (y1 : Nat → Int → World → Prop) (b3 : Nat) (n4 : Int) (w5 : World) : Prop :=
 IfB (decide (n4 < (t0.n : Int)))
 (∃ (b8 : Nat),
 ∃ (b9 : Nat),
 t0.1 = some ({ block := b8, off := b9 } : Addr) ∧
 ((0 : Int) ≤ n4 ∧ n4 < (t0.2 : Int)) ∧
 ∃ (n10 : Int),
 w5.cell? ({ block := b8, off := b9 + n4.toNat } : Addr) = some (Value.int IntKind.i64 n10) ∧
 CX Try.prog t1.1 { toList := Value.int IntKind.i64 n10 :: t1.snd.1 } w5 fun (v11 : Value) (w12 : World) =>
 ∃ (t13 : Bool), v11 = Value.bool t13 ∧ IfB t13 (R (Value.int IntKind.i64 n4) w12) (([] : List Nat) = [] ∧ ∃ (b14 : Nat), b14 < b3 ∧ y1 b14 (IntKind.i64.wrap (n4 + (1 : Int))) w12))
 (R (Value.int IntKind.i64 (-1 : Int)) w5)
def F115 (t0 : Sl) (t1 : Nat × Array Value) (w : World) (R : Value → World → Prop) : Prop :=
 ∃ (y1 : Nat → Int → World → Prop),
 (∃ (b2 : Nat), y1 b2 (0 : Int) w) ∧
 ∀ (b3 : Nat) (n4 : Int) (w5 : World) (y6 : Nat → Value),
 y1 b3 n4 w5 →
 (F115j1 t0 t1 R y1 b3 n4 w5)
theorem F115_ok (t0 : Sl) (t1 : Nat × Array Value) (w : World) (R : Value → World → Prop) (h : F115 t0 t1 w R) : CW Try.prog 115 #[Value.slice t0.1 t0.2 t0.3, Value.func (Fn.func t1.1) #[] t1.2] w R :=
  call_of tbOk mixed en115 Try.func115 rfl (.node (.nil) (.node (.node (.nil) (.loop [(8, .one (.int .i64))] [9, 10, 5, 11, 12, 13, 14, 15, 16, 17, 4, 18, 8] (.nil))) (.nil))) (by kernel_rfl) (Nat.le_of_ble_eq_true (by kernel_rfl)) (Eq.mp (α := F115 t0 t1 w R) (by kernel_rfl) h)

def F122 (t0 : Nat) (t1 : Nat) (w : World) (R : Value → World → Prop) : Prop :=
 ∃ (p1 : Option Nat),
 w.cell? ({ block := t1, off := (0 : Nat) } : Addr) = some (Value.map p1) ∧
 MapItP w (Value.map p1) fun (b2 : Nat) (w3 : World) =>
 ∃ (y4 : Nat → Unit → World → Prop),
 (∃ (b5 : Nat), y4 b5 PUnit.unit w3) ∧
 ∀ (b6 : Nat) (y7 : Unit) (w8 : World) (y9 : Nat → Value),
 y4 b6 y7 w8 →
 NextP w8 b2 (fun (w11 : World) => R (Value.tuple #[]) w11) fun (v12 v13 : Value) (w14 : World) =>
 EntryP w14 b2 fun (v15 v16 : Value) =>
 YW Try.prog t0 #[v15] w14 fun (t17 : Bool) (w18 : World) => IfB (!t17) (R (Value.tuple #[]) w18) (([] : List Nat) = [] ∧ ∃ (b19 : Nat), b19 < b6 ∧ y4 b19 PUnit.unit w18)
theorem F122_ok (t0 : Nat) (t1 : Nat) (w : World) (R : Value → World → Prop) (h : F122 t0 t1 w R) : CW Try.prog 122 #[Value.func (Fn.yield t0) #[] #[], Value.pointer (some ({ block := t1, off := 0 } : Addr))] w R :=
  call_of tbOk mixed en122 Try.func122 rfl (.node (.nil) (.loop [] [6, 7, 8, 9, 3, 10, 11, 12, 13] (.nil))) (by kernel_rfl) (Nat.le_of_ble_eq_true (by kernel_rfl)) (Eq.mp (α := F122 t0 t1 w R) (by kernel_rfl) h)

end Go.Proofs.Ytopecljhehcldaa.Gx
