/- Written by mkf.py: what is to be shown of functions, as Gx reckons it from their code. -/
import Derived.Test.YtopecljhehcldaaGxT
namespace Go.Proofs.Ytopecljhehcldaa.Gx
open Go
set_option linter.unusedVariables false
set_option maxRecDepth 100000

def F95 (t0 : Nat) (t1 : Nat) (w : World) (R : Value → World → Prop) : Prop :=
  ∃ (n1 : Int),
  w.cell? { block := t1, off := (0 : Nat) } = some (Value.int IntKind.u64 n1) ∧
    ∃ (y2 : Nat → Int → World → Prop),
      (∃ (b3 : Nat), y2 b3 n1 w) ∧
        ∀ (b4 : Nat) (n5 : Int) (w6 : World) (y7 : Nat → Value),
          y2 b4 n5 w6 →
            (0 : Int) ≤ (33 : Int) ∧
              YW Try.prog t0
                #[Value.int IntKind.i64
                        (IntKind.i64.wrap
                          ((IntKind.u64.wrap (IntKind.u64.wrap (n5 * (6364136223846793005 : Int)) + (1442695040888963407 : Int))).fdiv ((2 : Int) ^ min (Int.toNat (33 : Int)) IntKind.u64.bits)))]
                w6 fun (t9 : Bool) (w10 : World) =>
                IfB (!t9) (R (Value.tuple #[]) w10)
                  (([] : List Nat) = [] ∧ ∃ (b11 : Nat), b11 < b4 ∧ y2 b11 (IntKind.u64.wrap (IntKind.u64.wrap (n5 * (6364136223846793005 : Int)) + (1442695040888963407 : Int))) w10)
theorem F95_ok (t0 : Nat) (t1 : Nat) (w : World) (R : Value → World → Prop) (h : F95 t0 t1 w R) : CW Try.prog 95 #[Value.func (Fn.yield t0) #[] #[], Value.pointer (some { block := t1, off := 0 })] w R :=
  call_of tbOk mixed en95 Try.func95 rfl (.node (.nil) (.loop [(3, .int .u64)] [5, 6, 7, 3, 8, 9, 10, 11, 12, 13] (.nil))) (by kernel_rfl) (Nat.le_of_ble_eq_true (by kernel_rfl)) (Eq.mp (α := F95 t0 t1 w R) (by kernel_rfl) h)

def F62 (t0 : Int) (w : World) (R : Value → World → Prop) : Prop :=
  AllocP w (Obj.cells #[Value.int IntKind.u64 t0] (22 : Nat)) fun (b1 : Nat) (w2 : World) =>
  R (Value.func (Fn.func (95 : Nat)) #[] #[Value.pointer (some { block := b1, off := (0 : Nat) })]) w2
theorem F62_ok (t0 : Int) (w : World) (R : Value → World → Prop) (h : F62 t0 w R) : CW Try.prog 62 #[Value.int IntKind.u64 t0] w R :=
  call_of tbOk mixed en62 Try.func62 rfl (.nil) (by kernel_rfl) (Nat.le_of_ble_eq_true (by kernel_rfl)) (Eq.mp (α := F62 t0 w R) (by kernel_rfl) h)

def F17 (t0 : Int) (w : World) (R : Value → World → Prop) : Prop :=
  R (Value.int IntKind.u64 (IntKind.u64.wrap (IntKind.u64.wrap (t0 * (6364136223846793005 : Int)) + (1442695040888963407 : Int)))) w
theorem F17_ok (t0 : Int) (w : World) (R : Value → World → Prop) (h : F17 t0 w R) : CW Try.prog 17 #[Value.int IntKind.u64 t0] w R :=
  call_of tbOk mixed en17 Try.func17 rfl (.nil) (by kernel_rfl) (Nat.le_of_ble_eq_true (by kernel_rfl)) (Eq.mp (α := F17 t0 w R) (by kernel_rfl) h)

noncomputable def R16_0 : Code := codeAt [1, 1, 0, 1, 0] (bodyOf Try.f16)
def R16_0a : An := .nil
theorem R16_0ok1 : okC tb Try.f16.ntmps (rA R16_0) .nil = true := by kernel_rfl
theorem R16_0ok2 : okC tb Try.f16.ntmps (rB R16_0) R16_0a = true := by kernel_rfl
theorem R16_0okp : (rP R16_0).toList.all (fun p => Nat.blt p Try.f16.ntmps) = true := by kernel_rfl
def F16 (t0 : Int) (t1 : Int) (w : World) (R : Value → World → Prop) : Prop :=
  AllocP w (Obj.cells #[Value.int IntKind.i64 t1] (3 : Nat)) fun (b1 : Nat) (w2 : World) =>
  AllocP w2 (Obj.cells #[Value.slice none (0 : Nat) (0 : Nat)] (24 : Nat)) fun (b3 : Nat) (w4 : World) =>
    CX Try.prog (62 : Nat) #[Value.int IntKind.u64 t0] w4 fun (v5 : Value) (w6 : World) =>
      ∃ (x7 : Nat × Array Value),
        v5 = Value.func (Fn.func x7.1) #[] x7.2 ∧
          ∀ (y8 : Nat → Value),
            RangeP Try.prog tb (nat_lit 20) none R16_0a (rG R16_0) (rP R16_0) (rA R16_0) (rB R16_0)
              (frC y8
                [((3 : Nat), Value.pointer (some { block := b1, off := (0 : Nat) })), ((4 : Nat), Value.slice none (0 : Nat) (0 : Nat)),
                  ((5 : Nat), Value.pointer (some { block := b3, off := (0 : Nat) })), ((8 : Nat), Value.func (Fn.func x7.1) #[] x7.2)])
              [] w6
              (fun (l9 : List Nat) (w10 : World) =>
                ∃ (s11 : Sl), w10.cell? { block := b3, off := (0 : Nat) } = some (Value.slice s11.1 s11.2 s11.3) ∧ marksP w10 l9 fun (w12 : World) => R (Value.slice s11.1 s11.2 s11.3) w12)
              (fun (l13 : List Nat) (w14 : World) => marksP w14 l13 fun (w15 : World) => R (Value.slice none (0 : Nat) (0 : Nat)) w15) fun (b16 : Nat) (l17 : List Nat) (w18 : World) =>
              match b16.beq (0 : Nat) with
              | true => ∃ (s20 : Sl), w18.cell? { block := b3, off := (0 : Nat) } = some (Value.slice s20.1 s20.2 s20.3) ∧ marksP w18 l17 fun (w21 : World) => R (Value.slice s20.1 s20.2 s20.3) w21
              | false => False
theorem F16_ok (t0 : Int) (t1 : Int) (w : World) (R : Value → World → Prop) (h : F16 t0 t1 w R) : CW Try.prog 16 #[Value.int IntKind.u64 t0, Value.int IntKind.i64 t1] w R :=
  call_of tbOk mixed en16 Try.func16 rfl (.node (.nil) (.node (.nil) (.node (.node (.nil) (.rng [(3, .box), (4, .sl), (5, .box), (8, .clo)] (.nil))) (.nil)))) (by kernel_rfl) (Nat.le_of_ble_eq_true (by kernel_rfl)) (Eq.mp (α := F16 t0 t1 w R) (by kernel_rfl) h)

def F16b0 (t3 : Nat) (t4 : Sl) (t5 : Nat) (t8 : Nat × Array Value) (x9 : Int) (l D n₀ : Nat) (Jn : World → Prop) (Jx : Code → World → Prop) (W : World) : Prop :=
  ([] : List Nat) = [] ∧
  (W.1[l]? = W.1[l]? ∧ W.1[D]? = W.1[D]?) ∧
    ∀ (w9 : World),
      Stb n₀ W w9 →
        (∃ (y11 : Loop), w9.1[l]? = some (Obj.loop y11)) →
          ∃ (s15 : Sl),
            w9.cell? { block := t5, off := (0 : Nat) } = some (Value.slice s15.1 s15.2 s15.3) ∧
              ∃ (n16 : Int),
                w9.cell? { block := t3, off := (0 : Nat) } = some (Value.int IntKind.i64 n16) ∧
                  IfB (decide ((if (1000 : Int) < n16 then (1000 : Int) else n16) ≤ (↑s15.n : Int))) ((w9.1[l]? = w9.1[l]? ∧ w9.1[D]? = w9.1[D]?) ∧ Jx (Code.exit (0 : Nat)) w9)
                    (∃ (s25 : Sl),
                      w9.cell? { block := t5, off := (0 : Nat) } = some (Value.slice s25.1 s25.2 s25.3) ∧
                        (1 : Nat) * (1 : Nat) ≤ (16777216 : Nat) ∧
                          AllocP w9 (Obj.cells #[Value.int IntKind.i64 x9] (3 : Nat)) fun (b26 : Nat) (w27 : World) =>
                            ∃ (l28 : List Value),
                              ReadC w27 (some { block := b26, off := (0 : Nat) }) ((1 : Nat) * (1 : Nat)) l28 ∧
                                AppendP { kd := Kd.int IntKind.i64, size := (1 : Nat), bytes := (8 : Nat), zero := Value.int IntKind.i64 (0 : Int), sh := Sh.one (Leaf.int IntKind.i64) } (3 : Nat) w27
                                  s25.1 s25.2 s25.3 (1 : Nat) l28 fun (s29 : Sl) (w30 : World) =>
                                  #[Value.slice s29.1 s29.2 s29.3].size = (1 : Nat) ∧
                                    StoreP w30 t5 (0 : Nat) [Value.slice s29.1 s29.2 s29.3] fun (w31 : World) => (w31.1[l]? = w9.1[l]? ∧ w31.1[D]? = w9.1[D]?) ∧ Jn w31)
theorem F16b0_ok (t3 : Nat) (t4 : Sl) (t5 : Nat) (t8 : Nat × Array Value) (x9 : Int) (l D n₀ : Nat) (Jn : World → Prop) (Jx : Code → World → Prop) (W : World) {g : Nat → Value} (h : F16b0 t3 t4 t5 t8 x9 l D n₀ Jn Jx W) :
    BodyP Try.prog tb Try.f16.ntmps l D n₀ R16_0a (rP R16_0) (rA R16_0) (rB R16_0) (frC g [(3, Value.pointer (some { block := t3, off := 0 })), (4, Value.slice t4.1 t4.2 t4.3), (5, Value.pointer (some { block := t5, off := 0 })), (8, Value.func (Fn.func t8.1) #[] t8.2)]) Jn Jx [Value.int IntKind.i64 x9] W :=
  Eq.mp (α := F16b0 t3 t4 t5 t8 x9 l D n₀ Jn Jx W) (by kernel_rfl) h

def F15 (w : World) (R : Value → World → Prop) : Prop :=
  CX Try.prog (16 : Nat) #[Value.int IntKind.u64 (0 : Int), Value.int IntKind.i64 (1 : Int)] w fun (v1 : Value) (w2 : World) =>
  ∃ (s3 : Sl),
    v1 = Value.slice s3.1 s3.2 s3.3 ∧
      IfB (↑s3.2 == (1 : Int))
        (∃ (b4 : Nat),
          ∃ (b5 : Nat),
            s3.1 = some { block := b4, off := b5 } ∧
              ((0 : Int) ≤ (0 : Int) ∧ (0 : Int) < ↑s3.2) ∧
                ∃ (n6 : Int),
                  w2.cell? { block := b4, off := b5 + Int.toNat (0 : Int) } = some (Value.int IntKind.i64 n6) ∧
                    IfB (IntKind.u64.wrap n6 == (167951807 : Int)) (R (Value.bool true) w2) (R (Value.bool false) w2))
        (R (Value.bool false) w2)
theorem F15_ok (w : World) (R : Value → World → Prop) (h : F15  w R) : CW Try.prog 15 #[] w R :=
  call_of tbOk mixed en15 Try.func15 rfl (.nil) (by kernel_rfl) (Nat.le_of_ble_eq_true (by kernel_rfl)) (Eq.mp (α := F15  w R) (by kernel_rfl) h)

def F3 (t0 : Int) (t1 : Int) (w : World) (R : Value → World → Prop) : Prop :=
  CX Try.prog (15 : Nat) #[] w fun (v1 : Value) (w2 : World) =>
  ∃ (t3 : Bool),
    v1 = Value.bool t3 ∧
      IfB (!t3) (R (Value.bool false) w2)
        (CX Try.prog (16 : Nat) #[Value.int IntKind.u64 t0, Value.int IntKind.i64 t1] w2 fun (v4 : Value) (w5 : World) =>
          ∃ (s6 : Sl),
            v4 = Value.slice s6.1 s6.2 s6.3 ∧
              ∃ (y7 : Nat → Int × Int → World → Prop),
                (∃ (b8 : Nat), y7 b8 (t0, (0 : Int)) w5) ∧
                  ∀ (b9 : Nat) (x10 : Int × Int) (w11 : World) (y12 : Nat → Value),
                    y7 b9 x10 w11 →
                      IfB (decide (x10.snd < (↑s6.n : Int)))
                        (CX Try.prog (17 : Nat) #[Value.int IntKind.u64 x10.1] w11 fun (v14 : Value) (w15 : World) =>
                          ∃ (n16 : Int),
                            v14 = Value.int IntKind.u64 n16 ∧
                              ∃ (b17 : Nat),
                                ∃ (b18 : Nat),
                                  s6.1 = some { block := b17, off := b18 } ∧
                                    ((0 : Int) ≤ x10.2 ∧ x10.2 < ↑s6.2) ∧
                                      ∃ (n19 : Int),
                                        w15.cell? { block := b17, off := b18 + x10.2.toNat } = some (Value.int IntKind.i64 n19) ∧
                                          ¬(8589934592 : Int) = (0 : Int) ∧
                                            IfB (n19 != IntKind.i64.wrap (IntKind.u64.wrap (n16.tdiv (8589934592 : Int)))) (R (Value.bool false) w15)
                                              (([] : List Nat) = [] ∧ ∃ (b20 : Nat), b20 < b9 ∧ y7 b20 (n16, IntKind.i64.wrap (x10.2 + (1 : Int))) w15))
                        (IfB (decide (t1 < (1 : Int))) (R (Value.bool (↑s6.2 == (0 : Int))) w11)
                          (IfB (↑s6.2 == t1) (R (Value.bool true) w11) (IfB (decide ((1000 : Int) < t1)) (R (Value.bool (↑s6.2 == (1000 : Int))) w11) (R (Value.bool false) w11)))))
theorem F3_ok (t0 : Int) (t1 : Int) (w : World) (R : Value → World → Prop) (h : F3 t0 t1 w R) : CW Try.prog 3 #[Value.int IntKind.u64 t0, Value.int IntKind.i64 t1] w R :=
  call_of tbOk mixed en3 Try.func3 rfl (.node (.nil) (.node (.nil) (.node (.nil) (.node (.nil) (.node (.node (.nil) (.loop [(6, .int .u64), (7, .int .i64)] [14, 15, 16, 17, 20, 21, 6, 22, 23, 24, 25, 26, 27, 28, 29, 4, 18, 19, 7] (.nil))) (.nil)))))) (by kernel_rfl) (Nat.le_of_ble_eq_true (by kernel_rfl)) (Eq.mp (α := F3 t0 t1 w R) (by kernel_rfl) h)

end Go.Proofs.Ytopecljhehcldaa.Gx
