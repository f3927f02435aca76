/- The framework, part 2: what one operation of a region asks. -/
import Derived.Test.YtopecljhehcldaaGx1
namespace Go.Proofs.Ytopecljhehcldaa.Gx
open Go

/-! ### Tests -/
def IfB (b : Bool) (A B : Prop) : Prop := match b with | true => A | false => B
theorem IfB.dec {p : Prop} [Decidable p] {A B : Prop} (h : p → A) (k : ¬ p → B) : IfB (decide p) A B := by
  by_cases hp : p
  · rw [decide_eq_true hp]; exact h hp
  · rw [decide_eq_false hp]; exact k hp
theorem IfB.intro {b : Bool} {A B : Prop} (h : b = true → A) (k : b = false → B) : IfB b A B := by
  cases b
  · exact k rfl
  · exact h rfl
theorem IfB.yes {b : Bool} {A B : Prop} (hb : b = true) (h : A) : IfB b A B := by subst hb; exact h
theorem IfB.no {b : Bool} {A B : Prop} (hb : b = false) (h : B) : IfB b A B := by subst hb; exact h
theorem IfB.cases {b : Bool} {A B : Prop} (h : IfB b A B) : (b = true ∧ A) ∨ (b = false ∧ B) := by
  cases b
  · exact .inr ⟨rfl, h⟩
  · exact .inl ⟨rfl, h⟩

/-! ### Pure operations -/
def sameK : IntKind → IntKind → Prop → Prop
  | .i64, .i64, A => A | .u64, .u64, A => A | .u8, .u8, A => A | .i32, .i32, A => A | .u32, .u32, A => A
  | .i8, .i8, A => A | .i16, .i16, A => A | .u16, .u16, A => A | _, _, _ => False
theorem sameK.out {j k : IntKind} {A : Prop} (h : sameK j k A) : j = k ∧ A := by
  cases j <;> cases k <;> first | exact ⟨rfl, h⟩ | exact h.elim

def bitsI (op : BinOp) (k : IntKind) (a b : Int) : Int :=
  match op with
  | .and => k.wrap (BitVec.ofInt k.bits a &&& BitVec.ofInt k.bits b).toNat
  | .or => k.wrap (BitVec.ofInt k.bits a ||| BitVec.ofInt k.bits b).toNat
  | .xor => k.wrap (BitVec.ofInt k.bits a ^^^ BitVec.ofInt k.bits b).toNat
  | _ => k.wrap (BitVec.ofInt k.bits a &&& ~~~ BitVec.ofInt k.bits b).toNat

/-- Two values of a type that has no equality of its own here are equal just if b. -/
def EqAt (P : Program) (T : TypeId) (x y : Value) (b : Bool) : Prop :=
  ∀ (xo yo : Operand) (w : World), (do eqGuard .eql T xo yo x y; binOp .eql T x y : Sem Value).run P w = .ok (.bool b) w ∧
    (do eqGuard .neq T xo yo x y; binOp .neq T x y : Sem Value).run P w = .ok (.bool !b) w

def eqX (P : Program) (T : TypeId) (kd : Kd) (x y : Value) (K : Bool → Prop) : Prop :=
  match kd, x, y with
  | .bool, .bool a, .bool b => K (a == b)
  | .ptr, .pointer a, .pointer none => K a.isNone
  | .ptr, .pointer none, .pointer b => K b.isNone
  | .slice _, .slice a _ _, .slice none _ _ => K a.isNone
  | .map .., .map a, .map none => K a.isNone
  | .func, .nilFunc, .nilFunc => K true
  | .func, .func _ _ _, .nilFunc => K false
  | _, x, y => ∃ b, EqAt P T x y b ∧ K b

def binX (P : Program) (T : TypeId) (kd : Kd) (op : BinOp) (x y : Value) (K : Value → Prop) : Prop :=
  match op, x, y with
  | .add, .int k a, .int j b => sameK k j (K (.int k (k.wrap (a + b))))
  | .sub, .int k a, .int j b => sameK k j (K (.int k (k.wrap (a - b))))
  | .mul, .int k a, .int j b => sameK k j (K (.int k (k.wrap (a * b))))
  | .quo, .int k a, .int j b => sameK k j (b ≠ 0 ∧ K (.int k (k.wrap (a.tdiv b))))
  | .rem, .int k a, .int j b => sameK k j (b ≠ 0 ∧ K (.int k (a.tmod b)))
  | .eql, .int k a, .int j b => sameK k j (K (.bool (a == b)))
  | .neq, .int k a, .int j b => sameK k j (K (.bool (a != b)))
  | .lss, .int k a, .int j b => sameK k j (K (.bool (decide (a < b))))
  | .leq, .int k a, .int j b => sameK k j (K (.bool (decide (a ≤ b))))
  | .gtr, .int k a, .int j b => sameK k j (K (.bool (decide (b < a))))
  | .geq, .int k a, .int j b => sameK k j (K (.bool (decide (b ≤ a))))
  | .and, .int k a, .int j b => sameK k j (K (.int k (bitsI .and k a b)))
  | .or, .int k a, .int j b => sameK k j (K (.int k (bitsI .or k a b)))
  | .xor, .int k a, .int j b => sameK k j (K (.int k (bitsI .xor k a b)))
  | .andNot, .int k a, .int j b => sameK k j (K (.int k (bitsI .andNot k a b)))
  | .shl, .int k a, .int _ b => 0 ≤ b ∧ K (.int k (k.wrap (a * 2 ^ (min b.toNat k.bits))))
  | .shr, .int k a, .int _ b => 0 ≤ b ∧ K (.int k (a.fdiv (2 ^ (min b.toNat k.bits))))
  | .eql, .string a, .string b => K (.bool (a.toList == b.toList))
  | .neq, .string a, .string b => K (.bool !(a.toList == b.toList))
  | .eql, x, y => eqX P T kd x y fun b => K (.bool b)
  | .neq, x, y => eqX P T kd x y fun b => K (.bool !b)
  | _, _, _ => False

def unX (op : UnOp) (x : Value) (K : Value → Prop) : Prop :=
  match op, x with
  | .not, .bool b => K (.bool !b)
  | .neg, .int k n => K (.int k (k.wrap (0 - n)))
  | .xor, .int k n => K (.int k (bitsI .xor k (if k.signed then -1 else k.max) n))
  | _, _ => False

def mulS (n s : Nat) : Nat :=
  match Nat.beq s 1 with
  | true => n
  | false => n * s
theorem mulS_eq (n s : Nat) : mulS n s = n * s := by
  unfold mulS
  split
  · rename_i h
    rw [Nat.eq_of_beq_eq_true h, Nat.mul_one]
  · rfl

def slAddr (p : Option Addr) (m l size : Nat) : Option Addr := if m = l then p else p.map (·.add (l * size))

/-- 's[lo:hi:mx]' of a slice. -/
def sliceX (size : Nat) (p : Option Addr) (n c : Nat) (lo hi mx : Option Value) (K : Value → Prop) : Prop :=
  match lo, hi, mx with
  | none, none, none => K (.slice (slAddr p c 0 size) n c)
  | some (.int _ l), none, none => (0 ≤ l ∧ l ≤ n) ∧ K (.slice (slAddr p c l.toNat size) (n - l.toNat) (c - l.toNat))
  | none, some (.int _ h), none => (0 ≤ h ∧ h ≤ c) ∧ K (.slice (slAddr p c 0 size) h.toNat c)
  | some (.int _ l), some (.int _ h), none => (0 ≤ l ∧ l ≤ h ∧ h ≤ c) ∧ K (.slice (slAddr p c l.toNat size) (h.toNat - l.toNat) (c - l.toNat))
  | none, some (.int _ h), some (.int _ m) => (0 ≤ h ∧ h ≤ m ∧ m ≤ c) ∧ K (.slice (slAddr p m.toNat 0 size) h.toNat m.toNat)
  | some (.int _ l), some (.int _ h), some (.int _ m) =>
    (0 ≤ l ∧ l ≤ h ∧ h ≤ m ∧ m ≤ c) ∧ K (.slice (slAddr p m.toNat l.toNat size) (h.toNat - l.toNat) (m.toNat - l.toNat))
  | _, _, _ => False

/-- 's[lo:hi]' of a string. -/
def sliceStrX (s : ByteArray) (lo hi : Option Value) (K : Value → Prop) : Prop :=
  match lo, hi with
  | none, none => K (.string (s.extract 0 s.size))
  | some (.int _ l), none => (0 ≤ l ∧ l ≤ s.size) ∧ K (.string (s.extract l.toNat s.size))
  | none, some (.int _ h) => (0 ≤ h ∧ h ≤ s.size) ∧ K (.string (s.extract 0 h.toNat))
  | some (.int _ l), some (.int _ h) => (0 ≤ l ∧ l ≤ h ∧ h ≤ s.size) ∧ K (.string (s.extract l.toNat h.toNat))
  | _, _ => False

def partX (ti : TI) (cs : Array Value) (off : Nat) (K : Value → Prop) : Prop :=
  match ti.kd.isAgg with
  | true => K (.agg (takeL ti.size (dropL off cs.toList)).toArray)
  | false => match nth cs.toList off with
    | some v => K v
    | none => ∃ v, cs[off]? = some v ∧ K v

/-- The cells of a literal, part by part. -/
def fillL (place : Nat → Option (Nat × Nat)) : List Value → List (Nat × Value) → Option (List Value)
  | cells, [] => some cells
  | cells, (i, v) :: rest => match place i with
    | none => none
    | some pl => match hasLen (cellsL v) pl.2, geLen cells (Nat.add pl.1 pl.2) with
      | true, true => fillL place (appL (takeL pl.1 cells) (appL (cellsL v) (dropL (Nat.add pl.1 pl.2) cells))) rest
      | _, _ => none

def fillC (place : Nat → Option (Nat × Nat)) (zero : List Value) (parts : List (Nat × Value)) (K : Array Value → Prop) : Prop :=
  match fillL place zero parts with
  | some cs => K cs.toArray
  | none => False

def allSome (tb : Tab) : List (TypeId × Nat) → Bool
  | [] => true
  | q :: l => match tb q.1 with
    | some _ => allSome tb l
    | none => false

def placesOf (tb : Tab) (fs : List (TypeId × Nat)) (i : Nat) : Option (Nat × Nat) :=
  match nth fs i with
  | some q => match tb q.1 with | some ti => some (q.2, ti.size) | none => none
  | none => none

/-- The pure operations: what they yield hangs on their operands alone. -/
def pux (P : Program) (tb : Tab) (op : Op) (ρ : Operand → Value) (K : Value → Prop) : Prop :=
  match op with
  | .move x | .assign x => K (ρ x)
  | .pick c a b => match ρ c with
    | .bool t => IfB t (K (ρ a)) (K (ρ b))
    | _ => False
  | .nilCheck x => match ρ x with
    | .pointer p => ∃ b o, p = some ⟨b, o, none⟩ ∧ K (.pointer (some ⟨b, o, none⟩))
    | .func (.func g) a b => K (.func (.func g) a b)
    | _ => False
  | .binOp op T x y _ => match tb T with
    | some ti => binX P T ti.kd op (ρ x) (ρ y) K
    | none => False
  | .unOp op _ x => unX op (ρ x) K
  | .convert src dst x => match tb src, tb dst, ρ x with
    | some _, some ti, .int _ n => match ti.kd with
      | .int k => K (.int k (k.wrap n))
      | _ => False
    | _, _, _ => False
  | .makeFunc fn first captured => K (.func fn (mapL ρ first.toList).toArray (mapL ρ captured.toList).toArray)
  | .fieldAddr s x i => match tb s, ρ x with
    | some ti, .pointer (some ⟨b, o, none⟩) => match ti.kd with
      | .struct fs => match nth fs i with
        | some q => match tb q.1 with
          | some tj => match tj.size with
            | 0 => False
            | _ + 1 => K (.pointer (some ⟨b, o + q.2, none⟩))
          | none => False
        | none => False
      | _ => False
    | _, _ => False
  | .field s x i => match tb s, ρ x with
    | some ti, .agg cs => match ti.kd with
      | .struct fs => match nth fs i with
        | some q => match tb q.1 with
          | some tj => partX tj cs q.2 K
          | none => False
        | none => False
      | _ => False
    | _, _ => False
  | .indexAddr T x ix => match tb T, ρ x, ρ ix with
    | some ti, .slice p n _, .int _ i => match ti.kd with
      | .slice e => match tb e with
        | some te => ∃ b o, p = some ⟨b, o, none⟩ ∧ (0 ≤ i ∧ i < n) ∧ K (.pointer (some ⟨b, o + mulS i.toNat te.size, none⟩))
        | none => False
      | _ => False
    | some ti, .pointer (some ⟨b, o, none⟩), .int _ i => match ti.kd with
      | .array n e => match tb e with
        | some te => (0 ≤ i ∧ i < n) ∧ K (.pointer (some ⟨b, o + mulS i.toNat te.size, none⟩))
        | none => False
      | _ => False
    | _, _, _ => False
  | .index T x ix => match tb T, ρ x, ρ ix with
    | some ti, .agg cs, .int _ i => match ti.kd with
      | .array n e => match tb e with
        | some te => (0 ≤ i ∧ i < n) ∧ partX te cs (mulS i.toNat te.size) K
        | none => False
      | _ => False
    | some ti, .string s, .int _ i => match ti.kd with
      | .string => ∃ b, 0 ≤ i ∧ s[i.toNat]? = some b ∧ K (.int .u8 b.toNat)
      | _ => False
    | _, _, _ => False
  | .slice T x lo hi mx => match tb T, ρ x with
    | some ti, .slice p n c => match ti.kd with
      | .slice e => match tb e with
        | some te => sliceX te.size p n c (optM ρ lo) (optM ρ hi) (optM ρ mx) K
        | none => False
      | _ => False
    | some ti, .string s => match ti.kd, mx with
      | .string, none => sliceStrX s (optM ρ lo) (optM ρ hi) K
      | _, _ => False
    | some ti, .pointer (some ⟨b, o, none⟩) => match ti.kd with
      | .array n e => match tb e with
        | some te => sliceX te.size (some ⟨b, o, none⟩) n n (optM ρ lo) (optM ρ hi) (optM ρ mx) K
        | none => False
      | _ => False
    | _, _ => False
  | .extract t i => match ρ t with
    | .tuple vs => match nth vs.toList i with
      | some v => K v
      | none => False
    | _ => False
  | .build T parts => match tb T with
    | some ti => match ti.kd with
      | .struct fs => match allSome tb fs with
        | true => fillC (placesOf tb fs) (cellsL ti.zero) (mapL (fun q => (q.1, ρ q.2)) parts.toList) fun cs => K (.agg cs)
        | false => False
      | .array _ e => match tb e with
        | some te => fillC (fun i => some (i * te.size, te.size)) (cellsL ti.zero) (mapL (fun q => (q.1, ρ q.2)) parts.toList) fun cs => K (.agg cs)
        | none => False
      | _ => False
    | none => False
  | .makeInterface T x => match tb T with
    | some ti => match ti.kd with
      | .iface => False
      | _ => K (.iface T (ρ x))
    | none => False
  | .call c => match c.callee, mapL ρ c.args.toList, c.argTypes.toList with
    | .builtin .len, [.slice _ n _], T :: _ => match tb T with
      | some ti => match ti.kd with
        | .slice _ => K (.int .i64 n)
        | _ => False
      | none => False
    | .builtin .len, [.string s], T :: _ => match tb T with
      | some ti => match ti.kd with
        | .string => K (.int .i64 s.size)
        | _ => False
      | none => False
    | .builtin .len, [.agg _], T :: _ => match tb T with
      | some ti => match ti.kd with
        | .array n _ => K (.int .i64 n)
        | _ => False
      | none => False
    | .builtin .cap, [.slice _ _ k], T :: _ => match tb T with
      | some ti => match ti.kd with
        | .slice _ => K (.int .i64 k)
        | _ => False
      | none => False
    | .builtin .min, [.int k a, .int j b], _ => sameK k j (K (.int k (if b < a then b else a)))
    | .builtin .max, [.int k a, .int j b], _ => sameK k j (K (.int k (if a < b then b else a)))
    | _, _, _ => False
  | _ => False

/-- Is an operation a pure one? -/
def isPure : Op → Bool
  | .move _ | .assign _ | .pick .. | .nilCheck _ | .binOp .. | .unOp .. | .convert .. | .makeFunc .. | .fieldAddr .. | .field .. | .indexAddr .. | .index ..
  | .slice .. | .extract .. | .build .. | .makeInterface .. => true
  | .call c => match c.callee with
    | .builtin .len | .builtin .cap | .builtin .min | .builtin .max => true
    | _ => false
  | _ => false

/-- What a pure operation yields, in whatever world. -/
def Yv (P : Program) (op : Op) (T : TypeId) (ρ : Operand → Value) (v : Value) : Prop :=
  ∀ (w : World) dst pos after guard, (execOp ρ { dst, op, type := T, pos, after, guard }).run P w = .ok (.value v) w

end Go.Proofs.Ytopecljhehcldaa.Gx
