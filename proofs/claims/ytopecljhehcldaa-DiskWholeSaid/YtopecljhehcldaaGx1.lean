/- The framework, part 1: worlds as they change by one block, the contract of a call, the shapes of values, and what one operation of a region asks. -/
import Derived.WalkKit
import Derived.OrdersIn
import Derived.RangeFuncLeaves
import Derived.RangeFuncSeq
namespace Go.Proofs.Ytopecljhehcldaa.Gx
open Go

/-! ### Lists, so spelt that the kernel and the printer reckon them by themselves -/
section
variable {α β : Type}
def nth : List α → Nat → Option α
  | [], _ => none
  | a :: _, 0 => some a
  | _ :: l, n + 1 => nth l n
theorem nth_eq : ∀ (l : List α) (i : Nat), nth l i = l[i]?
  | [], _ => by simp [nth]
  | _ :: _, 0 => rfl
  | _ :: l, n + 1 => by simpa [nth] using nth_eq l n
def mapL (f : α → β) : List α → List β
  | [] => []
  | a :: l => f a :: mapL f l
theorem mapL_eq (f : α → β) : ∀ l : List α, mapL f l = l.map f
  | [] => rfl
  | _ :: l => by simp [mapL, mapL_eq f l]
def appL : List α → List α → List α
  | [], m => m
  | a :: l, m => a :: appL l m
theorem appL_eq : ∀ l m : List α, appL l m = l ++ m
  | [], _ => rfl
  | _ :: l, m => by simp [appL, appL_eq l m]
def takeL : Nat → List α → List α
  | 0, _ => []
  | _ + 1, [] => []
  | n + 1, a :: l => a :: takeL n l
theorem takeL_eq : ∀ (n : Nat) (l : List α), takeL n l = l.take n
  | 0, _ => by simp [takeL]
  | _ + 1, [] => by simp [takeL]
  | n + 1, _ :: l => by simp [takeL, takeL_eq n l]
def dropL : Nat → List α → List α
  | 0, l => l
  | _ + 1, [] => []
  | n + 1, _ :: l => dropL n l
theorem dropL_eq : ∀ (n : Nat) (l : List α), dropL n l = l.drop n
  | 0, _ => by simp [dropL]
  | _ + 1, [] => by simp [dropL]
  | n + 1, _ :: l => by simp [dropL, dropL_eq n l]
def lenL : List α → Nat
  | [] => 0
  | _ :: l => Nat.succ (lenL l)
theorem lenL_eq : ∀ l : List α, lenL l = l.length
  | [] => rfl
  | _ :: l => by simp [lenL, lenL_eq l]
def hasLen : List α → Nat → Bool
  | [], n => Nat.beq n 0
  | _ :: l, n => match Nat.beq n 0 with
    | true => false
    | false => hasLen l (Nat.sub n 1)
theorem hasLen_eq : ∀ (l : List α) (n : Nat), hasLen l n = true → l.length = n
  | [], n, h => (Nat.eq_of_beq_eq_true h).symm
  | _ :: l, n, h => by
    simp only [hasLen] at h
    split at h
    · cases h
    · rename_i hn
      have h1 := hasLen_eq l _ h
      have : n ≠ 0 := fun e => by subst e; cases hn
      simp only [List.length_cons, Nat.sub_eq] at *
      omega
def geLen : List α → Nat → Bool
  | [], n => Nat.beq n 0
  | _ :: l, n => match Nat.beq n 0 with
    | true => true
    | false => geLen l (Nat.sub n 1)
theorem geLen_le : ∀ (l : List α) (n : Nat), geLen l n = true → n ≤ l.length
  | [], n, h => by have := Nat.eq_of_beq_eq_true h; subst this; exact Nat.le_refl _
  | _ :: l, n, h => by
    simp only [geLen] at h
    split at h
    · rename_i hn; have := Nat.eq_of_beq_eq_true hn; omega
    · have h1 := geLen_le l _ h
      simp only [List.length_cons, Nat.sub_eq] at *
      omega
def lkT (t : Nat) : List (Nat × α) → Option α
  | [] => none
  | q :: l => match Nat.beq t q.1 with
    | true => some q.2
    | false => lkT t l
def optM (f : α → β) : Option α → Option β
  | none => none
  | some a => some (f a)
theorem optM_eq (f : α → β) (o : Option α) : optM f o = o.map f := by cases o <;> rfl
end

def cellsL : Value → List Value
  | .agg cs => cs.toList
  | v => [v]
theorem cellsL_eq (v : Value) : cellsL v = v.cells.toList := by cases v <;> rfl

/-! ### Worlds -/
structure Rest (w w' : World) : Prop where
  os : w'.os = w.os
  tape : w'.tape = w.tape
  output : w'.output = w.output

theorem Rest.refl (w : World) : Rest w w := ⟨rfl, rfl, rfl⟩
theorem Rest.trans {a b c : World} (h : Rest a b) (k : Rest b c) : Rest a c :=
  ⟨k.os.trans h.os, k.tape.trans h.tape, k.output.trans h.output⟩

theorem drew_heap (w : World) : w.drew.heap = w.heap := rfl
theorem drew_cell (w : World) (a : Addr) : w.drew.cell? a = w.cell? a := rfl
theorem drew_rest (w : World) : Rest w w.drew := ⟨rfl, rfl, rfl⟩

structure IsAlloc (w : World) (o : Obj) (b : Nat) (w' : World) : Prop where
  here : b = w.heap.size
  size : w'.heap.size = w.heap.size + 1
  new : w'.heap[b]? = some o
  old : ∀ i, i < w.heap.size → w'.heap[i]? = w.heap[i]?
  rest : Rest w w'

structure IsUpd (w : World) (b : Nat) (o : Obj) (w' : World) : Prop where
  size : w'.heap.size = w.heap.size
  new : w'.heap[b]? = some o
  old : ∀ i, i ≠ b → w'.heap[i]? = w.heap[i]?
  rest : Rest w w'

def AllocP (w : World) (o : Obj) (K : Nat → World → Prop) : Prop := ∀ b w', IsAlloc w o b w' → K b w'
def UpdP (w : World) (b : Nat) (o : Obj) (K : World → Prop) : Prop := ∀ w', IsUpd w b o w' → K w'

theorem isAlloc_push (w : World) (o : Obj) (n : Nat) : IsAlloc w o w.heap.size { w with heap := w.heap.push o, drawn := n } :=
  ⟨rfl, by simp, by simp, fun i hi => by
    show (w.heap.push o)[i]? = _
    rw [Array.getElem?_push, if_neg (by omega)], ⟨rfl, rfl, rfl⟩⟩

theorem AllocP.use {w : World} {o : Obj} {K : Nat → World → Prop} (h : AllocP w o K) : K w.heap.size { w with heap := w.heap.push o } :=
  h _ _ (isAlloc_push w o w.drawn)

/-! ### Shapes of values -/
structure Sl where
  p : Option Addr
  n : Nat
  c : Nat

inductive Leaf where
  | int (k : IntKind) | bool | str | ptr | sl | map | any | box | clo | yld | ints (k : IntKind) (n : Nat)

/-- n ints. -/
@[reducible] def intN : Nat → Type
  | 0 => Unit
  | 1 => Int
  | n + 2 => Int × intN (n + 1)
def intsE (k : IntKind) : (n : Nat) → intN n → List Value
  | 0, _ => []
  | 1, x => [.int k x]
  | n + 2, x => .int k x.1 :: intsE k (n + 1) x.2

@[reducible] def Leaf.den : Leaf → Type
  | .int _ => Int
  | .bool => Bool
  | .str => ByteArray
  | .ptr => Option Addr
  | .sl => Sl
  | .map => Option Nat
  | .any => Value
  | .box => Nat
  | .clo => Nat × Array Value
  | .yld => Nat
  | .ints _ n => intN n

def Leaf.enc : (l : Leaf) → l.den → Value
  | .int k, n => .int k n
  | .bool, b => .bool b
  | .str, s => .string s
  | .ptr, p => .pointer p
  | .sl, s => .slice s.p s.n s.c
  | .map, r => .map r
  | .any, v => v
  | .box, b => .pointer (some ⟨b, 0, none⟩)
  | .clo, x => .func (.func x.1) #[] x.2
  | .yld, l => .func (.yield l) #[] #[]
  | .ints k n, x => .agg (intsE k n x).toArray

@[reducible] def dens : List Leaf → Type
  | [] => Unit
  | [l] => l.den
  | l :: m :: ls => l.den × dens (m :: ls)

def encs : (ls : List Leaf) → dens ls → List Value
  | [], _ => []
  | [l], x => [l.enc x]
  | l :: m :: ls, x => l.enc x.1 :: encs (m :: ls) x.2

inductive Sh where
  | one (l : Leaf) | agg (ls : List Leaf) | tup (ls : List Leaf)

@[reducible] def Sh.den : Sh → Type
  | .one l => l.den
  | .agg ls => dens ls
  | .tup ls => dens ls

def Sh.enc : (s : Sh) → s.den → Value
  | .one l, x => l.enc x
  | .agg ls, x => .agg (encs ls x).toArray
  | .tup ls, x => .tuple (encs ls x).toArray

/-- A value of a type is handed on as its parts. -/
def Typed (s : Sh) (v : Value) (K : Value → Prop) : Prop := ∃ x : s.den, v = s.enc x ∧ K (s.enc x)

theorem Typed.out {s : Sh} {v : Value} {K : Value → Prop} (h : Typed s v K) : K v := by
  obtain ⟨x, rfl, h⟩ := h; exact h

/-! ### Types -/
inductive Kd where
  | int (k : IntKind) | bool | string | ptr | slice (e : TypeId) | struct (fs : List (TypeId × Nat)) | array (n : Nat) (e : TypeId)
  | map (k e : TypeId) | func | iface | other

def kdOf : TypeDesc → Kd
  | .int k => .int k
  | .bool => .bool
  | .string => .string
  | .pointer _ => .ptr
  | .slice e => .slice e
  | .struct fs => .struct (fs.toList.map fun f => (f.type, f.offset))
  | .array n e => .array n e
  | .map k e => .map k e
  | .func .. => .func
  | .interface _ => .iface
  | _ => .other

def Kd.isAgg : Kd → Bool
  | .struct _ | .array .. => true
  | _ => false

structure TI where
  kd : Kd
  size : Nat
  bytes : Nat
  zero : Value
  sh : Sh

abbrev Tab := Nat → Option TI

structure TI.Ok (P : Program) (t : Nat) (i : TI) : Prop where
  kd : (P.underlying t).map kdOf = some i.kd
  info : (P.info? t).map (fun j => (j.size, j.bytes, j.zero)) = some (i.size, i.bytes, some i.zero)
  zsz : i.zero.cells.size = i.size

def Tab.Ok (P : Program) (tb : Tab) : Prop := ∀ t i, tb t = some i → i.Ok P t

theorem TI.Ok.desc {P : Program} {t : Nat} {i : TI} (h : i.Ok P t) : ∃ d, P.underlying t = some d ∧ kdOf d = i.kd := by
  have := h.kd
  cases hd : P.underlying t with
  | none => rw [hd] at this; cases this
  | some d => rw [hd] at this; exact ⟨d, rfl, by simpa using this⟩

theorem TI.Ok.row {P : Program} {t : Nat} {i : TI} (h : i.Ok P t) : ∃ j, P.info? t = some j ∧ j.size = i.size ∧ j.bytes = i.bytes ∧ j.zero = some i.zero := by
  have := h.info
  cases hd : P.info? t with
  | none => rw [hd] at this; cases this
  | some j => rw [hd] at this; simp at this; exact ⟨j, rfl, this.1, this.2.1, this.2.2⟩

/-! ### Contracts -/
def Entr (P : Program) (f : FuncId) : Prop := ∀ args w, (callFunc f args).run P w = .ok (.enter f args) w

/-- The call of function f returns, and of what it returns and of the world behind it R holds. -/
def CW (P : Program) (f : FuncId) (args : Array Value) (w : World) (R : Value → World → Prop) : Prop :=
  Entr P f ∧ CallsIn Fence.wide 0 P f args w fun e w' => ∃ v, e = .returned v ∧ R v w'

theorem CW.mono {P : Program} {f : FuncId} {args : Array Value} {w : World} {R R' : Value → World → Prop} (h : CW P f args w R)
    (hr : ∀ v w', R v w' → R' v w') : CW P f args w R' :=
  ⟨h.1, h.2.mono fun _ w' ⟨v, he, hR⟩ => ⟨v, he, hr v w' hR⟩⟩

theorem CW.calls {P : Program} {f : FuncId} {args : Array Value} {w : World} {R : Value → World → Prop} (h : CW P f args w R) :
    Calls P f args w fun e w' => ∃ v, e = .returned v ∧ R v w' := callsIn_wide.1 h.2

/-- The call of a range loop's 'yield'. -/
def YW (P : Program) (l : Nat) (args : Array Value) (w : World) (R : Bool → World → Prop) : Prop :=
  ∃ fn tmps assign body, (Instr.yield l args).run P w = .ok (.round l fn tmps assign body) w ∧
    RoundIn Fence.wide 0 P l fn tmps assign body w fun e w' => ∃ b, e = .returned (.bool b) ∧ R b w'

theorem YW.mono {P : Program} {l : Nat} {args : Array Value} {w : World} {R R' : Bool → World → Prop} (h : YW P l args w R)
    (hr : ∀ b w', R b w' → R' b w') : YW P l args w R' := by
  obtain ⟨fn, tmps, assign, body, hy, h⟩ := h
  exact ⟨fn, tmps, assign, body, hy, h.mono fun _ w' ⟨b, he, hR⟩ => ⟨b, he, hr b w' hR⟩⟩

def fz (r : Option Nat) : Fence := { Fence.wide with round := r }

theorem fz_callsIn {r : Option Nat} {n : Nat} {P : Program} {f : FuncId} {args : Array Value} {w : World} {R : Ending → World → Prop} :
    CallsIn (fz r) n P f args w R ↔ CallsIn Fence.wide n P f args w R := Iff.rfl

theorem fz_roundIn {r : Option Nat} {n : Nat} {P : Program} {l f : Nat} {tmps : Array Value} {assign body : Code} {w : World} {R : Ending → World → Prop} :
    RoundIn (fz r) n P l f tmps assign body w R ↔ RoundIn Fence.wide n P l f tmps assign body w R := Iff.rfl

/-! ### Frames -/
abbrev Fr := Nat → Value

def ev (f : Fr) : Operand → Value
  | .tmp t => f t
  | .const v => v
  | .global g => .pointer (some ⟨g, 0, none⟩)
  | .func g => .func (.func g) #[] #[]

def put (f : Fr) (d : Option Nat) (v : Value) : Fr :=
  match d with
  | some d => fun t => match Nat.beq t d with
    | true => v
    | false => f t
  | none => f

def mark (D : Nat) : Deferred := { target := .collected D, args := #[] }

structure Rel (N : Nat) (a : Act) (f : Fr) (ds : List Nat) : Prop where
  size : a.tmps.size = N
  val : ∀ t, a.tmps.getD t undef = f t
  defers : a.defers = ds.map mark

theorem Rel.eval {N : Nat} {a : Act} {f : Fr} {ds : List Nat} (h : Rel N a f ds) : a.eval = ev f := by
  funext x
  cases x with
  | tmp t => exact h.val t
  | const v => rfl
  | global g => rfl
  | func g => rfl

theorem Rel.put {N : Nat} {a : Act} {f : Fr} {ds : List Nat} (h : Rel N a f ds) {d : Option Nat} (hd : ∀ e, d = some e → e < N) (v : Value) :
    Rel N (a.put d v) (put f d v) ds := by
  cases d with
  | none => exact h
  | some d =>
    refine ⟨by simp [Act.put, h.size], fun t => ?_, h.defers⟩
    have hd' := hd d rfl
    simp only [Act.put, Gx.put]
    by_cases e : t = d
    · subst e
      rw [show Nat.beq t t = true from Nat.beq_refl t]
      simp [h.size, hd']
    · have hb : Nat.beq t d = false := by
        cases hb : Nat.beq t d with
        | false => rfl
        | true => exact (e (Nat.eq_of_beq_eq_true hb)).elim
      rw [hb]
      dsimp only
      rw [← h.val t]
      simp only [Array.getD_eq_getD_getElem?, Array.getElem?_setIfInBounds_ne (Ne.symm e)]

theorem Rel.yielded {N : Nat} {a : Act} {f : Fr} {ds : List Nat} (h : Rel N a f ds) (ops : Array Oper) (j : Nat) (d : Nat)
    (hd : (ops[j]?).bind (·.dst) = some d) (hN : d < N) :
    Go.yielded ops a.tmps j = match f d with | .bool b => some b | _ => none := by
  have hs : d < a.tmps.size := by rw [h.size]; exact hN
  have hv := h.val d
  rw [Array.getD_eq_getD_getElem?, Array.getElem?_eq_getElem hs] at hv
  simp only [Go.yielded, hd, Option.bind_some, Array.getElem?_eq_getElem hs]
  simp only [Option.getD_some] at hv
  rw [hv]; cases f d <;> rfl

end Go.Proofs.Ytopecljhehcldaa.Gx
