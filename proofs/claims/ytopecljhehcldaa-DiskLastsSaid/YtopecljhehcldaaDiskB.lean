/- Package disk: a device; Len, there, Writes, Syncs, Dirty. -/
import Derived.Test.YtopecljhehcldaaDiskA
namespace Go.Proofs.Ytopecljhehcldaa.Gx
open Go
set_option linter.unusedSimpArgs false
set_option linter.unusedVariables false

abbrev Sec := Int × Int × Int × Int × Int × Int × Int × Int
def secL (x : Sec) : List Value := [.int .u64 x.1, .int .u64 x.2.1, .int .u64 x.2.2.1, .int .u64 x.2.2.2.1, .int .u64 x.2.2.2.2.1, .int .u64 x.2.2.2.2.2.1, .int .u64 x.2.2.2.2.2.2.1, .int .u64 x.2.2.2.2.2.2.2]
def secV (x : Sec) : Value := .agg (secL x).toArray
abbrev sec0 : Sec := (0, 0, 0, 0, 0, 0, 0, 0)

/-- A device: what lasts, what was written, how often. -/
structure Dk (w : World) (b : Nat) (s : Sl) (r : Nat) (ls : List Sec) (f : List (Int × Sec)) (wr sy : Int) : Prop where
  box : ∃ T, w.heap[b]? = some (.cells #[slV s, .map (some r), iv wr, iv sy] T (0, 0))
  arr : OwS w s 8 (ls.flatMap secL)
  len : 1 ≤ ls.length ∧ ls.length ≤ 4096
  map : Mp secV w r f
  self : b ∉ blk s
  rng : ∀ p ∈ f, 0 ≤ p.1 ∧ p.1 < (ls.length : Int)
def inDk (b : Nat) (s : Sl) (r : Nat) (i : Nat) : Prop := i = b ∨ i = r ∨ i ∈ blk s

theorem secs_len : ∀ ls : List Sec, (ls.flatMap secL).length = ls.length * 8
  | [] => rfl
  | x :: ls => by
    rw [List.flatMap_cons, List.length_append, secs_len ls, List.length_cons]
    show 8 + _ = _
    omega
theorem Dk.n {w : World} {b : Nat} {s : Sl} {r : Nat} {ls : List Sec} {f : List (Int × Sec)} {wr sy : Int} (h : Dk w b s r ls f wr sy) : s.n = ls.length := by
  have := h.arr.len
  rw [secs_len] at this
  omega
theorem Dk.ch {F : Nat → Prop} {w w' : World} {b : Nat} {s : Sl} {r : Nat} {ls : List Sec} {f : List (Int × Sec)} {wr sy : Int} (h : Dk w b s r ls f wr sy) (hc : Ch F w w') (hF : ∀ i, inDk b s r i → ¬ F i) : Dk w' b s r ls f wr sy := by
  obtain ⟨T, hT⟩ := h.box
  exact ⟨⟨T, hc.at hT (hF _ (.inl rfl))⟩, h.arr.ch hc fun i hi => hF i (.inr (.inr hi)), h.len, h.map.ch hc (hF _ (.inr (.inl rfl))), h.self, h.rng⟩
theorem Dk.ext {w w' : World} {b : Nat} {s : Sl} {r : Nat} {ls : List Sec} {f : List (Int × Sec)} {wr sy : Int} (h : Dk w b s r ls f wr sy) (hc : Ext w w') : Dk w' b s r ls f wr sy := h.ch hc fun _ _ => id
theorem Dk.rb {w : World} {b : Nat} {s : Sl} {r : Nat} {ls : List Sec} {f : List (Int × Sec)} {wr sy : Int} (h : Dk w b s r ls f wr sy) : r ≠ b ∧ r ∉ blk s := by
  obtain ⟨T, hT⟩ := h.box
  obtain ⟨es, ck, hm, _⟩ := h.map
  refine ⟨fun e => ?_, fun hi => ?_⟩
  · subst e; rw [hT] at hm; cases hm
  · rcases h.arr with ⟨rfl, _⟩ | ⟨a, arr, T', h1, h2, _⟩
    · simp [blk] at hi
    · simp [blk, h1] at hi; subst hi; rw [h2] at hm; cases hm
theorem Dk.lt {w : World} {b : Nat} {s : Sl} {r : Nat} {ls : List Sec} {f : List (Int × Sec)} {wr sy : Int} (h : Dk w b s r ls f wr sy) {i : Nat} (hi : inDk b s r i) : i < w.heap.size := by
  rcases hi with rfl | rfl | hi
  · obtain ⟨T, hT⟩ := h.box; exact heap_lt hT
  · exact h.map.lt
  · exact h.arr.lt i hi

section
variable {w : World} {b : Nat} {s : Sl} {r : Nat} {ls : List Sec} {f : List (Int × Sec)} {wr sy : Int}
theorem Dk.c0 (h : Dk w b s r ls f wr sy) : w.cell? ⟨b, 0 + 0, none⟩ = some (slV s) := by obtain ⟨T, hT⟩ := h.box; rw [cell_of hT]; rfl
theorem Dk.c1 (h : Dk w b s r ls f wr sy) : w.cell? ⟨b, 0 + 1, none⟩ = some (.map (some r)) := by obtain ⟨T, hT⟩ := h.box; rw [cell_of hT]; rfl
theorem Dk.c2 (h : Dk w b s r ls f wr sy) : w.cell? ⟨b, 0 + 2, none⟩ = some (iv wr) := by obtain ⟨T, hT⟩ := h.box; rw [cell_of hT]; rfl
theorem Dk.c3 (h : Dk w b s r ls f wr sy) : w.cell? ⟨b, 0 + 3, none⟩ = some (iv sy) := by obtain ⟨T, hT⟩ := h.box; rw [cell_of hT]; rfl

theorem c45 (h : Dk w b s r ls f wr sy) : CW Try.prog 45 #[.pointer (some ⟨b, 0, none⟩)] w fun v w' => v = iv (ls.length : Int) ∧ w = w' :=
  F45_ok _ w _ (IfB.no rfl ⟨b, 0, rfl, s, h.c0, by rw [show s.2 = s.n from rfl, h.n], rfl⟩)
theorem c46 (h : Dk w b s r ls f wr sy) : CW Try.prog 46 #[.pointer (some ⟨b, 0, none⟩)] w fun v w' => v = iv wr ∧ w = w' :=
  F46_ok _ w _ (IfB.no rfl ⟨b, 0, rfl, wr, h.c2, rfl, rfl⟩)
theorem c47 (h : Dk w b s r ls f wr sy) : CW Try.prog 47 #[.pointer (some ⟨b, 0, none⟩)] w fun v w' => v = iv sy ∧ w = w' :=
  F47_ok _ w _ (IfB.no rfl ⟨b, 0, rfl, sy, h.c3, rfl, rfl⟩)
theorem c76 (h : Dk w b s r ls f wr sy) (i : Int) : CW Try.prog 76 #[.pointer (some ⟨b, 0, none⟩), iv i] w fun v w' => v = .bool (decide (0 ≤ i ∧ i < (ls.length : Int))) ∧ w = w' := by
  refine F76_ok _ i w _ (IfB.dec (fun h0 => (c45 h).use ?_) (fun h0 => ⟨by rw [decide_eq_false (by omega)], rfl⟩))
  rintro _ _ ⟨rfl, rfl⟩
  exact ⟨_, rfl, by congr 1; exact decide_eq_decide.2 (by omega), rfl⟩
end
theorem c45nil (w : World) : CW Try.prog 45 #[.pointer none] w fun v w' => v = iv 0 ∧ w = w' := F45_ok _ w _ (IfB.yes rfl ⟨rfl, rfl⟩)
theorem c76nil (i : Int) (w : World) : CW Try.prog 76 #[.pointer none, iv i] w fun v w' => v = .bool false ∧ w = w' := by
  refine F76_ok _ i w _ (IfB.dec (fun h0 => (c45nil w).use ?_) (fun h0 => ⟨rfl, rfl⟩))
  rintro _ _ ⟨rfl, rfl⟩
  exact ⟨_, rfl, by rw [decide_eq_false (by omega)], rfl⟩
end Go.Proofs.Ytopecljhehcldaa.Gx
