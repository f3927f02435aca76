/- Package disk: the laws' arguments; devices that are written as a list says. -/
import Derived.Test.YtopecljhehcldaaDiskJ
namespace Go.Proofs.Ytopecljhehcldaa.Gx
open Go
set_option linter.unusedSimpArgs false
set_option linter.unusedVariables false

abbrev tyOp : Ty := .pair (.int .u8) (.pair (.int .i64) (.pair (.arr 8 (.int .u64)) (.sl .bool)))
def secOf (l : List Int) : Sec := (l.getD 0 0, l.getD 1 0, l.getD 2 0, l.getD 3 0, l.getD 4 0, l.getD 5 0, l.getD 6 0, l.getD 7 0)
theorem secOf_map {l : List Int} (h : l.length = 8) : l.map (Value.int .u64) = secL (secOf l) := by
  match l, h with
  | [a1, a2, a3, a4, a5, a6, a7, a8], _ => rfl
theorem rep_arr8 {A : Nat → Prop} {w : World} {l : List Int} {cs : List Value} (h : rep A w (.arr 8 (.int .u64)) l cs) : cs = secL (secOf l) := by
  obtain ⟨h0, css, h1, h2, rfl⟩ := h
  rw [← secOf_map h0]
  have : css = l.map fun b => [Value.int .u64 b] := by
    apply List.ext_getElem?
    intro i
    rw [List.getElem?_map]
    by_cases hi : i < l.length
    · have hc : css[i]? = some (css[i]'(by omega)) := List.getElem?_eq_getElem (by omega)
      have hx : l[i]? = some l[i] := List.getElem?_eq_getElem hi
      have := (h2 i _ _ hc hx).1
      rw [hc, hx, this]; rfl
    · rw [List.getElem?_eq_none (by omega), List.getElem?_eq_none (by omega)]; rfl
  rw [this]
  clear h2 this h1 h0
  induction l with
  | nil => rfl
  | cons x l ih => simpa using ih

theorem op_get {A : Nat → Prop} {w : World} {l : List tyOp.den} {t : Sl} (h : rep A w (.sl tyOp) l [slV t]) {k : Nat} {x : tyOp.den} (hx : l[k]? = some x) :
    t.n = l.length ∧ ∃ b o tk, t.p = some ⟨b, o, none⟩ ∧ A b ∧ w.cell? ⟨b, o + k * 11 + 0, none⟩ = some (.int .u8 x.1) ∧ w.cell? ⟨b, o + k * 11 + 1, none⟩ = some (.int .i64 x.2.1) ∧ CellsAt w b (o + k * 11 + 2) (secL (secOf x.2.2.1)) ∧
      w.cell? ⟨b, o + k * 11 + 10, none⟩ = some (slV tk) ∧ rep A w (.sl .bool) x.2.2.2 [slV tk] ∧ 0 ≤ x.1 := by
  obtain ⟨s, b, o, c, hs, hn, hp, hA, hc, c1, d1, rfl, ⟨rfl, hu⟩, c2, d2, rfl, ⟨rfl, hi⟩, c3, d3, rfl, h3, h4⟩ := rep_get h (by decide) hx
  have := slEq hs; subst this
  have e3 := rep_arr8 h3
  subst e3
  obtain ⟨tk, rfl, h5⟩ := h4
  have q0 : CellsAt w b (o + k * 11) ([Value.int .u8 x.1] ++ ([Value.int .i64 x.2.1] ++ (secL (secOf x.2.2.1) ++ [slV tk]))) := hc
  have q1 := q0.right
  have q2 := q1.right
  have q3 := q2.right
  refine ⟨hn, b, o, tk, hp, hA, q0 0 _ rfl, q1 0 _ rfl, q2.left, q3 0 _ rfl, ⟨tk, rfl, h5⟩, ?_⟩
  have := hu.1
  rw [show IntKind.min .u8 = 0 from by decide] at this
  exact this

section
variable {w : World} {b : Nat} {s : Sl} {r : Nat} {ls : List Sec} {f : List (Int × Sec)} {wr sy : Int}
/-- A write that a list's element says. -/
theorem stWriteAt (h : Dk w b s r ls f wr sy) {A : Nat → Prop} {l : List tyOp.den} {t : Sl} (hl : rep A w (.sl tyOp) l [slV t]) {k : Nat} {x : tyOp.den} (hx : l[k]? = some x) {K : World → Prop}
    (hK : ∀ w' f' wr', (∀ j, getM f' j = if x.2.1 = j ∧ 0 ≤ x.2.1 ∧ x.2.1 < (ls.length : Int) then some (secOf x.2.2.1) else getM f j) → Dk w' b s r ls f' wr' sy → Ch (inDk b s r) w w' → K w') :
    ∃ b1 b2 : Nat, t.p = some ⟨b1, b2, none⟩ ∧ ((0 : Int) ≤ (k : Int) ∧ (k : Int) < (t.n : Int)) ∧ ∃ n : Int, w.drew.cell? ⟨b1, b2 + (k : Int).toNat * 11 + 1, none⟩ = some (.int .i64 n) ∧
      ∃ b3 b4 : Nat, t.p = some ⟨b3, b4, none⟩ ∧ ((0 : Int) ≤ (k : Int) ∧ (k : Int) < (t.n : Int)) ∧ ∃ x : Sec, CellsAt w.drew b3 (b4 + (k : Int).toNat * 11 + 2) (secL x) ∧
        CX Try.prog 37 #[.pointer (some ⟨b, 0, none⟩), .int .i64 n, secV x] w.drew fun v w' => ∃ n : Int, v = .int .i64 n ∧ K w' := by
  obtain ⟨hn, a, o, tk, hp, _, q0, q1, q2, _⟩ := op_get hl hx
  have hk : k < l.length := (List.getElem?_eq_some_iff.1 hx).1
  have hb : (0 : Int) ≤ (k : Int) ∧ (k : Int) < (t.n : Int) := ⟨by omega, by omega⟩
  have ed := extDrew w
  refine ⟨a, o, hp, hb, x.2.1, by rw [Int.toNat_natCast]; exact cell_ch q1 ed id, a, o, hp, hb, secOf x.2.2.1, by rw [Int.toNat_natCast]; exact q2.ch ed id, stWrite (h.ext ed) _ _ fun w' f' wr' h1 h2 h3 => hK w' f' wr' h1 h2 ((ed.mono fun _ _ h => h.elim).trans h3)⟩
end
end Go.Proofs.Ytopecljhehcldaa.Gx
