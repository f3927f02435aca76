/- Package disk: Dirty, Lasting, Read, Write. -/
import Derived.Test.YtopecljhehcldaaDiskB
namespace Go.Proofs.Ytopecljhehcldaa.Gx
open Go
set_option linter.unusedSimpArgs false
set_option linter.unusedVariables false

theorem Mp.keys {β : Type} {enc : β → Value} {w : World} {r : Nat} {f : List (Int × β)} (h : Mp enc w r f) : ∃ es ck, w.heap[r]? = some (.map es ck) ∧ KeysE (some (r, es, ck)) (f.map (·.1)) := by
  obtain ⟨es, ck, h1, h2, h3, h4, h5⟩ := h
  refine ⟨es, ck, h1, ?_, h3, h4, h5⟩
  have := congrArg (List.map Prod.fst) h2
  rw [List.map_map, List.map_map] at this
  rw [List.map_map]; exact this

section
variable {w : World} {b : Nat} {s : Sl} {r : Nat} {ls : List Sec} {f : List (Int × Sec)} {wr sy : Int}
theorem Dk.few (h : Dk w b s r ls f wr sy) : (f.map (·.1)).length ≤ 4096 := by
  obtain ⟨_, _, _, _, h2, _⟩ := h.map
  have := nodup_len (b := (List.range ls.length).map fun (i : Nat) => (i : Int)) h2 fun k hk => by
    obtain ⟨p, hp, rfl⟩ := List.mem_map.1 hk
    have := h.rng p hp
    exact List.mem_map.2 ⟨p.1.toNat, List.mem_range.2 (by omega), by omega⟩
  simp only [List.length_map, List.length_range] at this
  rw [List.length_map]
  have := h.len
  omega

theorem c42 (h : Dk w b s r ls f wr sy) : CW Try.prog 42 #[.pointer (some ⟨b, 0, none⟩)] w fun v w' => ∃ t, ∃ xs : List Int, v = slV t ∧ xs.Perm (f.map (·.1)) ∧ xs.Pairwise (· ≤ ·) ∧ OwS w' t 1 (xs.map iv) ∧ Ext w w' ∧ ∀ j ∈ blk t, w.heap.size ≤ j := by
  obtain ⟨es, ck, h1, h2⟩ := h.map.keys
  have hf := h.few
  refine F42_ok _ w _ (IfB.no rfl ⟨b, 0, rfl, some r, h.c1, (c81 (some r) w).use ?_⟩)
  rintro _ w5 ⟨b1, T, rfl, h5⟩
  have e5 : Ext w w5 := h5.ch _
  have hz := h5.size
  refine ⟨(109, _), rfl, (c80 (p := some (r, es, ck)) (ks := f.map (·.1)) ⟨⟨T, h5.new⟩, e5.at h1⟩ h2 (by omega)).use ?_⟩
  rintro _ w8 ⟨t, xs, rfl, hp, hs, ho, e8, hb⟩
  exact ⟨t, rfl, t, xs, rfl, hp, hs, ho, e5.trans e8, fun j hj => by have := hb j hj; omega⟩

theorem flat_elem {l : List Sec} {i : Nat} {x : Sec} (h : l[i]? = some x) : ((l.flatMap secL).drop (i * 8)).take 8 = secL x := by
  induction l generalizing i with
  | nil => simp at h
  | cons y l ih =>
    cases i with
    | zero =>
      rw [List.getElem?_cons_zero] at h
      cases h
      rw [List.flatMap_cons, Nat.zero_mul, List.drop_zero, List.take_append_of_le_length (by simp [secL]), List.take_of_length_le (by simp [secL])]
    | succ i =>
      rw [List.getElem?_cons_succ] at h
      rw [List.flatMap_cons, show (i + 1) * 8 = (secL y).length + i * 8 by simp [secL]; omega, ← List.drop_drop, List.drop_left]
      exact ih h
theorem Dk.sec (h : Dk w b s r ls f wr sy) {i : Nat} {x : Sec} (hx : ls[i]? = some x) : ∃ a, s.p = some ⟨a, 0, none⟩ ∧ CellsAt w a (i * 8) (secL x) := by
  have hi := (List.getElem?_eq_some_iff.1 hx).1
  exact h.arr.elem (by rw [h.n]; exact hi) (flat_elem hx)
theorem secL_one (x : Sec) : One (secL x) := by
  intro v hv
  simp [secL] at hv
  rcases hv with rfl | rfl | rfl | rfl | rfl | rfl | rfl | rfl <;> rfl

theorem c44 (h : Dk w b s r ls f wr sy) (i : Int) : CW Try.prog 44 #[.pointer (some ⟨b, 0, none⟩), iv i] w fun v w' => v = secV (if 0 ≤ i then (ls[i.toNat]?).getD sec0 else sec0) ∧ Ext w w' := by
  refine F44_ok _ i w _ ?_
  intro b1 w2 h2
  have e2 : Ext w w2 := h2.ch _
  refine (c76 (h.ext e2) i).use ?_
  rintro _ _ ⟨rfl, rfl⟩
  refine ⟨_, rfl, IfB.intro (fun hn => ⟨rfl, store_all (vs := secL sec0) h2.new rfl (secL_one _) fun w6 h6 => ⟨sec0, cellsAt_of h6.new fun i v hv => by simpa [secL] using hv, ?_, Ext.fresh h2 h6⟩⟩) fun hn => ?_⟩
  · have hn : ¬ (0 ≤ i ∧ i < (ls.length : Int)) := by simpa only [Bool.not_eq_true', decide_eq_false_iff_not] using hn
    by_cases h0 : 0 ≤ i
    · rw [if_pos h0, List.getElem?_eq_none (by omega)]; rfl
    · rw [if_neg h0]; rfl
  · have hn : 0 ≤ i ∧ i < (ls.length : Int) := by simpa only [Bool.not_eq_false', decide_eq_true_eq] using hn
    have hi : i.toNat < ls.length := by omega
    have hx : ls[i.toNat]? = some ls[i.toNat] := List.getElem?_eq_getElem hi
    generalize ls[i.toNat] = x at hx
    obtain ⟨a, ha, hc⟩ := (h.ext e2).sec hx
    have hsn := h.n
    refine ⟨b, 0, rfl, s, (h.ext e2).c0, a, 0, ha, ⟨hn.1, by show i < (s.n : Int); omega⟩, x, by rw [Nat.zero_add]; exact hc, rfl, store_all (vs := secL x) h2.new rfl (secL_one _) fun w14 h14 => ⟨x, cellsAt_of h14.new fun i v hv => by simpa [secL] using hv, ?_, Ext.fresh h2 h14⟩⟩
    rw [if_pos hn.1, hx]; rfl
end
end Go.Proofs.Ytopecljhehcldaa.Gx
