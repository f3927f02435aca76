/- Package disk: Write, New. -/
import Derived.Test.YtopecljhehcldaaDiskD
namespace Go.Proofs.Ytopecljhehcldaa.Gx
open Go
set_option linter.unusedSimpArgs false
set_option linter.unusedVariables false
section
variable {w : World} {b : Nat} {s : Sl} {r : Nat} {ls : List Sec} {f : List (Int × Sec)} {wr sy : Int}

theorem Dk.keep (h : Dk w b s r ls f wr sy) {w' : World} {f' : List (Int × Sec)} {wr' sy' : Int} (hb : ∃ T, w'.heap[b]? = some (.cells #[slV s, .map (some r), iv wr', iv sy'] T (0, 0))) (hm : Mp secV w' r f') (hk : ∀ p ∈ f', 0 ≤ p.1 ∧ p.1 < (ls.length : Int)) (hs : ∀ i ∈ blk s, w'.heap[i]? = w.heap[i]?) : Dk w' b s r ls f' wr' sy' :=
  ⟨hb, h.arr.keep hs, h.len, hm, h.self, hk⟩

theorem c37 (h : Dk w b s r ls f wr sy) (i : Int) (x : Sec) : CW Try.prog 37 #[.pointer (some ⟨b, 0, none⟩), iv i, secV x] w fun v w' =>
    if 0 ≤ i ∧ i < (ls.length : Int) then v = iv 0 ∧ (∃ f', (∀ k, getM f' k = if i = k then some x else getM f k) ∧ Dk w' b s r ls f' (IntKind.i64.wrap (wr + 1)) sy) ∧ Ch (fun j => j = b ∨ j = r) w w'
    else v = iv 3 ∧ Ext w w' := by
  refine F37_ok _ i x w _ ?_
  intro b1 w2 h2
  have e2 : Ext w w2 := h2.ch _
  have H2 := h.ext e2
  refine (c76 H2 i).use ?_
  rintro _ _ ⟨rfl, rfl⟩
  refine ⟨_, rfl, IfB.intro (fun hn => ?_) fun hn => ?_⟩
  · have hn : ¬ (0 ≤ i ∧ i < (ls.length : Int)) := by simpa only [Bool.not_eq_true', decide_eq_false_iff_not] using hn
    show if _ then _ else _
    rw [if_neg hn]; exact ⟨rfl, e2⟩
  · have hn : 0 ≤ i ∧ i < (ls.length : Int) := by simpa only [Bool.not_eq_false', decide_eq_true_eq] using hn
    have hR : ∀ {v : Value} {w' : World}, (v = iv 0 ∧ (∃ f', (∀ k, getM f' k = if i = k then some x else getM f k) ∧ Dk w' b s r ls f' (IntKind.i64.wrap (wr + 1)) sy) ∧ Ch (fun j => j = b ∨ j = r) w w') → (if 0 ≤ i ∧ i < (ls.length : Int) then v = iv 0 ∧ (∃ f', (∀ k, getM f' k = if i = k then some x else getM f k) ∧ Dk w' b s r ls f' (IntKind.i64.wrap (wr + 1)) sy) ∧ Ch (fun j => j = b ∨ j = r) w w' else v = iv 3 ∧ Ext w w') := fun h => by rw [if_pos hn]; exact h
    have ed := extDrew w2
    have H3 := H2.ext ed
    obtain ⟨hrb, hrs⟩ := h.rb
    refine ⟨b, 0, rfl, some r, H3.c1, x, sec_at (ed.at h2.new), H3.map.set (enc := secV) (v := x) fun f' w10 hf hm hc => ?_⟩
    obtain ⟨T, hT⟩ := H3.box
    have hT10 := hc.at hT (Ne.symm hrb)
    refine ⟨b, 0, rfl, wr, by rw [cell_of hT10]; rfl, b, 0, rfl, (by trivial), store_one hT10 (by simp) rfl fun w16 h16 => ?_⟩
    have hC : Ch (fun j => j = b ∨ j = r) w w16 := (((e2.trans ed).mono fun _ _ h => h.elim).then hc fun j _ e => .inr e).then h16.ch fun j _ e => .inl e
    refine hR ⟨rfl, ⟨f', hf, H3.keep ⟨T, h16.new⟩ ((hm.ch h16.ch hrb)) (fun p hp => ?_) (fun j hj => ?_)⟩, hC⟩
    · have hk : getM f' p.1 ≠ none := getM_key.1 (List.mem_map_of_mem hp)
      rw [hf] at hk
      by_cases he : i = p.1
      · rw [← he]; exact hn
      · rw [if_neg he] at hk
        obtain ⟨q, hq, hqe⟩ := List.mem_map.1 (getM_key.2 hk)
        rw [← hqe]; exact h.rng q hq
    · have h1 : j ≠ b := fun e => h.self (e ▸ hj)
      have h2' : j ≠ r := fun e => hrs (e ▸ hj)
      rw [h16.old j h1]
      exact hc.old j (H3.arr.lt j hj) h2'
end
end Go.Proofs.Ytopecljhehcldaa.Gx
