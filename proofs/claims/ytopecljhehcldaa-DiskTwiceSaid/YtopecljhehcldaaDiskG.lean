/- Package disk: last. -/
import Derived.Test.YtopecljhehcldaaDiskF
namespace Go.Proofs.Ytopecljhehcldaa.Gx
open Go
set_option linter.unusedSimpArgs false
set_option linter.unusedVariables false

/-- What lasts behind the first j of those that are dirty. -/
def lsAt (f : List (Int × Sec)) (ans : Nat → Bool) (xs : List Int) (ls : List Sec) : Nat → List Sec
  | 0 => ls
  | j + 1 => if ans j then (lsAt f ans xs ls j).set (g xs j).toNat ((getM f (g xs j)).getD sec0) else lsAt f ans xs ls j
theorem lsAt_len (f : List (Int × Sec)) (ans : Nat → Bool) (xs : List Int) (ls : List Sec) : ∀ j, (lsAt f ans xs ls j).length = ls.length
  | 0 => rfl
  | j + 1 => by
    unfold lsAt
    split
    · rw [List.length_set, lsAt_len]
    · exact lsAt_len f ans xs ls j
theorem flat_set {l : List Sec} {i : Nat} {x : Sec} (h : i < l.length) : ((l.set i x).flatMap secL) = (l.flatMap secL).take (i * 8) ++ secL x ++ (l.flatMap secL).drop (i * 8 + 8) := by
  induction l generalizing i with
  | nil => cases h
  | cons y l ih =>
    cases i with
    | zero =>
      rw [List.set_cons_zero, List.flatMap_cons, List.flatMap_cons, Nat.zero_mul, List.take_zero, List.nil_append, Nat.zero_add, show (8 : Nat) = (secL y).length from rfl, List.drop_left]
    | succ i =>
      rw [List.set_cons_succ, List.flatMap_cons, List.flatMap_cons, ih (by simpa using h), show (i + 1) * 8 = (secL y).length + i * 8 by simp [secL]; omega, List.take_length_add_append, Nat.add_assoc, List.drop_length_add_append]
      simp only [List.append_assoc]

theorem c77 {w : World} {b : Nat} {s : Sl} {r : Nat} {ls : List Sec} {f : List (Int × Sec)} {wr sy : Int} {gk : Nat} {cap : Array Value} {ans : Nat → Bool} {FK : Nat → Prop} {S : Nat → World → Prop} (h : Dk w b s r ls f wr sy) (hS0 : S 0 w)
    (hst : ∀ j W W', S j W → Ch (inDk b s r) W W' → S j W') (hdis : ∀ i, inDk b s r i → ¬ FK i) (hFK : ∀ i, FK i → i < w.heap.size)
    (hk : ∀ j i W, j < 4096 → S j W → CW Try.prog gk { toList := iv i :: cap.toList } W fun v W' => v = .bool (ans j) ∧ S (j + 1) W' ∧ Ch FK W W') :
    CW Try.prog 77 #[.pointer (some ⟨b, 0, none⟩), .func (.func gk) #[] cap] w fun v w' => v = .tuple #[] ∧ ∃ xs : List Int, xs.Perm (f.map (·.1)) ∧ xs.Pairwise (· ≤ ·) ∧ Dk w' b s r (lsAt f ans xs ls xs.length) [] wr sy ∧ S xs.length w' ∧ Ch (fun i => inDk b s r i ∨ FK i) w w' := by
  refine F77_ok _ (gk, cap) w _ ((c42 h).use ?_)
  rintro _ w2 ⟨t, xs, rfl, hp, hs, ho, e2, hb⟩
  have hxl : xs.length ≤ 4096 := by rw [hp.length_eq]; exact h.few
  have htn : t.n = xs.length := by have := ho.len1; rw [List.length_map] at this; exact this
  obtain ⟨hrb, hrs⟩ := h.rb
  refine ⟨t, rfl, fun n x W => ∃ j, n = xs.length - j ∧ x = (j : Int) ∧ j ≤ xs.length ∧ Dk W b s r (lsAt f ans xs ls j) f wr sy ∧ OwS W t 1 (xs.map iv) ∧ S j W ∧ Ch (fun i => inDk b s r i ∨ FK i) w W, ⟨_, 0, rfl, rfl, Nat.zero_le _, h.ext e2, ho, hst _ _ _ hS0 (e2.mono fun _ _ h => h.elim), e2.mono fun _ _ h => h.elim⟩, ?_⟩
  rintro _ _ W _ ⟨j, rfl, rfl, hj, hD, hoW, hSj, hC⟩
  have hDl := hD.n
  rw [lsAt_len] at hDl
  unfold F77j1
  refine IfB.dec (fun hlt => ?_) (fun hge => ?_)
  · have hj' : j < xs.length := by omega
    have hv : (xs.map iv)[j]? = some (iv (g xs j)) := by rw [List.getElem?_map, g_eq hj']; rfl
    obtain ⟨a, ha, hc⟩ := hoW.elem1 hv
    refine ⟨a, 0, ha, (⟨by omega, by omega⟩ : (0 : Int) ≤ (j : Int) ∧ (j : Int) < (t.n : Int)), g xs j, by rw [Int.toNat_natCast, Nat.zero_add]; exact hc, (hk j _ W (by omega) hSj).use ?_⟩
    rintro _ W2 ⟨rfl, hS2, hC2⟩
    have hD2 := hD.ch hC2 hdis
    have fresh : ∀ i ∈ blk t, ¬ (inDk b s r i ∨ FK i) := fun i hi h' => by
      have := hb i hi
      rcases h' with h' | h'
      · have := h.lt h'; omega
      · have := hFK i h'; omega
    have ho2 := hoW.ch hC2 fun i hi h' => fresh i hi (.inr h')
    have hCC : Ch (fun i => inDk b s r i ∨ FK i) w W2 := hC.then hC2 fun i _ h => .inr h
    refine ⟨ans j, rfl, IfB.intro (fun ht => ?_) (fun ht => ⟨rfl, _, by omega, j + 1, rfl, wp1 (by omega), by omega, by unfold lsAt; rw [ht]; exact hD2, ho2, hS2, hCC⟩)⟩
    have ed := extDrew W2
    have hD3 := hD2.ext ed
    have hkm : g xs j ∈ f.map (·.1) := hp.mem_iff.1 (List.mem_of_getElem? (g_eq hj'))
    obtain ⟨q, hq, hqe⟩ := List.mem_map.1 hkm
    have hrg := h.rng q hq
    rw [hqe] at hrg
    refine ⟨b, 0, rfl, s, hD3.c0, b, 0, rfl, some r, hD3.c1, hD3.map.get ?_⟩
    cases hg : getM f (g xs j) with
    | none => exact absurd hg (getM_key.1 hkm)
    | some v =>
      obtain ⟨a2, ha2⟩ := hD3.arr.ptr (by rw [hD3.n, lsAt_len]; have := h.len; omega)
      refine ⟨v, rfl, hD3.c0, a2, 0, ha2, ⟨hrg.1, by show g xs j < (s.n : Int); omega⟩, rfl, ?_⟩
      rw [Nat.zero_add]
      have hin : (g xs j).toNat < (lsAt f ans xs ls j).length := by rw [lsAt_len]; omega
      have hbk : blk s = [a2] := by simp [blk, ha2]
      have hsn3 := hD3.n
      refine hD3.arr.store ha2 (o := (g xs j).toNat * 8) (vs := secL v) (by show _ + 8 ≤ _; omega) (secL_one v) fun w' ho' hc' => ?_
      have e8 : (secL v).length = 8 := rfl
      rw [e8, ← flat_set hin] at ho'
      have hna : ∀ i, i = b ∨ i = r → ¬ i = a2 := fun i hi e => by
        subst e
        rcases hi with e | e
        · exact h.self (by rw [hbk, e]; simp)
        · exact hrs (by rw [hbk, e]; simp)
      obtain ⟨T, hT⟩ := hD3.box
      have hD4 : Dk w' b s r (lsAt f ans xs ls (j + 1)) f wr sy := by
        refine ⟨⟨T, hc'.at hT (hna _ (.inl rfl))⟩, ?_, by rw [lsAt_len]; exact h.len, hD3.map.ch hc' (hna _ (.inr rfl)), h.self, by rw [lsAt_len]; exact h.rng⟩
        unfold lsAt
        rw [ht, if_pos rfl, hg]
        exact ho'
      have hin2 : ∀ i, i = a2 → inDk b s r i := fun i e => .inr (.inr (by rw [hbk, e]; simp))
      refine ⟨rfl, _, by omega, j + 1, rfl, wp1 (by omega), by omega, hD4, (ho2.ext ed).ch hc' fun i hi e => fresh i hi (.inl (hin2 i e)), hst _ _ _ hS2 ((ed.mono fun _ _ h => h.elim).then hc' fun i _ e => hin2 i e), (hCC.then ed fun _ _ h => h.elim).then hc' fun i _ e => .inl (hin2 i e)⟩
  · have hj2 : j = xs.length := by omega
    subst hj2
    refine ⟨b, 0, rfl, some r, hD.c1, hD.map.clear fun w' hm hc => ⟨rfl, xs, hp, hs, ?_, hst _ _ _ hSj (hc.mono fun i _ e => .inr (.inl e)), hC.then hc fun i _ e => .inl (.inr (.inl e))⟩⟩
    obtain ⟨T, hT⟩ := hD.box
    exact hD.keep ⟨T, hc.at hT (Ne.symm hrb)⟩ hm (by simp) fun i hi => hc.old i (hD.arr.lt i hi) fun e => hrs (e ▸ hi)
end Go.Proofs.Ytopecljhehcldaa.Gx
