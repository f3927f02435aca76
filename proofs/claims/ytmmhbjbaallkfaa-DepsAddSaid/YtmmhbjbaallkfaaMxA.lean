/- Tables of bools: slices of slices that are turned in place; reachability by Floyd and Warshall. -/
import Derived.Test.YtmmhbjbaallkfaaGxH
namespace Go.Proofs.Ytmmhbjbaallkfaa.Gx
open Go
set_option linter.unusedSimpArgs false
set_option linter.unusedVariables false

/-! ### Floyd and Warshall -/
section
variable {E : Nat → Nat → Prop}
/-- Ways whose inner nodes are below m. -/
def Fw (E : Nat → Nat → Prop) : Nat → Nat → Nat → Prop
  | 0, i, k => E i k
  | m + 1, i, k => Fw E m i k ∨ (Fw E m i m ∧ Fw E m m k)
theorem Fw_tc : ∀ {m i k : Nat}, Fw E m i k → TC E i k
  | 0, _, _, h => .one h
  | m + 1, _, _, .inl h => Fw_tc h
  | m + 1, _, _, .inr ⟨h1, h2⟩ => (Fw_tc h1).trans (Fw_tc h2)
theorem Fw_trans : ∀ {m i j k : Nat}, j < m → Fw E m i j → Fw E m j k → Fw E m i k
  | 0, _, _, _, h, _, _ => by omega
  | m + 1, i, j, k, h, h1, h2 => by
    by_cases hj : j = m
    · subst hj
      refine .inr ⟨?_, ?_⟩
      · rcases h1 with h | h
        · exact h
        · exact h.1
      · rcases h2 with h | h
        · exact h
        · exact h.2
    · have hj' : j < m := by omega
      rcases h1 with h1 | ⟨h1, h1'⟩
      · rcases h2 with h2 | ⟨h2, h2'⟩
        · exact .inl (Fw_trans hj' h1 h2)
        · exact .inr ⟨Fw_trans hj' h1 h2, h2'⟩
      · rcases h2 with h2 | ⟨h2, h2'⟩
        · exact .inr ⟨h1, Fw_trans hj' h1' h2⟩
        · exact .inr ⟨h1, h2'⟩
theorem Fw_zero {i k : Nat} (h : E i k) : ∀ m, Fw E m i k
  | 0 => h
  | m + 1 => .inl (Fw_zero h m)
theorem Fw_all {n i k : Nat} (hE : ∀ a b, E a b → b < n) (h : TC E i k) : Fw E n i k := by
  induction h with
  | one h => exact Fw_zero h n
  | more h1 h2 ih =>
    refine Fw_trans ?_ ih (Fw_zero h2 n)
    obtain ⟨c, hc, _⟩ := h1.last
    exact hE _ _ hc
theorem Fw_iff {n i k : Nat} (hE : ∀ a b, E a b → b < n) : Fw E n i k ↔ TC E i k := ⟨Fw_tc, Fw_all hE⟩
end

/-! ### Tables -/
theorem zc_all {z : Array Value} {v : Value} (h : ∀ x ∈ z.toList, x = v) (n : Nat) : zc z n = List.replicate (n * z.size) v := by
  refine List.eq_replicate_iff.2 ⟨zc_len z n, fun x hx => ?_⟩
  unfold zc Builtin.zeroCells at hx
  rw [Array.mem_toList_iff, Array.mem_map] at hx
  obtain ⟨i, hi, rfl⟩ := hx
  rw [Array.mem_range] at hi
  have h0 : 0 < z.size := by
    rcases Nat.eq_zero_or_pos z.size with h0 | h0
    · rw [h0, Nat.mul_zero] at hi; omega
    · exact h0
  have hm := Nat.mod_lt i h0
  rw [getElem!_pos z _ hm]
  exact h _ (by simp)
abbrev MxR := Sl × List Bool
abbrev bvs (l : List Bool) : List Value := l.map Value.bool
abbrev hM (x : MxR) : Value := slV x.1
structure Mx (w : World) (n : Nat) (t : Sl) (rows : List MxR) : Prop where
  own : OwS w t 1 (rows.map hM)
  row : ∀ r ∈ rows, OwS w r.1 1 (bvs r.2)
  apart : ∀ r ∈ rows, ∀ j ∈ blk r.1, j ∉ blk t
  dist : ∀ (a b : Nat) (r s : MxR), a ≠ b → rows[a]? = some r → rows[b]? = some s → ∀ j ∈ blk r.1, j ∉ blk s.1
  new : ∀ j ∈ blk t, n ≤ j
  rnew : ∀ r ∈ rows, ∀ j ∈ blk r.1, n ≤ j
theorem Mx.ext {w w' : World} {n : Nat} {t : Sl} {rows : List MxR} (h : Mx w n t rows) (e : Ext w w') : Mx w' n t rows := ⟨h.own.ext e, fun r hr => (h.row r hr).ext e, h.apart, h.dist, h.new, h.rnew⟩
theorem Mx.n {w : World} {m : Nat} {t : Sl} {rows : List MxR} (h : Mx w m t rows) : t.n = rows.length := by rw [h.own.len1, List.length_map]
theorem Mx.slot {w : World} {m : Nat} {t : Sl} {rows : List MxR} (h : Mx w m t rows) {i : Nat} {r : MxR} (hr : rows[i]? = some r) : ∃ b, t.p = some ⟨b, 0, none⟩ ∧ w.cell? ⟨b, i, none⟩ = some (slV r.1) :=
  h.own.elem1 (i := i) (v := hM r) (by rw [List.getElem?_map, hr]; rfl)
theorem Mx.rn {w : World} {m : Nat} {t : Sl} {rows : List MxR} (h : Mx w m t rows) {r : MxR} (hr : r ∈ rows) : r.1.n = r.2.length := by rw [(h.row r hr).len1, List.length_map]
theorem Mx.cell {w : World} {m : Nat} {t : Sl} {rows : List MxR} (h : Mx w m t rows) {r : MxR} (hr : r ∈ rows) {k : Nat} {v : Bool} (hv : r.2[k]? = some v) : ∃ b, r.1.p = some ⟨b, 0, none⟩ ∧ w.cell? ⟨b, k, none⟩ = some (.bool v) :=
  (h.row r hr).elem1 (i := k) (v := .bool v) (by rw [List.getElem?_map, hv]; rfl)
theorem mem_set {α : Type} {l : List α} {i : Nat} {x y : α} (h : y ∈ l.set i x) : y = x ∨ ∃ k, k ≠ i ∧ l[k]? = some y := by
  obtain ⟨k, hk, e⟩ := List.getElem_of_mem h
  rw [List.getElem_set] at e
  rw [List.length_set] at hk
  by_cases hki : i = k
  · rw [if_pos hki] at e; exact .inl e.symm
  · rw [if_neg hki] at e
    exact .inr ⟨k, fun e => hki e.symm, by rw [List.getElem?_eq_getElem hk, e]⟩
/-- A row turns. -/
theorem Mx.put {w : World} {m : Nat} {t : Sl} {rows : List MxR} (h : Mx w m t rows) {i k b : Nat} {r : MxR} (hr : rows[i]? = some r) (hk : k < r.2.length) (hp : r.1.p = some ⟨b, 0, none⟩) {v : Bool} {K : World → Prop}
    (hK : ∀ w', Mx w' m t (rows.set i (r.1, r.2.set k v)) → Ch (fun j => j = b) w w' → K w') : StoreP w b (0 + k) [.bool v] K := by
  have hm := List.mem_of_getElem? hr
  have hn := h.rn hm
  have hb : ∀ j, j = b → j ∈ blk r.1 := fun j e => by simp [blk, hp, e]
  rw [Nat.zero_add]
  refine (h.row r hm).store (vs := [.bool v]) hp (by simp; omega) (by intro v hv; rw [List.mem_singleton.1 hv]; rfl) fun w' ho hC => hK w' ?_ hC
  have e1 : (bvs r.2).take k ++ [.bool v] ++ (bvs r.2).drop (k + 1) = bvs (r.2.set k v) := by
    rw [List.set_eq_take_append_cons_drop, if_pos hk]
    simp [bvs, List.map_take, List.map_drop]
  have hset : (rows.set i (r.1, r.2.set k v)).map hM = rows.map hM := by
    apply List.ext_getElem?
    intro j
    rw [List.getElem?_map, List.getElem?_map, List.getElem?_set]
    by_cases hij : i = j
    · subst hij
      have := (List.getElem?_eq_some_iff.1 hr).1
      rw [if_pos rfl, if_pos this, hr]; rfl
    · rw [if_neg hij]
  have get : ∀ (a : Nat) (s : MxR), (rows.set i (r.1, r.2.set k v))[a]? = some s → ∃ s', rows[a]? = some s' ∧ s'.1 = s.1 := fun a s hs => by
    rw [List.getElem?_set] at hs
    by_cases hia : i = a
    · subst hia
      rw [if_pos rfl, if_pos (List.getElem?_eq_some_iff.1 hr).1] at hs
      cases hs
      exact ⟨r, hr, rfl⟩
    · rw [if_neg hia] at hs; exact ⟨s, hs, rfl⟩
  have gm : ∀ s ∈ rows.set i (r.1, r.2.set k v), ∃ s' ∈ rows, s'.1 = s.1 := fun s hs => by
    obtain ⟨a, ha, e⟩ := List.getElem_of_mem hs
    obtain ⟨s', h1, h2⟩ := get a s (by rw [List.getElem?_eq_getElem ha, e])
    exact ⟨s', List.mem_of_getElem? h1, h2⟩
  refine ⟨?_, fun s hs => ?_, fun s hs j hj => ?_, fun a c s u hac hs hu j hj => ?_, h.new, fun s hs j hj => ?_⟩
  · rw [hset]
    exact h.own.ch hC fun j hj e => h.apart r hm j (hb j e) hj
  · rcases mem_set hs with rfl | ⟨a, hai, ha⟩
    · rw [show [Value.bool v].length = 1 from rfl, e1] at ho; exact ho
    · exact (h.row s (List.mem_of_getElem? ha)).ch hC fun j hj e => h.dist a i s r hai ha hr j hj (hb j e)
  · obtain ⟨s', h1, h2⟩ := gm s hs
    exact h.apart s' h1 j (by rw [h2]; exact hj)
  · obtain ⟨s', h1, h2⟩ := get a s hs
    obtain ⟨u', h3, h4⟩ := get c u hu
    rw [← h4]
    exact h.dist a c s' u' hac h1 h3 j (by rw [h2]; exact hj)
  · obtain ⟨s', h1, h2⟩ := gm s hs
    exact h.rnew s' h1 j (by rw [h2]; exact hj)
/-- A new row is put into a slot. -/
theorem Mx.row' {w : World} {m : Nat} {t s : Sl} {rows : List MxR} {l : List Bool} (h : Mx w m t rows) {i b : Nat} (hi : i < rows.length) (hs : OwS w s 1 (bvs l)) (hn : ∀ j ∈ blk s, m ≤ j) (hap : ∀ j ∈ blk s, j ∉ blk t) (hd : ∀ r ∈ rows, ∀ j ∈ blk s, j ∉ blk r.1) (hp : t.p = some ⟨b, 0, none⟩) {K : World → Prop}
    (hK : ∀ w', Mx w' m t (rows.set i (s, l)) → Ch (fun j => j = b) w w' → K w') : StoreP w b (0 + i) [slV s] K := by
  have htn := h.n
  have hb : ∀ j, j = b → j ∈ blk t := fun j e => by simp [blk, hp, e]
  rw [Nat.zero_add]
  refine h.own.store (vs := [slV s]) hp (by simp; omega) (by intro v hv; rw [List.mem_singleton.1 hv]; rfl) fun w' ho hC => hK w' ?_ hC
  have e1 : (rows.map hM).take i ++ [slV s] ++ (rows.map hM).drop (i + 1) = (rows.set i (s, l)).map hM := by
    rw [List.set_eq_take_append_cons_drop, if_pos hi]
    simp [List.map_take, List.map_drop]
  rw [show [slV s].length = 1 from rfl, e1] at ho
  have get : ∀ (a : Nat) (r : MxR), (rows.set i (s, l))[a]? = some r → (a = i ∧ r = (s, l)) ∨ (a ≠ i ∧ rows[a]? = some r) := fun a r hr => by
    rw [List.getElem?_set] at hr
    by_cases hia : i = a
    · subst hia
      rw [if_pos rfl, if_pos hi] at hr
      cases hr; exact .inl ⟨rfl, rfl⟩
    · rw [if_neg hia] at hr; exact .inr ⟨Ne.symm hia, hr⟩
  refine ⟨ho, fun r hr => ?_, fun r hr j hj => ?_, fun a c r u hac hr hu j hj hj' => ?_, h.new, fun r hr j hj => ?_⟩
  · rcases mem_set hr with rfl | ⟨a, hai, ha⟩
    · exact hs.ch hC fun j hj e => hap j hj (hb j e)
    · exact (h.row r (List.mem_of_getElem? ha)).ch hC fun j hj e => h.apart r (List.mem_of_getElem? ha) j hj (hb j e)
  · rcases mem_set hr with rfl | ⟨a, hai, ha⟩
    · exact hap j hj
    · exact h.apart r (List.mem_of_getElem? ha) j hj
  · rcases get a r hr with ⟨rfl, rfl⟩ | ⟨h1, h2⟩
    · rcases get c u hu with ⟨rfl, _⟩ | ⟨h3, h4⟩
      · exact hac rfl
      · exact hd u (List.mem_of_getElem? h4) j hj hj'
    · rcases get c u hu with ⟨rfl, rfl⟩ | ⟨h3, h4⟩
      · exact hd r (List.mem_of_getElem? h2) j hj' hj
      · exact h.dist a c r u hac h2 h4 j hj hj'
  · rcases mem_set hr with rfl | ⟨a, hai, ha⟩
    · exact hn j hj
    · exact h.rnew r (List.mem_of_getElem? ha) j hj

/-- The place (i, k). -/
def gM (rows : List MxR) (i k : Nat) : Bool := match rows[i]? with
  | some r => r.2.getD k false
  | none => false
theorem gM_get {rows : List MxR} {i k : Nat} {r : MxR} (hr : rows[i]? = some r) (hk : k < r.2.length) : r.2[k]? = some (gM rows i k) := by
  unfold gM; rw [hr]
  dsimp only
  rw [List.getD_eq_getElem?_getD, List.getElem?_eq_getElem hk]; rfl
theorem gM_set {rows : List MxR} {i k : Nat} {r : MxR} (hr : rows[i]? = some r) (hk : k < r.2.length) (v : Bool) (a b : Nat) : gM (rows.set i (r.1, r.2.set k v)) a b = if a = i ∧ b = k then v else gM rows a b := by
  unfold gM
  rw [List.getElem?_set]
  by_cases hia : i = a
  · subst hia
    rw [if_pos rfl, if_pos (List.getElem?_eq_some_iff.1 hr).1, hr]
    dsimp only
    rw [List.getD_eq_getElem?_getD, List.getElem?_set, List.getD_eq_getElem?_getD]
    by_cases hkb : k = b
    · subst hkb; simp [hk]
    · rw [if_neg hkb, if_neg (fun h => hkb h.2.symm)]
  · rw [if_neg hia, if_neg (fun h => hia h.1.symm)]
theorem gM_row {rows : List MxR} {i : Nat} (hi : i < rows.length) (s : Sl) (n a b : Nat) : gM (rows.set i (s, List.replicate n false)) a b = if a = i then false else gM rows a b := by
  unfold gM
  rw [List.getElem?_set]
  by_cases hia : i = a
  · subst hia
    rw [if_pos rfl, if_pos hi, if_pos rfl]
    dsimp only
    rw [List.getD_eq_getElem?_getD, List.getElem?_replicate]
    split <;> rfl
  · rw [if_neg hia, if_neg (Ne.symm hia)]
end Go.Proofs.Ytmmhbjbaallkfaa.Gx
