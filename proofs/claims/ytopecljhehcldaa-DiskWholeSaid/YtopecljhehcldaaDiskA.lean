/- Package disk: the keys of a map, sorted. -/
import Derived.Test.YtopecljhehcldaaGxK
import Derived.Test.YtopecljhehcldaaSrtI
import Derived.Test.YtopecljhehcldaaGxFE
namespace Go.Proofs.Ytopecljhehcldaa.Gx
open Go
set_option linter.unusedSimpArgs false
set_option linter.unusedVariables false

theorem F109_eq (l b : Nat) (W : World) (R : Value → World → Prop) : F109 l b W R = KeysF Try.prog l b W R := rfl
theorem itK (b1 : Nat) {p : MO} {ks : List Int} (hks : KeysE p ks) : Iter Try.prog 109 #[.pointer (some ⟨b1, 0, none⟩)] ivA false (fun pre x => x ∈ ks ∧ x ∉ pre) (fun xs => xs.Perm ks) (KeysI b1 p) :=
  keys_iter en109 (fun l W R h => F109_ok l b1 W R (by rw [F109_eq]; exact h)) hks
theorem ivA_size (x : Int) : (ivA x).size = 1 := rfl
theorem iv_one (x : Int) : One [iv x] := by intro v hv; rw [List.mem_singleton.1 hv]; rfl

theorem KeysI.stb {n b1 : Nat} {p : MO} {W W' : World} (h : KeysI b1 p W) (hS : Stb n W W') : KeysI b1 p W' := by
  obtain ⟨⟨T, hT⟩, h⟩ := h
  refine ⟨⟨T, hS.keep _ _ hT rfl⟩, ?_⟩
  match p, h with
  | none, _ => trivial
  | some (r, es, ck), h => exact hS.keep _ _ h rfl
theorem KeysI.ch {F : Nat → Prop} {b1 : Nat} {p : MO} {W W' : World} (h : KeysI b1 p W) (hc : Ch F W W') (h1 : ¬ F b1) (h2 : ∀ r es ck, p = some (r, es, ck) → ¬ F r) : KeysI b1 p W' := by
  obtain ⟨⟨T, hT⟩, h⟩ := h
  refine ⟨⟨T, hc.at hT h1⟩, ?_⟩
  match p, h, h2 with
  | none, _, _ => trivial
  | some (r, es, ck), h, h2 => exact hc.at h (h2 _ _ _ rfl)

theorem c119 {w : World} {b1 : Nat} {p : MO} {ks : List Int} (hI : KeysI b1 p w) (hks : KeysE p ks) (hl : ks.length ≤ 1000000) :
    CW Try.prog 119 #[.slice none 0 0, .func (.func 109) #[] #[.pointer (some ⟨b1, 0, none⟩)]] w fun v w' => ∃ t, ∃ xs : List Int, v = slV t ∧ xs.Perm ks ∧ OwS w' t 1 (xs.map iv) ∧ Ext w w' ∧ ∀ j ∈ blk t, w.heap.size ≤ j := by
  have hb1 : b1 < w.heap.size := by obtain ⟨⟨T, hT⟩, _⟩ := hI; exact heap_lt hT
  have hr1 : ∀ r es ck, p = some (r, es, ck) → r < w.heap.size := fun r es ck e => by subst e; exact heap_lt hI.2
  refine F119_ok ⟨none, 0, 0⟩ (109, #[.pointer (some ⟨b1, 0, none⟩)]) w _ ?_
  intro b2 w2 h2 g
  have e2 : Ext w w2 := h2.ch _
  have hs2 := h2.size
  have hh2 := h2.here
  let G : List Int → World → Prop := fun pre W => (pre.Nodup ∧ ∀ x ∈ pre, x ∈ ks) ∧ KeysI b1 p W ∧ ∃ t : Sl, (∃ T, W.heap[b2]? = some (.cells #[slV t] T (0, 0))) ∧ OwS W t 1 (pre.map iv) ∧ (∀ j ∈ blk t, w2.heap.size + 2 ≤ j) ∧ Ch (fun i => w.heap.size ≤ i) w W
  refine range_none tbOk mixed (gf := 109) (lb := #[.pointer (some ⟨b1, 0, none⟩)]) rfl (itK b1 hks) R119_0ok1 R119_0ok2 R119_0okp ivA_size G (fun _ _ _ => False) ?_ (fun _ _ _ _ h => h.elim) ?_ (fun h => by cases h) ?_ ?_ ?_ (fun _ _ _ h => h.elim)
  · rintro pre W W' ⟨h1, h3, t, ⟨T, h4⟩, h5, h6, h7⟩ hS
    exact ⟨h1, h3.stb hS, t, ⟨T, hS.keep _ _ h4 rfl⟩, h5.stb hS, h6, h7.then (.ofStb hS) fun i _ hi => by omega⟩
  · rintro pre W ⟨_, h3, _⟩; exact h3
  · exact ⟨⟨.nil, by simp⟩, hI.ch (h2.ch (fun _ => False)) id fun _ _ _ _ => id, ⟨none, 0, 0⟩, ⟨_, h2.new⟩, .nil _ _, by simp [blk], e2.mono fun _ _ h => h.elim⟩
  · rintro pre x W ⟨⟨hnd, hsub⟩, hJ, t, ⟨T, hb⟩, ho, hbl, hC⟩ ⟨hxk, hxp⟩ hW
    refine F119b0_ok b2 ⟨none, 0, 0⟩ (109, #[.pointer (some ⟨b1, 0, none⟩)]) x _ _ _ _ _ W ?_
    refine ⟨rfl, ⟨rfl, rfl⟩, fun w12 hS hI0 hL => ?_⟩
    have H := hS.keep _ _ hb rfl
    have ho12 := ho.stb hS
    have hJ12 := hJ.stb hS
    have hC12 : Ch (fun i => w.heap.size ≤ i) w w12 := hC.then (.ofStb hS) fun i _ hi => by omega
    have hs12 := hS.size
    refine ⟨t, by rw [cell_of H]; rfl, by decide, fun b20 w21 h21 => ?_⟩
    refine ⟨[iv x], ⟨rfl, cellsAt_of h21.new fun i v hv => by simpa using hv⟩, ?_⟩
    have e21 : Ext w12 w21 := h21.ch _
    have htn : t.n = pre.length := by have := ho.len1; rw [List.length_map] at this; exact this
    have hpl := nodup_len hnd hsub
    have hpl2 : (pre ++ [x]).length ≤ ks.length := nodup_len (by rw [List.nodup_append]; exact ⟨hnd, by simp, fun a ha b hb => by rw [List.mem_singleton.1 hb]; exact fun e => hxp (e ▸ ha)⟩) fun a ha => by
      rcases List.mem_append.1 ha with h | h
      · exact hsub a h
      · rw [List.mem_singleton.1 h]; exact hxk
    refine (ho12.ext e21).append (cnt := 1) rfl rfl rfl (iv_one x) ⟨by omega, by dsimp only; omega⟩ ?_
    intro s' w24 ho' hn' hc' hb' _
    have hne : ∀ i, i < w2.heap.size → ¬ i ∈ blk t := fun i hi h => by have := hbl i h; omega
    have H24 := hc'.at (e21.at H) (hne _ (by omega))
    refine ⟨rfl, store_one H24 (by simp) rfl fun w25 h25 => ?_⟩
    have hc25 : Ch (fun i => i = b2 ∨ i ∈ blk t) w12 w25 := (((e21.mono fun _ _ h => h.elim).then hc' fun i _ h => .inr h).then h25.ch fun i _ h => .inl h)
    have hb2' : ∀ j ∈ blk s', w2.heap.size + 2 ≤ j := fun j hj => by
      rcases hb' j hj with h | h
      · exact hbl j h
      · have := e21.size; omega
    have far : ∀ i, i < w2.heap.size + 2 → i ≠ b2 → ¬ (i = b2 ∨ i ∈ blk t) := fun i hi hne' h => h.elim hne' fun h => by have := hbl i h; omega
    refine ⟨⟨hc25.old _ (by omega) (far _ (by omega) (by omega)), hc25.old _ (by omega) (far _ (by omega) (by omega))⟩, ⟨⟨?_, ?_⟩, hJ12.ch hc25 (far _ (by omega) (by omega)) (fun r es ck e => by have := hr1 r es ck e; exact far _ (by omega) (by omega)), s', ⟨_, h25.new⟩, ?_, hb2', ?_⟩, hI0.trans (Its.ch hc25 fun i hi => hi.elim (fun e => e ▸ notIt H) (fun h => ho12.blkIt h))⟩
    · rw [List.nodup_append]; exact ⟨hnd, by simp, fun a ha b hb => by rw [List.mem_singleton.1 hb]; exact fun e => hxp (e ▸ ha)⟩
    · intro a ha
      rcases List.mem_append.1 ha with h | h
      · exact hsub a h
      · rw [List.mem_singleton.1 h]; exact hxk
    · have := ho'.ch h25.ch fun j hj e => by have := hb2' j hj; omega
      rw [List.map_append]; exact this
    · exact hC12.then hc25 fun i hi h => by
        rcases h with h | h
        · omega
        · have := hbl _ h; omega
  · rintro xs W hxs ⟨_, hJ, t, ⟨T, hb⟩, ho, hbl, hC⟩ hD
    refine ⟨t, by rw [cell_of hb]; rfl, marks_one hD fun w' hu => ⟨t, xs, rfl, hxs, ?_, ?_, fun j hj => by have := hbl j hj; omega⟩⟩
    · refine ho.ch hu.ch fun j hj e => ?_
      have := hbl j hj; omega
    · exact ⟨hC.rest.trans hu.rest, by rw [hu.size]; exact hC.size, fun i hi _ => by rw [hu.old i (by omega)]; exact hC.old i hi (by omega)⟩

theorem c107 {w : World} {b1 : Nat} {p : MO} {ks : List Int} (hI : KeysI b1 p w) (hks : KeysE p ks) (hl : ks.length ≤ 1000000) :
    CW Try.prog 107 #[.func (.func 109) #[] #[.pointer (some ⟨b1, 0, none⟩)]] w fun v w' => ∃ t, ∃ xs : List Int, v = slV t ∧ xs.Perm ks ∧ OwS w' t 1 (xs.map iv) ∧ Ext w w' ∧ ∀ j ∈ blk t, w.heap.size ≤ j := by
  refine F107_ok (109, #[.pointer (some ⟨b1, 0, none⟩)]) w _ ((c119 hI hks hl).use ?_)
  rintro _ w2 ⟨t, xs, rfl, h⟩
  exact ⟨t, rfl, t, xs, rfl, h⟩

/-- slices.Sorted(maps.Keys(m)) -/
theorem c80 {w : World} {b1 : Nat} {p : MO} {ks : List Int} (hI : KeysI b1 p w) (hks : KeysE p ks) (hl : ks.length ≤ 1000000) :
    CW Try.prog 80 #[.func (.func 109) #[] #[.pointer (some ⟨b1, 0, none⟩)]] w fun v w' => ∃ t, ∃ xs : List Int, v = slV t ∧ xs.Perm ks ∧ xs.Pairwise (· ≤ ·) ∧ OwS w' t 1 (xs.map iv) ∧ Ext w w' ∧ ∀ j ∈ blk t, w.heap.size ≤ j := by
  refine F80_ok (109, #[.pointer (some ⟨b1, 0, none⟩)]) w _ ((c107 hI hks hl).use ?_)
  rintro _ w2 ⟨t, xs, rfl, hp, ho, e2, hb⟩
  refine ⟨t, rfl, (c108 ho (by rw [hp.length_eq]; exact hl)).use ?_⟩
  rintro _ w5 ⟨rfl, ys, hp2, hs, ho2, hC⟩
  exact ⟨(), rfl, t, ys, rfl, hp2.trans hp, hs, ho2, e2.then hC fun i hi h => by have := hb i h; omega, hb⟩

theorem c81 (p : Option Nat) (w : World) : CW Try.prog 81 #[.map p] w fun v w' => ∃ b T, v = .func (.func 109) #[] #[.pointer (some ⟨b, 0, none⟩)] ∧ IsAlloc w (.cells #[.map p] T (0, 0)) b w' :=
  F81_ok p w _ fun b w' h => ⟨b, _, rfl, h⟩
end Go.Proofs.Ytopecljhehcldaa.Gx
