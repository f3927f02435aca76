/- Package slices: what an iterator of ints tells, in a slice, sorted; the iterators of a slice's elements and of a map's keys. -/
import Derived.Test.YtmmhbjbaallkfaaGxC
import Derived.Test.YtmmhbjbaallkfaaSrt
import Derived.Test.YtmmhbjbaallkfaaGxLJ
namespace Go.Proofs.Ytmmhbjbaallkfaa.Gx
open Go
set_option linter.unusedSimpArgs false
set_option linter.unusedVariables false

/-- An iterator of ints, that can be asked in a world and in those that grow of it. -/
structure IntIt (gf : Nat) (lb : Array Value) (w : World) (Fin : List Int → Prop) : Prop where
  ex : ∃ (Nxt : List Int → Int → Prop) (Inv : World → Prop) (Good : List Int → Prop), Iter Try.prog gf lb ivA false Nxt Fin Inv ∧ Inv w ∧ (∀ n W W', Inv W → Stb n W W' → Inv W') ∧ (∀ F W W', Inv W → Ch F W W' → (∀ i, F i → w.heap.size ≤ i) → Inv W') ∧
    Good [] ∧ (∀ pre x, Good pre → Nxt pre x → Good (pre ++ [x])) ∧ ∀ l, Good l → l.length ≤ 1000000

theorem oneIv (x : Int) : One [iv x] := by intro v hv; rw [List.mem_singleton.1 hv]; rfl
theorem ivA_sz (x : Int) : (ivA x).size = 1 := rfl

theorem appendSeq_of {w : World} {gf : Nat} {lb : Array Value} {Fin : List Int → Prop} (h : IntIt gf lb w Fin) :
    CW Try.prog 95 #[.slice none 0 0, .func (.func gf) #[] lb] w fun v w' => ∃ t, ∃ xs : List Int, v = slV t ∧ Fin xs ∧ xs.length ≤ 1000000 ∧ OwS w' t 1 (xs.map iv) ∧ Ext w w' ∧ ∀ j ∈ blk t, w.heap.size ≤ j := by
  obtain ⟨Nxt, Inv, Good, it, hI0, hIs, hIc, hG0, hGs, hGl⟩ := h.ex
  refine F95_ok ⟨none, 0, 0⟩ (gf, lb) w _ ?_
  intro b2 w2 h2 g
  have e2 : Ext w w2 := h2.ch _
  have hs2 := h2.size
  have hh2 := h2.here
  let G : List Int → World → Prop := fun pre W => Good pre ∧ Inv W ∧ ∃ t : Sl, (∃ T, W.heap[b2]? = some (.cells #[slV t] T (0, 0))) ∧ OwS W t 1 (pre.map iv) ∧ (∀ j ∈ blk t, w2.heap.size + 2 ≤ j) ∧ Ch (fun i => w.heap.size ≤ i) w W
  refine range_none tbOk mixed (gf := gf) (lb := lb) rfl it R95_0ok1 R95_0ok2 R95_0okp ivA_sz G (fun _ _ _ => False) ?_ (fun _ _ _ _ h => h.elim) ?_ (fun h => by cases h) ?_ ?_ ?_ (fun _ _ _ h => h.elim)
  · rintro pre W W' ⟨h1, h3, t, ⟨T, h4⟩, h5, h6, h7⟩ hS
    exact ⟨h1, hIs _ _ _ h3 hS, t, ⟨T, hS.keep _ _ h4 rfl⟩, h5.stb hS, h6, h7.then (.ofStb hS) fun i _ hi => by omega⟩
  · rintro pre W ⟨_, h3, _⟩; exact h3
  · exact ⟨hG0, hIc _ _ _ hI0 e2 fun _ h => h.elim, ⟨none, 0, 0⟩, ⟨_, h2.new⟩, .nil _ _, by simp [blk], e2.mono fun _ _ h => h.elim⟩
  · rintro pre x W ⟨hgd, hJ, t, ⟨T, hb⟩, ho, hbl, hC⟩ hxn hW
    refine F95b0_ok b2 ⟨none, 0, 0⟩ (gf, lb) x _ _ _ _ _ W ?_
    refine ⟨rfl, ⟨rfl, rfl⟩, fun w12 hS hI0 hL => ?_⟩
    have H := hS.keep _ _ hb rfl
    have ho12 := ho.stb hS
    have hJ12 := hIs _ _ _ hJ hS
    have hC12 : Ch (fun i => w.heap.size ≤ i) w w12 := hC.then (.ofStb hS) fun i _ hi => by omega
    have hs12 := hS.size
    refine ⟨t, by rw [cell_of H]; rfl, by decide, fun b20 w21 h21 => ?_⟩
    refine ⟨[iv x], ⟨rfl, cellsAt_of h21.new fun i v hv => by simpa using hv⟩, ?_⟩
    have e21 : Ext w12 w21 := h21.ch _
    have htn : t.n = pre.length := by have := ho.len1; rw [List.length_map] at this; exact this
    have hpl := hGl _ hgd
    have hgd2 := hGs _ _ hgd hxn
    have hpl2 := hGl _ hgd2
    rw [List.length_append, List.length_singleton] at hpl2
    refine (ho12.ext e21).append (cnt := 1) rfl rfl rfl (oneIv x) ⟨by omega, by dsimp only; omega⟩ ?_
    intro s' w24 ho' hn' hc' hb' _
    have hne : ∀ i, i < w2.heap.size → ¬ i ∈ blk t := fun i hi h => by have := hbl i h; omega
    have H24 := hc'.at (e21.at H) (hne _ (by omega))
    refine ⟨rfl, store_one H24 (by simp) rfl fun w25 h25 => ?_⟩
    have hc25 : Ch (fun i => i = b2 ∨ i ∈ blk t) w12 w25 := (((e21.mono fun _ _ h => h.elim).then hc' fun i _ h => .inr h).then h25.ch fun i _ h => .inl h)
    have hb2' : ∀ j ∈ blk s', w2.heap.size + 2 ≤ j := fun j hj => by
      rcases hb' j hj with h | h
      · exact hbl j h
      · have := e21.size; omega
    have far : ∀ i, i < w2.heap.size + 2 → i ≠ b2 → ¬ (i = b2 ∨ i ∈ blk t) := fun i hi hne' h => h.elim hne' fun h => by have := hbl i h; omega
    refine ⟨⟨hc25.old _ (by omega) (far _ (by omega) (by omega)), hc25.old _ (by omega) (far _ (by omega) (by omega))⟩, ⟨hgd2, hIc _ _ _ hJ12 hc25 (fun i hi => hi.elim (fun e => by omega) fun h => by have := hbl i h; omega), s', ⟨_, h25.new⟩, ?_, hb2', ?_⟩, hI0.trans (Its.ch hc25 fun i hi => hi.elim (fun e => e ▸ notIt H) (fun h => ho12.blkIt h))⟩
    · have := ho'.ch h25.ch fun j hj e => by have := hb2' j hj; omega
      rw [List.map_append]; exact this
    · exact hC12.then hc25 fun i hi h => by
        rcases h with h | h
        · omega
        · have := hbl _ h; omega
  · rintro xs W hxs ⟨hgd, hJ, t, ⟨T, hb⟩, ho, hbl, hC⟩ hD
    refine ⟨t, by rw [cell_of hb]; rfl, marks_one hD fun w' hu => ⟨t, xs, rfl, hxs, hGl _ hgd, ?_, ?_, fun j hj => by have := hbl j hj; omega⟩⟩
    · refine ho.ch hu.ch fun j hj e => ?_
      have := hbl j hj; omega
    · exact ⟨hC.rest.trans hu.rest, by rw [hu.size]; exact hC.size, fun i hi _ => by rw [hu.old i (by omega)]; exact hC.old i hi (by omega)⟩

theorem collect_of {w : World} {gf : Nat} {lb : Array Value} {Fin : List Int → Prop} (h : IntIt gf lb w Fin) :
    CW Try.prog 71 #[.func (.func gf) #[] lb] w fun v w' => ∃ t, ∃ xs : List Int, v = slV t ∧ Fin xs ∧ xs.length ≤ 1000000 ∧ OwS w' t 1 (xs.map iv) ∧ Ext w w' ∧ ∀ j ∈ blk t, w.heap.size ≤ j := by
  refine F71_ok (gf, lb) w _ ((appendSeq_of h).use ?_)
  rintro _ w2 ⟨t, xs, rfl, h⟩
  exact ⟨t, rfl, t, xs, rfl, h⟩

/-- slices.Sorted of an iterator of ints. -/
theorem sorted_of {w : World} {gf : Nat} {lb : Array Value} {Fin : List Int → Prop} (h : IntIt gf lb w Fin) :
    CW Try.prog 57 #[.func (.func gf) #[] lb] w fun v w' => ∃ t, ∃ xs ys : List Int, v = slV t ∧ Fin ys ∧ xs.Perm ys ∧ ys.length ≤ 1000000 ∧ xs.Pairwise (· ≤ ·) ∧ OwS w' t 1 (xs.map iv) ∧ Ext w w' ∧ ∀ j ∈ blk t, w.heap.size ≤ j := by
  refine F57_ok (gf, lb) w _ ((collect_of h).use ?_)
  rintro _ w2 ⟨t, ys, rfl, hf, hl, ho, e2, hb⟩
  refine ⟨t, rfl, (c49 ho hl).use ?_⟩
  rintro _ w5 ⟨rfl, xs, hp, hs, ho2, hC⟩
  exact ⟨(), rfl, t, xs, ys, rfl, hf, hp, hl, hs, ho2, e2.then hC fun i hi h => by have := hb i h; omega, hb⟩

/-! ### A map's keys -/
theorem keysI_stb {n b1 : Nat} {p : MO} {W W' : World} (h : KeysI b1 p W) (hS : Stb n W W') : KeysI b1 p W' := by
  obtain ⟨⟨T, hT⟩, h⟩ := h
  refine ⟨⟨T, hS.keep _ _ hT rfl⟩, ?_⟩
  match p, h with
  | none, _ => trivial
  | some (r, es, ck), h => exact hS.keep _ _ h rfl
theorem keysI_ch {F : Nat → Prop} {b1 : Nat} {p : MO} {W W' : World} (h : KeysI b1 p W) (hc : Ch F W W') (h1 : ¬ F b1) (h2 : ∀ r es ck, p = some (r, es, ck) → ¬ F r) : KeysI b1 p W' := by
  obtain ⟨⟨T, hT⟩, h⟩ := h
  refine ⟨⟨T, hc.at hT h1⟩, ?_⟩
  match p, h, h2 with
  | none, _, _ => trivial
  | some (r, es, ck), h, h2 => exact hc.at h (h2 _ _ _ rfl)
theorem keysIt {g b1 : Nat} (hen : Entr Try.prog g) (hF : ∀ l W R, KeysF Try.prog l b1 W R → CW Try.prog g #[.func (.yield l) #[] #[], .pointer (some ⟨b1, 0, none⟩)] W R) {w : World} {p : MO} {ks : List Int} (hI : KeysI b1 p w) (hks : KeysE p ks) (hl : ks.length ≤ 1000000) :
    IntIt g #[.pointer (some ⟨b1, 0, none⟩)] w fun xs => xs.Perm ks := by
  have hb1 : b1 < w.heap.size := by obtain ⟨⟨T, hT⟩, _⟩ := hI; exact heap_lt hT
  have hr1 : ∀ r es ck, p = some (r, es, ck) → r < w.heap.size := fun r es ck e => by subst e; exact heap_lt hI.2
  refine ⟨_, _, fun pre => pre.Nodup ∧ ∀ x ∈ pre, x ∈ ks, keys_iter hen hF hks, hI, fun n W W' => keysI_stb, fun F W W' h hc hF => keysI_ch h hc (fun h => by have := hF _ h; omega) (fun r es ck e h => by have := hF _ h; have := hr1 _ _ _ e; omega), ⟨.nil, by simp⟩, ?_, ?_⟩
  · rintro pre x ⟨hnd, hsub⟩ ⟨hxk, hxp⟩
    refine ⟨?_, fun a ha => ?_⟩
    · rw [List.nodup_append]; exact ⟨hnd, by simp, fun a ha b hb => by rw [List.mem_singleton.1 hb]; exact fun e => hxp (e ▸ ha)⟩
    · rcases List.mem_append.1 ha with h | h
      · exact hsub a h
      · rw [List.mem_singleton.1 h]; exact hxk
  · rintro l ⟨hnd, hsub⟩
    exact Nat.le_trans (nodup_len hnd hsub) hl

end Go.Proofs.Ytmmhbjbaallkfaa.Gx
