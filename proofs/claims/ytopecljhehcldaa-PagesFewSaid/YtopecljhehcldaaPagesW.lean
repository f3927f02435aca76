/- The statements on pages: PagesPlay, PagesScan. -/
import Derived.Test.YtopecljhehcldaaPagesV
namespace Go.Proofs.Ytopecljhehcldaa.Gx
open Go
set_option linter.unusedSimpArgs false
set_option linter.unusedVariables false

theorem slV_inj {s t : Sl} (h : [slV s] = [slV t]) : s = t := by
  obtain ⟨p, n, c⟩ := s; obtain ⟨p', n', c'⟩ := t
  simp only [slV, List.cons.injEq, Value.slice.injEq, and_true] at h
  obtain ⟨rfl, rfl, rfl⟩ := h; rfl

theorem open_pairs {A : Nat → Prop} {w : World} {l : List Pr} {c : Value} (h : rep A w (.sl (.pair (.int .i64) (.int .i64))) l [c]) : ∃ s, c = slV s ∧ Rd w s 2 (prs l) ∧ s.n = l.length ∧ s.n ≤ s.c ∧ s.c ≤ maxLen := by
  obtain ⟨s, hs, h1, h2, h3, _, css, h5, h6, h7⟩ := h
  cases hs
  refine ⟨s, rfl, ?_, h1, h2, h3⟩
  have e : css = l.map prV := by
    apply List.ext_getElem?
    intro i
    by_cases hi : i < l.length
    · have hc : css[i]? = some (css[i]'(by omega)) := List.getElem?_eq_getElem (by omega)
      have hx : l[i]? = some l[i] := List.getElem?_eq_getElem hi
      obtain ⟨c, d, he, ⟨rfl, _⟩, ⟨rfl, _⟩⟩ := h6 i _ _ hc hx
      rw [hc, he, List.getElem?_map, hx]; rfl
    · rw [List.getElem?_eq_none (by omega), List.getElem?_eq_none (by simp; omega)]
  rw [e] at h7
  exact h7

theorem delQ_inv {P : List (List Pr)} (hI : Inv P) (k : Int) : Inv (delQ P k) := by
  unfold delQ
  split
  · cases hh : hasP P k with
    | false => rw [if_neg (by simp)]; exact hI
    | true =>
      rw [if_pos rfl]
      have hne : P ≠ [] := fun e => by subst e; rw [hasP_nil] at hh; cases hh
      exact (delP_is hI (atP_is hI hne k)).2
  · exact hI
theorem putQ_inv {P : List (List Pr)} (hI : Inv P) (k v : Int) : Inv (if 0 ≤ k ∧ k ≤ 999 then putP P k v else P) := by
  split
  · rename_i hk; exact putP_inv hI hk
  · exact hI

/-- A store and the document's, with the same pages, apart. -/
def Two (w0 w : World) (p : Option Addr) (b' : Nat) : Prop := ∃ (P : List (List Pr)) (bs : Nat) (A B : Nat → Prop), p = some ⟨bs, 0, none⟩ ∧ StA A w bs P ∧ RA B w b' P ∧ Inv P ∧ (∀ i, A i → ¬ B i) ∧
  (∀ i, A i → w0.heap.size ≤ i ∧ i < w.heap.size) ∧ (∀ i, B i → w0.heap.size ≤ i ∧ i < w.heap.size) ∧ B b' ∧ Ext w0 w

theorem Two.ext {w0 w w' : World} {p : Option Addr} {b' : Nat} (h : Two w0 w p b') (hx : Ext w w') : Two w0 w' p b' := by
  obtain ⟨P, bs, A, B, h1, h2, h3, h4, h5, h6, h7, h8, h9⟩ := h
  have := hx.size
  exact ⟨P, bs, A, B, h1, h2.ext hx, h3.ext hx, h4, h5, fun i hi => by have := h6 i hi; omega, fun i hi => by have := h7 i hi; omega, h8, h9.trans hx⟩

/-- Both are turned, one behind the other. -/
theorem Two.step {w0 w w1 w2 w3 : World} {P' : List (List Pr)} {bs b' : Nat} {A B : Nat → Prop} (hI : Inv P') (hd : ∀ i, A i → ¬ B i) (hA : ∀ i, A i → w0.heap.size ≤ i ∧ i < w.heap.size) (hB : ∀ i, B i → w0.heap.size ≤ i ∧ i < w.heap.size) (hb : B b') (hx : Ext w0 w)
    (hS1 : StA (New A w) w1 bs P') (hC1 : Ch A w w1) (hx2 : Ext w1 w2) (hR3 : RA (New B w2) w3 b' P') (hC3 : Ch (fun i => i = b') w2 w3) : Two w0 w3 (some ⟨bs, 0, none⟩) b' := by
  have z1 := hC1.size; have z2 := hx2.size; have z3 := hC3.size; have z0 := hx.size
  refine ⟨P', bs, fun i => New A w i ∧ i < w1.heap.size, fun i => New B w2 i ∧ i < w3.heap.size, rfl, ?_, hR3.mono fun i hi h => ⟨h, hi⟩, hI, ?_, ?_, ?_, ⟨.inl hb, by have := hB b' hb; omega⟩, ?_⟩
  · refine ((hS1.mono fun i hi h => ⟨h, hi⟩).ext hx2).ch hC3 ?_
    rintro i _ ⟨h | h, hi⟩ rfl
    · exact hd _ h hb
    · have := hB _ hb; omega
  · rintro i ⟨h | h, hi⟩ ⟨k | k, _⟩
    · exact hd i h k
    · omega
    · have := hB i k; omega
    · omega
  · rintro i ⟨h | h, hi⟩
    · have := hA i h; omega
    · omega
  · rintro i ⟨h | h, hi⟩
    · have := hB i h; omega
    · omega
  · exact ((hx.then hC1 fun i hi h => by have := hA i h; omega).trans hx2).then hC3 fun i hi e => by have := hB _ hb; omega

theorem pagesPlay (w : World) {l : List (Int × Int × Int)} {c : Value} (h : rep (fun _ => True) w (.sl (.pair (.int .u8) (.pair (.int .i64) (.int .i64)))) l [c]) : CW Try.prog 7 #[c] w fun r w' => r = .bool true ∧ Ext w w' := by
  have hrep := h
  obtain ⟨s, hs, hsn, _, hcm, _⟩ := h
  cases hs
  refine F7_ok s w _ ((c18 w).use ?_)
  rintro _ w2 ⟨rfl, e2⟩
  refine ⟨true, rfl, IfB.no rfl ?_⟩
  intro b4 w5 h5 b6 w7 h7
  have e5 : Ext w2 w5 := h5.ch _
  have e7 : Ext w5 w7 := h7.ch _
  have z2 := e2.size; have z5 := h5.size; have z7 := h7.size; have p5 := h5.here; have p7 := h7.here
  have two0 : Two w w7 (some ⟨b4, 0, none⟩) b6 := by
    refine ⟨[], b4, fun i => w2.heap.size ≤ i ∧ i < w5.heap.size, fun i => i = b6, rfl, ((newSt h5).mono fun i hi h => ⟨h, hi⟩).ext e7, newRS h7, Inv.nil, ?_, ?_, ?_, rfl, (e2.trans e5).trans e7⟩
    · rintro i ⟨_, h⟩ rfl; omega
    · rintro i ⟨_, h⟩; omega
    · rintro i rfl; omega
  refine ⟨fun n x w12 => ∃ (i : Nat) (p : Option Addr), i ≤ 120 ∧ n + i = 120 ∧ x = (p, (i : Int)) ∧ Two w w12 p b6, ⟨120, 0, _, Nat.zero_le _, rfl, rfl, two0⟩, ?_⟩
  rintro n _ w12 g ⟨i, p, hi, hni, rfl, htwo⟩
  have hx12 : Ext w w12 := by obtain ⟨_, _, _, _, _, _, _, _, _, _, _, _, h⟩ := htwo; exact h
  unfold F7j1
  refine IfB.dec (fun hlt => ?_) (fun _ => ⟨rfl, hx12⟩)
  refine @IfB.dec (((i : Int)) < (120 : Int)) _ _ _ (fun hlt2 => ?_) (fun _ => ⟨rfl, hx12⟩)
  have hi' : i < l.length := by
    have : (i : Int) < (s.n : Int) := hlt
    omega
  have hi120 : i < 120 := by
    have : (i : Int) < 120 := hlt2
    omega
  obtain ⟨s', b, o, cs, hs', _, hp, _, hc, ⟨c1, d1, rfl, ⟨rfl, r1⟩, c2, d2, rfl, ⟨rfl, r2⟩, ⟨rfl, r3⟩⟩⟩ := rep_get (rep_ext hx12 hrep) (by decide) (List.getElem?_eq_getElem hi')
  have hs1 := slV_inj hs'
  rw [← hs1] at hp
  generalize l[i] = x at hc r1 r2 r3
  obtain ⟨kd, k, v⟩ := x
  dsimp only at hc r1 r2 r3
  have hkd := u8_of r1
  refine ⟨b, o, hp, (⟨by omega, by omega⟩ : (0 : Int) ≤ (i : Int) ∧ (i : Int) < (s.n : Int)), (kd, k, v), by rw [Int.toNat_natCast]; exact hc, fun b18 w19 h19 => ⟨rfl, store_all h19.new rfl (by intro u hu; simp at hu; rcases hu with rfl | rfl | rfl <;> rfl) fun w20 h20 => ?_⟩⟩
  have e20 : Ext w12 w20 := Ext.fresh h19 h20
  have p19 := h19.here
  have hcell : ∀ (w' : World) {T : TypeId}, w'.heap[b18]? = some (.cells #[.int .u8 kd, .int .i64 k, .int .i64 v] T (0, 0)) → w'.cell? ⟨b18, 0, none⟩ = some (.int .u8 kd) ∧ w'.cell? ⟨b18, 1, none⟩ = some (.int .i64 k) ∧ w'.cell? ⟨b18, 2, none⟩ = some (.int .i64 v) := fun w' T hw => by
    refine ⟨?_, ?_, ?_⟩ <;> rw [cell_of hw] <;> rfl
  have htwo20 := htwo.ext e20
  have hx20 := hx12.trans e20
  have hw1 : IntKind.i64.wrap ((i : Int) + (1 : Int)) = ((i + 1 : Nat) : Int) := by rw [wrap_of (by omega) (by omega)]; rfl
  refine ⟨fun p' w98 => Two w w98 p' b6, ?_, ?_⟩
  · obtain ⟨P, bs, A, B, rfl, hS, hR, hI, hd, hA, hB, hb6, hx⟩ := htwo
    have hA20 : ∀ i, A i → w.heap.size ≤ i ∧ i < w20.heap.size := fun i hi => by have := hA i hi; have := e20.size; omega
    have hB20 : ∀ i, B i → w.heap.size ≤ i ∧ i < w20.heap.size := fun i hi => by have := hB i hi; have := e20.size; omega
    have nA : ¬ A b18 := fun h => by have := hA _ h; omega
    have nB : b18 ≠ b6 := fun h => by have := hB _ hb6; omega
    have hS20 := hS.ext e20
    have hR20 := hR.ext e20
    -- both delete
    have del : F7k2 w20 b18 (some ⟨bs, 0, none⟩, (i : Int)) b6 (fun r w' => r = .bool true ∧ Ext w w') (fun p' w98 => Two w w98 p' b6) := by
      have ed := extDrew w20
      have H := ed.at h20.new
      refine ⟨k, (hcell _ H).2.1, k, (hcell _ H).2.1, (c27 (hS20.ext ed) hI k).use ?_⟩
      rintro _ w26 ⟨rfl, hS26, hC26⟩
      refine ⟨_, rfl, (hcell _ (hC26.at H nA)).2.1, (c32 ((hR20.ext ed).ch hC26 fun j _ hj hj2 => hd j hj2 hj) hI k).use ?_⟩
      rintro _ w29 ⟨rfl, hR29, hC29⟩
      refine ⟨_, rfl, IfB.no (by simp) ⟨rfl, ?_⟩⟩
      exact Two.step (w := w20.drew) (delQ_inv hI k) hd (fun i hi => hA20 i hi) (fun i hi => hB20 i hi) hb6 (hx20.trans ed) hS26 hC26 (Ch.refl _ _) hR29 hC29
    have rest : kd.tmod 8 ≠ 4 → kd.tmod 8 ≠ 5 → F7k1 kd w20 b18 (some ⟨bs, 0, none⟩, (i : Int)) b6 (fun r w' => r = .bool true ∧ Ext w w') (fun p' w98 => Two w w98 p' b6) := by
      intro _ _
      unfold F7k1
      refine IfB.intro (fun _ => ?_) (fun _ => IfB.intro (fun _ => ?_) (fun _ => ?_))
      · obtain ⟨s1, ps1, hs1, hp1, _⟩ := hS20
        refine ⟨k, (hcell _ h20.new).2.1, (c29 hs1 hp1 hI k).use ?_⟩
        rintro _ w33 ⟨rfl, e33⟩
        obtain ⟨s2, ps2, hs2, hp2, _⟩ := hR20.ext e33
        refine ⟨((getP P k).1, (getP P k).2), rfl, k, (hcell _ (e33.at h20.new)).2.1, (c33 hs2 hp2 hI k).use ?_⟩
        rintro _ _ ⟨rfl, rfl⟩
        exact ⟨((getP P k).1, (getP P k).2), rfl, IfB.no (by simp) (IfB.no (by simp) ⟨rfl, htwo20.ext e33⟩)⟩
      · obtain ⟨s1, ps1, hs1, hp1, _⟩ := id hS20
        refine (c34 hs1 hp1 hI).use ?_
        rintro _ w40 ⟨bn, rfl, hSn, e40⟩
        have H40 := e40.at h20.new
        refine ⟨_, rfl, k, (hcell _ H40).2.1, v, (hcell _ H40).2.2, (c28 (hS20.ext e40) hI k _).use ?_⟩
        rintro _ w45 ⟨rfl, hS45, hC45⟩
        have z40 := e40.size; have z45 := hC45.size
        refine ⟨_, rfl, (c27 hS45 (putQ_inv hI k _) 0).use ?_⟩
        rintro _ w48 ⟨rfl, hS48, hC48⟩
        have z48 := hC48.size
        refine ⟨_, rfl, rfl, P, bn, fun i => w20.heap.size ≤ i ∧ i < w40.heap.size, fun i => B i ∧ i < w20.heap.size, rfl, ?_, ?_, hI, ?_, ?_, ?_, ⟨hb6, (hB20 _ hb6).2⟩, ?_⟩
        · refine ((hSn.mono fun i hi h => ⟨h, hi⟩).ch hC45 fun j _ hj h => ?_).ch hC48 fun j _ hj h => ?_
          · have := hA20 j h; omega
          · rcases h with h | h
            · have := hA20 j h; omega
            · omega
        · refine (((hR20.mono fun i hi h => ⟨h, hi⟩).ext e40).ch hC45 fun j _ hj h => hd j h hj.1).ch hC48 fun j _ hj h => ?_
          rcases h with h | h
          · exact hd j h hj.1
          · have := hB20 j hj.1; omega
        · rintro j ⟨h, _⟩ ⟨_, h'⟩; omega
        · rintro j ⟨h, h'⟩; have := hx20.size; omega
        · rintro j ⟨h, h'⟩; have := hB20 j h; omega
        · refine ((hx20.trans e40).then hC45 fun j hj h => by have := hA20 j h; omega).then hC48 fun j hj h => ?_
          rcases h with h | h
          · have := hA20 j h; omega
          · have := hx20.size; omega
      · have ed := extDrew w20
        have H := ed.at h20.new
        refine ⟨k, (hcell _ H).2.1, v, (hcell _ H).2.2, k, (hcell _ H).2.1, v, (hcell _ H).2.2, (c28 (hS20.ext ed) hI k v).use ?_⟩
        rintro _ w55 ⟨rfl, hS55, hC55⟩
        refine ⟨_, rfl, (hcell _ (hC55.at H nA)).2.2, (hcell _ (hC55.at H nA)).2.1, (c20 ((hR20.ext ed).ch hC55 fun j _ hj hj2 => hd j hj2 hj) hI k v).use ?_⟩
        rintro _ w58 ⟨rfl, hR58, hC58⟩
        refine ⟨_, rfl, IfB.no (by simp) ⟨rfl, ?_⟩⟩
        exact Two.step (w := w20.drew) (putQ_inv hI k v) hd (fun i hi => hA20 i hi) (fun i hi => hB20 i hi) hb6 (hx20.trans ed) hS55 hC55 (Ch.refl _ _) hR58 hC58
    refine ⟨kd, (hcell _ h20.new).1, by decide, IfB.intro (fun h4 => IfB.intro (fun _ => del) (fun h4' => by rw [h4] at h4'; cases h4')) (fun h4 => IfB.intro (fun _ => del) (fun h5 => rest (fun e => by rw [e] at h4; cases h4) (fun e => by rw [e] at h5; cases h5)))⟩
  · rintro p' w98 _ ht
    obtain ⟨P, bs, A, B, rfl, hS, hR, hI, hd, hA, hB, hb6, hx⟩ := id ht
    refine (c21 hS hR hI).use ?_
    rintro _ w102 ⟨rfl, e102⟩
    refine ⟨true, rfl, IfB.no rfl ⟨rfl, n - 1, by omega, i + 1, _, by omega, by omega, ?_, ht.ext e102⟩⟩
    dsimp only; rw [hw1]
end Go.Proofs.Ytopecljhehcldaa.Gx
