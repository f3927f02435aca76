/- Package waits: the document's example; WaitsSome: some saga, of those that wait, waits for such alone that don't. -/
import Derived.Test.YtopecljhehcldaaWaitD
import Derived.Test.YtopecljhehcldaaGxFX
namespace Go.Proofs.Ytopecljhehcldaa.Gx
open Go
set_option linter.unusedSimpArgs false
set_option linter.unusedVariables false

theorem single {pl : List Int} {a : Int} (hs : pl.Pairwise (· < ·)) (hm : ∀ k, k ∈ pl ↔ k = a) : pl = [a] := by
  match pl, hs, hm with
  | [], _, hm => exact absurd ((hm a).2 rfl) (by simp)
  | [x], _, hm => rw [(hm x).1 (by simp)]
  | x :: y :: l, hs, hm =>
    have hx := (hm x).1 (by simp)
    have hy := (hm y).1 (by simp)
    have := (List.pairwise_cons.1 hs).1 y (by simp)
    omega

theorem Wt.new {w w' : World} {b : Nat} {T : TypeId} (h : IsAlloc w (.cells #[.map none] T (0, 0)) b w') : Wt w' b none [] :=
  ⟨⟨T, h.new⟩, rfl, by simp, by simp⟩
theorem wl_nil (k : Int) : wl [] k = [] := rfl

theorem c54 (w : World) : CW Try.prog 54 #[] w fun v w' => v = .bool true ∧ Ext w w' := by
  refine F54_ok w _ ?_
  intro b1 w2 a2
  refine ⟨by decide, fun b3 w4 a4 => ?_⟩
  have e2 : Ext w w2 := a2.ch _
  have e4 : Ext w2 w4 := a4.ch _
  have p2 := a2.here; have p4 := a4.here; have z2 := a2.size
  have H := (Wt.new a2).ext e4
  have hr : Rd w4 ⟨some ⟨b3, 0, none⟩, 1, 1⟩ 1 (([2] : List Int).map iv) := (OwS.new (n := 1) (sz := 1) a4 rfl).rd
  refine (c55 H 1 hr (by simp) (by simp)).use ?_
  rintro v w6 ⟨p, f, pl, H6, l6, hc6, hf6, hs, hm, hv⟩
  have hpl : pl = [2] := single hs fun k => by rw [hm]; simp
  subst hpl
  have no : ¬ TC (EnS [] 1 [2]) 1 1 := fun h => by
    obtain ⟨c, h1, h2⟩ := h.first
    unfold EnS at h1
    rw [if_pos rfl] at h1
    have : c = 2 := by simpa using h1
    subst this
    rcases h2 with h2 | h2
    · cases h2
    · obtain ⟨d, h3, _⟩ := h2.first
      unfold EnS at h3
      rw [if_neg (by decide), wl_nil] at h3
      cases h3
  rcases hv with ⟨h, _⟩ | ⟨_, rfl, hw⟩
  · exact absurd h no
  have C6 : Ch (fun j => w.heap.size ≤ j) w w6 := ((e2.trans e4).mono fun _ _ h => h.elim).then hc6 fun j _ h => by
    rcases h with h | h
    · omega
    · cases h
  refine ⟨true, rfl, IfB.yes rfl ⟨by decide, fun b8 w9 a9 => ?_⟩⟩
  have e9 : Ext w6 w9 := a9.ch _
  have hr9 : Rd w9 ⟨some ⟨b8, 0, none⟩, 1, 1⟩ 1 (([1] : List Int).map iv) := (OwS.new (n := 1) (sz := 1) a9 rfl).rd
  refine (c55 (H6.ext e9) 2 hr9 (by simp) (by simp at l6; omega)).use ?_
  rintro v w11 ⟨p', f', pl, H11, l11, hc11, hf11, hs', hm', hv'⟩
  have hpl : pl = [1] := single hs' fun k => by rw [hm']; simp
  subst hpl
  have yes : TC (EnS f 2 [1]) 2 2 := .more (.one (b := 1) (by unfold EnS; simp)) (by unfold EnS; rw [if_neg (by decide), hw, if_pos rfl]; simp)
  obtain ⟨rfl, hw'⟩ : v = .bool false ∧ ∀ k, wl f' k = wl f k := by
    rcases hv' with ⟨_, h1, h2⟩ | ⟨h, _⟩
    · exact ⟨h1, h2⟩
    · exact absurd yes h
  refine ⟨false, rfl, IfB.yes rfl ((c57 H11 1).use ?_)⟩
  rintro _ w14 ⟨t, rfl, ho, e14, _⟩
  have hn := owsI ho
  rw [hw', hw, if_pos rfl] at hn
  refine ⟨t, rfl, ?_, ?_⟩
  · rw [show t.2 = t.n from rfl, hn]; rfl
  · have := ((C6.then e9 fun _ _ h => h.elim).then hc11 fun j hj h => by
      rcases h with h | h
      · omega
      · rcases hf6 j (.inr (.inl h)) with h' | h'
        · rcases h' with h' | h' | ⟨e, he, _⟩
          · omega
          · cases h'
          · cases he
        · have := (e2.trans e4).size; omega).then e14 fun _ _ h => h.elim
    exact this.mono fun j hj h => by omega

abbrev tyOpW : Ty := .pair (.int .u8) (.pair (.int .u8) (.sl (.int .u8)))
theorem rd_u8 {A : Nat → Prop} {w : World} {l : List Int} {t : Sl} (h : rep A w (.sl (.int .u8)) l [slV t]) : Rd w t 1 (l.map (Value.int .u8)) ∧ t.n = l.length ∧ ∀ x ∈ l, 0 ≤ x ∧ x ≤ 255 := by
  obtain ⟨s, hs, h1, h2, h3, h4, css, h5, h6, h7⟩ := h
  have := slEq hs
  subst this
  have hcs : css = l.map fun b => [Value.int .u8 b] := by
    apply List.ext_getElem?
    intro i
    rw [List.getElem?_map]
    by_cases hi : i < l.length
    · have hc : css[i]? = some (css[i]'(by omega)) := List.getElem?_eq_getElem (by omega)
      have hx : l[i]? = some l[i] := List.getElem?_eq_getElem hi
      have := (h6 i _ _ hc hx).1
      rw [hc, hx, this]; rfl
    · rw [List.getElem?_eq_none (by omega), List.getElem?_eq_none (by omega)]; rfl
  refine ⟨?_, h1, fun x hx => ?_⟩
  · have e : css.flatten = l.map (Value.int .u8) := by
      rw [hcs]
      clear h6 h7 hcs h5 h1
      induction l with
      | nil => rfl
      | cons x l ih => simpa using ih
    rw [← e]; exact h7
  · obtain ⟨i, hi, rfl⟩ := List.getElem_of_mem hx
    have hc : css[i]? = some (css[i]'(by omega)) := List.getElem?_eq_getElem (by omega)
    exact u8_range (h6 i _ _ hc (List.getElem?_eq_getElem hi)).2

theorem opW_get {A : Nat → Prop} {w : World} {l : List tyOpW.den} {t : Sl} (h : rep A w (.sl tyOpW) l [slV t]) {k : Nat} {x : tyOpW.den} (hx : l[k]? = some x) :
    ∃ b o tk, t.p = some ⟨b, o, none⟩ ∧ w.cell? ⟨b, o + k * 3 + 0, none⟩ = some (.int .u8 x.1) ∧ w.cell? ⟨b, o + k * 3 + 1, none⟩ = some (.int .u8 x.2.1) ∧ w.cell? ⟨b, o + k * 3 + 2, none⟩ = some (slV tk) ∧ rep A w (.sl (.int .u8)) x.2.2 [slV tk] ∧ (0 ≤ x.1 ∧ x.1 ≤ 255) ∧ (0 ≤ x.2.1 ∧ x.2.1 ≤ 255) := by
  obtain ⟨s, b, o, c, hs, hn, hp, hA, hc, c1, d1, rfl, ⟨rfl, hu⟩, c2, d2, rfl, ⟨rfl, hi⟩, h4⟩ := rep_get h (by decide) hx
  have := slEq hs; subst this
  obtain ⟨tk, rfl, h5⟩ := h4
  exact ⟨b, o, tk, hp, hc 0 _ rfl, hc 1 _ rfl, hc 2 _ rfl, ⟨tk, rfl, h5⟩, u8_range hu, u8_range hi⟩

def aloneP (f : List (Int × WE)) (k : Int) : Prop := ∀ c ∈ wl f k, wl f c = []
theorem key_wl {w : World} {b : Nat} {p : Option Nat} {f : List (Int × WE)} (h : Wt w b p f) {k : Int} : getM f k ≠ none ↔ wl f k ≠ [] := by
  unfold wl
  cases hg : getM f k with
  | none => simp
  | some x => simpa using (h.rd _ (getM_mem hg)).2.1

theorem waitsSome (w : World) {l : List tyOpW.den} {c0 : Value} (h0 : rep (fun _ => True) w (.sl tyOpW) l [c0]) : CW Try.prog 13 #[c0] w fun v w' => v = .bool true ∧ Ext w w' := by
  obtain ⟨tl, e0, hln, _, _, _, _⟩ := id h0
  simp only [List.cons.injEq, and_true] at e0
  subst e0
  refine F13_ok tl w _ ((c54 w).use ?_)
  rintro _ w2 ⟨rfl, e2⟩
  refine ⟨true, rfl, IfB.no rfl fun b4 w5 a5 => ?_⟩
  have e5 : Ext w2 w5 := a5.ch _
  have p5 := a5.here
  have z2 := e2.size
  have x5 : Ext w w5 := e2.trans e5
  let N : Nat → World → Prop := fun j W => ∃ p f, Wt W b4 p f ∧ (∀ k, ¬ TC (En f) k k) ∧ f.length ≤ 2 * j ∧ Ch (fun i => w.heap.size ≤ i) w5 W ∧ ∀ i, inWt b4 p f i → w.heap.size ≤ i
  have Next : ∀ {j W}, N j W → Ext w W := fun ⟨_, _, _, _, _, hC, _⟩ => x5.then hC fun i hi h => by omega
  refine ⟨fun n x W => ∃ j : Nat, x = (j : Int) ∧ n + j = 60 ∧ N j W, ⟨60, 0, rfl, rfl, none, [], Wt.new a5, fun k hk => ?_, by simp, Ch.refl _ _, ?_⟩, ?_⟩
  · obtain ⟨c, h1, _⟩ := hk.first; cases h1
  · rintro i (rfl | hi | ⟨e, he, _⟩)
    · omega
    · cases hi
    · cases he
  rintro n _ W g ⟨j, rfl, hj, hN⟩
  have xW := Next hN
  unfold F13j1
  refine IfB.dec (fun hlt => IfB.dec (fun h60 => ?_) fun _ => ⟨rfl, xW⟩) fun _ => ⟨rfl, xW⟩
  have hjl : j < l.length := by omega
  have hx := List.getElem?_eq_getElem hjl
  generalize l[j] = o at hx
  have hold := rep_old (t := .sl tyOpW) (by decide) h0
  obtain ⟨kd, oi, ol⟩ := o
  change Int at oi
  change List Int at ol
  have hget : ∀ {W' : World}, Ext w W' → ∃ b o tk, tl.p = some ⟨b, o, none⟩ ∧ W'.cell? ⟨b, o + j * 3 + 1, none⟩ = some (.int .u8 oi) ∧ W'.cell? ⟨b, o + j * 3 + 2, none⟩ = some (slV tk) ∧ Rd W' tk 1 (ol.map (Value.int .u8)) ∧ tk.n = ol.length ∧ (∀ x ∈ ol, 0 ≤ x ∧ x ≤ 255) ∧ (0 ≤ oi ∧ oi ≤ 255) := fun e => by
    obtain ⟨b, o, tk, h1, h2, h3, h4, h5, h6, h7⟩ := opW_get (rep_ext e h0) hx
    obtain ⟨g1, g2, g3⟩ := rd_u8 h5
    exact ⟨b, o, tk, h1, h3, h4, g1, g2, g3, h7⟩
  have hbj : (0 : Int) ≤ (j : Int) ∧ (j : Int) < (tl.n : Int) := ⟨by omega, hlt⟩
  have zW := hN
  refine ⟨fun s W' => ∃ xs : List Int, OwS W' s 1 (xs.map iv) ∧ xs.length ≤ 20 ∧ (∀ i ∈ blk s, W.heap.size ≤ i) ∧ Ext W W', ⟨fun m x W' => ∃ k : Nat, x.2 = (k : Int) ∧ m + k = 20 ∧ (∃ xs : List Int, OwS W' x.1 1 (xs.map iv) ∧ xs.length = k ∧ (∀ i ∈ blk x.1, W.heap.size ≤ i)) ∧ Ext W W', ⟨20, 0, rfl, rfl, ⟨[], .nil _ _, rfl, by simp [blk]⟩, Ch.refl _ _⟩, ?_⟩, ?_⟩
  · rintro m ⟨s, _⟩ W' g' ⟨k, rfl, hk, ⟨xs, ho, hxl, hb⟩, e⟩
    dsimp only at ho hb
    obtain ⟨a, ao, tk, hp, _, hc2, hr, hkn, hrg, _⟩ := hget (xW.trans e)
    unfold F13j2
    refine ⟨a, ao, hp, hbj, tk, by rw [Int.toNat_natCast]; exact hc2, IfB.dec (fun hl1 => IfB.dec (fun hl2 => ?_) fun hl2 => ⟨rfl, xs, ho, by omega, hb, e⟩) fun hl1 => ⟨rfl, xs, ho, by omega, hb, e⟩⟩
    dsimp only at hl1 hl2
    have hk' : k < ol.length := by omega
    have hv : (ol.map (Value.int .u8))[k]? = some (.int .u8 ol[k]) := by rw [List.getElem?_map, List.getElem?_eq_getElem hk']; rfl
    have hrk := hrg _ (List.getElem_mem hk')
    generalize ol[k] = y at hv hrk
    obtain ⟨a2, o2, hp2, hcy⟩ := hr.elem1 hv
    refine ⟨a, ao, hp, hbj, tk, by rw [Int.toNat_natCast]; exact hc2, a2, o2, hp2, ⟨by dsimp only; omega, hl1⟩, y, by dsimp only; rw [Int.toNat_natCast]; exact hcy, by decide, fun b30 w31 a31 => ?_⟩
    have e31 : Ext W' w31 := a31.ch _
    have hwy : IntKind.i64.wrap y = y := wrap_of (by omega) (by omega)
    rw [hwy] at a31
    have hsn := owsI ho
    refine (ho.ext e31).lit (new := [iv y]) a31.new rfl (oneIv y) rfl rfl (by omega) (by decide) fun s' w' ho' _ hc' hb' => ⟨rfl, m - 1, by omega, k + 1, wp1 (by omega), by omega, ⟨xs ++ [y], by rw [List.map_append]; exact ho', by simp [hxl], fun i hi => ?_⟩, ?_⟩
    · rcases hb' i hi with h | h
      · exact hb i h
      · have := e.size; have := e31.size; omega
    · exact (e.trans e31).then hc' fun i hi h => by have := hb i h; omega
  · rintro s36 w37 g' ⟨xs, ho, hxl, hb, e⟩
    obtain ⟨p, f, hWt, hac, hfl, hC, hfoot⟩ := hN
    obtain ⟨a, ao, tk, hp, hc1, _, _, _, _, hoi⟩ := hget (xW.trans e)
    unfold F13j3
    refine ⟨a, ao, hp, hbj, oi, by rw [Int.toNat_natCast]; exact hc1, ?_⟩
    rw [wrap_of (n := oi) (by omega) (by omega)]
    refine (c55 (hWt.ext e) oi ho.rd (by omega) (by omega)).use ?_
    rintro v w44 ⟨p1, f1, pl, H44, l44, hc44, hf44, hs44, hm44, hv44⟩
    have hac1 : ∀ k, ¬ TC (En f1) k k := by
      rcases hv44 with ⟨_, _, hw⟩ | ⟨hn, _, hw⟩
      · intro k hk
        exact hac k (hk.mono fun a c h => by unfold En at h ⊢; rw [← hw]; exact h)
      · refine acyc_turned (E := En f) (i := oi) (fun a c ha h => ?_) hac fun h => hn (h.mono fun a c h => ?_)
        · unfold En at h ⊢; rw [hw, if_neg (fun e => ha e.symm)] at h; exact h
        · unfold En at h; unfold EnS; rw [hw] at h; exact h
    have hvb : ∃ t, v = .bool t := by
      rcases hv44 with ⟨_, h, _⟩ | ⟨_, h, _⟩
      · exact ⟨_, h⟩
      · exact ⟨_, h⟩
    obtain ⟨tb', rfl⟩ := hvb
    have hCW : Ch (fun i => w.heap.size ≤ i) w5 w44 := (hC.then e fun _ _ h => h.elim).then hc44 fun i _ h => hfoot i (h.elim .inl fun h => .inr (.inl h))
    have hfoot1 : ∀ i, inWt b4 p1 f1 i → w.heap.size ≤ i := fun i hi => by
      rcases hf44 i hi with h | h
      · exact hfoot i h
      · have := (xW.trans e).size; omega
    refine ⟨tb', rfl, (c56 H44).use ?_⟩
    rintro _ w47 ⟨s48, ks, rfl, hkp, _, ho48, e47, _⟩
    have hkn := owsI ho48
    have hkey : ∀ k, k ∈ ks ↔ wl f1 k ≠ [] := fun k => by rw [hkp.mem_iff, getM_key]; exact key_wl H44
    have hkl : ks.length ≤ 1000 := by rw [hkp.length_eq, List.length_map]; exact H44.few
    refine ⟨s48, rfl, fun m x W' => ∃ a : Nat, x.2 = (a : Int) ∧ m + a = ks.length ∧ Ext w47 W' ∧ (x.1 = true ∨ (ks ≠ [] ∧ ∀ a' < a, ∀ k, ks[a']? = some k → ¬ aloneP f1 k)), ⟨ks.length, 0, rfl, rfl, Ch.refl _ _, ?_⟩, ?_⟩
    · dsimp only
      cases ks with
      | nil => left; rw [show s48.2 = s48.n from rfl, hkn]; rfl
      | cons k ks => exact .inr ⟨by simp, fun a' ha => absurd ha (Nat.not_lt_zero _)⟩
    rintro m ⟨sm, _⟩ W1 g1 ⟨a, rfl, hma, eW1, hsm⟩
    dsimp only at hsm
    unfold F13j4
    refine IfB.dec (fun hla => ?_) fun hla => ?_
    · dsimp only at hla
      have ha' : a < ks.length := by omega
      have hka : ks[a]? = some ks[a] := List.getElem?_eq_getElem ha'
      generalize ks[a] = ka at hka
      obtain ⟨b57, hb57, hck⟩ := owsI_get (ho48.ext eW1) hka
      refine ⟨b57, 0, hb57, ⟨by dsimp only; omega, hla⟩, ka, by dsimp only; rw [Int.toNat_natCast]; exact hck, (c57 ((H44.ext e47).ext eW1) ka).use ?_⟩
      rintro _ w60 ⟨s61, rfl, ho61, e60, _⟩
      have hn61 := owsI ho61
      have hwk := wl_few H44 ka
      generalize hwl : wl f1 ka = wk at hn61 ho61 hwk
      refine ⟨s61, rfl, fun m' x W' => ∃ c : Nat, x.2 = (c : Int) ∧ m' + c = wk.length ∧ Ext w60 W' ∧ (x.1 = true ↔ ∀ c' < c, ∀ k, wk[c']? = some k → wl f1 k = []), ⟨wk.length, 0, rfl, rfl, Ch.refl _ _, by simp⟩, ?_⟩
      rintro m' ⟨al, _⟩ W2 g2 ⟨c, rfl, hmc, eW2, hal⟩
      dsimp only at hal
      have H2 := (((H44.ext e47).ext eW1).ext e60).ext eW2
      unfold F13j5
      refine IfB.dec (fun hlc => ?_) fun hlc => ?_
      · dsimp only at hlc
        have hc' : c < wk.length := by omega
        have hkc : wk[c]? = some wk[c] := List.getElem?_eq_getElem hc'
        generalize wk[c] = kc at hkc
        have succ : ∀ {P : Prop}, (P ↔ wl f1 kc = []) → ((al = true ∧ P) ↔ ∀ c' < c + 1, ∀ k, wk[c']? = some k → wl f1 k = []) := fun {P} hP => by
          rw [hal, hP]
          constructor
          · rintro ⟨h1, h2⟩ c' hc' k hk
            by_cases e : c' = c
            · subst e; rw [hkc] at hk; cases hk; exact h2
            · exact h1 c' (by omega) k hk
          · intro h
            exact ⟨fun c' hc' => h c' (by omega), h c (by omega) kc hkc⟩
        refine IfB.intro (fun hT => ?_) fun hF => ?_
        · dsimp only at hT
          obtain ⟨b70, hb70, hcc⟩ := owsI_get (ho61.ext eW2) hkc
          refine ⟨b70, 0, hb70, ⟨by dsimp only; omega, hlc⟩, kc, by dsimp only; rw [Int.toNat_natCast]; exact hcc, (c57 H2 kc).use ?_⟩
          rintro _ w73 ⟨s74, rfl, ho74, e73, _⟩
          have hn74 := owsI ho74
          refine ⟨s74, rfl, rfl, m' - 1, by omega, c + 1, wp1 (by omega), by omega, eW2.trans e73, ?_⟩
          have := succ (P := (((s74.n : Nat) : Int) == 0) = true) (by
            rw [hn74]
            cases wl f1 kc <;> simp; omega)
          rw [hT] at this
          simpa using this
        · dsimp only at hF
          refine ⟨rfl, m' - 1, by omega, c + 1, wp1 (by omega), by omega, eW2, ?_⟩
          rw [hF] at hal
          constructor
          · intro h; cases h
          · intro h
            exact absurd (hal.2 fun c' hc' => h c' (by omega)) (by simp)
      · dsimp only at hlc
        have hcn : c = wk.length := by omega
        subst hcn
        have hall : al = true ↔ aloneP f1 ka := by
          rw [hal]
          unfold aloneP
          rw [hwl]
          constructor
          · intro h k hk
            obtain ⟨i, hi, rfl⟩ := List.getElem_of_mem hk
            exact h i hi _ (List.getElem?_eq_getElem hi)
          · intro h c' _ k hk
            exact h k (List.mem_of_getElem? hk)
        have eAll : Ext w47 W2 := (eW1.trans e60).trans eW2
        refine IfB.intro (fun hT => ⟨rfl, m - 1, by omega, a + 1, wp1 (by omega), by omega, eAll, .inl rfl⟩) fun hF => ⟨rfl, m - 1, by omega, a + 1, wp1 (by omega), by omega, eAll, ?_⟩
        dsimp only at hF ⊢
        rcases hsm with h | ⟨h1, h2⟩
        · rw [h] at hF; cases hF
        · cases hq : al with
          | true => exact .inl rfl
          | false =>
            refine .inr ⟨h1, fun a' ha' k hk => ?_⟩
            by_cases e' : a' = a
            · subst e'; rw [hka] at hk; cases hk
              intro h; rw [hall.2 h] at hq; cases hq
            · exact h2 a' (by omega) k hk
    · dsimp only at hla
      have han : a = ks.length := by omega
      subst han
      have hT : sm = true := by
        rcases hsm with h | ⟨h1, h2⟩
        · exact h
        · exfalso
          obtain ⟨k0, hk0⟩ : ∃ k0, k0 ∈ ks := by
            cases ks with
            | nil => exact absurd rfl h1
            | cons k ks => exact ⟨k, by simp⟩
          have hne := (hkey k0).1 hk0
          obtain ⟨c0, hc0⟩ : ∃ c, c ∈ wl f1 k0 := by
            cases hq : wl f1 k0 with
            | nil => exact absurd hq hne
            | cons c _ => exact ⟨c, by simp⟩
          obtain ⟨a0, ⟨b0, hb0⟩, hb1⟩ := acyc_some (keys := ks) hac1 (fun a c h => (hkey a).2 (fun e => by unfold En at h; rw [e] at h; cases h)) ⟨c0, hc0⟩
          have ham : a0 ∈ ks := (hkey a0).2 fun e => by unfold En at hb0; rw [e] at hb0; cases hb0
          obtain ⟨i, hi, rfl⟩ := List.getElem_of_mem ham
          refine h2 i hi _ (List.getElem?_eq_getElem hi) fun c hc => ?_
          cases hq : wl f1 c with
          | nil => rfl
          | cons d _ => exact absurd (show En f1 c d by unfold En; rw [hq]; simp) (hb1 c hc d)
      refine IfB.no (by dsimp only; rw [hT]; rfl) ⟨rfl, n - 1, by omega, j + 1, wp1 (by omega), by omega, p1, f1, (H44.ext e47).ext eW1, hac1, by omega, (hCW.then e47 fun _ _ h => h.elim).then eW1 fun _ _ h => h.elim, hfoot1⟩
end Go.Proofs.Ytopecljhehcldaa.Gx
