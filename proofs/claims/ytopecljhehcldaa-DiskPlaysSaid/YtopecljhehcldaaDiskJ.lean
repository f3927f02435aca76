/- Package disk: what laws use: reads, writes, syncs, crashes as steps; the document's examples. -/
import Derived.Test.YtopecljhehcldaaDkA
namespace Go.Proofs.Ytopecljhehcldaa.Gx
open Go
set_option linter.unusedSimpArgs false
set_option linter.unusedVariables false

theorem rd_bools {A : Nat → Prop} {w : World} {l : List Bool} {t : Sl} (h : rep A w (.sl .bool) l [slV t]) : Rd w t 1 (l.map Value.bool) := by
  obtain ⟨s, hs, h1, h2, h3, h4, css, h5, h6, h7⟩ := h
  have := slEq hs
  subst this
  have e : css.flatten = l.map Value.bool := by
    have : css = l.map fun b => [Value.bool b] := by
      apply List.ext_getElem?
      intro i
      rw [List.getElem?_map]
      by_cases hi : i < l.length
      · have hc : css[i]? = some (css[i]'(by omega)) := List.getElem?_eq_getElem (by omega)
        have hx : l[i]? = some l[i] := List.getElem?_eq_getElem hi
        have := h6 i _ _ hc hx
        rw [hc, hx, show css[i] = _ from this]; rfl
      · rw [List.getElem?_eq_none (by omega), List.getElem?_eq_none (by omega)]; rfl
    rw [this]
    clear h6 h7 this h5 h1
    induction l with
    | nil => rfl
    | cons x l ih => simpa using ih
  rw [← e]; exact h7

theorem xs_few {f : List (Int × Sec)} {xs : List Int} (hp : xs.Perm (f.map (·.1))) : ∀ k, k ∈ xs ↔ getM f k ≠ none := fun k => (hp.mem_iff).trans getM_key

/-- What lasts behind a crash or a sync. -/
theorem lsAt_get {f : List (Int × Sec)} {ans : Nat → Bool} {xs : List Int} {ls : List Sec} (hx : ∀ k ∈ xs, 0 ≤ k ∧ k < (ls.length : Int)) (hn : xs.Nodup) : ∀ j, j ≤ xs.length → ∀ i : Nat,
    (lsAt f ans xs ls j)[i]? = if ∃ m, m < j ∧ xs[m]? = some (i : Int) ∧ ans m = true then some ((getM f (i : Int)).getD sec0) else ls[i]?
  | 0, _, i => by simp [lsAt]
  | j + 1, hj, i => by
    have hg := g_eq (xs := xs) (i := j) (by omega)
    have hr := hx _ (List.mem_of_getElem? hg)
    have ih := lsAt_get (f := f) (ans := ans) hx hn j (by omega) i
    unfold lsAt
    by_cases ha : ans j = true
    · rw [if_pos ha, List.getElem?_set, lsAt_len, ih]
      by_cases hi : (g xs j).toNat = i
      · have e : g xs j = (i : Int) := by omega
        rw [if_pos hi, if_pos (by omega), if_pos ⟨j, by omega, by rw [hg, e], ha⟩, e]
      · rw [if_neg hi]
        by_cases hm : ∃ m, m < j ∧ xs[m]? = some (i : Int) ∧ ans m = true
        · obtain ⟨m, h1, h2⟩ := hm
          rw [if_pos ⟨m, h1, h2⟩, if_pos ⟨m, by omega, h2⟩]
        · rw [if_neg hm, if_neg]
          rintro ⟨m, h1, h2, h3⟩
          by_cases hmj : m = j
          · subst hmj
            rw [hg] at h2
            have := Option.some.inj h2
            omega
          · exact hm ⟨m, by omega, h2, h3⟩
    · rw [if_neg ha, ih]
      by_cases hm : ∃ m, m < j ∧ xs[m]? = some (i : Int) ∧ ans m = true
      · obtain ⟨m, h1, h2⟩ := hm
        rw [if_pos ⟨m, h1, h2⟩, if_pos ⟨m, by omega, h2⟩]
      · rw [if_neg hm, if_neg]
        rintro ⟨m, h1, h2, h3⟩
        by_cases hmj : m = j
        · subst hmj; exact ha h3
        · exact hm ⟨m, by omega, h2, h3⟩

theorem Mp.nodup {β : Type} {enc : β → Value} {w : World} {r : Nat} {f : List (Int × β)} (h : Mp enc w r f) : (f.map (·.1)).Nodup := by
  obtain ⟨es, ck, h1, h2, h3, h4⟩ := h
  exact h3

def secI (x : Sec) : List Int := [x.1, x.2.1, x.2.2.1, x.2.2.2.1, x.2.2.2.2.1, x.2.2.2.2.2.1, x.2.2.2.2.2.2.1, x.2.2.2.2.2.2.2]
theorem secI_eq {x y : Sec} : (secI x == secI y) = true ↔ x = y := by
  obtain ⟨a1, a2, a3, a4, a5, a6, a7, a8⟩ := x
  obtain ⟨b1, b2, b3, b4, b5, b6, b7, b8⟩ := y
  simp [secI]
theorem eqSec (x y : Sec) : EqAt Try.prog 67 (secV x) (secV y) (secI x == secI y) :=
  eqAt_ints tbOk (ti := tt67) (e := 22) (te := tt22) (k := .u64) (k' := .u64) (n := 8) (xs := secI x) (ys := secI y) rfl rfl rfl rfl rfl rfl rfl (by kernel_rfl)
theorem eqSecY (x : Sec) : EqAt Try.prog 67 (secV x) (secV x) true := by
  have := eqSec x x
  rwa [secI_eq.2 rfl] at this

/-- A sector in a box of its own. -/
theorem boxSec {w : World} {x : Sec} {z : Array Value} {T : TypeId} (hz : z.size = 8) {K : Nat → World → Prop} (hK : ∀ b w', w.heap.size ≤ b → CellsAt w' b 0 (secL x) → w'.heap[b]? = some (.cells (secL x).toArray T (0, 0)) → Ext w w' → K b w') :
    AllocP w (.cells z T) fun b w2 => (secL x).toArray.size = 8 ∧ StoreP w2 b 0 (secL x) (K b) := by
  intro b w2 h2
  refine ⟨rfl, store_all (vs := secL x) h2.new (by rw [hz]; rfl) (secL_one _) fun w3 h3 => hK b w3 ?_ (sec_at h3.new) h3.new (Ext.fresh h2 h3)⟩
  exact Nat.le_of_eq h2.here.symm

section
variable {w : World} {b : Nat} {s : Sl} {r : Nat} {ls : List Sec} {f : List (Int × Sec)} {wr sy : Int}

/-- A write. -/
theorem stWrite (h : Dk w b s r ls f wr sy) (i : Int) (x : Sec) {K : World → Prop}
    (hK : ∀ w' f' wr', (∀ k, getM f' k = if i = k ∧ 0 ≤ i ∧ i < (ls.length : Int) then some x else getM f k) → Dk w' b s r ls f' wr' sy → Ch (inDk b s r) w w' → K w') :
    CX Try.prog 37 #[.pointer (some ⟨b, 0, none⟩), iv i, secV x] w fun v w' => ∃ n : Int, v = .int .i64 n ∧ K w' := by
  refine (c37 h i x).use ?_
  intro v w' hR
  by_cases hi : 0 ≤ i ∧ i < (ls.length : Int)
  · rw [if_pos hi] at hR
    obtain ⟨rfl, ⟨f', hf, hD⟩, hC⟩ := hR
    refine ⟨0, rfl, hK w' f' _ (fun k => ?_) hD (hC.mono fun j _ hj => hj.elim .inl fun e => .inr (.inl e))⟩
    rw [hf]
    by_cases hk : i = k
    · rw [if_pos hk, if_pos ⟨hk, hi⟩]
    · rw [if_neg hk, if_neg fun h => hk h.1]
  · rw [if_neg hi] at hR
    obtain ⟨rfl, hC⟩ := hR
    refine ⟨3, rfl, hK w' f _ (fun k => ?_) (h.ext hC) (hC.mono fun _ _ h => h.elim)⟩
    rw [if_neg fun h => hi h.2]

/-- A sync: what is read lasts. -/
theorem stSync (h : Dk w b s r ls f wr sy) {K : World → Prop}
    (hK : ∀ w' ls', ls'.length = ls.length → (∀ i : Nat, i < ls.length → ls'[i]? = some (rdD ls f i)) → Dk w' b s r ls' [] wr (IntKind.i64.wrap (sy + 1)) → Ch (inDk b s r) w w' → K w') :
    CX Try.prog 38 #[.pointer (some ⟨b, 0, none⟩)] w fun v w' => ∃ u : Unit, v = .tuple #[] ∧ K w' := by
  refine (c38 h).use ?_
  rintro v w' ⟨rfl, xs, hp, hs, hD, hC⟩
  refine ⟨(), rfl, hK w' _ (lsAt_len ..) (fun i hi => ?_) hD hC⟩
  have hx : ∀ k ∈ xs, 0 ≤ k ∧ k < (ls.length : Int) := fun k hk => by
    obtain ⟨q, hq, rfl⟩ := List.mem_map.1 (hp.mem_iff.1 hk)
    exact h.rng q hq
  rw [lsAt_true (fun _ _ => rfl) hx _ (Nat.le_refl _), List.take_length]
  unfold rdD
  by_cases hm : (i : Int) ∈ xs
  · rw [if_pos hm]
    cases hg : getM f (i : Int) with
    | none => exact absurd hg ((xs_few hp _).1 hm)
    | some v => rfl
  · rw [if_neg hm]
    have : getM f (i : Int) = none := Classical.byContradiction fun h => hm ((xs_few hp _).2 h)
    rw [this, Int.toNat_natCast, List.getElem?_eq_getElem hi]; rfl

/-- A crash, of which a list says what it keeps. -/
theorem stCrash (h : Dk w b s r ls f wr sy) {t : Sl} {l : List Bool} (hr : Rd w t 1 (l.map Value.bool)) (ht : 0 < t.n → ∀ i ∈ blk t, i < w.heap.size ∧ ¬ inDk b s r i) {K : World → Prop}
    (hK : ∀ w' xs, xs.Perm (f.map (·.1)) → xs.Pairwise (· ≤ ·) → xs.Nodup → (∀ k ∈ xs, 0 ≤ k ∧ k < (ls.length : Int)) → Dk w' b s r (lsAt f (ansL l) xs ls xs.length) [] wr sy → Ch (inDk b s r) w w' → K w') :
    CX Try.prog 40 #[slV t] w fun v w1 => ∃ x : Nat × Array Value, v = .func (.func x.1) #[] x.2 ∧ CX Try.prog 39 #[.pointer (some ⟨b, 0, none⟩), .func (.func x.1) #[] x.2] w1 fun v w' => ∃ u : Unit, v = .tuple #[] ∧ K w' := by
  refine (c40 t w).use ?_
  rintro v w1 ⟨bn, bl, T1, T2, rfl, hn, hl, hne, h1, h2, e1⟩
  refine ⟨(79, _), rfl, (c39 (h.ext e1) hn hl hne (hr.ext e1) (fun h0 hi => ?_) (fun hi => ?_) (fun hi => ?_) (fun h0 i hi => (ht h0 i hi).2)).use ?_⟩
  · have := (ht h0 _ hi).1; omega
  · have := h.lt hi; omega
  · have := h.lt hi; omega
  · rintro v w' ⟨rfl, xs, hp, hs, hD, hC⟩
    refine ⟨(), rfl, hK w' xs hp hs (hp.nodup_iff.2 h.map.nodup) (fun k hk => ?_) hD (e1.mono (fun _ _ h => h.elim) |>.then hC fun i hi h' => h'.elim id fun e => by omega)⟩
    obtain ⟨q, hq, rfl⟩ := List.mem_map.1 (hp.mem_iff.1 hk)
    exact h.rng q hq

/-- A crash that keeps nothing. -/
theorem stCrash0 (h : Dk w b s r ls f wr sy) {K : World → Prop} (hK : ∀ w', Dk w' b s r ls [] wr sy → Ch (inDk b s r) w w' → K w') :
    CX Try.prog 40 #[.slice none 0 0] w fun v w1 => ∃ x : Nat × Array Value, v = .func (.func x.1) #[] x.2 ∧ CX Try.prog 39 #[.pointer (some ⟨b, 0, none⟩), .func (.func x.1) #[] x.2] w1 fun v w' => ∃ u : Unit, v = .tuple #[] ∧ K w' :=
  stCrash (t := ⟨none, 0, 0⟩) (l := []) h ⟨rfl, rfl⟩ (fun h => absurd h (Nat.lt_irrefl _)) fun w' xs _ _ _ _ hD hC => by
    rw [lsAt_false (fun j => by unfold ansL; rfl)] at hD
    exact hK w' hD hC

/-- A read, its answer in a box. -/
theorem stRead (h : Dk w b s r ls f wr sy) {i : Int} (hi : 0 ≤ i ∧ i < (ls.length : Int)) {K : Sec × Int → World → Prop} (hK : ∀ w', Ext w w' → K (rdD ls f i, 0) w') :
    CX Try.prog 41 #[.pointer (some ⟨b, 0, none⟩), iv i] w fun v w' => ∃ x : Sec × Int, v = .tuple #[secV x.1, .int .i64 x.2] ∧ K x w' := by
  refine (c41 h i).use ?_
  rintro v w' ⟨rfl, e⟩
  rw [if_pos hi, if_pos hi]
  exact ⟨_, rfl, hK w' e⟩
theorem stNew {n : Nat} (hn : 1 ≤ n ∧ n ≤ 4096) (w : World) {K : Option Addr → World → Prop} (hK : ∀ w' b s r, Dk w' b s r (List.replicate n sec0) [] 0 0 → Ext w w' → (∀ i, inDk b s r i → w.heap.size ≤ i) → K (some ⟨b, 0, none⟩) w') :
    CX Try.prog 36 #[iv n] w fun v w' => ∃ p : Option Addr, v = .pointer p ∧ K p w' := by
  refine (c36 hn w).use ?_
  rintro v w' ⟨b, s, r, rfl, hD, e, hb⟩
  exact ⟨_, rfl, hK w' b s r hD e hb⟩
end
abbrev sec7 : Sec := (7, 0, 0, 0, 0, 0, 0, 0)
theorem c35 (w : World) : CW Try.prog 35 #[] w fun v w' => v = .bool true ∧ Ext w w' := by
  refine F35_ok w _ (stNew (n := 2) (by omega) w fun w2 b s r hD e2 hb => IfB.no rfl ?_)
  unfold F35k1
  refine boxSec (x := sec7) rfl fun b4 w6 p6 c6 _ e6 => ⟨sec7, c6, stWrite (hD.ext e6) 0 sec7 fun w9 f1 wr1 hf1 hD1 hC1 => ?_⟩
  refine stCrash0 hD1 fun w15 hD2 hC2 => stRead hD2 (by simp) fun w18 e18 => ?_
  have D18 := hD2.ext e18
  have base : Ch (fun i => w.heap.size ≤ i) w w18 := ((((e2.trans e6).mono fun _ _ h => h.elim).then hC1 fun i _ hi => hb i hi).then hC2 fun i _ hi => hb i hi).then e18 fun _ _ h => h.elim
  have nb4 : ¬ inDk b s r b4 := fun h => by have := hD.lt h; omega
  have C18 : CellsAt w18 b4 0 (secL sec7) := ((c6.ch hC1 nb4).ch hC2 nb4).ch e18 id
  refine boxSec (x := rdD (List.replicate 2 sec0) [] 0) rfl fun b20 w22 p20 c20 _ e22 => ?_
  have C22 := C18.ch e22 id
  refine ⟨sec7, C22, stWrite (D18.ext e22) 0 sec7 fun w25 f3 wr3 hf3 hD3 hC3 => ?_⟩
  have z22 := base.size
  have n20 : ¬ inDk b s r b20 := fun h => by have := D18.lt h; omega
  refine stSync hD3 fun w28 ls4 hl4 hg4 hD4 hC4 => stCrash0 hD4 fun w34 hD5 hC5 => stRead hD5 (by rw [hl4]; simp) fun w37 e37 => ?_
  have C37 : CellsAt w37 b4 0 (secL sec7) := (((C22.ch hC3 nb4).ch hC4 nb4).ch hC5 nb4).ch e37 id
  have c37' : CellsAt w37 b20 0 (secL (rdD (List.replicate 2 sec0) [] 0)) := (((c20.ch hC3 n20).ch hC4 n20).ch hC5 n20).ch e37 id
  have base2 : Ch (fun i => w.heap.size ≤ i) w w37 := ((((base.then e22 fun _ _ h => h.elim).then hC3 fun i _ hi => hb i hi).then hC4 fun i _ hi => hb i hi).then hC5 fun i _ hi => hb i hi).then e37 fun _ _ h => h.elim
  refine boxSec (x := rdD ls4 [] 0) rfl fun b39 w41 p39 c39 _ e41 => ?_
  have r4 : rdD ls4 [] 0 = sec7 := by
    have := hg4 0 (by simp)
    unfold rdD at this ⊢
    rw [getM_nil]
    dsimp only
    rw [hf3, if_pos (by simp)] at this
    rw [show (0 : Int).toNat = 0 from rfl, this]; rfl
  rw [r4] at c39
  refine IfB.yes rfl (IfB.yes rfl ⟨sec0, c37'.ch e41 id, true, eqSecY sec0, IfB.yes rfl ⟨sec7, c39, sec7, C37.ch e41 id, true, eqSecY sec7, IfB.yes rfl ⟨rfl, ?_⟩⟩⟩)
  have := base2.then e41 fun _ _ h => h.elim
  exact this.mono fun i hi h => by omega
end Go.Proofs.Ytopecljhehcldaa.Gx
