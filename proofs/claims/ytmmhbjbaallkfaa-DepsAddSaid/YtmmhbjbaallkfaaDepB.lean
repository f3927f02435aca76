/- Package deps: on, Of. -/
import Derived.Test.YtmmhbjbaallkfaaDepA
namespace Go.Proofs.Ytmmhbjbaallkfaa.Gx
open Go
set_option linter.unusedSimpArgs false
set_option linter.unusedVariables false

/-! ### The law -/
/-- i depends on k. -/
abbrev Dp (hs : List Nd) : Nat → Nat → Prop := TC (EdP hs)
theorem Dp_lt {hs : List Nd} {i k : Nat} (h : Dp hs i k) : k < i := by
  induction h with
  | one h => exact h.1
  | more _ h ih => exact Nat.lt_trans h.1 ih
structure RowOf (hs : List Nd) (i : Nat) (xs : List Int) : Prop where
  srt : xs.Pairwise (· < ·)
  mem : ∀ k : Int, k ∈ xs ↔ ∃ k' : Nat, k = (k' : Int) ∧ Dp hs i k'
theorem sorted_nodup {xs : List Int} (h : xs.Pairwise (· < ·)) : xs.Nodup := h.imp fun h e => by omega
theorem RowOf.len {hs : List Nd} {i : Nat} {xs : List Int} (h : RowOf hs i xs) : xs.length ≤ i := by
  have := nodup_le (a := xs) (b := (List.range i).map fun k : Nat => (k : Int)) (sorted_nodup h.srt) fun k hk => by
    obtain ⟨k', rfl, hd⟩ := (h.mem k).1 hk
    exact List.mem_map.2 ⟨k', List.mem_range.2 (Dp_lt hd), rfl⟩
  simpa using this
theorem sorted_ext : ∀ {xs ys : List Int}, xs.Pairwise (· < ·) → ys.Pairwise (· < ·) → (∀ k, k ∈ xs ↔ k ∈ ys) → xs = ys
  | [], [], _, _, _ => rfl
  | [], y :: ys, _, _, h => by have := (h y).2 (by simp); cases this
  | x :: xs, [], _, _, h => by have := (h x).1 (by simp); cases this
  | x :: xs, y :: ys, hx, hy, h => by
    rw [List.pairwise_cons] at hx hy
    have e : x = y := by
      rcases List.mem_cons.1 ((h x).1 (by simp)) with e | e
      · exact e
      · rcases List.mem_cons.1 ((h y).2 (by simp)) with e' | e'
        · exact e'.symm
        · have := hx.1 _ e'; have := hy.1 _ e; omega
    subst e
    refine congrArg _ (sorted_ext hx.2 hy.2 fun k => ?_)
    constructor
    · intro hk
      rcases List.mem_cons.1 ((h k).1 (List.mem_cons_of_mem _ hk)) with e | e
      · have := hx.1 _ hk; omega
      · exact e
    · intro hk
      rcases List.mem_cons.1 ((h k).2 (List.mem_cons_of_mem _ hk)) with e | e
      · have := hy.1 _ hk; omega
      · exact e
theorem RowOf.uniq {hs : List Nd} {i : Nat} {xs ys : List Int} (h : RowOf hs i xs) (k : RowOf hs i ys) : xs = ys :=
  sorted_ext h.srt k.srt fun a => (h.mem a).trans (k.mem a).symm

/-- What was found behind j and at it. -/
def FsP (hs : List Nd) (len j : Nat) (k : Int) : Prop := ∃ m k' : Nat, k = (k' : Int) ∧ j ≤ m ∧ EdP hs len m ∧ (k' = m ∨ Dp hs m k')
theorem FsP_top {hs : List Nd} {len : Nat} (k : Int) : ¬ FsP hs len len k := fun ⟨m, _, _, h, h2, _⟩ => by have := h2.1; omega
theorem FsP_zero {hs : List Nd} {len : Nat} (k : Int) : FsP hs len 0 k ↔ ∃ k' : Nat, k = (k' : Int) ∧ Dp hs len k' := by
  constructor
  · rintro ⟨m, k', rfl, _, h, rfl | h'⟩
    · exact ⟨_, rfl, .one h⟩
    · exact ⟨_, rfl, (TC.one h).trans h'⟩
  · rintro ⟨k', rfl, h⟩
    obtain ⟨c, hc, h⟩ := h.first
    exact ⟨c, k', rfl, Nat.zero_le _, hc, h.imp Eq.symm id⟩
theorem FsP_mono {hs : List Nd} {len j : Nat} {k : Int} (h : FsP hs len (j + 1) k) : FsP hs len j k := by
  obtain ⟨m, k', h1, h2, h3⟩ := h
  exact ⟨m, k', h1, by omega, h3⟩
theorem FsP_found {hs : List Nd} {len j : Nat} (h : FsP hs len (j + 1) (j : Int)) (k : Int) : FsP hs len j k ↔ FsP hs len (j + 1) k := by
  refine ⟨fun ⟨m, k', h1, h2, h3, h4⟩ => ?_, FsP_mono⟩
  by_cases hm : m = j
  · subst hm
    obtain ⟨m0, j', e, h5, h6, h7⟩ := h
    have e : j' = m := by omega
    subst e
    rcases h7 with h7 | h7
    · omega
    · refine ⟨m0, k', h1, h5, h6, .inr ?_⟩
      rcases h4 with rfl | h4
      · exact h7
      · exact h7.trans h4
  · exact ⟨m, k', h1, by omega, h3, h4⟩
theorem FsP_not {hs : List Nd} {len j : Nat} (h : ¬ EdP hs len j) (k : Int) : FsP hs len j k ↔ FsP hs len (j + 1) k := by
  refine ⟨fun ⟨m, k', h1, h2, h3, h4⟩ => ⟨m, k', h1, ?_, h3, h4⟩, FsP_mono⟩
  have : m ≠ j := fun e => h (e ▸ h3)
  omega
theorem FsP_add {hs : List Nd} {len j : Nat} (h : EdP hs len j) (k : Int) : FsP hs len j k ↔ FsP hs len (j + 1) k ∨ k = (j : Int) ∨ ∃ k' : Nat, k = (k' : Int) ∧ Dp hs j k' := by
  constructor
  · rintro ⟨m, k', h1, h2, h3, h4⟩
    by_cases hm : m = j
    · subst hm
      rcases h4 with rfl | h4
      · exact .inr (.inl h1)
      · exact .inr (.inr ⟨k', h1, h4⟩)
    · exact .inl ⟨m, k', h1, by omega, h3, h4⟩
  · rintro (h' | h' | ⟨k', h1, h2⟩)
    · exact FsP_mono h'
    · exact ⟨j, j, h', Nat.le_refl _, h, .inl rfl⟩
    · exact ⟨j, k', h1, Nat.le_refl _, h, .inr h2⟩

/-! ### A map of what was found -/
def Fnd (W : World) (r : Nat) (P : Int → Prop) : Prop := ∃ f : List (Int × Bool), Mp encB W r f ∧ ∀ k, (getM f k = some true ∧ P k) ∨ (getM f k = none ∧ ¬ P k)
theorem Fnd.iff {W : World} {r : Nat} {P Q : Int → Prop} (h : Fnd W r P) (hq : ∀ k, Q k ↔ P k) : Fnd W r Q := by
  obtain ⟨f, h1, h2⟩ := h
  exact ⟨f, h1, fun k => (h2 k).imp (fun h => ⟨h.1, (hq k).2 h.2⟩) fun h => ⟨h.1, fun h' => h.2 ((hq k).1 h')⟩⟩
theorem Fnd.ch {F : Nat → Prop} {W W' : World} {r : Nat} {P : Int → Prop} (h : Fnd W r P) (hc : Ch F W W') (hF : ¬ F r) : Fnd W' r P := by
  obtain ⟨f, h1, h2⟩ := h
  exact ⟨f, h1.ch hc hF, h2⟩
theorem Fnd.ext {W W' : World} {r : Nat} {P : Int → Prop} (h : Fnd W r P) (hc : Ext W W') : Fnd W' r P := h.ch hc id
theorem Fnd.stb {n : Nat} {W W' : World} {r : Nat} {P : Int → Prop} (h : Fnd W r P) (hc : Stb n W W') : Fnd W' r P := by
  obtain ⟨f, h1, h2⟩ := h
  exact ⟨f, h1.stb hc, h2⟩
theorem Fnd.put {W : World} {r b : Nat} {P : Int → Prop} (h : Fnd W r P) (k : Int) (hb : ∃ T, W.heap[b]? = some (.cells #[.map (some r)] T (0, 0))) :
    CW Try.prog 55 #[iv k, .pointer (some ⟨b, 0, none⟩)] W fun v w' => v = .tuple #[] ∧ Fnd w' r (fun k' => P k' ∨ k' = k) ∧ Ch (fun i => i = r) W w' := by
  obtain ⟨f, h1, h2⟩ := h
  refine (c55 k hb h1).mono ?_
  rintro _ w' ⟨rfl, f', hf', hM, hC⟩
  refine ⟨rfl, ⟨f', hM, fun k' => ?_⟩, hC⟩
  rw [hf']
  by_cases hk : k = k'
  · rw [if_pos hk]; exact .inl ⟨rfl, .inr hk.symm⟩
  · rw [if_neg hk]
    exact (h2 k').imp (fun h => ⟨h.1, .inl h.2⟩) fun h => ⟨h.1, fun h' => h'.elim h.2 fun e => hk e.symm⟩

theorem mpKeys {β : Type} {enc : β → Value} {w : World} {r : Nat} {f : List (Int × β)} (h : Mp enc w r f) : ∃ es ck, w.heap[r]? = some (.map es ck) ∧ KeysE (some (r, es, ck)) (f.map (·.1)) := by
  obtain ⟨es, ck, h1, h2, h3, h4, h5⟩ := h
  refine ⟨es, ck, h1, ?_, h3, h4, h5⟩
  have := congrArg (List.map Prod.fst) h2
  rw [List.map_map, List.map_map] at this
  rw [List.map_map]; exact this
theorem pw_le_lt {xs : List Int} (h : xs.Pairwise (· ≤ ·)) (hn : xs.Nodup) : xs.Pairwise (· < ·) := (h.and hn).imp fun ⟨h1, h2⟩ => by omega

/-- The keys that were found, in their order. -/
theorem Fnd.keys {W : World} {r n : Nat} {P : Int → Prop} (h : Fnd W r P) (hP : ∀ k, P k → 0 ≤ k ∧ k < (n : Int)) (hn : n ≤ 1000000) {K : Value → World → Prop}
    (hK : ∀ (t : Sl) (xs : List Int) (w' : World), xs.Pairwise (· < ·) → (∀ k, k ∈ xs ↔ P k) → OwS w' t 1 (xs.map iv) → Ext W w' → (∀ j ∈ blk t, W.heap.size ≤ j) → K (slV t) w') :
    CX Try.prog 58 #[.map (some r)] W fun v w1 => ∃ x : Nat × Array Value, v = .func (.func x.1) #[] x.2 ∧ CX Try.prog 57 #[.func (.func x.1) #[] x.2] w1 K := by
  obtain ⟨f, h1, h2⟩ := h
  obtain ⟨es, ck, hr, hks⟩ := mpKeys h1
  have hnd : (f.map (·.1)).Nodup := hks.2.1
  have hkm : ∀ k, k ∈ f.map (·.1) ↔ P k := fun k => by
    rw [getM_key]
    rcases h2 k with ⟨e, h⟩ | ⟨e, h⟩
    · simp [e, h]
    · simp [e, h]
  have hlen : (f.map (·.1)).length ≤ 1000000 := by
    have := nodup_le (a := f.map (·.1)) (b := (List.range n).map fun k : Nat => (k : Int)) hnd fun k hk => by
      have := hP k ((hkm k).1 hk)
      exact List.mem_map.2 ⟨k.toNat, List.mem_range.2 (by omega), by omega⟩
    simp at this
    simp; omega
  refine CW.use (F58_ok (some r) W (fun v w' => ∃ b1 T, v = .func (.func 72) #[] #[.pointer (some ⟨b1, 0, none⟩)] ∧ IsAlloc W (.cells #[.map (some r)] T (0, 0)) b1 w') fun b1 w' a => ⟨b1, _, rfl, a⟩) ?_
  rintro _ w5 ⟨b1, T, rfl, a5⟩
  have e5 : Ext W w5 := a5.ch _
  have hKI : KeysI b1 (some (r, es, ck)) w5 := ⟨⟨T, a5.new⟩, e5.at hr⟩
  refine ⟨(72, _), rfl, (sorted_of (it72 hKI hks hlen)).use ?_⟩
  rintro _ w8 ⟨t, xs, ys, rfl, hp, hp2, _, hs, ho, e8, hb⟩
  have hpp := hp2.trans hp
  exact hK t xs w8 (pw_le_lt hs (hpp.nodup_iff.2 hnd)) (fun k => hpp.mem_iff.trans (hkm k)) ho (e5.trans e8) fun j hj => by have := hb j hj; have := e5.size; omega

/-! ### Lists of lists of ints -/
abbrev RwL := Sl × List Int
abbrev hR (x : RwL) : Value := slV x.1
structure Rws (w : World) (t : Sl) (rows : List RwL) : Prop where
  rd : Rd w t 1 (rows.map hR)
  row : ∀ r ∈ rows, Rd w r.1 1 (r.2.map iv)
theorem Rws.ext {w w' : World} {t : Sl} {rows : List RwL} (h : Rws w t rows) (e : Ext w w') : Rws w' t rows := ⟨h.rd.ext e, fun r hr => (h.row r hr).ext e⟩
theorem Rws.n {w : World} {t : Sl} {rows : List RwL} (h : Rws w t rows) : t.n = rows.length := by rw [h.rd.len1, List.length_map]
theorem Rws.at {w : World} {t : Sl} {rows : List RwL} (h : Rws w t rows) {i : Nat} {x : RwL} (hx : rows[i]? = some x) : (∃ b o, t.p = some ⟨b, o, none⟩ ∧ w.cell? ⟨b, o + i, none⟩ = some (slV x.1)) ∧ Rd w x.1 1 (x.2.map iv) ∧ x.1.n = x.2.length := by
  have hr := h.row x (List.mem_of_getElem? hx)
  refine ⟨h.rd.elem1 (i := i) (v := hR x) (by rw [List.getElem?_map, hx]; rfl), hr, by rw [hr.len1, List.length_map]⟩

theorem c37 {w : World} {tl t : Sl} {rows : List RwL} {hs : List Nd} {n : Nd} (hL : Rws w tl rows) (hH : Hst w t hs) (hn : NdOk w n) (hrl : rows.length = hs.length) (hrow : ∀ i x, rows[i]? = some x → RowOf (hs ++ [n]) i x.2) :
    CW Try.prog 37 #[slV tl, slV t, ndV n.v] w fun v w' => ∃ t' xs, v = slV t' ∧ RowOf (hs ++ [n]) hs.length xs ∧ OwS w' t' 1 (xs.map iv) ∧ Ext w w' ∧ ∀ j ∈ blk t', w.heap.size ≤ j := by
  have hlen := hH.len
  have hsn := hH.n
  have hln := hL.n
  have hEd : ∀ i x, hs[i]? = some x → (EdP (hs ++ [n]) hs.length i ↔ dirP n x) := fun i x hx => by
    have hi := (List.getElem?_eq_some_iff.1 hx).1
    unfold EdP
    rw [List.getElem?_append_right (Nat.le_refl _), Nat.sub_self, List.getElem?_append_left hi, hx]
    constructor
    · rintro ⟨_, a, b, ha, hb, hd⟩
      cases ha; cases hb; exact hd
    · exact fun hd => ⟨hi, n, x, rfl, rfl, hd⟩
  refine F37_ok tl t n.v w _ fun b1 w2 a2 b3 w4 a4 b5 w6 a6 b7 w8 a8 => ⟨rfl, store_one a8.new (by simp) rfl fun w9 u9 b10 w11 a11 => ⟨rfl, store_one a11.new (by simp) rfl fun w12 u12 => ?_⟩⟩
  have z2 := a2.size; have z4 := a4.size; have z6 := a6.size; have z8 := a8.size; have z9 := u9.size; have z11 := a11.size; have z12 := u12.size
  have p2 := a2.here; have p4 := a4.here; have p6 := a6.here; have p8 := a8.here; have p11 := a11.here
  have x8 : Ext w w8 := (((a2.ch _).trans (a4.ch _)).trans (a6.ch _)).trans (a8.ch _)
  have x9 : Ext w w9 := x8.chN u9.ch fun i e => by omega
  have x12 : Ext w w12 := (x9.trans (a11.ch _)).chN u12.ch fun i e => by omega
  refine (c56 t w12).use ?_
  rintro _ w14 ⟨pb, T, rfl, a14⟩
  have p14 := a14.here; have z14 := a14.size
  have x14 : Ext w w14 := x12.trans (a14.ch _)
  have c14 : Ext w12 w14 := a14.ch _
  have k1 : w14.heap[b1]? = some (.cells #[slV tl] 29 (0, 0)) := c14.at (u12.at (a11.at (u9.at (a8.at (a6.at (a4.at a2.new))) (by omega))) (by omega))
  have k3 : w14.heap[b3]? = some (.cells (nC n.v).toArray 27 (0, 0)) := c14.at (u12.at (a11.at (u9.at (a8.at (a6.at a4.new)) (by omega))) (by omega))
  have k7 : w14.heap[b7]? = some (.cells #[.map (some b5)] 70 (0, 0)) := c14.at (u12.at (a11.at u9.new) (by omega))
  have k10 : w14.heap[b10]? = some (.cells #[.func (.func 55) #[] #[.pointer (some ⟨b7, 0, none⟩)]] 73 (0, 0)) := c14.at u12.new
  have hF0 : Fnd w14 b5 (FsP (hs ++ [n]) hs.length hs.length) := ⟨[], ((((Mp.new a6).ext (a8.ch _)).ch u9.ch (by omega)).ext (a11.ch _)).ch (u12.ch.then c14 fun _ _ h => h.elim) (by omega), fun k => .inr ⟨rfl, FsP_top k⟩⟩
  refine ⟨(70, #[.pointer (some ⟨pb, 0, none⟩)]), rfl, fun g => ?_⟩
  obtain ⟨vs, hvs⟩ : ∃ vs, vs = hs.map (·.v) := ⟨_, rfl⟩
  have hvl : vs.length = hs.length := by rw [hvs, List.length_map]
  have hvf : hs.flatMap nL = vs.flatMap nC := by rw [hvs, List.flatMap_map]
  let G : List (Int × NdV) → World → Prop := fun pre W => pre.length ≤ hs.length ∧ InvB pb t vs W ∧ Fnd W b5 (FsP (hs ++ [n]) hs.length (hs.length - pre.length)) ∧
    (W.heap[b1]? = some (.cells #[slV tl] 29 (0, 0)) ∧ W.heap[b3]? = some (.cells (nC n.v).toArray 27 (0, 0)) ∧ W.heap[b7]? = some (.cells #[.map (some b5)] 70 (0, 0)) ∧ W.heap[b10]? = some (.cells #[.func (.func 55) #[] #[.pointer (some ⟨b7, 0, none⟩)]] 73 (0, 0))) ∧ Ext w W
  refine range_none tbOk mixed (gf := 70) (lb := #[.pointer (some ⟨pb, 0, none⟩)]) rfl (itB pb t vs (by omega)) R37_0ok1 R37_0ok2 R37_0okp (fun _ => rfl) G (fun _ _ _ => False) ?_ (fun _ _ _ _ h => h.elim) ?_ (fun h => by cases h) ?_ ?_ ?_ (fun _ _ _ h => h.elim)
  · rintro pre A B ⟨h1, h2, h3, ⟨q1, q3, q7, q10⟩, h4⟩ hS
    exact ⟨h1, h2.stb hS, h3.stb hS, ⟨hS.keep _ _ q1 rfl, hS.keep _ _ q3 rfl, hS.keep _ _ q7 rfl, hS.keep _ _ q10 rfl⟩, h4.stbE hS (by omega)⟩
  · rintro pre W ⟨_, h, _⟩; exact h
  · exact ⟨Nat.zero_le _, ⟨⟨T, a14.new⟩, by rw [← hvf]; exact hH.rd.ext x14⟩, hF0, ⟨k1, k3, k7, k10⟩, x14⟩
  · rintro pre ⟨xi, xv⟩ W ⟨hpl, hIB, hFn, ⟨q1, q3, q7, q10⟩, hX⟩ ⟨i, hi, hxi, hxv⟩ hW
    dsimp only at hxi hxv
    subst hxi
    have hi' : i < hs.length := by omega
    have hnd : hs[i]? = some hs[i] := List.getElem?_eq_getElem hi'
    generalize hs[i] = nd at hnd
    have hxe : xv = nd.v := by
      rw [hvs, List.getElem?_map, hnd] at hxv
      exact (Option.some.inj hxv).symm
    subst hxe
    have hj1 : hs.length - pre.length = i + 1 := by omega
    have hj0 : hs.length - (pre ++ [((i : Int), nd.v)]).length = i := by simp; omega
    rw [hj1] at hFn
    refine F37b0_ok b1 b3 ⟨none, 0, 0⟩ b7 b10 (70, #[.pointer (some ⟨pb, 0, none⟩)]) (i : Int) nd.v _ _ _ _ _ W ?_
    refine boxNd rfl fun bb w3 hbb hs3 h3 e3 hS3 => ⟨rfl, ⟨e3.old _ (by omega) id, e3.old _ (by omega) id⟩, fun w12' hS hIt hL' => ?_⟩
    have zS := hS.size
    have e12 : Ext w w12' := (hX.trans e3).stbE hS (by omega)
    have r1 := hS.keep _ _ (e3.at q1) rfl
    have r3 := hS.keep _ _ (e3.at q3) rfl
    have r7 := hS.keep _ _ (e3.at q7) rfl
    have r10 := hS.keep _ _ (e3.at q10) rfl
    have rb := hS.keep _ _ h3 rfl
    have hFn12 := (hFn.ext e3).stb hS
    have hIB12 := (hIB.stb (hS3 w14.heap.size (by omega))).stb hS
    refine ⟨fun r W30 => Ext w12' W30 ∧ (r = true → ∀ k, FsP (hs ++ [n]) hs.length i k ↔ FsP (hs ++ [n]) hs.length (i + 1) k) ∧ (r = false → EdP (hs ++ [n]) hs.length i), ?_, ?_⟩
    · refine ⟨some b5, by rw [cell_of r7]; rfl, ?_⟩
      obtain ⟨f, hM, hf⟩ := hFn12
      refine hM.get ?_
      rcases hf (i : Int) with ⟨hg, hP⟩ | ⟨hg, hP⟩
      · rw [hg]
        exact ⟨true, rfl, IfB.yes rfl ⟨rfl, Ch.refl _ _, fun _ => FsP_found hP, fun h => by cases h⟩⟩
      · rw [hg]
        refine ⟨false, rfl, IfB.no rfl ⟨n.v, cellsAt_of r3 fun q v hv => by simpa using hv, nd.v, cellsAt_of rb fun q v hv => by simpa using hv, (c38 (hn.ext e12) ((hH.get hnd).ext e12)).use ?_⟩⟩
        rintro _ w27 ⟨r, rfl, hr, e27⟩
        refine ⟨r, rfl, rfl, e27, fun h => FsP_not fun hE => ?_, fun h => (hEd i nd hnd).2 (hr.1 (by simpa using h))⟩
        rw [hr.2 ((hEd i nd hnd).1 hE)] at h
        cases h
    · rintro r w30 g ⟨e30, hrt, hrf⟩
      have X30 := e12.trans e30
      have z30 := e30.size
      have s1 := e30.at r1
      have s3 := e30.at r3
      have s7 := e30.at r7
      have s10 := e30.at r10
      unfold F37b0j1
      have hItW : Its W w12' := (Its.ext e3).trans hIt
      refine IfB.intro (fun h => ?_) fun h => ?_
      · refine ⟨⟨e30.old _ (by omega) id, e30.old _ (by omega) id⟩, ⟨by simp; omega, ⟨⟨_, e30.at hIB12.box.choose_spec⟩, hIB12.rd.ext e30⟩, ?_, ⟨s1, s3, s7, s10⟩, X30⟩, hItW.trans (Its.ext e30)⟩
        rw [hj0]
        exact (hFn12.ext e30).iff (hrt h)
      · have hE := hrf h
        refine ⟨(55, #[.pointer (some ⟨b7, 0, none⟩)]), by rw [cell_of s10]; rfl, ((hFn12.ext e30).put (i : Int) ⟨_, s7⟩).use ?_⟩
        rintro _ w43 ⟨rfl, hF43, hC43⟩
        have X43 : Ext w w43 := X30.chN hC43 fun j e => by omega
        have hrw : rows[i]? = some rows[i] := List.getElem?_eq_getElem (by omega)
        generalize rows[i] = rw' at hrw
        obtain ⟨⟨ba, oa, hpa, hca⟩, hrr, hrn⟩ := (hL.ext X43).at hrw
        have hRow := hrow i rw' hrw
        have hRl := hRow.len
        have t1 := hC43.at s1 (by omega)
        have t3 := hC43.at s3 (by omega)
        have t7 := hC43.at s7 (by omega)
        have t10 := hC43.at s10 (by omega)
        refine ⟨(), rfl, tl, by rw [cell_of t1]; rfl, ba, oa, hpa, ⟨by omega, by omega⟩, rw'.1, by rw [Int.toNat_natCast]; exact hca, fun m x W' => ∃ q : Nat, q ≤ rw'.2.length ∧ m + q = rw'.2.length ∧ x = (q : Int) ∧ Ch (fun j => j = b5) w43 W' ∧ Fnd W' b5 (fun k => (FsP (hs ++ [n]) hs.length (i + 1) k ∨ k = (i : Int)) ∨ k ∈ rw'.2.take q),
          ⟨rw'.2.length, 0, Nat.zero_le _, rfl, rfl, Ch.refl _ _, hF43.iff fun k => by simp⟩, ?_⟩
        rintro m _ w53 g ⟨q, hq, hmq, rfl, hC53, hF53⟩
        have X53 : Ext w w53 := X43.chN hC53 fun j e => by omega
        have u1 := hC53.at t1 (by omega)
        have u3 := hC53.at t3 (by omega)
        have u7 := hC53.at t7 (by omega)
        have u10 := hC53.at t10 (by omega)
        unfold F37b0j2
        refine IfB.dec (fun hlt => ?_) fun hge => ?_
        · have hq' : q < rw'.2.length := by omega
          have hy : rw'.2[q]? = some rw'.2[q] := List.getElem?_eq_getElem hq'
          generalize rw'.2[q] = y at hy
          obtain ⟨bc, oc, hpc, hcc⟩ := ((hL.ext X53).at hrw).2.1.elem1 (i := q) (v := iv y) (by rw [List.getElem?_map, hy]; rfl)
          refine ⟨bc, oc, hpc, ⟨by omega, hlt⟩, y, by rw [Int.toNat_natCast]; exact hcc, (55, #[.pointer (some ⟨b7, 0, none⟩)]), by rw [cell_of u10]; rfl, (hF53.put y ⟨_, u7⟩).use ?_⟩
          rintro _ w61 ⟨rfl, hF61, hC61⟩
          refine ⟨(), rfl, rfl, m - 1, by omega, q + 1, hq', by omega, by rw [wrap_of (by omega) (by omega)]; rfl, hC53.trans hC61, hF61.iff fun k => ?_⟩
          rw [take_succ_get hy, List.mem_append, List.mem_singleton]
          simp only [or_assoc]
        · have hq' : q = rw'.2.length := by omega
          subst hq'
          rw [List.take_length] at hF53
          have hA : Ch (fun j => j = b5) w12' w53 := (((e30.mono fun _ _ h => h.elim).trans hC43).trans hC53)
          have hb5n : ∀ j m s q t, j = b5 → w12'.heap[j]? ≠ some (.mapIter m s q t) := fun j m s q t e => by
            subst e
            obtain ⟨f, ⟨es, ck, hh, _⟩, _⟩ := hFn12
            rw [hh]; simp
          refine ⟨⟨hA.old _ (by omega) (by omega), hA.old _ (by omega) (by omega)⟩, ⟨by simp; omega, ⟨⟨_, hA.at hIB12.box.choose_spec (by omega)⟩, hIB12.rd.ch0 hA ?_⟩, ?_, ⟨u1, u3, u7, u10⟩, X53⟩, hItW.trans (Its.ch hA fun j e m s q t => hb5n j m s q t e)⟩
          · intro h0 j hj e
            have := rd_lt hH.rd (by omega) h0 j hj
            omega
          · rw [hj0]
            refine hF53.iff fun k => ?_
            rw [FsP_add hE k, or_assoc, ← hRow.mem]
  · rintro xs W hxs ⟨hpl, hIB, hFn, ⟨q1, q3, q7, q10⟩, hX⟩ hD
    rw [hxs, hvl, Nat.sub_self] at hFn
    refine ⟨some b5, by rw [cell_of q7]; rfl, hFn.keys (n := hs.length) (fun k hk => ?_) hlen fun t' ys w' h1 h2 h3 h4 h5 => ⟨t', rfl, marks_one (h4.at hD) fun w'' hu => ?_⟩⟩
    · obtain ⟨m, k', rfl, _, hE, h⟩ := hk
      have := hE.1
      rcases h with rfl | h
      · omega
      · have := Dp_lt h; omega
    · refine ⟨t', ys, rfl, ⟨h1, fun k => (h2 k).trans (FsP_zero k)⟩, h3.ch hu.ch fun j hj e => ?_, (hX.trans h4).chN hu.ch fun j e => by omega, fun j hj => ?_⟩
      · have := h5 j hj; have := heap_lt hD; omega
      · have := h5 j hj; have := hX.size; omega
end Go.Proofs.Ytmmhbjbaallkfaa.Gx
