/- Package pages: where a key belongs; what Go's package slices does to pages. -/
import Derived.Test.YtopecljhehcldaaPagesM
import Derived.Test.YtopecljhehcldaaGxO
import Derived.Test.YtopecljhehcldaaGxFC
namespace Go.Proofs.Ytopecljhehcldaa.Gx
open Go
set_option linter.unusedSimpArgs false
set_option linter.unusedVariables false

theorem c68 (p : Option Addr) (k : Int) (w : World) : CW Try.prog 68 #[.pointer p, .int .i64 k] w fun v w' => v = .bool (decide (p ≠ none ∧ 0 ≤ k ∧ k ≤ 999)) ∧ w = w' := by
  refine F68_ok _ _ _ _ ?_
  cases p with
  | none => exact ⟨by simp, rfl⟩
  | some a =>
    refine IfB.yes rfl (IfB.dec (fun h => ⟨?_, rfl⟩) (fun h => ⟨?_, rfl⟩))
    · congr 1; simp [h]
    · congr 1; simp [h]

theorem c98 {w : World} {t : Sl} {p : List Pr} {b : Nat} {k : Int} (ho : OwS w t 2 (prs p)) (hne : p ≠ []) (hk : w.cell? ⟨b, 0, none⟩ = some (.int .i64 k)) :
    CW Try.prog 98 #[slV t, .pointer (some ⟨b, 0, none⟩)] w fun v w' => v = .bool (decide (k < hd0 p)) ∧ Ext w w' := by
  cases p with
  | nil => exact absurd rfl hne
  | cons x p =>
    obtain ⟨a, ha, hc⟩ := pageE ho (i := 0) (x := x) rfl
    have hn : t.n = p.length + 1 := by have := ho.len; rw [prs_len, List.length_cons] at this; omega
    refine F98_ok _ _ _ _ ⟨a, 0, ha, ⟨by decide, by rw [show t.2 = t.n from rfl, hn]; omega⟩, x.1, ?_, k, hk, rfl, extDrew w⟩
    exact hc.fst

theorem c101 (x : Pr) (k : Int) (w : World) : CW Try.prog 101 #[.agg #[.int .i64 x.1, .int .i64 x.2], .int .i64 k] w fun v w' => v = .int .i64 (IntKind.i64.wrap (x.1 - k)) ∧ Ext w w' := by
  refine F101_ok x k w _ ?_
  intro b1 w2 h2
  exact ⟨x.1, by rw [cell_of h2.new]; rfl, rfl, h2.ch _⟩

def findV (P : List (List Pr)) (k : Int) : Value := match P with
  | [] => .tuple #[.int .i64 0, .int .i64 0, .bool false]
  | _ => .tuple #[.int .i64 (atP P k), .int .i64 (posP (P.getD (atP P k) []) k), .bool (hasP P k)]


theorem posP_lo {p : List Pr} {k : Int} {j : Nat} {x : Pr} (hj : j < posP p k) (hx : p[j]? = some x) : x.1 < k := by
  have : x ∈ p.take (posP p k) := List.mem_of_getElem? (i := j) (by rw [List.getElem?_take, if_pos hj]; exact hx)
  rw [take_posP] at this
  exact tw_lt this
theorem posP_hi {p : List Pr} {k : Int} (hs : Srt p) {j : Nat} {x : Pr} (hj : posP p k ≤ j) (hx : p[j]? = some x) : k ≤ x.1 := by
  have : x ∈ p.drop (posP p k) := List.mem_of_getElem? (i := j - posP p k) (by rw [List.getElem?_drop, show posP p k + (j - posP p k) = j by omega]; exact hx)
  rw [drop_posP] at this
  exact srt_drop_lt hs x this

theorem c69 {w : World} {b : Nat} {s : Sl} {ps : List Pg} (h : St w b s ps) {P : List (List Pr)} (hP : ps.map (·.2) = P) (hI : Inv P) {k : Int} (hk : 0 ≤ k ∧ k ≤ 999) :
    CW Try.prog 69 #[.pointer (some ⟨b, 0, none⟩), .int .i64 k] w fun v w' => v = findV P k ∧ Ext w w' := by
  refine F69_ok _ _ _ _ ?_
  intro b1 w2 h2
  have e2 : Ext w w2 := h2.ch _
  have H2 := h.ext e2
  have hpl := hI.plen
  have hlen : ps.length = P.length := by rw [← hP, List.length_map]
  have hn : s.n = P.length := by rw [h.n, hlen]
  refine ⟨b, 0, rfl, s, H2.cell, .inl (F99_ok s (98, #[.pointer (some ⟨b1, 0, none⟩)]) w2 _ ?_)⟩
  rw [F99_eq]
  refine IndexF_of ps (·.1) (fun x => decide (k < hd0 x.2)) h.n (by omega) ?_ ?_ ?_
  · intro i x w5 hx hw
    obtain ⟨a, ha, hc, _⟩ := (H2.ext hw).page hx
    exact ⟨a, 0, ha, by show w5.cell? ⟨a, 0 + i, none⟩ = _; rw [Nat.zero_add]; exact hc⟩
  · intro i x w5 hx hw R' hR
    obtain ⟨a, ha, hc, ho, hl⟩ := (H2.ext hw).page hx
    have hne : x.2 ≠ [] := hI.ne _ (by rw [← hP]; exact List.mem_map_of_mem (List.mem_of_getElem? hx))
    exact (c98 ho hne (by rw [cell_of (hw.at h2.new)]; rfl)).use fun v w' ⟨hv, he⟩ => hv ▸ hR w' he
  · intro w7 e7
    have H7 := H2.ext e7
    have hk7 : w7.cell? ⟨b1, 0, none⟩ = some (.int .i64 k) := by rw [cell_of (e7.at h2.new)]; rfl
    have hidx : ps.findIdx? (fun x => decide (k < hd0 x.2)) = P.findIdx? (fun p => decide (k < hd0 p)) := by
      rw [← hP, List.findIdx?_map]; rfl
    rw [hidx]
    refine ⟨_, rfl, ?_⟩
    have hat : atP P k = (match P.findIdx? (fun p => decide (k < hd0 p)) with | some i => i | none => P.length) - 1 := rfl
    have e1 : s.1 = s.p := rfl
    have en : s.2 = P.length := hn
    by_cases hne : P = []
    · subst hne
      refine IfB.yes (by simp [idxV]) ⟨b, 0, rfl, s, H7.cell, b, 0, rfl, s, H7.cell, IfB.yes ?_ ⟨rfl, e2.trans e7⟩⟩
      rw [en]; decide
    have hA := atP_is hI hne k
    have hlt := hA.lt
    have hx : ps[atP P k]? = some (ps[atP P k]'(by omega)) := List.getElem?_eq_getElem (by omega)
    generalize ps[atP P k]'(by omega) = x at hx
    have hx2 : x.2 = P.getD (atP P k) [] := by
      have := congrArg (fun l => l[atP P k]?) hP
      simp only [List.getElem?_map, hx] at this
      rw [List.getD_eq_getElem?_getD, ← this]; rfl
    have H8 := H7.ext (extDrew w7)
    obtain ⟨a, ha, hc, ho, hxn⟩ := H8.page hx
    have hpos := posP_le x.2 k
    have hfew := hI.few _ hA.mem
    rw [← hx2] at hfew
    have hsr := hA.srt
    rw [← hx2] at hsr
    have hrng : ∀ y ∈ x.2, 0 ≤ y.1 ∧ y.1 ≤ 999 := fun y hy => hI.rng y (List.mem_flatten.2 ⟨_, hA.mem, hx2 ▸ hy⟩)
    have hfv : findV P k = .tuple #[.int .i64 (atP P k), .int .i64 (posP x.2 k), .bool (isP x.2 k)] := by
      rw [hx2]; cases P with
      | nil => exact absurd rfl hne
      | cons p P => rfl
    have tail : ∀ R : Value → World → Prop, (∀ v w', v = findV P k ∧ Ext w w' → R v w') → ∃ b15 b16, some (Addr.mk b 0 none) = some ({ block := b15, off := b16 } : Addr) ∧ ∃ s17 : Sl, w7.drew.cell? ({ block := b15, off := b16 + 0 } : Addr) = some (Value.slice s17.1 s17.2 s17.3) ∧
        ∃ b18 b19, s17.1 = some ({ block := b18, off := b19 } : Addr) ∧ ((0 : Int) ≤ (atP P k : Int) ∧ (atP P k : Int) < (s17.2 : Int)) ∧ ∃ s20 : Sl, w7.drew.cell? ({ block := b18, off := b19 + (atP P k : Int).toNat } : Addr) = some (Value.slice s20.1 s20.2 s20.3) ∧
        ∃ n21 : Int, w7.drew.cell? ({ block := b1, off := 0 } : Addr) = some (Value.int IntKind.i64 n21) ∧
        CX Try.prog 100 #[Value.slice s20.1 s20.2 s20.3, Value.int IntKind.i64 n21, Value.func (Fn.func 101) #[] #[]] w7.drew fun (v22 : Value) (w23 : World) =>
        ∃ (x24 : Int × Bool), v22 = Value.tuple #[Value.int IntKind.i64 x24.1, Value.bool x24.2] ∧ R (Value.tuple #[Value.int IntKind.i64 (atP P k), Value.int IntKind.i64 x24.1, Value.bool x24.2]) w23 := by
      intro R hR
      refine ⟨b, 0, rfl, s, H8.cell, a, 0, ha, ⟨by omega, by rw [en]; omega⟩, x.1, by rw [Int.toNat_natCast, Nat.zero_add]; exact hc, k, hk7, .inl (F100_ok x.1 k (101, #[]) w7.drew _ ?_)⟩
      rw [F100_eq]
      refine BinF_of x.2 (fun y => y.1 - k) hxn (by omega) ?_ ?_ (posP x.2 k) hpos ?_ ?_ ?_
      · intro j y w5 hy hw
        obtain ⟨bb, hbb, hcc⟩ := pageE (ho.ext hw) hy
        exact ⟨bb, 0, hbb, by show CellsAt _ _ (0 + j * 2) _; rw [Nat.zero_add]; exact hcc⟩
      · intro j y w5 hy hw R' hR'
        refine (c101 y k w5).use fun v w' ⟨hv, he⟩ => ?_
        have := hrng y (List.mem_of_getElem? hy)
        rw [wrap_of (by omega) (by omega)] at hv
        exact hv ▸ hR' w' he
      · intro j y hj hy
        have := posP_lo hj hy; omega
      · intro j y hj hy
        have := posP_hi hsr hj hy; omega
      · intro w9 e9
        refine ⟨(_, _), rfl, hR _ _ ⟨?_, (e2.trans e7).trans ((extDrew w7).trans e9)⟩⟩
        rw [hfv]
        unfold isP
        cases x.2[posP x.2 k]? with
        | none => rfl
        | some y =>
          have : (y.1 - k == 0) = (y.1 == k) := Bool.eq_iff_iff.2 (by simp only [beq_iff_eq]; omega)
          dsimp only
          rw [this]
    cases hf : P.findIdx? (fun p => decide (k < hd0 p)) with
    | none =>
      rw [hf] at hat
      refine IfB.yes (by simp [idxV]) ⟨b, 0, rfl, s, H7.cell, b, 0, rfl, s, H7.cell, ?_⟩
      rw [en, maxOne (by omega), show P.length - 1 = atP P k from hat.symm]
      exact IfB.no (by simp; omega) (tail _ fun _ _ h => h)
    | some i =>
      rw [hf] at hat
      have hil : i < P.length := by
        rw [List.findIdx?_eq_some_iff_getElem] at hf
        exact hf.1
      refine IfB.no (decide_eq_false (by show ¬ (i : Int) < 0; omega)) ⟨b, 0, rfl, s, H7.cell, ?_⟩
      rw [show idxV (some i) = (i : Int) from rfl, maxOne (by omega), show i - 1 = atP P k from hat.symm, en]
      exact IfB.no (by simp; omega) (tail _ fun _ _ h => h)

/-! ### Go's package slices -/
theorem F74_eq (t0 : Sl) (w : World) (R : Value → World → Prop) : F74 t0 w R = CloneF tt37 37 2 t0 w R := by kernel_rfl
theorem F70_eq (t0 : Sl) (t1 t2 : Int) (w : World) (R : Value → World → Prop) : F70 t0 t1 t2 w R = DelF tt37 37 2 t0 t1 t2 w R := by kernel_rfl
theorem F71_eq (t0 : Sl) (t1 t2 : Int) (w : World) (R : Value → World → Prop) : F71 t0 t1 t2 w R = DelF tt121 121 1 t0 t1 t2 w R := by kernel_rfl
theorem F73_eq (t0 : Sl) (t1 : Int) (t2 : Sl) (w : World) (R : Value → World → Prop) : F73 t0 t1 t2 w R = InsF Try.prog tt37 37 2 103 104 t0 t1 t2 w R := by kernel_rfl
theorem F75_eq (t0 : Sl) (t1 : Int) (t2 : Sl) (w : World) (R : Value → World → Prop) : F75 t0 t1 t2 w R = InsF Try.prog tt121 121 1 105 106 t0 t1 t2 w R := by kernel_rfl

theorem prV_own {w : World} {bn : Nat} {x : Pr} {T : TypeId} (h : w.heap[bn]? = some (.cells #[.int .i64 x.1, .int .i64 x.2] T (0, 0))) : OwS w ⟨some ⟨bn, 0, none⟩, 1, 1⟩ 2 (prV x) :=
  .inr ⟨bn, _, T, rfl, h, rfl, Nat.le_refl _, rfl⟩

/-- Insert a pair into a page. -/
theorem c73 {w : World} {t : Sl} {p : List Pr} {i bn : Nat} {x : Pr} {T : TypeId} (h : OwS w t 2 (prs p)) (hl : p.length ≤ 1000) (hi : i ≤ p.length) (hbn : w.heap[bn]? = some (.cells #[.int .i64 x.1, .int .i64 x.2] T (0, 0))) (hd : bn ∉ blk t) :
    CW Try.prog 73 #[slV t, .int .i64 i, .slice (some ⟨bn, 0, none⟩) 1 1] w fun v w' => ∃ t', v = slV t' ∧ OwS w' t' 2 (prs (p.take i ++ x :: p.drop i)) ∧ Ch (fun j => j ∈ blk t) w w' ∧ (∀ j ∈ blk t', j ∈ blk t ∨ w.heap.size ≤ j) ∧ t'.n = p.length + 1 := by
  have hn : t.n = p.length := by have := h.len; rw [prs_len] at this; omega
  refine F73_ok t i ⟨some ⟨bn, 0, none⟩, 1, 1⟩ w _ ?_
  rw [F73_eq]
  refine InsF_of (i := i) (new := prV x) h (prV_own hbn).rd rfl rfl (prs_one _) (by intro y hy; simp [prV] at hy; rcases hy with rfl | rfl <;> rfl) (by intro y hy; simp [Value.cells] at hy; subst hy; rfl) (by omega) (by show 0 < 1; omega) ⟨by dsimp only; omega, by dsimp only; omega⟩ (by decide) (by dsimp only; omega) ?_ ?_ ?_
  · intro b hb; simp [blk] at hb; subst hb; exact hd
  · exact ovW tbOk Try.func103 (by kernel_rfl) (by kernel_rfl) (by kernel_rfl) (by kernel_rfl) rfl rfl rfl rfl rfl rfl hbn h (by decide) hd
  · intro s' w' ho hn' hc hb
    refine ⟨s', rfl, ?_, hc, hb, by rw [hn', hn]⟩
    rw [prs_append, prs_cons, ← List.append_assoc, ← prs_take, ← prs_drop]; exact ho

/-- Insert a page. -/
theorem c75 {w : World} {t u : Sl} {hs : List Sl} {i bn : Nat} {T : TypeId} (h : OwS w t 1 (hs.map slV)) (hl : hs.length ≤ 2000) (hi : i ≤ hs.length) (hbn : w.heap[bn]? = some (.cells #[slV u] T (0, 0))) (hd : bn ∉ blk t) :
    CW Try.prog 75 #[slV t, .int .i64 i, .slice (some ⟨bn, 0, none⟩) 1 1] w fun v w' => ∃ t', v = slV t' ∧ OwS w' t' 1 ((hs.take i ++ u :: hs.drop i).map slV) ∧ Ch (fun j => j ∈ blk t) w w' ∧ (∀ j ∈ blk t', j ∈ blk t ∨ w.heap.size ≤ j) := by
  have hn : t.n = hs.length := by have := h.len; rw [List.length_map] at this; omega
  refine F75_ok t i ⟨some ⟨bn, 0, none⟩, 1, 1⟩ w _ ?_
  have hu : OwS w ⟨some ⟨bn, 0, none⟩, 1, 1⟩ 1 [slV u] := .inr ⟨bn, _, T, rfl, hbn, rfl, Nat.le_refl _, rfl⟩
  rw [F75_eq]
  refine InsF_of (i := i) (new := [slV u]) h hu.rd rfl rfl (slVs_one _) (by intro y hy; simp at hy; subst hy; rfl) (by intro y hy; simp [Value.cells] at hy; subst hy; rfl) (by omega) (by show 0 < 1; omega) ⟨by dsimp only; omega, by dsimp only; omega⟩ (by decide) (by dsimp only; omega) ?_ ?_ ?_
  · intro b hb; simp [blk] at hb; subst hb; exact hd
  · exact ovW tbOk Try.func105 (by kernel_rfl) (by kernel_rfl) (by kernel_rfl) (by kernel_rfl) rfl rfl rfl rfl rfl rfl hbn h (by decide) hd
  · intro s' w' ho hn' hc hb
    refine ⟨s', rfl, ?_, hc, hb⟩
    rw [List.map_append, List.map_cons, List.map_take, List.map_drop]
    simpa using ho

/-- Delete a pair of a page. -/
theorem c70 {w : World} {t : Sl} {p : List Pr} {i : Nat} (h : OwS w t 2 (prs p)) (hl : p.length ≤ 1000) (hi : i < p.length) :
    CW Try.prog 70 #[slV t, .int .i64 i, .int .i64 ((i + 1 : Nat) : Int)] w fun v w' => ∃ t', v = slV t' ∧ OwS w' t' 2 (prs (p.take i ++ p.drop (i + 1))) ∧ Ch (fun j => j ∈ blk t) w w' ∧ blk t' = blk t ∧ t'.n = p.length - 1 := by
  have hn : t.n = p.length := by have := h.len; rw [prs_len] at this; omega
  refine F70_ok t i ((i + 1 : Nat) : Int) w _ ?_
  rw [F70_eq]
  refine DelF_of h rfl rfl (prs_one _) (by intro y hy; simp [Value.cells] at hy; subst hy; rfl) (by omega) (by omega) ⟨by omega, by dsimp only; omega⟩ ?_
  intro s' w' ho hn' hc hp
  refine ⟨s', rfl, ?_, hc, by simp [blk, hp], by omega⟩
  rw [prs_append, ← prs_take, ← prs_drop]; exact ho

/-- Delete a page. -/
theorem c71 {w : World} {t : Sl} {hs : List Sl} {i : Nat} (h : OwS w t 1 (hs.map slV)) (hl : hs.length ≤ 2000) (hi : i < hs.length) :
    CW Try.prog 71 #[slV t, .int .i64 i, .int .i64 ((i + 1 : Nat) : Int)] w fun v w' => ∃ t', v = slV t' ∧ OwS w' t' 1 ((hs.take i ++ hs.drop (i + 1)).map slV) ∧ Ch (fun j => j ∈ blk t) w w' ∧ blk t' = blk t := by
  have hn : t.n = hs.length := by have := h.len; rw [List.length_map] at this; omega
  refine F71_ok t i ((i + 1 : Nat) : Int) w _ ?_
  rw [F71_eq]
  refine DelF_of h rfl rfl (slVs_one _) (by intro y hy; simp [Value.cells] at hy; subst hy; rfl) (by omega) (by omega) ⟨by omega, by dsimp only; omega⟩ ?_
  intro s' w' ho hn' hc hp
  refine ⟨s', rfl, ?_, hc, by simp [blk, hp]⟩
  rw [List.map_append, List.map_take, List.map_drop]
  simpa using ho

/-- Clone a page. -/
theorem c74 {w : World} {t : Sl} {p : List Pr} (h : Rd w t 2 (prs p)) (hl : p.length ≤ 1000) :
    CW Try.prog 74 #[slV t] w fun v w' => ∃ t', v = slV t' ∧ OwS w' t' 2 (prs p) ∧ Ext w w' ∧ (∀ j ∈ blk t', w.heap.size ≤ j) ∧ t'.n = p.length := by
  have hn : t.n = p.length := by have := h.1; rw [prs_len] at this; omega
  refine F74_ok t w _ ?_
  rw [F74_eq]
  refine CloneF_of h rfl rfl (prs_one _) ⟨by omega, by dsimp only; omega⟩ ?_ ?_
  · intro s' w' ho hn' he hb
    exact ⟨s', rfl, ho, he, hb, by omega⟩
  · intro hp
    have := h.2
    rw [hp] at this
    have h0 : prs p = [] := this
    have := congrArg List.length h0
    rw [prs_len] at this
    simp at this
    omega
end Go.Proofs.Ytopecljhehcldaa.Gx
