/- Package pages: Delete, Pages, Copy. -/
import Derived.Test.YtopecljhehcldaaPagesD
namespace Go.Proofs.Ytopecljhehcldaa.Gx
open Go
set_option linter.unusedSimpArgs false
set_option linter.unusedVariables false

def delR (P : List (List Pr)) (k : Int) : Int := if 0 ≤ k ∧ k ≤ 999 then (if hasP P k then 0 else 5) else 3
def delQ (P : List (List Pr)) (k : Int) : List (List Pr) := if 0 ≤ k ∧ k ≤ 999 then (if hasP P k then delP P k else P) else P

theorem c72neg (p : Option Addr) (w : World) : CW Try.prog 72 #[.pointer p, .int .i64 (-1)] w fun r w' => r = .bool false ∧ Ext w w' :=
  F72_ok _ _ _ _ (IfB.yes (by decide) ⟨rfl, extDrew w⟩)

theorem c27 {A : Nat → Prop} {w : World} {b : Nat} {P : List (List Pr)} (h : StA A w b P) (hI : Inv P) (k : Int) :
    CW Try.prog 27 #[.pointer (some ⟨b, 0, none⟩), .int .i64 k] w fun r w' => r = .int .i64 (delR P k) ∧ StA (New A w) w' b (delQ P k) ∧ Ch A w w' := by
  obtain ⟨s, ps, hS, hP, hA⟩ := h
  refine F27_ok _ _ _ _ ((c68 _ _ _).use ?_)
  rintro _ _ ⟨rfl, rfl⟩
  unfold delR delQ
  refine ⟨_, rfl, IfB.intro (fun hr => ?_) (fun hr => ?_)⟩
  · have hk : ¬ (0 ≤ k ∧ k ≤ 999) := fun h => by simp [h] at hr
    rw [if_neg hk, if_neg hk]
    exact ⟨rfl, ⟨s, ps, hS, hP, fun i hi => .inl (hA i hi)⟩, Ch.refl _ _⟩
  have hk : 0 ≤ k ∧ k ≤ 999 := by simpa using hr
  rw [if_pos hk, if_pos hk]
  refine (c69 hS hP hI hk).use ?_
  rintro _ w5 ⟨rfl, e5⟩
  have hS5 := hS.ext e5
  have hC5 : Ch A w w5 := e5.mono fun _ _ h => h.elim
  by_cases hne : P = []
  · subst hne
    exact ⟨(0, 0, false), rfl, IfB.yes rfl ⟨rfl, ⟨s, ps, hS5, hP, fun i hi => .inl (hA i hi)⟩, hC5⟩⟩
  have hAt := atP_is hI hne k
  rw [findV_some hne]
  refine ⟨(_, _, _), rfl, ?_⟩
  cases hh : hasP P k with
  | false => exact IfB.yes (by show (!(hasP P k)) = true; rw [hh]; rfl) ⟨rfl, ⟨s, ps, hS5, hP, fun i hi => .inl (hA i hi)⟩, hC5⟩
  | true =>
    obtain ⟨L, x, R, rfl, hL, hx, hLm, hRm⟩ := split_at hP hAt
    have hi' : isP x.2 k = true := by rw [hx]; exact hh
    obtain ⟨u, hu⟩ := isP_iff.1 hi'
    have e6 := extDrew w5
    have hS6 := hS5.ext e6
    obtain ⟨hH, ho, hf⟩ := hS6.hole
    obtain ⟨a, ha, hca⟩ := hH.pageCell
    have hsn : s.n = L.length + R.length + 1 := hH.n
    have hxn : x.1.n = x.2.length := by have := ho.len; rw [prs_len] at this; omega
    have hpl := (List.getElem?_eq_some_iff.1 hu).1
    have h8 := hI.few _ hAt.mem
    have hsr := hAt.srt
    have hpl2 := hI.plen
    have hLR : L.length + R.length ≤ 1000 := by
      have := congrArg List.length hP; simp at this; omega
    rw [← hx] at h8 hsr ⊢
    have hba : (0 : Int) ≤ (atP P k : Int) ∧ (atP P k : Int) < (s.n : Int) := ⟨by omega, by omega⟩
    have w1 : IntKind.i64.wrap ((posP x.2 k : Int) + (1 : Int)) = ((posP x.2 k + 1 : Nat) : Int) := by rw [wrap_of (by omega) (by omega)]; rfl
    have w2 : IntKind.i64.wrap ((atP P k : Int) + (1 : Int)) = ((L.length + 1 : Nat) : Int) := by rw [wrap_of (by omega) (by omega)]; omega
    have hcell : ∀ w' c, StH w' b s L c R → ∀ a', s.p = some ⟨a', 0, none⟩ → w'.cell? ⟨a', 0 + (atP P k : Int).toNat, none⟩ = some c := fun w' c h a' ha' => by
      obtain ⟨a2, ha2, hc2⟩ := h.pageCell
      rw [ha'] at ha2; cases ha2
      rw [Int.toNat_natCast, Nat.zero_add, ← hL]; exact hc2
    refine IfB.no (by show (!(isP x.2 k)) = false; rw [hi']; rfl) ⟨b, 0, rfl, s, hS6.cell, b, 0, rfl, s, hS6.cell, a, 0, ha, hba, x.1, hcell _ _ hH a ha, ?_⟩
    dsimp only
    rw [w1, w2]
    refine (c70 ho (by omega) hpl).use ?_
    rintro _ w17 ⟨t', rfl, ho', hc', hb', hn'⟩
    have hq : x.2.take (posP x.2 k) ++ x.2.drop (posP x.2 k + 1) = delS x.2 k := (delS_is hsr hi').symm
    rw [hq] at ho'
    have hH17 := hH.ch hc' fun j hj hjx => hf j hjx hj
    have hf' : FreeOf b s (L ++ R) t' := fun j hj => hf j (hb' ▸ hj)
    refine ⟨t', rfl, hH17.cell, a, 0, ha, hba, rfl, ?_⟩
    rw [Int.toNat_natCast, Nat.zero_add, ← hL]
    refine hH17.store ha rfl fun w21 hH21 hc21 => ?_
    have ho21 := ho'.ch hc21 fun j hj hjs => hf' j hj (.inr (.inl hjs))
    have hS21 : St w21 b s (L ++ (t', delS x.2 k) :: R) := StH.fill (x := (t', delS x.2 k)) hH21 ho21 hf'
    have hC6 : Ch A w w5.drew := hC5.thenExt e6
    have hC21 : Ch A w w21 := (hC6.thenNew hc' fun j hj => .inl (hA j (inSt_at hj))).thenNew hc21 fun j hj => .inl (hA j (.inr (.inl hj)))
    have hA21 : ∀ j, inSt b s (L ++ (t', delS x.2 k) :: R) j → A j := fun j hj => by
      rcases inSt_hole hj with h | h
      · exact hA j (inSt_of h)
      · exact hA j (inSt_at (hb' ▸ h))
    have hP21 : (L ++ (t', delS x.2 k) :: R).map (·.2) = cutP P k := by
      unfold cutP; rw [← hx]; simp [hLm, hRm]
    have hql : (delS x.2 k).length = x.2.length - 1 := by rw [← hq]; simp; omega
    rw [hL]
    refine ⟨b, 0, rfl, s, hH21.cell, a, 0, ha, hba, t', by rw [← hL]; obtain ⟨a2, ha2, hc2⟩ := hH21.pageCell; rw [ha] at ha2; cases ha2; rw [Nat.zero_add]; exact hc2, ?_⟩
    refine IfB.intro (fun h0 => ?_) (fun h0 => ?_)
    · have hq0 : delS x.2 k = [] := by
        have : (t'.n : Int) = 0 := eq_of_beq h0
        exact List.eq_nil_of_length_eq_zero (by omega)
      have harr : OwS w21 s 1 (((L ++ (t', delS x.2 k) :: R).map (·.1)).map slV) := by rw [List.map_map]; exact hS21.arr
      refine ⟨b, 0, rfl, s, hH21.cell, ?_⟩
      rw [← hL]
      refine (c71 harr (by simp; omega) (by simp)).use ?_
      rintro _ w32 ⟨s33, rfl, ho33, hc33, hb33⟩
      have hlist : ((L ++ (t', delS x.2 k) :: R).map (·.1)).take L.length ++ ((L ++ (t', delS x.2 k) :: R).map (·.1)).drop (L.length + 1) = (L ++ R).map (·.1) := by
        rw [← List.map_take, ← List.map_drop, List.take_append, List.drop_append, List.drop_of_length_le (by omega), Nat.add_sub_cancel_left]
        simp
      rw [hlist, List.map_map] at ho33
      refine ⟨s33, rfl, b, 0, rfl, rfl, setBox2 (x := x) hH21 ho33 hc33 hb33 fun w36 hS36 hc36 => ?_⟩
      refine ⟨rfl, ⟨s33, _, hS36, ?_, ?_⟩, (hC21.thenNew hc33 fun j hj => .inl (hA j (.inr (.inl hj)))).thenNew hc36 fun j hj => .inl (hA j (.inl hj))⟩
      · unfold delP
        dsimp only
        rw [← hx, if_pos hq0]
        simp [hLm, hRm]
      · rintro j (rfl | h | ⟨z, hz, h⟩)
        · exact .inl (hA _ (.inl rfl))
        · exact .inl (hA j (.inr (.inl (hb33 ▸ h))))
        · exact .inl (hA j (inSt_of (.inr (.inr ⟨z, hz, h⟩))))
    · have hq0 : delS x.2 k ≠ [] := fun e => by
        have : ¬ ((t'.n : Int) == (0 : Int)) = true := by rw [h0]; simp
        apply this
        rw [e] at hql
        simp at hql
        simp; omega
      have hq0' : ¬ delS (P.getD (atP P k) []) k = [] := by rw [← hx]; exact hq0
      have hcI := cutP_inv hI hAt hq0'
      have hdel : delP P k = if canJ (cutP P k) (atP P k) then joinP (cutP P k) (atP P k) else if 0 < atP P k ∧ canJ (cutP P k) (atP P k - 1) then joinP (cutP P k) (atP P k - 1) else cutP P k := by
        unfold delP; dsimp only; rw [if_neg hq0']; rfl
      refine (c72 hS21 hP21 hC21 (fun j hj => .inl (hA21 j hj)) hcI.flen hcI.plen (atP P k) (by omega)).use ?_
      rintro _ w38 ⟨rfl, hC38, s38, ps38, hS38, hP38, hA38⟩
      refine ⟨_, rfl, ?_⟩
      cases hc : canJ (cutP P k) (atP P k) with
      | true =>
        rw [hc] at hP38
        simp only [if_true] at hP38
        refine IfB.no rfl ⟨rfl, ⟨s38, ps38, hS38, ?_, hA38⟩, hC38⟩
        simp only [if_true]
        rw [hdel, hc, hP38]; rfl
      | false =>
        rw [hc] at hP38
        simp only [Bool.false_eq_true, if_false] at hP38
        refine IfB.yes rfl ?_
        by_cases ha0 : atP P k = 0
        · have e1 : IntKind.i64.wrap ((atP P k : Int) - (1 : Int)) = -1 := by rw [ha0]; decide
          rw [e1]
          refine (c72neg _ w38).use ?_
          rintro _ w41 ⟨rfl, e41⟩
          refine ⟨_, rfl, rfl, ⟨s38, ps38, hS38.ext e41, ?_, hA38⟩, hC38.thenExt e41⟩
          simp only [if_true]
          rw [hdel, hc, hP38, ha0]; simp
        · have e1 : IntKind.i64.wrap ((atP P k : Int) - (1 : Int)) = ((atP P k - 1 : Nat) : Int) := by rw [wrap_of (by omega) (by omega)]; omega
          rw [e1]
          refine (c72 hS38 hP38 hC38 hA38 hcI.flen hcI.plen (atP P k - 1) (by omega)).use ?_
          rintro _ w41 ⟨rfl, hC41, s41, ps41, hS41, hP41, hA41⟩
          refine ⟨_, rfl, rfl, ⟨s41, ps41, hS41, ?_, hA41⟩, hC41⟩
          simp only [if_true]
          rw [hdel, hc, hP41]
          simp only [Bool.false_eq_true, if_false, show 0 < atP P k from Nat.pos_of_ne_zero ha0, true_and]

/-! ### Pages -/
theorem c30 {w : World} {b : Nat} {P : List (List Pr)} {s : Sl} {ps : List Pg} (hS : St w b s ps) (hP : ps.map (·.2) = P) (hI : Inv P) :
    CW Try.prog 30 #[.pointer (some ⟨b, 0, none⟩)] w fun r w' => ∃ t, r = slV t ∧ OwS w' t 1 ((P.map hd0).map fun n => .int .i64 n) ∧ Ext w w' ∧ ∀ j ∈ blk t, w.heap.size ≤ j := by
  have hlen : ps.length = P.length := by rw [← hP, List.length_map]
  have hsn : s.n = ps.length := hS.n
  have hpl := hI.plen
  refine F30_ok _ _ _ (IfB.no rfl ⟨b, 0, rfl, s, hS.cell, ?_⟩)
  refine ⟨fun n x w5 => ∃ i t, i ≤ ps.length ∧ n + i = ps.length ∧ x = (t, (i : Int)) ∧ OwS w5 t 1 (((P.map hd0).take i).map fun n => .int .i64 n) ∧ Ext w w5 ∧ ∀ j ∈ blk t, w.heap.size ≤ j, ⟨ps.length, 0, ⟨none, 0, 0⟩, Nat.zero_le _, rfl, rfl, .nil _ _, Ch.refl _ _, by simp [blk]⟩, ?_⟩
  rintro n x w5 g ⟨i, t, hi, hni, rfl, ho, e5, hb⟩
  unfold F30j1
  refine IfB.dec (fun hlt => ?_) (fun hge => ?_)
  · have hi' : i < ps.length := by
      have : (i : Int) < (s.n : Int) := hlt
      omega
    have hx : ps[i]? = some ps[i] := List.getElem?_eq_getElem hi'
    have hS5 := hS.ext e5
    obtain ⟨a, ha, hc, hox, hxn⟩ := hS5.page hx
    have hxm : ps[i].2 ∈ P := by rw [← hP]; exact List.mem_map_of_mem (List.getElem_mem hi')
    have hne := hI.ne _ hxm
    obtain ⟨y, yl, hy⟩ := List.exists_cons_of_ne_nil hne
    obtain ⟨a2, ha2, hc2⟩ := pageE hox (i := 0) (x := y) (by rw [hy]; rfl)
    have hl1 : 0 < ps[i].1.n := by rw [hxn, hy]; simp
    have htn : t.n = i := by have := ho.len1; rw [this, List.length_map, List.length_take, List.length_map]; omega
    refine ⟨a, 0, ha, (⟨by omega, by omega⟩ : (0 : Int) ≤ (i : Int) ∧ (i : Int) < (s.n : Int)), ps[i].1, by rw [Int.toNat_natCast, Nat.zero_add]; exact hc, a2, 0, ha2, (⟨by decide, by omega⟩ : (0 : Int) ≤ (0 : Int) ∧ (0 : Int) < (ps[i].1.n : Int)), y.1, hc2.fst, by decide, ?_⟩
    intro b17 w18 h18
    refine ⟨[.int .i64 y.1], ⟨rfl, cellsAt_of h18.new fun j v hv => by simpa using hv⟩, ?_⟩
    have e18 : Ext w5 w18 := h18.ch _
    refine (ho.ext e18).append (cnt := 1) rfl rfl rfl (by intro v hv; simp at hv; subst hv; rfl) ⟨by omega, by dsimp only; omega⟩ ?_
    intro s' w' ho' hn' hc' hb' _
    refine ⟨rfl, n - 1, by omega, i + 1, s', hi', by omega, ?_, ?_, ?_, ?_⟩
    · rw [wrap_of (by dsimp only; omega) (by dsimp only; omega)]; rfl
    · have : (P.map hd0)[i]? = some y.1 := by
        rw [← hP, List.getElem?_map, List.getElem?_map, hx]; simp [hy, hd0]
      rw [take_succ_get this, List.map_append]; exact ho'
    · exact (e5.trans e18).then hc' fun j hj hjb => by have := hb j hjb; omega
    · intro j hj
      rcases hb' j hj with h | h
      · exact hb j h
      · have := (e5.trans e18).size; omega
  · have hi' : i = P.length := by
      have : ¬ (i : Int) < (s.n : Int) := hge
      omega
    subst hi'
    rw [List.take_of_length_le (by simp)] at ho
    exact ⟨t, rfl, ho, e5, hb⟩

theorem c30nil (w : World) : CW Try.prog 30 #[.pointer none] w fun r w' => r = .slice none 0 0 ∧ w = w' := F30_ok _ _ _ (IfB.yes rfl ⟨rfl, rfl⟩)
end Go.Proofs.Ytopecljhehcldaa.Gx
