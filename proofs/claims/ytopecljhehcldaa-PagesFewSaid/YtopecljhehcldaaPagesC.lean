/- Package pages: Put, Get. -/
import Derived.Test.YtopecljhehcldaaPagesB
namespace Go.Proofs.Ytopecljhehcldaa.Gx
open Go
set_option linter.unusedSimpArgs false
set_option linter.unusedVariables false

theorem stSet {w w' : World} {b : Nat} {s s' : Sl} {ps' : List Pg} {K : World → Prop} (hbox : ∃ T v, w.heap[b]? = some (.cells #[v] T (0, 0))) (hself : b ∉ blk s) (hpg : ∀ x ∈ ps', OwS w x.1 2 (prs x.2)) (hnd : ps'.Pairwise Dis)
    (hsep : ∀ x ∈ ps', ∀ i ∈ blk x.1, i ≠ b ∧ i ∉ blk s) (ho : OwS w' s' 1 (ps'.map hV)) (hc : Ch (fun i => i ∈ blk s) w w') (hb : ∀ j ∈ blk s', j ∈ blk s ∨ w.heap.size ≤ j)
    (hK : ∀ w'', St w'' b s' ps' → Ch (fun i => i = b) w' w'' → K w'') : StoreP w' b 0 [slV s'] K := by
  obtain ⟨T, v, hT⟩ := hbox
  have hT' := hc.at hT hself
  have hbl := heap_lt hT
  refine St.setBox ⟨T, hT'⟩ ho (fun x hx => (hpg x hx).ch hc fun i hi => (hsep x hx i hi).2) hnd (fun x hx i hi => ⟨(hsep x hx i hi).1, fun h => ?_⟩) (fun h => ?_) hK
  · rcases hb i h with h | h
    · exact (hsep x hx i hi).2 h
    · have := (hpg x hx).lt i hi; omega
  · rcases hb b h with h | h
    · exact hself h
    · omega

theorem prs_setv {p : List Pr} {i : Nat} {k u : Int} (h : p[i]? = some (k, u)) (v : Int) : (prs p).take (i * 2 + 1) ++ [.int .i64 v] ++ (prs p).drop (i * 2 + 1 + 1) = prs (p.set i (k, v)) := by
  obtain ⟨hi, he⟩ := List.getElem?_eq_some_iff.1 h
  rw [List.set_eq_take_append_cons_drop, if_pos hi, prs_append, prs_cons, ← prs_take, ← prs_drop]
  have h1 : prs p = (prs p).take (i * 2) ++ (prV (k, u) ++ (prs p).drop ((i + 1) * 2)) := by
    conv => lhs; rw [← List.take_append_drop (i * 2) (prs p)]
    congr 1
    rw [prs_drop, List.drop_eq_getElem_cons hi, he, prs_cons, prs_drop]
  have hl : ((prs p).take (i * 2)).length = i * 2 := by rw [List.length_take, prs_len]; omega
  have h2 : (prs p).take (i * 2 + 1) = (prs p).take (i * 2) ++ [.int .i64 k] := by
    conv => lhs; rw [h1]
    rw [List.take_append, hl, List.take_of_length_le (by rw [hl]; omega), Nat.add_sub_cancel_left]; rfl
  rw [h2, show i * 2 + 1 + 1 = (i + 1) * 2 by omega]
  simp [prV]

theorem findV_some {P : List (List Pr)} (h : P ≠ []) (k : Int) : findV P k = .tuple #[.int .i64 (atP P k), .int .i64 (posP (P.getD (atP P k) []) k), .bool (hasP P k)] := by
  cases P with
  | nil => exact absurd rfl h
  | cons p P => rfl

/-- A store's pages about a key. -/
theorem split_at {ps : List Pg} {P : List (List Pr)} (hP : ps.map (·.2) = P) {k : Int} (h : AtP P k) : ∃ L x R, ps = L ++ x :: R ∧ L.length = atP P k ∧ x.2 = P.getD (atP P k) [] ∧ L.map (·.2) = P.take (atP P k) ∧ R.map (·.2) = P.drop (atP P k + 1) := by
  have hlen : ps.length = P.length := by rw [← hP, List.length_map]
  have hlt := h.lt
  have hi : atP P k < ps.length := by omega
  refine ⟨ps.take (atP P k), ps[atP P k], ps.drop (atP P k + 1), ?_, by rw [List.length_take]; omega, ?_, by rw [← hP, List.map_take], by rw [← hP, List.map_drop]⟩
  · rw [← List.drop_eq_getElem_cons hi, List.take_append_drop]
  · have := congrArg (fun l => l[atP P k]?) hP
    simp only [List.getElem?_map, List.getElem?_eq_getElem hi] at this
    rw [List.getD_eq_getElem?_getD, ← this]; rfl

theorem StH.pageCell {w : World} {b : Nat} {s : Sl} {L R : List Pg} {c : Value} (h : StH w b s L c R) : ∃ a, s.p = some ⟨a, 0, none⟩ ∧ w.cell? ⟨a, L.length, none⟩ = some c := by
  refine h.arr.elem1 (i := L.length) (v := c) ?_
  rw [List.getElem?_append_right (by simp), List.length_map, Nat.sub_self]; rfl

theorem inSt_hole {b : Nat} {s : Sl} {L R : List Pg} {x : Pg} {i : Nat} (h : inSt b s (L ++ x :: R) i) : inSt b s (L ++ R) i ∨ i ∈ blk x.1 := by
  rcases h with h | h | ⟨y, hy, hi⟩
  · exact .inl (.inl h)
  · exact .inl (.inr (.inl h))
  · rcases List.mem_append.1 hy with hy | hy
    · exact .inl (.inr (.inr ⟨y, List.mem_append_left _ hy, hi⟩))
    · rcases List.mem_cons.1 hy with rfl | hy
      · exact .inr hi
      · exact .inl (.inr (.inr ⟨y, List.mem_append_right _ hy, hi⟩))
theorem inSt_of {b : Nat} {s : Sl} {L R : List Pg} {x : Pg} {i : Nat} (h : inSt b s (L ++ R) i) : inSt b s (L ++ x :: R) i := by
  rcases h with h | h | ⟨y, hy, hi⟩
  · exact .inl h
  · exact .inr (.inl h)
  · rcases List.mem_append.1 hy with hy | hy
    · exact .inr (.inr ⟨y, List.mem_append_left _ hy, hi⟩)
    · exact .inr (.inr ⟨y, List.mem_append_right _ (List.mem_cons_of_mem _ hy), hi⟩)
theorem inSt_at {b : Nat} {s : Sl} {L R : List Pg} {x : Pg} {i : Nat} (h : i ∈ blk x.1) : inSt b s (L ++ x :: R) i := .inr (.inr ⟨x, List.mem_append_right _ (List.mem_cons_self ..), h⟩)

set_option maxHeartbeats 1000000 in
/-- Behind the switch: a page's place is open, a pair is to be put there. -/
theorem c28j1 {A : Nat → Prop} {w w26 : World} {b : Nat} {P : List (List Pr)} {k v : Int} {i : Nat} {L : List Pg} {x : Pg} {R : List Pg} {s : Sl} {q : List Pr} (hS : St w26 b s (L ++ x :: R)) (hi : i ≤ x.2.length) (h8 : x.2.length ≤ 8) (hq : q = x.2.take i ++ (k, v) :: x.2.drop i)
    (hput : putP P k v = (if 8 < q.length then L.map (·.2) ++ [q.take 4, q.drop 4] ++ R.map (·.2) else L.map (·.2) ++ q :: R.map (·.2))) (hLR : L.length + R.length ≤ 1000) (hC : Ch A w w26) (hA : ∀ i, inSt b s (L ++ x :: R) i → New A w i)
    {Q : Value → World → Prop} (hQ : ∀ w', StA (New A w) w' b (putP P k v) → Ch A w w' → Q (.int .i64 0) w') : F28j1 (some ⟨b, 0, none⟩) k v Q ((L.length : Int), (i : Int), false) w26 := by
  unfold F28j1
  obtain ⟨hH, ho, hf⟩ := hS.hole
  obtain ⟨a, ha, hca⟩ := hH.pageCell
  have hsn : s.n = L.length + R.length + 1 := hH.n
  have en : s.2 = s.n := rfl
  have hlt : (0 : Int) ≤ (L.length : Int) ∧ (L.length : Int) < (s.2 : Int) := by omega
  refine ⟨b, 0, rfl, s, hS.cell, a, 0, ha, hlt, x.1, by rw [Int.toNat_natCast, Nat.zero_add]; exact hca, by decide, fun b35 w36 h36 => ?_⟩
  have e36 : Ext w26 w36 := h36.ch _
  have hd : b35 ∉ blk x.1 := fun h => by have := ho.lt _ h; have := h36.here; omega
  refine (c73 (x := (k, v)) (ho.ext e36) (by omega) hi h36.new hd).use ?_
  rintro _ w38 ⟨t', rfl, ho', hc', hb', htn⟩
  rw [← hq] at ho'
  have hH36 := hH.ext e36
  have hH38 := hH36.ch hc' fun j hj hjx => hf j hjx hj
  have hf' : FreeOf b s (L ++ R) t' := fun j hj hin => by
    rcases hb' j hj with h | h
    · exact hf j h hin
    · have := hH36.lt hin; omega
  have hq9 : q.length = x.2.length + 1 := by rw [hq]; simp; omega
  have hC36 : Ch A w w36 := hC.thenExt e36
  have hC38 : Ch A w w38 := hC36.thenNew hc' fun j hj => hA j (inSt_at hj)
  have ht'A : ∀ j ∈ blk t', New A w j := fun j hj => (hb' j hj).elim (fun h => hA j (inSt_at h)) fun h => .inr (by have := hC36.size; omega)
  refine ⟨t', rfl, b, 0, rfl, s, hH38.cell, a, 0, ha, hlt, rfl, ?_⟩
  rw [Int.toNat_natCast, Nat.zero_add]
  refine hH38.store ha rfl fun w45 hH45 hc45 => ?_
  have ho45 := ho'.ch hc45 fun j hj hjs => hf' j hj (.inr (.inl hjs))
  have hC45 : Ch A w w45 := hC38.thenNew hc45 fun j hj => hA j (.inr (.inl hj))
  have hS45 : St w45 b s (L ++ (t', q) :: R) := StH.fill (x := (t', q)) hH45 ho45 hf'
  refine IfB.dec (fun hgt => ?_) (fun hgt => ?_)
  · have hgt8 : 8 < q.length := by omega
    have hcap := ho45.cap
    have e46 := extDrew w45
    have hH46 := hH45.ext e46
    have ho46 := ho45.ext e46
    have hrd1 : Rd w45.drew ⟨slAddr t'.p 4 0 2, 4, 4⟩ 2 (prs (q.take 4)) := by
      have h4 := ho46.cut (k := 4) (by omega)
      rw [slAddr_own ho46, ← prs_take]
      exact ⟨by rw [List.length_take, prs_len]; dsimp only; omega, h4.readAll⟩
    refine ⟨b, 0, rfl, s, hH46.cell, by omega, (c74 hrd1 (by rw [List.length_take]; omega)).use ?_⟩
    rintro _ w50 ⟨s51, rfl, ho51, e51, hb51, hn51⟩
    have hH50 := hH46.ext e51
    refine ⟨s51, rfl, hH50.cell, a, 0, ha, hlt, rfl, ?_⟩
    rw [Nat.zero_add]
    refine hH50.store ha rfl fun w54 hH54 hc54 => ?_
    have sz46 : w45.drew.heap.size = w45.heap.size := rfl
    have ho51' := ho51.ch hc54 fun j hj hjs => by have := hH46.lt (.inr (.inl hjs)); have := hb51 j hj; omega
    have hf51 : FreeOf b s (L ++ R) s51 := fun j hj hin => by have := hH46.lt hin; have := hb51 j hj; omega
    have ho54 := (ho46.ext e51).ch hc54 fun j hj hjs => hf' j hj (.inr (.inl hjs))
    have hC50 : Ch A w w50 := (hC45.thenExt e46).thenExt e51
    have hC54 : Ch A w w54 := hC50.thenNew hc54 fun j hj => hA j (.inr (.inl hj))
    have e55 := extDrew w54
    have hH55 := hH54.ext e55
    have ho55 := ho54.ext e55
    have hrd2 : Rd w54.drew ⟨slAddr t'.p t'.c 4 2, t'.n - 4, t'.c - 4⟩ 2 (prs (q.drop 4)) := by
      have h4 := ho55.read 4 (t'.n - 4) (by omega)
      rw [prs_drop, List.take_of_length_le (by rw [prs_len, List.length_drop]; omega)] at h4
      exact ⟨by rw [prs_len, List.length_drop]; dsimp only; omega, h4⟩
    refine ⟨b, 0, rfl, s, hH55.cell, by omega, (c74 hrd2 (by rw [List.length_drop]; omega)).use ?_⟩
    rintro _ w59 ⟨s60, rfl, ho60, e60, hb60, hn60⟩
    have hH59 := hH55.ext e60
    refine ⟨s60, rfl, hH59.cell, by decide, fun b61 w62 h62 => ?_⟩
    have e62 : Ext w59 w62 := h62.ch _
    have hH62 := hH59.ext e62
    have sz54 : w54.drew.heap.size = w54.heap.size := rfl
    have hw62 : w54.heap.size ≤ w62.heap.size := by have := e60.size; have := e62.size; omega
    have ho51'' : OwS w62 s51 2 (prs (q.take 4)) := ((ho51'.ext e55).ext e60).ext e62
    have ho60' : OwS w62 s60 2 (prs (q.drop 4)) := ho60.ext e62
    have hS62 : St w62 b s (L ++ (s51, q.take 4) :: R) := StH.fill (x := (s51, q.take 4)) hH62 ho51'' hf51
    have hb61 : b61 ∉ blk s := fun h => by have := hH59.lt (.inr (.inl h)); have := h62.here; omega
    have harr : OwS w62 s 1 (((L ++ (s51, q.take 4) :: R).map (·.1)).map slV) := by rw [List.map_map]; exact hS62.arr
    refine ⟨hH62.cell, ?_⟩
    rw [show IntKind.i64.wrap ((L.length : Int) + (1 : Int)) = ((L.length + 1 : Nat) : Int) from by rw [wrap_of (by omega) (by omega)]; rfl]
    refine (c75 (u := s60) harr (by simp <;> omega) (by simp <;> omega) h62.new hb61).use ?_
    rintro _ w64 ⟨s65, rfl, ho65, hc65, hb65⟩
    refine ⟨s65, rfl, b, 0, rfl, rfl, ?_⟩
    have hf60 : ∀ j ∈ blk s60, w54.heap.size ≤ j := fun j hj => hb60 j hj
    have hS54l : ∀ j, inSt b s (L ++ (s51, q.take 4) :: R) j → j < w54.heap.size := fun j hj => by
      rcases inSt_hole hj with h | h
      · exact hH54.lt h
      · exact ho51'.lt j h
    have hlist : ((L ++ (s51, q.take 4) :: R).map (·.1)).take (L.length + 1) ++ s60 :: ((L ++ (s51, q.take 4) :: R).map (·.1)).drop (L.length + 1) = (L ++ (s51, q.take 4) :: (s60, q.drop 4) :: R).map (·.1) := by
      rw [← List.map_take, ← List.map_drop, List.take_append, List.drop_append, List.take_of_length_le (by omega), List.drop_of_length_le (by omega), Nat.add_sub_cancel_left]
      simp
    rw [hlist, List.map_map] at ho65
    have hmem : ∀ y ∈ L ++ (s51, q.take 4) :: (s60, q.drop 4) :: R, y = (s60, q.drop 4) ∨ y ∈ L ++ (s51, q.take 4) :: R := fun y hy => by
      simp only [List.mem_append, List.mem_cons] at hy ⊢
      rcases hy with h | h | h | h <;> simp [h]
    have hnd := hS62.nd
    rw [List.pairwise_append, List.pairwise_cons] at hnd
    obtain ⟨n1, ⟨n2, n3⟩, n4⟩ := hnd
    have hdis : ∀ y ∈ L ++ (s51, q.take 4) :: R, Dis y (s60, q.drop 4) := fun y hy j hj hj2 => by
      have := hS54l j (.inr (.inr ⟨y, hy, hj⟩)); have := hf60 j hj2; omega
    refine stSet (w := w62) (s := s) (by obtain ⟨T, hT⟩ := hS62.box; exact ⟨T, _, hT⟩) hS62.self ?_ ?_ ?_ ho65 hc65 hb65 ?_
    · intro y hy
      rcases hmem y hy with rfl | hy
      · exact ho60'
      · exact hS62.pg y hy
    · rw [List.pairwise_append, List.pairwise_cons, List.pairwise_cons]
      refine ⟨n1, ⟨fun y hy => ?_, fun y hy => (hdis y (List.mem_append_right _ (List.mem_cons_of_mem _ hy))).symm, n3⟩, fun y hy z hz => ?_⟩
      · rcases List.mem_cons.1 hy with rfl | hy
        · exact hdis _ (List.mem_append_right _ (List.mem_cons_self ..))
        · exact n2 y hy
      · rcases List.mem_cons.1 hz with rfl | hz
        · exact n4 y hy _ (List.mem_cons_self ..)
        · rcases List.mem_cons.1 hz with rfl | hz
          · exact hdis y (List.mem_append_left _ hy)
          · exact n4 y hy z (List.mem_cons_of_mem _ hz)
    · intro y hy j hj
      rcases hmem y hy with rfl | hy
      · have h1 := hf60 j hj
        exact ⟨fun e => by have := hS54l j (.inl e); omega, fun e => by have := hS54l j (.inr (.inl e)); omega⟩
      · exact hS62.sep y hy j hj
    · intro w68 hS68 hc68
      have hAll : ∀ j, inSt b s65 (L ++ (s51, q.take 4) :: (s60, q.drop 4) :: R) j → New A w j := by
        have hwl : w.heap.size ≤ w54.heap.size := hC54.size
        have hwl2 : w.heap.size ≤ w45.heap.size := hC45.size
        rintro j (rfl | h | ⟨y, hy, h⟩)
        · exact hA _ (.inl rfl)
        · rcases hb65 j h with h | h
          · exact hA j (.inr (.inl h))
          · exact .inr (by omega)
        · rcases hmem y hy with rfl | hy
          · exact .inr (by have := hf60 j h; omega)
          · rcases List.mem_append.1 hy with hy | hy
            · exact hA j (.inr (.inr ⟨y, List.mem_append_left _ hy, h⟩))
            · rcases List.mem_cons.1 hy with rfl | hy
              · exact .inr (by have := hb51 j h; omega)
              · exact hA j (.inr (.inr ⟨y, List.mem_append_right _ (List.mem_cons_of_mem _ hy), h⟩))
      refine hQ w68 ⟨s65, _, hS68, ?_, hAll⟩ ?_
      · rw [hput, if_pos hgt8]; simp
      · refine (((hC54.thenExt e55).thenExt e60).thenExt e62).thenNew hc65 (fun j hj => hA j (.inr (.inl hj))) |>.thenNew hc68 fun j hj => hA j (.inl hj)
  · have hle : ¬ 8 < q.length := by omega
    refine hQ w45 ⟨s, _, hS45, ?_, fun j hj => ?_⟩ hC45
    · rw [hput, if_neg hle]; simp
    · rcases inSt_hole hj with h | h
      · exact hA j (inSt_of h)
      · exact ht'A j h

set_option maxHeartbeats 1000000 in
theorem c28 {A : Nat → Prop} {w : World} {b : Nat} {P : List (List Pr)} (h : StA A w b P) (hI : Inv P) (k v : Int) :
    CW Try.prog 28 #[.pointer (some ⟨b, 0, none⟩), .int .i64 k, .int .i64 v] w fun r w' =>
      r = .int .i64 (if 0 ≤ k ∧ k ≤ 999 then 0 else 3) ∧ StA (New A w) w' b (if 0 ≤ k ∧ k ≤ 999 then putP P k v else P) ∧ Ch A w w' := by
  obtain ⟨s, ps, hS, hP, hA⟩ := h
  refine F28_ok _ _ _ _ _ ((c68 _ _ _).use ?_)
  rintro _ _ ⟨rfl, rfl⟩
  refine ⟨_, rfl, IfB.intro (fun hr => ?_) (fun hr => ?_)⟩
  · have hk : ¬ (0 ≤ k ∧ k ≤ 999) := fun h => by simp [h] at hr
    rw [if_neg hk, if_neg hk]
    exact ⟨rfl, ⟨s, ps, hS, hP, fun i hi => .inl (hA i hi)⟩, Ch.refl _ _⟩
  have hk : 0 ≤ k ∧ k ≤ 999 := by simpa using hr
  rw [if_pos hk, if_pos hk]
  refine (c69 hS hP hI hk).use ?_
  rintro _ w5 ⟨rfl, e5⟩
  have hS5 := hS.ext e5
  have hC5 : Ch A w w5 := e5.mono fun _ _ h => h.elim
  by_cases hne : P = []
  · subst hne
    refine ⟨(((0 : Nat) : Int), ((0 : Nat) : Int), false), rfl, ?_⟩
    have hps : ps = [] := List.map_eq_nil_iff.1 hP
    subst hps
    refine ⟨fun _ w26 => ∃ s', St w26 b s' [(⟨none, 0, 0⟩, [])] ∧ Ch A w w26 ∧ ∀ i, inSt b s' [(⟨none, 0, 0⟩, [])] i → New A w i, ?_, ?_⟩
    · refine IfB.no rfl ⟨b, 0, rfl, s, hS5.cell, IfB.yes (by rw [show s.2 = s.n from rfl, hS.n]; rfl) ⟨by decide, fun b20 w21 h21 => ⟨b, 0, rfl, rfl, ?_⟩⟩⟩
      have e21 : Ext w5 w21 := h21.ch _
      have hS21 := hS5.ext e21
      obtain ⟨T, hT⟩ := hS21.box
      have hb20 : b20 ≠ b := fun e => by have := hS5.lt (.inl rfl); have := h21.here; omega
      refine St.setBox (s' := ⟨some ⟨b20, 0, none⟩, 1, 1⟩) (ps := [(⟨none, 0, 0⟩, [])]) ⟨T, hT⟩ (.inr ⟨b20, _, _, rfl, h21.new, rfl, Nat.le_refl _, rfl⟩) ?_ (by simp) ?_ ?_ ?_
      · intro x hx; simp at hx; subst hx; exact .inl ⟨rfl, rfl⟩
      · intro x hx i hi; simp at hx; subst hx; simp [blk] at hi
      · simp [blk]; exact fun e => hb20 e.symm
      · intro w24 hS24 hc24
        refine ⟨rfl, _, hS24, (hC5.thenExt e21).thenNew hc24 fun i hi => .inl (hA i (.inl hi)), ?_⟩
        rintro i (rfl | hi | ⟨y, hy, hi⟩)
        · exact .inl (hA _ (.inl rfl))
        · have : i = b20 := by simpa [blk] using hi
          exact .inr (by have := h21.here; have := e5.size; omega)
        · simp at hy; subst hy; simp [blk] at hi
    · rintro _ w26 _ ⟨s', hS26, hC26, hA26⟩
      exact c28j1 (i := 0) (L := []) (R := []) (x := (⟨none, 0, 0⟩, [])) (q := [(k, v)]) hS26 (Nat.le_refl _) (by simp) rfl (by simp [putP]) (by simp) hC26 hA26 fun w' h1 h2 => ⟨rfl, h1, h2⟩
  · have hAt := atP_is hI hne k
    rw [findV_some hne]
    refine ⟨(_, _, _), rfl, ?_⟩
    obtain ⟨L, x, R, rfl, hL, hx, hLm, hRm⟩ := split_at hP hAt
    have h8 := hI.few _ hAt.mem
    have hsr := hAt.srt
    have hpl := hI.plen
    have hhas : hasP P k = isP x.2 k := by rw [hx]; rfl
    have hLR : L.length + R.length ≤ 1000 := by
      have := congrArg List.length hP; simp at this; omega
    rw [← hx] at h8 hsr ⊢
    refine ⟨fun _ w26 => w26 = w5 ∧ isP x.2 k = false, ?_, ?_⟩
    · refine IfB.intro (fun hi => ?_) (fun hi => ?_)
      · -- it is there: its value is put
        have hi' : isP x.2 k = true := hi
        obtain ⟨u, hu⟩ := isP_iff.1 hi'
        obtain ⟨hH, ho, hf⟩ := hS5.hole
        obtain ⟨a, ha, hca⟩ := hH.pageCell
        obtain ⟨b2, hb2, hcb⟩ := pageE ho hu
        have hsn : s.n = L.length + R.length + 1 := hH.n
        have hxn : x.1.n = x.2.length := by have := ho.len; rw [prs_len] at this; omega
        have hpl := (List.getElem?_eq_some_iff.1 hu).1
        refine ⟨b, 0, rfl, s, hS5.cell, a, 0, ha, ?_, x.1, ?_, b2, 0, hb2, ?_, rfl, ?_⟩
        · exact (⟨by omega, by omega⟩ : (0 : Int) ≤ (atP P k : Int) ∧ (atP P k : Int) < (s.n : Int))
        · rw [Int.toNat_natCast, Nat.zero_add, ← hL]; exact hca
        · exact (⟨by omega, by omega⟩ : (0 : Int) ≤ (posP x.2 k : Int) ∧ (posP x.2 k : Int) < (x.1.n : Int))
        · rw [Int.toNat_natCast, Nat.zero_add]
          refine ho.store (vs := [.int .i64 v]) hb2 (by simp; omega) (by intro y hy; simp at hy; subst hy; rfl) fun w' ho' hc' => ?_
          have hbk : blk x.1 = [b2] := by simp [blk, hb2]
          have hH' := hH.ch hc' fun j hj e => hf j (by rw [hbk, e]; simp) hj
          rw [List.length_singleton, prs_setv hu] at ho'
          have hS' : St w' b s (L ++ (x.1, x.2.set (posP x.2 k) (k, v)) :: R) := StH.fill (x := (x.1, _)) hH' ho' hf
          refine ⟨rfl, ⟨s, _, hS', ?_, fun j hj => .inl ?_⟩, hC5.thenNew hc' fun j hj => .inl (hA j (inSt_at (by rw [hbk, hj]; simp)))⟩
          · rw [putP_eq hne, ← hx, insS_is hsr hi', if_neg (by rw [List.length_set]; omega)]
            simp [hLm, hRm]
          · rcases inSt_hole hj with h | h
            · exact hA j (inSt_of h)
            · exact hA j (inSt_at h)
      · refine ⟨b, 0, rfl, s, hS5.cell, IfB.no ?_ ⟨rfl, rfl, hi⟩⟩
        have := hS5.n
        rw [show s.2 = s.n from rfl, this]
        simp; omega
    · rintro _ w26 _ ⟨rfl, hi⟩
      have := c28j1 (Q := fun r w' => r = .int .i64 0 ∧ StA (New A w) w' b (putP P k v) ∧ Ch A w w') (i := posP x.2 k) hS5 (posP_le _ _) h8 rfl (by rw [putP_eq hne, ← hx, insS_not hsr hi, hLm, hRm]) hLR hC5 (fun j hj => .inl (hA j hj)) fun w' h1 h2 => ⟨rfl, h1, h2⟩
      rw [hL] at this
      exact this
end Go.Proofs.Ytopecljhehcldaa.Gx
