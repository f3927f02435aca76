/- Merged by pack.py: KeyB, KeyC, GxNQ, GxLJ, GxJ, IntA, GxLK, IntK, GxN, DepA, GxNW, SerE, DepB, GxLC, IntC, GxLX, IntX, DepC, GxNP. -/
import Derived.Test.YtmmhbjbaallkfaaPc1
import Derived.Test.YtmmhbjbaallkfaaPc2
import Derived.Test.YtmmhbjbaallkfaaPc3

/- Package keys: plain. -/
namespace Go.Proofs.Ytmmhbjbaallkfaa.Gx
open Go
set_option linter.unusedSimpArgs false
set_option linter.unusedVariables false
def NormS (l : List Spn) : Prop := l.Pairwise (fun a b => a.2 + 1 < b.1) ∧ ∀ x ∈ l, mayS x
structure PlI (os ds : List Spn) : Prop where
  norm : NormS os
  has : ∀ k, hasS os k ↔ hasS ds k
  lo : ∀ y ∈ os, ∃ d ∈ ds, y.1 = d.1
  len : os.length ≤ ds.length
theorem PlI.nil : PlI [] [] := ⟨⟨.nil, by simp⟩, fun k => Iff.rfl, by simp, Nat.le_refl _⟩
theorem hasS_append (a b : List Spn) (k : Int) : hasS (a ++ b) k ↔ hasS a k ∨ hasS b k := by
  unfold hasS
  constructor
  · rintro ⟨x, hx, h⟩
    rcases List.mem_append.1 hx with hx | hx
    · exact .inl ⟨x, hx, h⟩
    · exact .inr ⟨x, hx, h⟩
  · rintro (⟨x, hx, h⟩ | ⟨x, hx, h⟩)
    · exact ⟨x, List.mem_append.2 (.inl hx), h⟩
    · exact ⟨x, List.mem_append.2 (.inr hx), h⟩
theorem hasS_one (s : Spn) (k : Int) : hasS [s] k ↔ mayS s ∧ s.1 ≤ k ∧ k ≤ s.2 := by simp [hasS]
theorem PlI.add {os ds : List Spn} {s : Spn} (h : PlI os ds) (hs : mayS s) (hb : ∀ y ∈ os, y.2 + 1 < s.1) : PlI (os ++ [s]) (ds ++ [s]) := by
  refine ⟨⟨List.pairwise_append.2 ⟨h.norm.1, by simp, fun a ha b hb' => ?_⟩, fun x hx => ?_⟩, fun k => ?_, fun y hy => ?_, ?_⟩
  · rw [List.mem_singleton.1 hb']; exact hb a ha
  · rcases List.mem_append.1 hx with hx | hx
    · exact h.norm.2 x hx
    · rw [List.mem_singleton.1 hx]; exact hs
  · rw [hasS_append, hasS_append, h.has]
  · rcases List.mem_append.1 hy with hy | hy
    · obtain ⟨d, hd, e⟩ := h.lo y hy
      exact ⟨d, List.mem_append.2 (.inl hd), e⟩
    · exact ⟨y, List.mem_append.2 (.inr hy), rfl⟩
  · have := h.len; simp; omega
theorem PlI.grow {pre ds : List Spn} {l s : Spn} {m : Int} (h : PlI (pre ++ [l]) ds) (hs : mayS s) (hd : ∀ d ∈ ds, d.1 ≤ s.1) (hb : s.1 ≤ l.2 + 1) (hm : m = if l.2 < s.2 then s.2 else l.2) : PlI (pre ++ [(l.1, m)]) (ds ++ [s]) := by
  obtain ⟨d0, hd0, e0⟩ := h.lo l (by simp)
  have hls : l.1 ≤ s.1 := by rw [e0]; exact hd d0 hd0
  have hml := h.norm.2 l (by simp)
  obtain ⟨p1, _, p3⟩ := List.pairwise_append.1 h.norm.1
  have hm1 : l.2 ≤ m := by subst hm; split <;> omega
  have hm2 : s.2 ≤ m := by subst hm; split <;> omega
  have hm3 : m = s.2 ∨ m = l.2 := by subst hm; split <;> simp
  have hmm : mayS (l.1, m) := by unfold mayS at *; dsimp only; omega
  refine ⟨⟨List.pairwise_append.2 ⟨p1, by simp, fun a ha b hb' => ?_⟩, fun x hx => ?_⟩, fun k => ?_, fun y hy => ?_, ?_⟩
  · rw [List.mem_singleton.1 hb']; exact p3 a ha l (by simp)
  · rcases List.mem_append.1 hx with hx | hx
    · exact h.norm.2 x (by simp [hx])
    · rw [List.mem_singleton.1 hx]; exact hmm
  · rw [hasS_append, hasS_append, ← h.has, hasS_append, hasS_one, hasS_one, hasS_one, or_assoc]
    refine or_congr Iff.rfl ?_
    unfold mayS at *
    dsimp only at *
    omega
  · rcases List.mem_append.1 hy with hy | hy
    · obtain ⟨d, hd, e⟩ := h.lo y (by simp [hy])
      exact ⟨d, List.mem_append.2 (.inl hd), e⟩
    · rw [List.mem_singleton.1 hy]
      exact ⟨d0, List.mem_append.2 (.inl hd0), e0⟩
  · have := h.len; simp at this ⊢; omega
theorem hasS_filter (xs : List Spn) (k : Int) : hasS (xs.filter fun x => !!decide (mayS x)) k ↔ hasS xs k := by
  unfold hasS
  constructor
  · rintro ⟨x, hx, h⟩; exact ⟨x, (List.mem_filter.1 hx).1, h⟩
  · rintro ⟨x, hx, h⟩; exact ⟨x, List.mem_filter.2 ⟨hx, by simp [h.1]⟩, h⟩
theorem hasS_perm {xs ys : List Spn} (h : xs.Perm ys) (k : Int) : hasS xs k ↔ hasS ys k := by
  unfold hasS
  exact ⟨fun ⟨x, hx, r⟩ => ⟨x, h.mem_iff.1 hx, r⟩, fun ⟨x, hx, r⟩ => ⟨x, h.mem_iff.2 hx, r⟩⟩
theorem last_split {os : List Spn} (h : 0 < os.length) : ∃ pre l, os = pre ++ [l] := by
  have hne : os ≠ [] := List.length_pos_iff.1 h
  exact ⟨os.dropLast, os.getLast hne, (List.dropLast_concat_getLast hne).symm⟩
theorem c74 {w : World} {t : Sl} {xs : List SpL} (h : Rd w t 1 (xs.map hS)) (hx : ∀ x ∈ xs, Rd w x.1 2 (x.2.flatMap sv)) (hl : sumS xs ≤ 1000000) (hn : xs.length ≤ 1000) :
    CW Try.prog 74 #[slV t] w fun v w' => ∃ t' os, v = slV t' ∧ NormS os ∧ (∀ k, hasS os k ↔ hasS (xs.flatMap (·.2)) k) ∧ OwS w' t' 2 (os.flatMap sv) ∧ os.length ≤ sumS xs ∧ Ext w w' ∧ ∀ j ∈ blk t', w.heap.size ≤ j := by
  refine F74_ok t w _ ((c98 h hx hl hn).use ?_)
  rintro _ w2 ⟨s3, rfl, ho3, e2, hb3⟩
  obtain ⟨all, hall⟩ : ∃ all, all = xs.flatMap (·.2) := ⟨_, rfl⟩
  have hal : all.length = sumS xs := by rw [hall]; rfl
  rw [← hall] at ho3 ⊢
  refine ⟨s3, rfl, (c97 (t1 := (99, #[])) (q := fun x => !decide (mayS x)) ho3 (by omega) fun x W hx hC R' hR => (c99 x W).use fun v w' ⟨hv, e⟩ => hv ▸ hR w' e).use ?_⟩
  rintro _ w5 ⟨s6, rfl, ho6, hp6, hC5⟩
  have hb6 : blk s6 = blk s3 := by simp [blk, hp6]
  have e5 : Ext w w5 := e2.then hC5 fun i hi h => by have := hb3 i h; omega
  have hfl := List.length_filter_le (fun x : Spn => !!decide (mayS x)) all
  refine ⟨s6, rfl, (SfS.c101 c102 ho6 (by omega)).use ?_⟩
  rintro _ w8 ⟨rfl, zs, hperm, hsort, ho8, hC8⟩
  have e8 : Ext w w8 := e5.then hC8 fun i hi h => by rw [hb6] at h; have := hb3 i h; omega
  have hzl : zs.length ≤ sumS xs := by have := hperm.length_eq; omega
  have hzm : ∀ x ∈ zs, mayS x := fun x hx => by
    have := (List.mem_filter.1 (hperm.mem_iff.1 hx)).2
    simpa using this
  have hzk : ∀ k, hasS zs k ↔ hasS all k := fun k => (hasS_perm hperm k).trans (hasS_filter all k)
  have hzn := owsN sv_len (by omega) ho8
  have hzs : ∀ i (hi : i < zs.length), ∀ d ∈ zs.take i, d.1 ≤ zs[i].1 := fun i hi d hd => by
    obtain ⟨j, hj, rfl⟩ := List.getElem_of_mem hd
    rw [List.length_take] at hj
    rw [List.getElem_take]
    exact List.pairwise_iff_getElem.1 hsort j i (by omega) hi (by omega)
  have hR8 := ho8.rd
  refine ⟨(), rfl, fun n x W => ∃ (i : Nat) (so : Sl) (os : List Spn), i ≤ zs.length ∧ n + i = zs.length ∧ x = (so, (i : Int)) ∧ PlI os (zs.take i) ∧ OwS W so 2 (os.flatMap sv) ∧ Ext w8 W ∧ ∀ j ∈ blk so, w8.heap.size ≤ j,
    ⟨zs.length, 0, ⟨none, 0, 0⟩, [], Nat.zero_le _, rfl, rfl, .nil, .nil _ _, Ch.refl _ _, by simp [blk]⟩, ?_⟩
  rintro n _ W g ⟨i, so, os, hi, hni, rfl, hI, ho, hE, hbo⟩
  have hon := owsN sv_len (by omega) ho
  have hol := hI.len
  rw [List.length_take] at hol
  unfold F74j1
  refine IfB.dec (fun hlt => ?_) fun hge => ?_
  · have hi' : i < zs.length := by
      have : (i : Int) < (s6.n : Int) := hlt
      omega
    have hz : zs[i]? = some zs[i] := List.getElem?_eq_getElem hi'
    have hms := hzm _ (List.getElem_mem hi')
    have hds := hzs i hi'
    generalize zs[i] = s at hz hms hds
    obtain ⟨a, o, hp, hc⟩ := (hR8.ext hE).elem (i := i) (by omega) (by omega) (flatGet sv_len hz)
    have htk := take_succ_get hz
    refine ⟨a, o, hp, (⟨by omega, by omega⟩ : (0 : Int) ≤ (i : Int) ∧ (i : Int) < (s6.n : Int)), s, by rw [Int.toNat_natCast]; exact hc, boxSp rfl fun b20 w22 hb20 hs22 h22 e22 _ => ?_⟩
    have ho22 := ho.ext e22
    have hi1 : IntKind.i64.wrap ((i : Int) + 1) = ((i + 1 : Nat) : Int) := by rw [wrap_of (by omega) (by omega)]; rfl
    -- a span more
    have app : (∀ y ∈ os, y.2 + 1 < s.1) → ∀ (w2 : World), Ext w22 w2 → ∃ (x42 : Int × Int), CellsAt w2 b20 0 [.int .i64 x42.1, .int .i64 x42.2] ∧ 1 * 2 ≤ 16777216 ∧
        AllocP w2 (.cells #[.int .i64 x42.1, .int .i64 x42.2] 51) fun b43 w44 => ∃ l45, ReadC w44 (some ⟨b43, 0, none⟩) (1 * 2) l45 ∧
        AppendP tt51 51 w44 so.1 so.2 so.3 1 l45 fun s46 w47 => ([] : List Nat) = [] ∧ ∃ b48, b48 < n ∧ ∃ (i' : Nat) (so' : Sl) (os : List Spn), i' ≤ zs.length ∧ b48 + i' = zs.length ∧ (({ p := s46.1, n := s46.2, c := s46.3 } : Sl), IntKind.i64.wrap ((i : Int) + 1)) = (so', (i' : Int)) ∧ PlI os (zs.take i') ∧ OwS w47 so' 2 (os.flatMap sv) ∧ Ext w8 w47 ∧ ∀ j ∈ blk so', w8.heap.size ≤ j := by
      intro hb w2 e2
      refine ⟨s, cellsAt_of (e2.at h22) fun i v hv => by simpa using hv, by decide, fun b43 w44 h44 => ?_⟩
      have e44 : Ext w22 w44 := e2.trans (h44.ch _)
      refine (ho22.ext e44).lit (new := sv s) (T' := 51) h44.new rfl (sv_one s) rfl rfl (by omega) (by decide) fun s' w' ho' hn' hC' hb' => ⟨rfl, n - 1, by omega, i + 1, s', os ++ [s], hi', by omega, by rw [hi1], ?_, ?_, ?_, ?_⟩
      · rw [htk]; exact hI.add hms hb
      · rw [List.flatMap_append]; simpa using ho'
      · exact (hE.trans (e22.trans e44)).then hC' fun j hj h => by have := hbo j h; omega
      · intro j hj
        rcases hb' j hj with h | h
        · exact hbo j h
        · have := hE.size; have := (e22.trans e44).size; omega
    refine IfB.dec (fun h0 => ?_) fun h0 => ?_
    · have h0' : 0 < os.length := by
        have : (0 : Int) < (so.n : Int) := h0
        omega
      obtain ⟨pre, l, hos⟩ := last_split h0'
      have hol' : os.length = pre.length + 1 := by rw [hos]; simp
      have hgl : os[pre.length]? = some l := by rw [hos]; simp
      have hml : mayS l := hI.norm.2 l (by rw [hos]; simp)
      have hd : ∀ W2, Ext w22 W2 → ∃ a2, so.p = some ⟨a2, 0, none⟩ ∧ CellsAt W2 a2 (pre.length * 2) [.int .i64 l.1, .int .i64 l.2] := fun W2 e => (ho22.ext e).elem (i := pre.length) (by omega) (flatGet sv_len hgl)
      have ed := extDrew w22
      have edd := ed.trans (extDrew w22.drew)
      obtain ⟨a2, hp2, hc2⟩ := hd _ ed
      obtain ⟨a3, hp3, hc3⟩ := hd _ edd
      rw [hp2] at hp3; cases hp3
      have hwn : IntKind.i64.wrap ((so.n : Int) - 1) = ((pre.length : Nat) : Int) := by rw [wrap_of (by omega) (by omega)]; omega
      have hw2 : IntKind.i64.wrap (l.2 + 1) = l.2 + 1 := by unfold mayS at hml; rw [wrap_of (by omega) (by omega)]
      have q0 : ∀ W2, Ext w22 W2 → W2.cell? ⟨b20, 0 + 0, none⟩ = some (.int .i64 s.1) := fun W2 e => by rw [cell_of (e.at h22)]; rfl
      have q1 : ∀ W2, Ext w22 W2 → W2.cell? ⟨b20, 0 + 1, none⟩ = some (.int .i64 s.2) := fun W2 e => by rw [cell_of (e.at h22)]; rfl
      refine ⟨s.1, q0 _ ed, a2, 0, hp2, ?_, l.2, ?_, ?_⟩
      · dsimp only; rw [hwn]; omega
      · dsimp only; rw [hwn, Int.toNat_natCast, Nat.zero_add]; exact hc2.snd
      · rw [hw2]
        refine IfB.dec (fun hle => ?_) fun hgt => ?_
        · refine ⟨a2, 0, hp2, ?_, l.2, ?_, s.2, q1 _ edd, a2, 0, hp2, ?_, rfl, ?_⟩
          · dsimp only; rw [hwn]; omega
          · dsimp only; rw [hwn, Int.toNat_natCast, Nat.zero_add]; exact hc3.snd
          · dsimp only; rw [hwn]; omega
          · dsimp only; rw [hwn, Int.toNat_natCast, Nat.zero_add]
            refine (ho22.ext edd).store (vs := [.int .i64 (if l.2 < s.2 then s.2 else l.2)]) hp2 (by simp; omega) (by intro v hv; rw [List.mem_singleton.1 hv]; rfl) fun w33 ho33 hC33 => ?_
            refine ⟨rfl, n - 1, by omega, i + 1, so, pre ++ [(l.1, if l.2 < s.2 then s.2 else l.2)], hi', by omega, by rw [hi1], ?_, ?_, ?_, hbo⟩
            · rw [htk]; exact PlI.grow (hos ▸ hI) hms hds hle rfl
            · have e1 : (os.flatMap sv) = (pre.flatMap sv ++ [.int .i64 l.1]) ++ [.int .i64 l.2] := by rw [hos]; simp
              have e2 : (pre.flatMap sv ++ [Value.int .i64 l.1]).length = pre.length * 2 + 1 := by simp [flatLen sv_len]
              rw [e1, ← e2, List.take_append_of_le_length (Nat.le_refl _), List.take_length, List.drop_of_length_le (by simp)] at ho33
              simpa using ho33
            · exact (hE.trans (e22.trans edd)).then hC33 fun j hj e => by have := hbo j (by simp [blk, hp2, e]); omega
        · unfold F74k1
          refine app (fun y hy => ?_) _ ed
          have hgt' : l.2 + 1 < s.1 := by omega
          rw [hos] at hy
          rcases List.mem_append.1 hy with hy | hy
          · have := (List.pairwise_append.1 (hos ▸ hI.norm.1)).2.2 y hy l (by simp)
            unfold mayS at hml; omega
          · rw [List.mem_singleton.1 hy]; exact hgt'
    · have h0' : os = [] := List.length_eq_zero_iff.1 (by
        have : ¬ (0 : Int) < (so.n : Int) := h0
        omega)
      unfold F74k1
      exact app (by rw [h0']; simp) _ (extDrew _)
  · have hi' : i = zs.length := by
      have : ¬ (i : Int) < (s6.n : Int) := hge
      omega
    subst hi'
    rw [List.take_length] at hI
    exact ⟨so, os, rfl, hI.norm, fun k => (hI.has k).trans (hzk k), ho, by omega, e8.trans hE, fun j hj => by have := hbo j hj; have := e8.size; omega⟩
end Go.Proofs.Ytmmhbjbaallkfaa.Gx

/- Package keys: meets, Meet. -/
namespace Go.Proofs.Ytmmhbjbaallkfaa.Gx
open Go
set_option linter.unusedSimpArgs false
set_option linter.unusedVariables false
def bothS (x y : Spn) : Spn := (if x.1 < y.1 then y.1 else x.1, if y.2 < x.2 then y.2 else x.2)
def meetRow (x : Spn) (bs : List Spn) : List Spn := (bs.map (bothS x)).filter fun s => decide (s.1 ≤ s.2)
def meetL (ls bs : List Spn) : List Spn := ls.flatMap fun x => meetRow x bs
theorem meetRow_take {x y : Spn} {bs : List Spn} {j : Nat} (h : bs[j]? = some y) : meetRow x (bs.take (j + 1)) = meetRow x (bs.take j) ++ if (bothS x y).1 ≤ (bothS x y).2 then [bothS x y] else [] := by
  unfold meetRow
  rw [take_succ_get h, List.map_append, List.filter_append]
  congr 1
  by_cases hc : (bothS x y).1 ≤ (bothS x y).2 <;> simp [hc]
theorem meetL_take {ls bs : List Spn} {i : Nat} {x : Spn} (h : ls[i]? = some x) : meetL (ls.take (i + 1)) bs = meetL (ls.take i) bs ++ meetRow x bs := by
  unfold meetL; rw [take_succ_get h, List.flatMap_append]; simp
structure InvM (b1 b3 : Nat) (sa sb : Sl) (ls bs : List Spn) (W : World) : Prop where
  a : ∃ T, W.heap[b1]? = some (.cells #[slV sa] T (0, 0))
  b : ∃ T, W.heap[b3]? = some (.cells #[slV sb] T (0, 0))
  ra : Rd W sa 2 (ls.flatMap sv)
  rb : Rd W sb 2 (bs.flatMap sv)
theorem InvM.stb {n b1 b3 : Nat} {sa sb : Sl} {ls bs : List Spn} {W W' : World} (h : InvM b1 b3 sa sb ls bs W) (hS : Stb n W W') : InvM b1 b3 sa sb ls bs W' := by
  obtain ⟨⟨T, h1⟩, ⟨T', h2⟩, h3, h4⟩ := h
  exact ⟨⟨T, hS.keep _ _ h1 rfl⟩, ⟨T', hS.keep _ _ h2 rfl⟩, rd_stb h3 hS, rd_stb h4 hS⟩
abbrev spA (x : Spn) : Array Value := #[spV x]
theorem itM (b1 b3 : Nat) (sa sb : Sl) (ls bs : List Spn) (hla : ls.length ≤ 1000000) (hlb : bs.length ≤ 1000000) :
    IterU Try.prog 96 #[.pointer (some ⟨b1, 0, none⟩), .pointer (some ⟨b3, 0, none⟩)] spA false (fun pre x => ∃ post, pre ++ x :: post = meetL ls bs) (fun xs => xs = meetL ls bs) (InvM b1 b3 sa sb ls bs) := by
  refine ⟨en96, fun l J Jx U W hJ hJx hInv hSz _ hU hU1 hstep h0 => ?_⟩
  have hI0 := hInv _ _ h0
  have han := rdN sv_len (by omega) hI0.ra
  have hbn := rdN sv_len (by omega) hI0.rb
  obtain ⟨T1, hT1⟩ := hI0.a
  refine F96_ok l b1 b3 W _ ⟨sa, by rw [cell_of hT1]; rfl, fun n x w6 => ∃ i : Nat, i ≤ ls.length ∧ n + i = ls.length ∧ x = (i : Int) ∧ J (meetL (ls.take i) bs) w6, ⟨ls.length, 0, Nat.zero_le _, rfl, rfl, h0⟩, ?_⟩
  rintro n _ w6 g ⟨i, hi, hni, rfl, hj⟩
  have hw6 := hSz _ _ hj
  unfold F96j1
  refine IfB.dec (fun hlt => ?_) fun hge => ?_
  · have hi' : i < ls.length := by omega
    have hx : ls[i]? = some ls[i] := List.getElem?_eq_getElem hi'
    have hmt := meetL_take (bs := bs) hx
    have hsplit : ∀ (q : List Spn), (∃ r, q ++ r = meetRow ls[i] bs) → ∃ r, meetL (ls.take i) bs ++ q ++ r = meetL ls bs := fun q ⟨r, hr⟩ => by
      refine ⟨r ++ meetL (ls.drop (i + 1)) bs, ?_⟩
      have : meetL ls bs = meetL (ls.take (i + 1)) bs ++ meetL (ls.drop (i + 1)) bs := by
        unfold meetL; rw [← List.flatMap_append, List.take_append_drop]
      rw [this, hmt, ← hr]; simp
    generalize ls[i] = x at hx hmt hsplit
    obtain ⟨a, o, hp, hc⟩ := (hInv _ _ hj).ra.elem (i := i) (by omega) (by omega) (flatGet sv_len hx)
    refine ⟨a, o, hp, ⟨by omega, hlt⟩, x, by rw [Int.toNat_natCast]; exact hc, boxSp rfl fun b12 w14 hb12 hs14 h14 e14 hS14 => ?_⟩
    have hj14 := hJ _ _ _ hj (hS14 _ hw6)
    have hI14 := hInv _ _ hj14
    obtain ⟨T2, hT2⟩ := hI14.b
    have hn12 : ¬ U w14 b12 := fun h => by
      have := hU1 _ _ hj _ (hU _ _ (hS14 _ hw6) _ h)
      omega
    refine ⟨sb, by rw [cell_of hT2]; rfl, fun m y w20 => ∃ j : Nat, j ≤ bs.length ∧ m + j = bs.length ∧ y = (j : Int) ∧ J (meetL (ls.take i) bs ++ meetRow x (bs.take j)) w20 ∧ (∃ T, w20.heap[b12]? = some (.cells #[.int .i64 x.1, .int .i64 x.2] T (0, 0))) ∧ ¬ U w20 b12,
      ⟨bs.length, 0, Nat.zero_le _, rfl, rfl, by simpa [meetRow] using hj14, ⟨_, h14⟩, hn12⟩, ?_⟩
    rintro m _ w20 g ⟨j, hj1, hmj, rfl, hJ20, ⟨T3, h20⟩, hn20⟩
    have hw20 := hSz _ _ hJ20
    unfold F96j2
    refine IfB.dec (fun hlt2 => ?_) fun hge2 => ?_
    · have hj' : j < bs.length := by omega
      have hy : bs[j]? = some bs[j] := List.getElem?_eq_getElem hj'
      have hmr := meetRow_take (x := x) hy
      have hrest : ∃ r, meetRow x (bs.take (j + 1)) ++ r = meetRow x bs := ⟨meetRow x (bs.drop (j + 1)), by
        unfold meetRow; rw [← List.filter_append, ← List.map_append, List.take_append_drop]⟩
      generalize bs[j] = y at hy hmr
      obtain ⟨a2, o2, hp2, hc2⟩ := (hInv _ _ hJ20).rb.elem (i := j) (by omega) (by omega) (flatGet sv_len hy)
      have hi1 : IntKind.i64.wrap ((j : Int) + 1) = ((j + 1 : Nat) : Int) := by rw [wrap_of (by omega) (by omega)]; rfl
      have hlt12 := heap_lt h20
      refine ⟨a2, o2, hp2, ⟨by omega, hlt2⟩, y, by rw [Int.toNat_natCast]; exact hc2, boxSp rfl fun b26 w28 hb26 hs28 h28 e28 hS28 => ?_⟩
      have k28 := e28.at h20
      refine ⟨x.1, by rw [cell_of k28]; rfl, y.1, by rw [cell_of h28]; rfl, x.2, by rw [cell_of k28]; rfl, y.2, by rw [cell_of h28]; rfl, boxSp (x := bothS x y) rfl fun b33 w35 hb33 hs35 h35 e35 hS35 => ?_⟩
      have hS : ∀ n, n ≤ w20.heap.size → Stb n w20 w35 := fun n hn => (hS28 n hn).trans (hS35 n (by omega))
      have hJ35 := hJ _ _ _ hJ20 (hS _ hw20)
      have k35 := e35.at k28
      have hn35 : ¬ U w35 b12 := fun h => hn20 (hU _ _ (hS _ hw20) _ h)
      refine ⟨(bothS x y).1, by rw [cell_of h35]; rfl, (bothS x y).2, by rw [cell_of h35]; rfl, IfB.dec (fun hne => ?_) fun hne => ?_⟩
      · rw [if_pos hne] at hmr
        refine ⟨bothS x y, cellsAt_of h35 fun i v hv => by simpa using hv, (hstep _ (bothS x y) w35 hJ35 ?_).mono fun t w40 ht => ?_⟩
        · obtain ⟨r, hr⟩ := hsplit _ hrest
          exact ⟨r, by rw [← hr, hmr]; simp⟩
        · cases t with
          | false => exact IfB.yes rfl (.inr ⟨_, ht⟩)
          | true =>
            obtain ⟨hJ40, _, hK⟩ := ht
            refine IfB.no rfl ⟨rfl, m - 1, by omega, j + 1, hj', by omega, hi1, ?_, ⟨T3, ?_⟩, fun h => ?_⟩
            · rw [hmr, ← List.append_assoc]; exact hJ40
            · rw [hK.at' b12 (by omega) (by omega) hn35]; exact k35
            · rcases hK.own _ h with h | h
              · exact hn35 h
              · omega
      · rw [if_neg hne, List.append_nil] at hmr
        exact ⟨rfl, m - 1, by omega, j + 1, hj', by omega, hi1, by rw [hmr]; exact hJ35, ⟨T3, k35⟩, hn35⟩
    · have hj' : j = bs.length := by omega
      subst hj'
      rw [List.take_length] at hJ20
      exact ⟨rfl, n - 1, by omega, i + 1, hi', by omega, by rw [wrap_of (by omega) (by omega)]; rfl, by rw [hmt]; exact hJ20⟩
  · have hi' : i = ls.length := by omega
    subst hi'
    rw [List.take_length] at hj
    exact .inl ⟨_, rfl, hj⟩
theorem c73 (sa sb : Sl) (w : World) : CW Try.prog 73 #[slV sa, slV sb] w fun v w' => ∃ b1 b3, v = .func (.func 96) #[] #[.pointer (some ⟨b1, 0, none⟩), .pointer (some ⟨b3, 0, none⟩)] ∧
    (∃ T, w'.heap[b1]? = some (.cells #[slV sa] T (0, 0))) ∧ (∃ T, w'.heap[b3]? = some (.cells #[slV sb] T (0, 0))) ∧ w.heap.size ≤ b1 ∧ w.heap.size ≤ b3 ∧ Ext w w' :=
  F73_ok sa sb w _ fun b1 w2 h2 b3 w4 h4 => ⟨b1, b3, rfl, ⟨_, h4.at h2.new⟩, ⟨_, h4.new⟩, Nat.le_of_eq h2.here.symm, by rw [h4.here, h2.size]; omega, (h2.ch _).trans (h4.ch _)⟩
theorem meetL_iff {ls bs : List Spn} (ha : ∀ x ∈ ls, mayS x) (hb : ∀ x ∈ bs, mayS x) : meetL ls bs ≠ [] ↔ ∃ k, hasS ls k ∧ hasS bs k := by
  constructor
  · intro h
    obtain ⟨s, hs⟩ := List.exists_mem_of_ne_nil _ h
    obtain ⟨x, hx, hs⟩ := List.mem_flatMap.1 hs
    obtain ⟨hs, hd⟩ := List.mem_filter.1 hs
    obtain ⟨y, hy, rfl⟩ := List.mem_map.1 hs
    have hd : (bothS x y).1 ≤ (bothS x y).2 := by simpa using hd
    refine ⟨(bothS x y).1, ⟨x, hx, ha x hx, ?_⟩, ⟨y, hy, hb y hy, ?_⟩⟩
    · unfold bothS at hd ⊢; dsimp only at hd ⊢; split <;> split at hd <;> omega
    · unfold bothS at hd ⊢; dsimp only at hd ⊢; split <;> split at hd <;> omega
  · rintro ⟨k, ⟨x, hx, _, h1, h2⟩, ⟨y, hy, _, h3, h4⟩⟩ he
    have : bothS x y ∈ meetL ls bs := by
      refine List.mem_flatMap.2 ⟨x, hx, List.mem_filter.2 ⟨List.mem_map.2 ⟨y, hy, rfl⟩, ?_⟩⟩
      simp only [decide_eq_true_eq]
      unfold bothS; dsimp only; split <;> split <;> omega
    rw [he] at this
    cases this
theorem sumS_one (s : Sl) (l : List Spn) : sumS [(s, l)] = l.length := by simp [sumS]
/-- plain of one list, ls Meet calls it. -/
theorem plain1 {w : World} {s : Sl} {xs : List Spn} (h : Rd w s 2 (xs.flatMap sv)) (hl : xs.length ≤ 1000000) {K : Value → World → Prop}
    (hK : ∀ t' os w', NormS os → (∀ k, hasS os k ↔ hasS xs k) → OwS w' t' 2 (os.flatMap sv) → os.length ≤ xs.length → Ext w w' → (∀ j ∈ blk t', w.heap.size ≤ j) → K (slV t') w') {T : TypeId} :
    AllocP w (.cells #[slV s] T) fun b w2 => CX Try.prog 74 #[.slice (some ⟨b, 0, none⟩) 1 1] w2 K := by
  intro b w2 h2
  have e2 : Ext w w2 := h2.ch _
  have hR : Rd w2 ⟨some ⟨b, 0, none⟩, 1, 1⟩ 1 ([(s, xs)].map hS) := (OwS.new (cs := [slV s]) (n := 1) (sz := 1) h2 rfl).rd
  refine (c74 hR (fun x hx => by rw [List.mem_singleton.1 hx]; exact h.ext e2) (by rw [sumS_one]; exact hl) (by simp)).use ?_
  rintro _ w' ⟨t', os, rfl, h1, h3, h4, h5, h6, h7⟩
  rw [sumS_one] at h5
  simp only [List.flatMap_cons, List.flatMap_nil, List.append_nil] at h3
  exact hK t' os w' h1 h3 h4 h5 (e2.trans h6) fun j hj => by have := h7 j hj; have := e2.size; omega
theorem c60 {w : World} {s t : Sl} {xs ys : List Spn} (hs : Rd w s 2 (xs.flatMap sv)) (ht : Rd w t 2 (ys.flatMap sv)) (hxl : xs.length ≤ 1000000) (hyl : ys.length ≤ 1000000) :
    CW Try.prog 60 #[slV s, slV t] w fun v w' => ∃ r, v = .bool r ∧ (r = true ↔ ∃ k, hasS xs k ∧ hasS ys k) ∧ Ext w w' := by
  refine F60_ok s t w _ fun b1 w2 h2 => ⟨by decide, ?_⟩
  have e2 : Ext w w2 := h2.ch _
  refine plain1 (hs.ext e2) hxl fun s7 os1 w6 hN1 hk1 ho1 hl1 e6 hb7 => ⟨s7, rfl, by decide, ?_⟩
  refine plain1 (ht.ext (e2.trans e6)) hyl fun s12 os2 w11 hN2 hk2 ho2 hl2 e11 hb12 => ⟨s12, rfl, ?_⟩
  refine (c73 s7 s12 w11).use ?_
  rintro _ w14 ⟨p1, p3, rfl, hp1, hp3, hp1', hp3', e14⟩
  have hiff := meetL_iff hN1.2 hN2.2
  have hall : meetL os1 os2 ≠ [] ↔ ∃ k, hasS xs k ∧ hasS ys k := by
    rw [hiff]; exact exists_congr fun k => and_congr (hk1 k) (hk2 k)
  refine ⟨(96, #[.pointer (some ⟨p1, 0, none⟩), .pointer (some ⟨p3, 0, none⟩)]), rfl, fun g => ?_⟩
  have E14 : Ext w w14 := ((e2.trans e6).trans e11).trans e14
  have H1 : w14.heap[b1]? = some (.cells #[.bool false] 4 (0, 0)) := e14.at (e11.at (e6.at h2.new))
  have hI : InvM p1 p3 s7 s12 os1 os2 w14 := ⟨hp1, hp3, ((ho1.ext e11).ext e14).rd, (ho2.ext e14).rd⟩
  have hb1 : b1 < w14.heap.size := heap_lt H1
  have hb1' : w.heap.size = b1 := h2.here.symm
  refine range_noneU tbOk mixed (gf := 96) (lb := #[.pointer (some ⟨p1, 0, none⟩), .pointer (some ⟨p3, 0, none⟩)]) rfl (itM p1 p3 s7 s12 os1 os2 (by omega) (by omega)) R60_0ok1 R60_0ok2 R60_0okp (fun _ => rfl)
    (fun _ _ => False) (fun _ _ _ _ h => h)
    (fun pre W => pre = [] ∧ InvM p1 p3 s7 s12 os1 os2 W ∧ W.heap[b1]? = some (.cells #[.bool false] 4 (0, 0)) ∧ Ch (fun i => w.heap.size ≤ i) w W)
    (fun c pre W => c = .ret ∧ meetL os1 os2 ≠ [] ∧ W.heap[b1]? = some (.cells #[.bool true] 4 (0, 0)) ∧ Ch (fun i => w.heap.size ≤ i) w W) ?_ ?_ ?_ (fun h => by cases h) (fun _ _ _ _ h => h.elim) ?_ ?_ ?_ ?_
  · rintro pre A B ⟨h1, h2, h3, h4⟩ hS
    exact ⟨h1, h2.stb hS, hS.keep _ _ h3 rfl, h4.then (.ofStb hS) fun i _ hi => by omega⟩
  · rintro c pre A B ⟨h1, h2, h3, h4⟩ hS
    exact ⟨h1, h2, hS.keep _ _ h3 rfl, h4.then (.ofStb hS) fun i _ hi => by omega⟩
  · rintro pre W ⟨_, h, _⟩; exact h
  · exact ⟨rfl, hI, H1, E14.mono fun _ _ h => h.elim⟩
  · rintro pre x W ⟨rfl, hM, hB, hC⟩ hx hW
    refine F60b0_ok b1 (96, #[.pointer (some ⟨p1, 0, none⟩), .pointer (some ⟨p3, 0, none⟩)]) (spV x) _ _ _ _ _ W ?_
    refine ⟨rfl, ⟨rfl, rfl⟩, fun w9 hS _ _ => ⟨rfl, store_one (hS.keep _ _ hB rfl) (by simp) rfl fun w16 h16 => ?_⟩⟩
    refine ⟨⟨h16.old _ (by omega), h16.old _ (by omega)⟩, rfl, ?_, h16.new, (hC.then (.ofStb hS) fun i _ hi => by omega).then h16.ch fun i _ e => by omega⟩
    obtain ⟨post, hp⟩ := hx
    rw [← hp]; simp
  · rintro xs' W rfl ⟨hnil, _, hB, hC⟩ hD
    refine ⟨rfl, store_one hB (by simp) rfl fun w19 h19 => ?_⟩
    refine marks_one (h19.at hD (by omega)) fun w' hu => ⟨false, ?_, false, rfl, ?_, ?_⟩
    · rw [cell_of (hu.at h19.new (by omega))]; rfl
    · rw [← hall, hnil]; simp
    · have h := (hC.then h19.ch fun i _ e => (by omega : w.heap.size ≤ i)).then hu.ch fun i _ e => (by omega : w.heap.size ≤ i)
      exact h.mono fun i hi h => by omega
  · rintro c pre W ⟨rfl, hne, hB, hC⟩ hD
    refine marks_one hD fun w' hu => ⟨true, ?_, true, rfl, ?_, ?_⟩
    · rw [cell_of (hu.at hB (by omega))]; rfl
    · rw [← hall]; simp [hne]
    · have h := hC.then hu.ch fun i _ e => (by omega : w.heap.size ≤ i)
      exact h.mono fun i hi h => by omega
end Go.Proofs.Ytmmhbjbaallkfaa.Gx

/- Written by mkf.py: what is to be shown of functions, as Gx reckons it from their code. -/
namespace Go.Proofs.Ytmmhbjbaallkfaa.Gx
open Go
set_option linter.unusedVariables false
set_option maxRecDepth 100000
def F42 (t0 : (Leaf.int IntKind.i64).den × dens [Leaf.int IntKind.i64, Leaf.int IntKind.i64, Leaf.bool, Leaf.sl, Leaf.sl]) (t1 : (Leaf.int IntKind.i64).den × dens [Leaf.int IntKind.i64, Leaf.int IntKind.i64, Leaf.bool, Leaf.sl, Leaf.sl]) (w : World) (R : Value → World → Prop) : Prop :=
 AllocP w
 (Obj.cells
 #[Value.int IntKind.i64 t0.1, Value.int IntKind.i64 t0.snd.1, Value.int IntKind.i64 t0.snd.snd.1, Value.bool t0.snd.snd.snd.1,
 Value.slice t0.snd.snd.snd.snd.fst.1 t0.snd.snd.snd.snd.fst.2 t0.snd.snd.snd.snd.fst.3, Value.slice t0.snd.snd.snd.snd.snd.1 t0.snd.snd.snd.snd.snd.2 t0.snd.snd.snd.snd.snd.3]
 (27 : Nat))
 fun (b1 : Nat) (w2 : World) =>
 AllocP w2
 (Obj.cells
 #[Value.int IntKind.i64 t1.1, Value.int IntKind.i64 t1.snd.1, Value.int IntKind.i64 t1.snd.snd.1, Value.bool t1.snd.snd.snd.1,
 Value.slice t1.snd.snd.snd.snd.fst.1 t1.snd.snd.snd.snd.fst.2 t1.snd.snd.snd.snd.fst.3, Value.slice t1.snd.snd.snd.snd.snd.1 t1.snd.snd.snd.snd.snd.2 t1.snd.snd.snd.snd.snd.3]
 (27 : Nat))
 fun (b3 : Nat) (w4 : World) =>
 ∃ (n5 : Int),
 w4.cell? ({ block := b1, off := (0 : Nat) + (0 : Nat) } : Addr) = some (Value.int IntKind.i64 n5) ∧
 ∃ (n6 : Int),
 w4.cell? ({ block := b3, off := (0 : Nat) + (0 : Nat) } : Addr) = some (Value.int IntKind.i64 n6) ∧
 IfB (n5 != n6)
 (∃ (s7 : Sl),
 w4.cell? ({ block := b1, off := (0 : Nat) + (5 : Nat) } : Addr) = some (Value.slice s7.1 s7.2 s7.3) ∧
 ∃ (s8 : Sl),
 w4.cell? ({ block := b3, off := (0 : Nat) + (4 : Nat) } : Addr) = some (Value.slice s8.1 s8.2 s8.3) ∧
 CX Try.prog (60 : Nat) #[Value.slice s7.1 s7.2 s7.3, Value.slice s8.1 s8.2 s8.3] w4 fun (v9 : Value) (w10 : World) =>
 ∃ (t11 : Bool),
 v9 = Value.bool t11 ∧
 IfB t11 (R (Value.bool true) w10)
 (∃ (s12 : Sl),
 w10.cell? ({ block := b1, off := (0 : Nat) + (5 : Nat) } : Addr) = some (Value.slice s12.1 s12.2 s12.3) ∧
 ∃ (s13 : Sl),
 w10.cell? ({ block := b3, off := (0 : Nat) + (5 : Nat) } : Addr) = some (Value.slice s13.1 s13.2 s13.3) ∧
 CX Try.prog (60 : Nat) #[Value.slice s12.1 s12.2 s12.3, Value.slice s13.1 s13.2 s13.3] w10 fun (v14 : Value) (w15 : World) =>
 ∃ (t16 : Bool),
 v14 = Value.bool t16 ∧
 IfB t16 (R (Value.bool true) w15)
 (∃ (s17 : Sl),
 w15.cell? ({ block := b1, off := (0 : Nat) + (4 : Nat) } : Addr) = some (Value.slice s17.1 s17.2 s17.3) ∧
 ∃ (s18 : Sl),
 w15.cell? ({ block := b3, off := (0 : Nat) + (5 : Nat) } : Addr) = some (Value.slice s18.1 s18.2 s18.3) ∧
 CX Try.prog (60 : Nat) #[Value.slice s17.1 s17.2 s17.3, Value.slice s18.1 s18.2 s18.3] w15 fun (v19 : Value) (w20 : World) =>
 ∃ (t21 : Bool), v19 = Value.bool t21 ∧ R (Value.bool t21) w20)))
 (R (Value.bool false) w4)
theorem F42_ok (t0 : (Leaf.int IntKind.i64).den × dens [Leaf.int IntKind.i64, Leaf.int IntKind.i64, Leaf.bool, Leaf.sl, Leaf.sl]) (t1 : (Leaf.int IntKind.i64).den × dens [Leaf.int IntKind.i64, Leaf.int IntKind.i64, Leaf.bool, Leaf.sl, Leaf.sl]) (w : World) (R : Value → World → Prop) (h : F42 t0 t1 w R) : CW Try.prog 42 #[Value.agg #[Value.int IntKind.i64 t0.1, Value.int IntKind.i64 t0.snd.1, Value.int IntKind.i64 t0.snd.snd.1, Value.bool t0.snd.snd.snd.1, Value.slice t0.snd.snd.snd.snd.fst.1 t0.snd.snd.snd.snd.fst.2 t0.snd.snd.snd.snd.fst.3, Value.slice t0.snd.snd.snd.snd.snd.1 t0.snd.snd.snd.snd.snd.2 t0.snd.snd.snd.snd.snd.3], Value.agg #[Value.int IntKind.i64 t1.1, Value.int IntKind.i64 t1.snd.1, Value.int IntKind.i64 t1.snd.snd.1, Value.bool t1.snd.snd.snd.1, Value.slice t1.snd.snd.snd.snd.fst.1 t1.snd.snd.snd.snd.fst.2 t1.snd.snd.snd.snd.fst.3, Value.slice t1.snd.snd.snd.snd.snd.1 t1.snd.snd.snd.snd.snd.2 t1.snd.snd.snd.snd.snd.3]] w R :=
  call_of tbOk mixed en42 Try.func42 rfl (.nil) (by kernel_rfl) (Nat.le_of_ble_eq_true (by kernel_rfl)) (Eq.mp (α := F42 t0 t1 w R) (by kernel_rfl) h)
def F38 (t0 : (Leaf.int IntKind.i64).den × dens [Leaf.int IntKind.i64, Leaf.int IntKind.i64, Leaf.bool, Leaf.sl, Leaf.sl]) (t1 : (Leaf.int IntKind.i64).den × dens [Leaf.int IntKind.i64, Leaf.int IntKind.i64, Leaf.bool, Leaf.sl, Leaf.sl]) (w : World) (R : Value → World → Prop) : Prop :=
 AllocP w
 (Obj.cells
 #[Value.int IntKind.i64 t0.1, Value.int IntKind.i64 t0.snd.1, Value.int IntKind.i64 t0.snd.snd.1, Value.bool t0.snd.snd.snd.1,
 Value.slice t0.snd.snd.snd.snd.fst.1 t0.snd.snd.snd.snd.fst.2 t0.snd.snd.snd.snd.fst.3, Value.slice t0.snd.snd.snd.snd.snd.1 t0.snd.snd.snd.snd.snd.2 t0.snd.snd.snd.snd.snd.3]
 (27 : Nat))
 fun (b1 : Nat) (w2 : World) =>
 AllocP w2
 (Obj.cells
 #[Value.int IntKind.i64 t1.1, Value.int IntKind.i64 t1.snd.1, Value.int IntKind.i64 t1.snd.snd.1, Value.bool t1.snd.snd.snd.1,
 Value.slice t1.snd.snd.snd.snd.fst.1 t1.snd.snd.snd.snd.fst.2 t1.snd.snd.snd.snd.fst.3, Value.slice t1.snd.snd.snd.snd.snd.1 t1.snd.snd.snd.snd.snd.2 t1.snd.snd.snd.snd.snd.3]
 (27 : Nat))
 fun (b3 : Nat) (w4 : World) =>
 ∃ (n5 : Int),
 w4.cell? ({ block := b1, off := (0 : Nat) + (0 : Nat) } : Addr) = some (Value.int IntKind.i64 n5) ∧
 ∃ (n6 : Int),
 w4.cell? ({ block := b3, off := (0 : Nat) + (0 : Nat) } : Addr) = some (Value.int IntKind.i64 n6) ∧
 IfB (n5 == n6) (R (Value.bool true) w4)
 (∃ (x7 : Int × Int × Int × Bool × Sl × Sl),
 CellsAt w4 b1 (0 : Nat)
 [Value.int IntKind.i64 x7.1, Value.int IntKind.i64 x7.snd.1, Value.int IntKind.i64 x7.snd.snd.1, Value.bool x7.snd.snd.snd.1,
 Value.slice x7.snd.snd.snd.snd.fst.1 x7.snd.snd.snd.snd.fst.2 x7.snd.snd.snd.snd.fst.3, Value.slice x7.snd.snd.snd.snd.snd.1 x7.snd.snd.snd.snd.snd.2 x7.snd.snd.snd.snd.snd.3] ∧
 ∃ (x8 : Int × Int × Int × Bool × Sl × Sl),
 CellsAt w4 b3 (0 : Nat)
 [Value.int IntKind.i64 x8.1, Value.int IntKind.i64 x8.snd.1, Value.int IntKind.i64 x8.snd.snd.1, Value.bool x8.snd.snd.snd.1,
 Value.slice x8.snd.snd.snd.snd.fst.1 x8.snd.snd.snd.snd.fst.2 x8.snd.snd.snd.snd.fst.3, Value.slice x8.snd.snd.snd.snd.snd.1 x8.snd.snd.snd.snd.snd.2 x8.snd.snd.snd.snd.snd.3] ∧
 CX Try.prog (42 : Nat)
 #[Value.agg
 #[Value.int IntKind.i64 x7.1, Value.int IntKind.i64 x7.snd.1, Value.int IntKind.i64 x7.snd.snd.1, Value.bool x7.snd.snd.snd.1,
 Value.slice x7.snd.snd.snd.snd.fst.1 x7.snd.snd.snd.snd.fst.2 x7.snd.snd.snd.snd.fst.3, Value.slice x7.snd.snd.snd.snd.snd.1 x7.snd.snd.snd.snd.snd.2 x7.snd.snd.snd.snd.snd.3],
 Value.agg
 #[Value.int IntKind.i64 x8.1, Value.int IntKind.i64 x8.snd.1, Value.int IntKind.i64 x8.snd.snd.1, Value.bool x8.snd.snd.snd.1,
 Value.slice x8.snd.snd.snd.snd.fst.1 x8.snd.snd.snd.snd.fst.2 x8.snd.snd.snd.snd.fst.3, Value.slice x8.snd.snd.snd.snd.snd.1 x8.snd.snd.snd.snd.snd.2 x8.snd.snd.snd.snd.snd.3]]
 w4 fun (v9 : Value) (w10 : World) => ∃ (t11 : Bool), v9 = Value.bool t11 ∧ R (Value.bool t11) w10)
theorem F38_ok (t0 : (Leaf.int IntKind.i64).den × dens [Leaf.int IntKind.i64, Leaf.int IntKind.i64, Leaf.bool, Leaf.sl, Leaf.sl]) (t1 : (Leaf.int IntKind.i64).den × dens [Leaf.int IntKind.i64, Leaf.int IntKind.i64, Leaf.bool, Leaf.sl, Leaf.sl]) (w : World) (R : Value → World → Prop) (h : F38 t0 t1 w R) : CW Try.prog 38 #[Value.agg #[Value.int IntKind.i64 t0.1, Value.int IntKind.i64 t0.snd.1, Value.int IntKind.i64 t0.snd.snd.1, Value.bool t0.snd.snd.snd.1, Value.slice t0.snd.snd.snd.snd.fst.1 t0.snd.snd.snd.snd.fst.2 t0.snd.snd.snd.snd.fst.3, Value.slice t0.snd.snd.snd.snd.snd.1 t0.snd.snd.snd.snd.snd.2 t0.snd.snd.snd.snd.snd.3], Value.agg #[Value.int IntKind.i64 t1.1, Value.int IntKind.i64 t1.snd.1, Value.int IntKind.i64 t1.snd.snd.1, Value.bool t1.snd.snd.snd.1, Value.slice t1.snd.snd.snd.snd.fst.1 t1.snd.snd.snd.snd.fst.2 t1.snd.snd.snd.snd.fst.3, Value.slice t1.snd.snd.snd.snd.snd.1 t1.snd.snd.snd.snd.snd.2 t1.snd.snd.snd.snd.snd.3]] w R :=
  call_of tbOk mixed en38 Try.func38 rfl (.nil) (by kernel_rfl) (Nat.le_of_ble_eq_true (by kernel_rfl)) (Eq.mp (α := F38 t0 t1 w R) (by kernel_rfl) h)
def F16 (t0 : Sl) (t1 : Int) (t2 : Int) (w : World) (R : Value → World → Prop) : Prop :=
 IfB (decide ((0 : Int) ≤ t2))
 (IfB (decide (t2 < t1))
 (IfB (decide (t1 < (t0.n : Int)))
 (∃ (b1 : Nat),
 ∃ (b2 : Nat),
 t0.1 = some ({ block := b1, off := b2 } : Addr) ∧
 ((0 : Int) ≤ t1 ∧ t1 < (t0.2 : Int)) ∧
 ∃ (x3 : Int × Int × Int × Bool × Sl × Sl),
 CellsAt w.drew b1 (b2 + t1.toNat * (6 : Nat))
 [Value.int IntKind.i64 x3.1, Value.int IntKind.i64 x3.snd.1, Value.int IntKind.i64 x3.snd.snd.1, Value.bool x3.snd.snd.snd.1,
 Value.slice x3.snd.snd.snd.snd.fst.1 x3.snd.snd.snd.snd.fst.2 x3.snd.snd.snd.snd.fst.3, Value.slice x3.snd.snd.snd.snd.snd.1 x3.snd.snd.snd.snd.snd.2 x3.snd.snd.snd.snd.snd.3] ∧
 ∃ (b4 : Nat),
 ∃ (b5 : Nat),
 t0.1 = some ({ block := b4, off := b5 } : Addr) ∧
 ((0 : Int) ≤ t2 ∧ t2 < (t0.2 : Int)) ∧
 ∃ (x6 : Int × Int × Int × Bool × Sl × Sl),
 CellsAt w.drew b4 (b5 + t2.toNat * (6 : Nat))
 [Value.int IntKind.i64 x6.1, Value.int IntKind.i64 x6.snd.1, Value.int IntKind.i64 x6.snd.snd.1, Value.bool x6.snd.snd.snd.1,
 Value.slice x6.snd.snd.snd.snd.fst.1 x6.snd.snd.snd.snd.fst.2 x6.snd.snd.snd.snd.fst.3, Value.slice x6.snd.snd.snd.snd.snd.1 x6.snd.snd.snd.snd.snd.2 x6.snd.snd.snd.snd.snd.3] ∧
 CX Try.prog (38 : Nat)
 #[Value.agg
 #[Value.int IntKind.i64 x3.1, Value.int IntKind.i64 x3.snd.1, Value.int IntKind.i64 x3.snd.snd.1, Value.bool x3.snd.snd.snd.1,
 Value.slice x3.snd.snd.snd.snd.fst.1 x3.snd.snd.snd.snd.fst.2 x3.snd.snd.snd.snd.fst.3, Value.slice x3.snd.snd.snd.snd.snd.1 x3.snd.snd.snd.snd.snd.2 x3.snd.snd.snd.snd.snd.3],
 Value.agg
 #[Value.int IntKind.i64 x6.1, Value.int IntKind.i64 x6.snd.1, Value.int IntKind.i64 x6.snd.snd.1, Value.bool x6.snd.snd.snd.1,
 Value.slice x6.snd.snd.snd.snd.fst.1 x6.snd.snd.snd.snd.fst.2 x6.snd.snd.snd.snd.fst.3, Value.slice x6.snd.snd.snd.snd.snd.1 x6.snd.snd.snd.snd.snd.2 x6.snd.snd.snd.snd.snd.3]]
 w.drew fun (v7 : Value) (w8 : World) => ∃ (t9 : Bool), v7 = Value.bool t9 ∧ R (Value.bool t9) w8)
 (R (Value.bool false) w.drew))
 (R (Value.bool false) w.drew))
 (R (Value.bool false) w.drew)
theorem F16_ok (t0 : Sl) (t1 : Int) (t2 : Int) (w : World) (R : Value → World → Prop) (h : F16 t0 t1 t2 w R) : CW Try.prog 16 #[Value.slice t0.1 t0.2 t0.3, Value.int IntKind.i64 t1, Value.int IntKind.i64 t2] w R :=
  call_of tbOk mixed en16 Try.func16 rfl (.node (.nil) (.node (.draw (.st 0 (.st 1 (.st 2 (.st 3 (.st 4 (.st 5 (.st 6 (.st 7 (.st 8 (.st 9 (.st 10 (.st 11 (.st 12 (.st 13 (.st 14 (.st 15 (.st 16 (.st 17 (.st 18 (.st 19 (.st 20 (.st 21 (.ac 22 [] (.st 23 (.st 24 (.fin))) (.non))))))))))))))))))))))))) (.nil))) (by kernel_rfl) (Nat.le_of_ble_eq_true (by kernel_rfl)) (Eq.mp (α := F16 t0 t1 t2 w R) (by kernel_rfl) h)
noncomputable def R37_0 : Code := codeAt [1, 1, 1, 0, 1, 0] (bodyOf Try.f37)
def R37_0a : An := .node (.join [(27, .one (.bool))] [19, 20, 21, 22, 23, 24, 25, 26, 27] (.nil) (.nil)) (.node (.nil) (.node (.nil) (.loop [(36, .one (.int .i64))] [37, 38, 39, 12, 40, 41, 42, 43, 36] (.nil))))
theorem R37_0ok1 : okC tb Try.f37.ntmps (rA R37_0) .nil = true := by kernel_rfl
theorem R37_0ok2 : okC tb Try.f37.ntmps (rB R37_0) R37_0a = true := by kernel_rfl
theorem R37_0okp : (rP R37_0).toList.all (fun p => Nat.blt p Try.f37.ntmps) = true := by kernel_rfl
def F37 (t0 : Sl) (t1 : Sl) (t2 : (Leaf.int IntKind.i64).den × dens [Leaf.int IntKind.i64, Leaf.int IntKind.i64, Leaf.bool, Leaf.sl, Leaf.sl]) (w : World) (R : Value → World → Prop) : Prop :=
 AllocP w (Obj.cells #[Value.slice t0.1 t0.2 t0.3] (29 : Nat)) fun (b1 : Nat) (w2 : World) =>
 AllocP w2
 (Obj.cells
 #[Value.int IntKind.i64 t2.1, Value.int IntKind.i64 t2.snd.1, Value.int IntKind.i64 t2.snd.snd.1, Value.bool t2.snd.snd.snd.1,
 Value.slice t2.snd.snd.snd.snd.fst.1 t2.snd.snd.snd.snd.fst.2 t2.snd.snd.snd.snd.fst.3, Value.slice t2.snd.snd.snd.snd.snd.1 t2.snd.snd.snd.snd.snd.2 t2.snd.snd.snd.snd.snd.3]
 (27 : Nat))
 fun (b3 : Nat) (w4 : World) =>
 AllocP w4 (Obj.map #[] (0 : Nat)) fun (b5 : Nat) (w6 : World) =>
 AllocP w6 (Obj.cells #[Value.map none] (70 : Nat)) fun (b7 : Nat) (w8 : World) =>
 #[Value.map (some b5)].size = (1 : Nat) ∧
 StoreP w8 b7 (0 : Nat) [Value.map (some b5)] fun (w9 : World) =>
 AllocP w9 (Obj.cells #[Value.nilFunc] (73 : Nat)) fun (b10 : Nat) (w11 : World) =>
 #[Value.func (Fn.func (55 : Nat)) #[] #[Value.pointer (some ({ block := b7, off := (0 : Nat) } : Addr))]].size = (1 : Nat) ∧
 StoreP w11 b10 (0 : Nat) [Value.func (Fn.func (55 : Nat)) #[] #[Value.pointer (some ({ block := b7, off := (0 : Nat) } : Addr))]] fun (w12 : World) =>
 CX Try.prog (56 : Nat) #[Value.slice t1.1 t1.2 t1.3] w12 fun (v13 : Value) (w14 : World) =>
 ∃ (x15 : Nat × Array Value),
 v13 = Value.func (Fn.func x15.1) #[] x15.2 ∧
 ∀ (y16 : Nat → Value),
 RangeP Try.prog tb (nat_lit 47) none R37_0a (rG R37_0) (rP R37_0) (rA R37_0) (rB R37_0)
 (frC y16
 [((3 : Nat), Value.pointer (some ({ block := b1, off := (0 : Nat) } : Addr))), ((5 : Nat), Value.pointer (some ({ block := b3, off := (0 : Nat) } : Addr))), ((6 : Nat), Value.slice none (0 : Nat) (0 : Nat)),
 ((7 : Nat), Value.pointer (some ({ block := b7, off := (0 : Nat) } : Addr))), ((8 : Nat), Value.pointer (some ({ block := b10, off := (0 : Nat) } : Addr))),
 ((16 : Nat), Value.func (Fn.func x15.1) #[] x15.2)])
 [] w14
 (fun (l17 : List Nat) (w18 : World) =>
 ∃ (p19 : Option Nat),
 w18.cell? ({ block := b7, off := (0 : Nat) } : Addr) = some (Value.map p19) ∧
 CX Try.prog (58 : Nat) #[Value.map p19] w18 fun (v20 : Value) (w21 : World) =>
 ∃ (x22 : Nat × Array Value),
 v20 = Value.func (Fn.func x22.1) #[] x22.2 ∧
 CX Try.prog (57 : Nat) #[Value.func (Fn.func x22.1) #[] x22.2] w21 fun (v23 : Value) (w24 : World) =>
 ∃ (s25 : Sl), v23 = Value.slice s25.1 s25.2 s25.3 ∧ marksP w24 l17 fun (w26 : World) => R (Value.slice s25.1 s25.2 s25.3) w26)
 (fun (l27 : List Nat) (w28 : World) => marksP w28 l27 fun (w29 : World) => R (Value.slice none (0 : Nat) (0 : Nat)) w29) fun (b30 : Nat) (l31 : List Nat) (w32 : World) =>
 match b30.beq (0 : Nat) with
 | true => ∃ (p34 : Option Nat), w32.cell? ({ block := b7, off := (0 : Nat) } : Addr) = some (Value.map p34) ∧ CX Try.prog (58 : Nat) #[Value.map p34] w32 fun (v35 : Value) (w36 : World) => ∃ (x37 : Nat × Array Value), v35 = Value.func (Fn.func x37.1) #[] x37.2 ∧ CX Try.prog (57 : Nat) #[Value.func (Fn.func x37.1) #[] x37.2] w36 fun (v38 : Value) (w39 : World) => ∃ (s40 : Sl), v38 = Value.slice s40.1 s40.2 s40.3 ∧ marksP w39 l31 fun (w41 : World) => R (Value.slice s40.1 s40.2 s40.3) w41
 | false => False
theorem F37_ok (t0 : Sl) (t1 : Sl) (t2 : (Leaf.int IntKind.i64).den × dens [Leaf.int IntKind.i64, Leaf.int IntKind.i64, Leaf.bool, Leaf.sl, Leaf.sl]) (w : World) (R : Value → World → Prop) (h : F37 t0 t1 t2 w R) : CW Try.prog 37 #[Value.slice t0.1 t0.2 t0.3, Value.slice t1.1 t1.2 t1.3, Value.agg #[Value.int IntKind.i64 t2.1, Value.int IntKind.i64 t2.snd.1, Value.int IntKind.i64 t2.snd.snd.1, Value.bool t2.snd.snd.snd.1, Value.slice t2.snd.snd.snd.snd.fst.1 t2.snd.snd.snd.snd.fst.2 t2.snd.snd.snd.snd.fst.3, Value.slice t2.snd.snd.snd.snd.snd.1 t2.snd.snd.snd.snd.snd.2 t2.snd.snd.snd.snd.snd.3]] w R :=
  call_of tbOk mixed en37 Try.func37 rfl (.node (.nil) (.node (.nil) (.node (.nil) (.node (.node (.nil) (.rng [(3, .one (.box)), (5, .one (.box)), (6, .one (.sl)), (7, .one (.box)), (8, .one (.box)), (16, .one (.clo))] (.node (.join [(27, .one (.bool))] [19, 20, 21, 22, 23, 24, 25, 26, 27] (.nil) (.nil)) (.node (.nil) (.node (.nil) (.loop [(36, .one (.int .i64))] [37, 38, 39, 12, 40, 41, 42, 43, 36] (.nil))))))) (.nil))))) (by kernel_rfl) (Nat.le_of_ble_eq_true (by kernel_rfl)) (Eq.mp (α := F37 t0 t1 t2 w R) (by kernel_rfl) h)
def F37b0j2 (t8 : Nat) (Jn : World → Prop) (w12 : World) (s48 : Sl) (y49 : Nat → Int → World → Prop) (b51 : Nat) (n52 : Int) (w53 : World) (l : Nat) (D : Nat) : Prop :=
 IfB (decide (n52 < (s48.n : Int)))
 (∃ (b56 : Nat),
 ∃ (b57 : Nat),
 s48.1 = some ({ block := b56, off := b57 } : Addr) ∧
 ((0 : Int) ≤ n52 ∧ n52 < (s48.2 : Int)) ∧
 ∃ (n58 : Int),
 w53.cell? ({ block := b56, off := b57 + n52.toNat } : Addr) = some (Value.int IntKind.i64 n58) ∧
 ∃ (x59 : Nat × Array Value),
 w53.cell? ({ block := t8, off := (0 : Nat) } : Addr) = some (Value.func (Fn.func x59.1) #[] x59.2) ∧
 CX Try.prog x59.1 { toList := Value.int IntKind.i64 n58 :: x59.snd.1 } w53 fun (v60 : Value) (w61 : World) =>
 ∃ (y62 : Unit), v60 = Value.tuple #[] ∧ ([] : List Nat) = [] ∧ ∃ (b63 : Nat), b63 < b51 ∧ y49 b63 (IntKind.i64.wrap (n52 + (1 : Int))) w61)
 ((w53.1[l]? = w12.1[l]? ∧ w53.1[D]? = w12.1[D]?) ∧ Jn w53)
def F37b0j1 (t3 : Nat) (t8 : Nat) (x17 : Int) (Jn : World → Prop) (w12 : World) (t29 : Bool) (w30 : World) (l : Nat) (D : Nat) : Prop :=
 IfB t29 ((w30.1[l]? = w12.1[l]? ∧ w30.1[D]? = w12.1[D]?) ∧ Jn w30)
 (∃ (x41 : Nat × Array Value),
 w30.cell? ({ block := t8, off := (0 : Nat) } : Addr) = some (Value.func (Fn.func x41.1) #[] x41.2) ∧
 CX Try.prog x41.1 { toList := Value.int IntKind.i64 x17 :: x41.snd.1 } w30 fun (v42 : Value) (w43 : World) =>
 ∃ (y44 : Unit),
 v42 = Value.tuple #[] ∧
 ∃ (s45 : Sl),
 w43.cell? ({ block := t3, off := (0 : Nat) } : Addr) = some (Value.slice s45.1 s45.2 s45.3) ∧
 ∃ (b46 : Nat),
 ∃ (b47 : Nat),
 s45.1 = some ({ block := b46, off := b47 } : Addr) ∧
 ((0 : Int) ≤ x17 ∧ x17 < (s45.2 : Int)) ∧
 ∃ (s48 : Sl),
 w43.cell? ({ block := b46, off := b47 + x17.toNat } : Addr) = some (Value.slice s48.1 s48.2 s48.3) ∧
 ∃ (y49 : Nat → Int → World → Prop),
 (∃ (b50 : Nat), y49 b50 (0 : Int) w43) ∧
 ∀ (b51 : Nat) (n52 : Int) (w53 : World) (y54 : Nat → Value),
 y49 b51 n52 w53 →
 (F37b0j2 t8 Jn w12 s48 y49 b51 n52 w53 l D))
def F37b0 (t3 : Nat) (t5 : Nat) (t6 : Sl) (t7 : Nat) (t8 : Nat) (t16 : Nat × Array Value) (x17 : Int) (x18 : (Leaf.int IntKind.i64).den × dens [Leaf.int IntKind.i64, Leaf.int IntKind.i64, Leaf.bool, Leaf.sl, Leaf.sl]) (l D n₀ : Nat) (Jn : World → Prop) (Jx : Code → World → Prop) (W : World) : Prop :=
  AllocP W
 (Obj.cells
 #[Value.int IntKind.i64 (0 : Int), Value.int IntKind.i64 (0 : Int), Value.int IntKind.i64 (0 : Int), Value.bool false, Value.slice none (0 : Nat) (0 : Nat), Value.slice none (0 : Nat) (0 : Nat)]
 (27 : Nat))
 fun (b1 : Nat) (w2 : World) =>
 #[Value.int IntKind.i64 x18.1, Value.int IntKind.i64 x18.snd.1, Value.int IntKind.i64 x18.snd.snd.1, Value.bool x18.snd.snd.snd.1,
 Value.slice x18.snd.snd.snd.snd.fst.1 x18.snd.snd.snd.snd.fst.2 x18.snd.snd.snd.snd.fst.3, Value.slice x18.snd.snd.snd.snd.snd.1 x18.snd.snd.snd.snd.snd.2 x18.snd.snd.snd.snd.snd.3].size =
 (6 : Nat) ∧
 StoreP w2 b1 (0 : Nat)
 [Value.int IntKind.i64 x18.1, Value.int IntKind.i64 x18.snd.1, Value.int IntKind.i64 x18.snd.snd.1, Value.bool x18.snd.snd.snd.1,
 Value.slice x18.snd.snd.snd.snd.fst.1 x18.snd.snd.snd.snd.fst.2 x18.snd.snd.snd.snd.fst.3, Value.slice x18.snd.snd.snd.snd.snd.1 x18.snd.snd.snd.snd.snd.2 x18.snd.snd.snd.snd.snd.3]
 fun (w3 : World) =>
 ([] : List Nat) = [] ∧
 (w3.1[l]? = W.1[l]? ∧ w3.1[D]? = W.1[D]?) ∧
 ∀ (w12 : World),
 Stb n₀ w3 w12 →
 Its w3 w12 →
 (∃ (y15 : Loop), w12.1[l]? = some (Obj.loop y15)) →
 ∃ (y19 : Bool → World → Prop),
 (∃ (p20 : Option Nat),
 w12.cell? ({ block := t7, off := (0 : Nat) } : Addr) = some (Value.map p20) ∧
 MapGetP (TypeDesc.int IntKind.i64) w12 (Value.map p20) (Value.int IntKind.i64 x17) (Value.bool false) fun (v21 : Value) (t22 : Bool) =>
 ∃ (t23 : Bool),
 v21 = Value.bool t23 ∧
 IfB t23 (([] : List Nat) = [] ∧ y19 true w12)
 (∃ (x24 : Int × Int × Int × Bool × Sl × Sl),
 CellsAt w12 t5 (0 : Nat)
 [Value.int IntKind.i64 x24.1, Value.int IntKind.i64 x24.snd.1, Value.int IntKind.i64 x24.snd.snd.1, Value.bool x24.snd.snd.snd.1,
 Value.slice x24.snd.snd.snd.snd.fst.1 x24.snd.snd.snd.snd.fst.2 x24.snd.snd.snd.snd.fst.3, Value.slice x24.snd.snd.snd.snd.snd.1 x24.snd.snd.snd.snd.snd.2 x24.snd.snd.snd.snd.snd.3] ∧
 ∃ (x25 : Int × Int × Int × Bool × Sl × Sl),
 CellsAt w12 b1 (0 : Nat)
 [Value.int IntKind.i64 x25.1, Value.int IntKind.i64 x25.snd.1, Value.int IntKind.i64 x25.snd.snd.1, Value.bool x25.snd.snd.snd.1,
 Value.slice x25.snd.snd.snd.snd.fst.1 x25.snd.snd.snd.snd.fst.2 x25.snd.snd.snd.snd.fst.3, Value.slice x25.snd.snd.snd.snd.snd.1 x25.snd.snd.snd.snd.snd.2 x25.snd.snd.snd.snd.snd.3] ∧
 CX Try.prog (38 : Nat)
 #[Value.agg
 #[Value.int IntKind.i64 x24.1, Value.int IntKind.i64 x24.snd.1, Value.int IntKind.i64 x24.snd.snd.1, Value.bool x24.snd.snd.snd.1,
 Value.slice x24.snd.snd.snd.snd.fst.1 x24.snd.snd.snd.snd.fst.2 x24.snd.snd.snd.snd.fst.3, Value.slice x24.snd.snd.snd.snd.snd.1 x24.snd.snd.snd.snd.snd.2 x24.snd.snd.snd.snd.snd.3],
 Value.agg
 #[Value.int IntKind.i64 x25.1, Value.int IntKind.i64 x25.snd.1, Value.int IntKind.i64 x25.snd.snd.1, Value.bool x25.snd.snd.snd.1,
 Value.slice x25.snd.snd.snd.snd.fst.1 x25.snd.snd.snd.snd.fst.2 x25.snd.snd.snd.snd.fst.3, Value.slice x25.snd.snd.snd.snd.snd.1 x25.snd.snd.snd.snd.snd.2 x25.snd.snd.snd.snd.snd.3]]
 w12 fun (v26 : Value) (w27 : World) => ∃ (t28 : Bool), v26 = Value.bool t28 ∧ ([] : List Nat) = [] ∧ y19 (!t28) w27)) ∧
 ∀ (t29 : Bool) (w30 : World) (y31 : Nat → Value),
 y19 t29 w30 →
 (F37b0j1 t3 t8 x17 Jn w12 t29 w30 l D)
theorem F37b0_ok (t3 : Nat) (t5 : Nat) (t6 : Sl) (t7 : Nat) (t8 : Nat) (t16 : Nat × Array Value) (x17 : Int) (x18 : (Leaf.int IntKind.i64).den × dens [Leaf.int IntKind.i64, Leaf.int IntKind.i64, Leaf.bool, Leaf.sl, Leaf.sl]) (l D n₀ : Nat) (Jn : World → Prop) (Jx : Code → World → Prop) (W : World) {g : Nat → Value} (h : F37b0 t3 t5 t6 t7 t8 t16 x17 x18 l D n₀ Jn Jx W) :
    BodyP Try.prog tb Try.f37.ntmps l D n₀ R37_0a (rP R37_0) (rA R37_0) (rB R37_0) (frC g [(3, Value.pointer (some ({ block := t3, off := 0 } : Addr))), (5, Value.pointer (some ({ block := t5, off := 0 } : Addr))), (6, Value.slice t6.1 t6.2 t6.3), (7, Value.pointer (some ({ block := t7, off := 0 } : Addr))), (8, Value.pointer (some ({ block := t8, off := 0 } : Addr))), (16, Value.func (Fn.func t16.1) #[] t16.2)]) Jn Jx [Value.int IntKind.i64 x17, Value.agg #[Value.int IntKind.i64 x18.1, Value.int IntKind.i64 x18.snd.1, Value.int IntKind.i64 x18.snd.snd.1, Value.bool x18.snd.snd.snd.1, Value.slice x18.snd.snd.snd.snd.fst.1 x18.snd.snd.snd.snd.fst.2 x18.snd.snd.snd.snd.fst.3, Value.slice x18.snd.snd.snd.snd.snd.1 x18.snd.snd.snd.snd.snd.2 x18.snd.snd.snd.snd.snd.3]] W :=
  Eq.mp (α := F37b0 t3 t5 t6 t7 t8 t16 x17 x18 l D n₀ Jn Jx W) (by kernel_rfl) h
def F55 (t0 : Int) (t1 : Nat) (w : World) (R : Value → World → Prop) : Prop :=
 ∃ (p1 : Option Nat),
 w.cell? ({ block := t1, off := (0 : Nat) } : Addr) = some (Value.map p1) ∧
 MapSetP (TypeDesc.int IntKind.i64) w (Value.map p1) (Value.int IntKind.i64 t0) (Value.bool true) fun (w2 : World) => R (Value.tuple #[]) w2
theorem F55_ok (t0 : Int) (t1 : Nat) (w : World) (R : Value → World → Prop) (h : F55 t0 t1 w R) : CW Try.prog 55 #[Value.int IntKind.i64 t0, Value.pointer (some ({ block := t1, off := 0 } : Addr))] w R :=
  call_of tbOk mixed en55 Try.func55 rfl (.nil) (by kernel_rfl) (Nat.le_of_ble_eq_true (by kernel_rfl)) (Eq.mp (α := F55 t0 t1 w R) (by kernel_rfl) h)
def F56 (t0 : Sl) (w : World) (R : Value → World → Prop) : Prop :=
 AllocP w (Obj.cells #[Value.slice t0.1 t0.2 t0.3] (22 : Nat)) fun (b1 : Nat) (w2 : World) =>
 R (Value.func (Fn.func (70 : Nat)) #[] #[Value.pointer (some ({ block := b1, off := (0 : Nat) } : Addr))]) w2
theorem F56_ok (t0 : Sl) (w : World) (R : Value → World → Prop) (h : F56 t0 w R) : CW Try.prog 56 #[Value.slice t0.1 t0.2 t0.3] w R :=
  call_of tbOk mixed en56 Try.func56 rfl (.nil) (by kernel_rfl) (Nat.le_of_ble_eq_true (by kernel_rfl)) (Eq.mp (α := F56 t0 w R) (by kernel_rfl) h)
def F70j1 (t0 : Nat) (t1 : Nat) (R : Value → World → Prop) (y2 : Nat → Int → World → Prop) (b4 : Nat) (n5 : Int) (w6 : World) : Prop :=
 IfB (decide ((0 : Int) ≤ n5))
 (∃ (s9 : Sl),
 w6.cell? ({ block := t1, off := (0 : Nat) } : Addr) = some (Value.slice s9.1 s9.2 s9.3) ∧
 ∃ (b10 : Nat),
 ∃ (b11 : Nat),
 s9.1 = some ({ block := b10, off := b11 } : Addr) ∧
 ((0 : Int) ≤ n5 ∧ n5 < (s9.2 : Int)) ∧
 ∃ (x12 : Int × Int × Int × Bool × Sl × Sl),
 CellsAt w6 b10 (b11 + n5.toNat * (6 : Nat))
 [Value.int IntKind.i64 x12.1, Value.int IntKind.i64 x12.snd.1, Value.int IntKind.i64 x12.snd.snd.1, Value.bool x12.snd.snd.snd.1,
 Value.slice x12.snd.snd.snd.snd.fst.1 x12.snd.snd.snd.snd.fst.2 x12.snd.snd.snd.snd.fst.3, Value.slice x12.snd.snd.snd.snd.snd.1 x12.snd.snd.snd.snd.snd.2 x12.snd.snd.snd.snd.snd.3] ∧
 YW Try.prog t0
 #[Value.int IntKind.i64 n5,
 Value.agg
 #[Value.int IntKind.i64 x12.1, Value.int IntKind.i64 x12.snd.1, Value.int IntKind.i64 x12.snd.snd.1, Value.bool x12.snd.snd.snd.1,
 Value.slice x12.snd.snd.snd.snd.fst.1 x12.snd.snd.snd.snd.fst.2 x12.snd.snd.snd.snd.fst.3, Value.slice x12.snd.snd.snd.snd.snd.1 x12.snd.snd.snd.snd.snd.2 x12.snd.snd.snd.snd.snd.3]]
 w6 fun (t13 : Bool) (w14 : World) => IfB (!t13) (R (Value.tuple #[]) w14) (([] : List Nat) = [] ∧ ∃ (b15 : Nat), b15 < b4 ∧ y2 b15 (IntKind.i64.wrap (n5 - (1 : Int))) w14))
 (R (Value.tuple #[]) w6)
def F70 (t0 : Nat) (t1 : Nat) (w : World) (R : Value → World → Prop) : Prop :=
 ∃ (s1 : Sl),
 w.cell? ({ block := t1, off := (0 : Nat) } : Addr) = some (Value.slice s1.1 s1.2 s1.3) ∧
 ∃ (y2 : Nat → Int → World → Prop),
 (∃ (b3 : Nat), y2 b3 (IntKind.i64.wrap ((s1.2 : Int) - (1 : Int))) w) ∧
 ∀ (b4 : Nat) (n5 : Int) (w6 : World) (y7 : Nat → Value),
 y2 b4 n5 w6 →
 (F70j1 t0 t1 R y2 b4 n5 w6)
theorem F70_ok (t0 : Nat) (t1 : Nat) (w : World) (R : Value → World → Prop) (h : F70 t0 t1 w R) : CW Try.prog 70 #[Value.func (Fn.yield t0) #[] #[], Value.pointer (some ({ block := t1, off := 0 } : Addr))] w R :=
  call_of tbOk mixed en70 Try.func70 rfl (.node (.nil) (.loop [(3, .one (.int .i64))] [7, 8, 11, 12, 13, 14, 15, 16, 17, 18, 9, 10, 3] (.nil))) (by kernel_rfl) (Nat.le_of_ble_eq_true (by kernel_rfl)) (Eq.mp (α := F70 t0 t1 w R) (by kernel_rfl) h)
def F13j1 (t0 : Sl) (R : Value → World → Prop) (y1 : Nat → Sl × Int → World → Prop) (b3 : Nat) (x4 : Sl × Int) (w5 : World) : Prop :=
 IfB (decide (x4.snd < (t0.n : Int)))
 (∃ (b8 : Nat),
 ∃ (b9 : Nat),
 t0.1 = some ({ block := b8, off := b9 } : Addr) ∧
 ((0 : Int) ≤ x4.2 ∧ x4.2 < (t0.2 : Int)) ∧
 ∃ (x10 : Int × Int × Int × Bool × Sl × Sl),
 CellsAt w5 b8 (b9 + x4.2.toNat * (6 : Nat))
 [Value.int IntKind.i64 x10.1, Value.int IntKind.i64 x10.snd.1, Value.int IntKind.i64 x10.snd.snd.1, Value.bool x10.snd.snd.snd.1,
 Value.slice x10.snd.snd.snd.snd.fst.1 x10.snd.snd.snd.snd.fst.2 x10.snd.snd.snd.snd.fst.3, Value.slice x10.snd.snd.snd.snd.snd.1 x10.snd.snd.snd.snd.snd.2 x10.snd.snd.snd.snd.snd.3] ∧
 AllocP w5
 (Obj.cells
 #[Value.int IntKind.i64 (0 : Int), Value.int IntKind.i64 (0 : Int), Value.int IntKind.i64 (0 : Int), Value.bool false, Value.slice none (0 : Nat) (0 : Nat), Value.slice none (0 : Nat) (0 : Nat)]
 (27 : Nat))
 fun (b11 : Nat) (w12 : World) =>
 #[Value.int IntKind.i64 x10.1, Value.int IntKind.i64 x10.snd.1, Value.int IntKind.i64 x10.snd.snd.1, Value.bool x10.snd.snd.snd.1,
 Value.slice x10.snd.snd.snd.snd.fst.1 x10.snd.snd.snd.snd.fst.2 x10.snd.snd.snd.snd.fst.3, Value.slice x10.snd.snd.snd.snd.snd.1 x10.snd.snd.snd.snd.snd.2 x10.snd.snd.snd.snd.snd.3].size =
 (6 : Nat) ∧
 StoreP w12 b11 (0 : Nat)
 [Value.int IntKind.i64 x10.1, Value.int IntKind.i64 x10.snd.1, Value.int IntKind.i64 x10.snd.snd.1, Value.bool x10.snd.snd.snd.1,
 Value.slice x10.snd.snd.snd.snd.fst.1 x10.snd.snd.snd.snd.fst.2 x10.snd.snd.snd.snd.fst.3, Value.slice x10.snd.snd.snd.snd.snd.1 x10.snd.snd.snd.snd.snd.2 x10.snd.snd.snd.snd.snd.3]
 fun (w13 : World) =>
 ((0 : Int) ≤ x4.2 ∧ x4.2 ≤ (t0.3 : Int)) ∧
 ∃ (x14 : Int × Int × Int × Bool × Sl × Sl),
 CellsAt w13.drew b11 (0 : Nat)
 [Value.int IntKind.i64 x14.1, Value.int IntKind.i64 x14.snd.1, Value.int IntKind.i64 x14.snd.snd.1, Value.bool x14.snd.snd.snd.1,
 Value.slice x14.snd.snd.snd.snd.fst.1 x14.snd.snd.snd.snd.fst.2 x14.snd.snd.snd.snd.fst.3, Value.slice x14.snd.snd.snd.snd.snd.1 x14.snd.snd.snd.snd.snd.2 x14.snd.snd.snd.snd.snd.3] ∧
 CX Try.prog (37 : Nat)
 #[Value.slice x4.fst.1 x4.fst.2 x4.fst.3, Value.slice (slAddr t0.1 t0.3 (0 : Nat) (6 : Nat)) x4.2.toNat t0.3,
 Value.agg
 #[Value.int IntKind.i64 x14.1, Value.int IntKind.i64 x14.snd.1, Value.int IntKind.i64 x14.snd.snd.1, Value.bool x14.snd.snd.snd.1,
 Value.slice x14.snd.snd.snd.snd.fst.1 x14.snd.snd.snd.snd.fst.2 x14.snd.snd.snd.snd.fst.3, Value.slice x14.snd.snd.snd.snd.snd.1 x14.snd.snd.snd.snd.snd.2 x14.snd.snd.snd.snd.snd.3]]
 w13.drew fun (v15 : Value) (w16 : World) =>
 ∃ (s17 : Sl),
 v15 = Value.slice s17.1 s17.2 s17.3 ∧
 (1 : Nat) * (1 : Nat) ≤ (16777216 : Nat) ∧
 AllocP w16 (Obj.cells #[Value.slice s17.1 s17.2 s17.3] (31 : Nat)) fun (b18 : Nat) (w19 : World) =>
 ∃ (l20 : List Value),
 ReadC w19 (some ({ block := b18, off := (0 : Nat) } : Addr)) ((1 : Nat) * (1 : Nat)) l20 ∧
 AppendP tt31 (31 : Nat) w19 x4.fst.1 x4.fst.2 x4.fst.3 (1 : Nat) l20
 fun (s21 : Sl) (w22 : World) => ([] : List Nat) = [] ∧ ∃ (b23 : Nat), b23 < b3 ∧ y1 b23 ({ p := s21.1, n := s21.2, c := s21.3 }, IntKind.i64.wrap (x4.2 + (1 : Int))) w22)
 (R (Value.slice x4.fst.1 x4.fst.2 x4.fst.3) w5)
def F13 (t0 : Sl) (w : World) (R : Value → World → Prop) : Prop :=
 ∃ (y1 : Nat → Sl × Int → World → Prop),
 (∃ (b2 : Nat), y1 b2 ({ p := none, n := (0 : Nat), c := (0 : Nat) }, (0 : Int)) w) ∧
 ∀ (b3 : Nat) (x4 : Sl × Int) (w5 : World) (y6 : Nat → Value),
 y1 b3 x4 w5 →
 (F13j1 t0 R y1 b3 x4 w5)
theorem F13_ok (t0 : Sl) (w : World) (R : Value → World → Prop) (h : F13 t0 w R) : CW Try.prog 13 #[Value.slice t0.1 t0.2 t0.3] w R :=
  call_of tbOk mixed en13 Try.func13 rfl (.node (.nil) (.node (.nil) (.node (.node (.nil) (.loop [(3, .one (.sl)), (8, .one (.int .i64))] [9, 10, 11, 12, 5, 4, 13, 14, 15, 16, 17, 18, 19, 20, 21, 3, 22, 8] (.node (.nil) (.node (.nil) (.node (.node (.nil) (.draw (.st 0 (.st 1 (.st 2 (.st 3 (.st 4 (.st 5 (.ac 6 [0] (.ac 7 [0] (.ac 8 [] (.st 9 (.fin)) (.non)) (.non)) (.non)))))))))) (.nil)))))) (.nil)))) (by kernel_rfl) (Nat.le_of_ble_eq_true (by kernel_rfl)) (Eq.mp (α := F13 t0 w R) (by kernel_rfl) h)
def F17 (t0 : Sl) (t1 : Int) (t2 : Int) (w : World) (R : Value → World → Prop) : Prop :=
 IfB (decide ((0 : Int) ≤ t1))
 (IfB (decide (t1 < (t0.n : Int)))
 (CX Try.prog (13 : Nat) #[Value.slice t0.1 t0.2 t0.3] w fun (v1 : Value) (w2 : World) =>
 ∃ (s3 : Sl),
 v1 = Value.slice s3.1 s3.2 s3.3 ∧
 ∃ (b4 : Nat),
 ∃ (b5 : Nat),
 s3.1 = some ({ block := b4, off := b5 } : Addr) ∧
 ((0 : Int) ≤ t1 ∧ t1 < (s3.2 : Int)) ∧
 ∃ (s6 : Sl),
 w2.cell? ({ block := b4, off := b5 + t1.toNat } : Addr) = some (Value.slice s6.1 s6.2 s6.3) ∧
 CX Try.prog (39 : Nat) #[Value.slice s6.1 s6.2 s6.3, Value.int IntKind.i64 t2] w2 fun (v7 : Value) (w8 : World) => ∃ (t9 : Bool), v7 = Value.bool t9 ∧ R (Value.bool t9) w8)
 (R (Value.bool false) w))
 (R (Value.bool false) w)
theorem F17_ok (t0 : Sl) (t1 : Int) (t2 : Int) (w : World) (R : Value → World → Prop) (h : F17 t0 t1 t2 w R) : CW Try.prog 17 #[Value.slice t0.1 t0.2 t0.3, Value.int IntKind.i64 t1, Value.int IntKind.i64 t2] w R :=
  call_of tbOk mixed en17 Try.func17 rfl (.nil) (by kernel_rfl) (Nat.le_of_ble_eq_true (by kernel_rfl)) (Eq.mp (α := F17 t0 t1 t2 w R) (by kernel_rfl) h)
end Go.Proofs.Ytmmhbjbaallkfaa.Gx

/- Written by mkf.py: what is to be shown of functions, as Gx reckons it from their code. -/
namespace Go.Proofs.Ytmmhbjbaallkfaa.Gx
open Go
set_option linter.unusedVariables false
set_option maxRecDepth 100000
noncomputable def R95_0 : Code := codeAt [1, 0, 1, 0] (bodyOf Try.f95)
def R95_0a : An := .nil
theorem R95_0ok1 : okC tb Try.f95.ntmps (rA R95_0) .nil = true := by kernel_rfl
theorem R95_0ok2 : okC tb Try.f95.ntmps (rB R95_0) R95_0a = true := by kernel_rfl
theorem R95_0okp : (rP R95_0).toList.all (fun p => Nat.blt p Try.f95.ntmps) = true := by kernel_rfl
def F95 (t0 : Sl) (t1 : Nat × Array Value) (w : World) (R : Value → World → Prop) : Prop :=
 AllocP w (Obj.cells #[Value.slice t0.1 t0.2 t0.3] (31 : Nat)) fun (b1 : Nat) (w2 : World) =>
 ∀ (y3 : Nat → Value),
 RangeP Try.prog tb (nat_lit 13) none R95_0a (rG R95_0) (rP R95_0) (rA R95_0) (rB R95_0)
 (frC y3 [((2 : Nat), Value.pointer (some ({ block := b1, off := (0 : Nat) } : Addr))), ((4 : Nat), Value.slice none (0 : Nat) (0 : Nat)), ((6 : Nat), Value.func (Fn.func t1.1) #[] t1.2)]) [] w2
 (fun (l4 : List Nat) (w5 : World) => ∃ (s6 : Sl), w5.cell? ({ block := b1, off := (0 : Nat) } : Addr) = some (Value.slice s6.1 s6.2 s6.3) ∧ marksP w5 l4 fun (w7 : World) => R (Value.slice s6.1 s6.2 s6.3) w7)
 (fun (l8 : List Nat) (w9 : World) => marksP w9 l8 fun (w10 : World) => R (Value.slice none (0 : Nat) (0 : Nat)) w10) fun (b11 : Nat) (l12 : List Nat) (w13 : World) =>
 match b11.beq (0 : Nat) with
 | true => ∃ (s15 : Sl), w13.cell? ({ block := b1, off := (0 : Nat) } : Addr) = some (Value.slice s15.1 s15.2 s15.3) ∧ marksP w13 l12 fun (w16 : World) => R (Value.slice s15.1 s15.2 s15.3) w16
 | false => False
theorem F95_ok (t0 : Sl) (t1 : Nat × Array Value) (w : World) (R : Value → World → Prop) (h : F95 t0 t1 w R) : CW Try.prog 95 #[Value.slice t0.1 t0.2 t0.3, Value.func (Fn.func t1.1) #[] t1.2] w R :=
  call_of tbOk mixed en95 Try.func95 rfl (.node (.nil) (.node (.node (.nil) (.rng [(2, .one (.box)), (4, .one (.sl)), (6, .one (.clo))] (.nil))) (.nil))) (by kernel_rfl) (Nat.le_of_ble_eq_true (by kernel_rfl)) (Eq.mp (α := F95 t0 t1 w R) (by kernel_rfl) h)
def F95b0 (t2 : Nat) (t4 : Sl) (t6 : Nat × Array Value) (x7 : Int) (l D n₀ : Nat) (Jn : World → Prop) (Jx : Code → World → Prop) (W : World) : Prop :=
  ([] : List Nat) = [] ∧
 (W.1[l]? = W.1[l]? ∧ W.1[D]? = W.1[D]?) ∧
 ∀ (w9 : World),
 Stb n₀ W w9 →
 Its W w9 →
 (∃ (y12 : Loop), w9.1[l]? = some (Obj.loop y12)) →
 ∃ (s16 : Sl),
 w9.cell? ({ block := t2, off := (0 : Nat) } : Addr) = some (Value.slice s16.1 s16.2 s16.3) ∧
 (1 : Nat) * (1 : Nat) ≤ (16777216 : Nat) ∧
 AllocP w9 (Obj.cells #[Value.int IntKind.i64 x7] (3 : Nat)) fun (b17 : Nat) (w18 : World) =>
 ∃ (l19 : List Value),
 ReadC w18 (some ({ block := b17, off := (0 : Nat) } : Addr)) ((1 : Nat) * (1 : Nat)) l19 ∧
 AppendP tt3 (3 : Nat) w18 s16.1 s16.2 s16.3 (1 : Nat) l19
 fun (s20 : Sl) (w21 : World) =>
 #[Value.slice s20.1 s20.2 s20.3].size = (1 : Nat) ∧ StoreP w21 t2 (0 : Nat) [Value.slice s20.1 s20.2 s20.3] fun (w22 : World) => (w22.1[l]? = w9.1[l]? ∧ w22.1[D]? = w9.1[D]?) ∧ Jn w22
theorem F95b0_ok (t2 : Nat) (t4 : Sl) (t6 : Nat × Array Value) (x7 : Int) (l D n₀ : Nat) (Jn : World → Prop) (Jx : Code → World → Prop) (W : World) {g : Nat → Value} (h : F95b0 t2 t4 t6 x7 l D n₀ Jn Jx W) :
    BodyP Try.prog tb Try.f95.ntmps l D n₀ R95_0a (rP R95_0) (rA R95_0) (rB R95_0) (frC g [(2, Value.pointer (some ({ block := t2, off := 0 } : Addr))), (4, Value.slice t4.1 t4.2 t4.3), (6, Value.func (Fn.func t6.1) #[] t6.2)]) Jn Jx [Value.int IntKind.i64 x7] W :=
  Eq.mp (α := F95b0 t2 t4 t6 x7 l D n₀ Jn Jx W) (by kernel_rfl) h
def F71 (t0 : Nat × Array Value) (w : World) (R : Value → World → Prop) : Prop :=
 CX Try.prog (95 : Nat) #[Value.slice none (0 : Nat) (0 : Nat), Value.func (Fn.func t0.1) #[] t0.2] w fun (v1 : Value) (w2 : World) =>
 ∃ (s3 : Sl), v1 = Value.slice s3.1 s3.2 s3.3 ∧ R (Value.slice s3.1 s3.2 s3.3) w2
theorem F71_ok (t0 : Nat × Array Value) (w : World) (R : Value → World → Prop) (h : F71 t0 w R) : CW Try.prog 71 #[Value.func (Fn.func t0.1) #[] t0.2] w R :=
  call_of tbOk mixed en71 Try.func71 rfl (.nil) (by kernel_rfl) (Nat.le_of_ble_eq_true (by kernel_rfl)) (Eq.mp (α := F71 t0 w R) (by kernel_rfl) h)
def F57 (t0 : Nat × Array Value) (w : World) (R : Value → World → Prop) : Prop :=
 CX Try.prog (71 : Nat) #[Value.func (Fn.func t0.1) #[] t0.2] w fun (v1 : Value) (w2 : World) =>
 ∃ (s3 : Sl),
 v1 = Value.slice s3.1 s3.2 s3.3 ∧
 CX Try.prog (49 : Nat) #[Value.slice s3.1 s3.2 s3.3] w2 fun (v4 : Value) (w5 : World) => ∃ (y6 : Unit), v4 = Value.tuple #[] ∧ R (Value.slice s3.1 s3.2 s3.3) w5
theorem F57_ok (t0 : Nat × Array Value) (w : World) (R : Value → World → Prop) (h : F57 t0 w R) : CW Try.prog 57 #[Value.func (Fn.func t0.1) #[] t0.2] w R :=
  call_of tbOk mixed en57 Try.func57 rfl (.nil) (by kernel_rfl) (Nat.le_of_ble_eq_true (by kernel_rfl)) (Eq.mp (α := F57 t0 w R) (by kernel_rfl) h)
end Go.Proofs.Ytmmhbjbaallkfaa.Gx

/- Package slices: what an iterator of ints tells, in a slice, sorted; the iterators of a slice's elements and of a map's keys. -/
namespace Go.Proofs.Ytmmhbjbaallkfaa.Gx
open Go
set_option linter.unusedSimpArgs false
set_option linter.unusedVariables false
/-- An iterator of ints, that can be asked in a world and in those that grow of it. -/
structure IntIt (gf : Nat) (lb : Array Value) (w : World) (Fin : List Int → Prop) : Prop where
  ex : ∃ (Nxt : List Int → Int → Prop) (Inv : World → Prop) (Good : List Int → Prop), Iter Try.prog gf lb ivA false Nxt Fin Inv ∧ Inv w ∧ (∀ n W W', Inv W → Stb n W W' → Inv W') ∧ (∀ F W W', Inv W → Ch F W W' → (∀ i, F i → w.heap.size ≤ i) → Inv W') ∧
    Good [] ∧ (∀ pre x, Good pre → Nxt pre x → Good (pre ++ [x])) ∧ ∀ l, Good l → l.length ≤ 1000000
theorem oneIv (x : Int) : One [iv x] := by intro v hv; rw [List.mem_singleton.1 hv]; rfl
theorem ivA_sz (x : Int) : (ivA x).size = 1 := rfl
theorem appendSeq_of {w : World} {gf : Nat} {lb : Array Value} {Fin : List Int → Prop} (h : IntIt gf lb w Fin) :
    CW Try.prog 95 #[.slice none 0 0, .func (.func gf) #[] lb] w fun v w' => ∃ t, ∃ xs : List Int, v = slV t ∧ Fin xs ∧ xs.length ≤ 1000000 ∧ OwS w' t 1 (xs.map iv) ∧ Ext w w' ∧ ∀ j ∈ blk t, w.heap.size ≤ j := by
  obtain ⟨Nxt, Inv, Good, it, hI0, hIs, hIc, hG0, hGs, hGl⟩ := h.ex
  refine F95_ok ⟨none, 0, 0⟩ (gf, lb) w _ ?_
  intro b2 w2 h2 g
  have e2 : Ext w w2 := h2.ch _
  have hs2 := h2.size
  have hh2 := h2.here
  let G : List Int → World → Prop := fun pre W => Good pre ∧ Inv W ∧ ∃ t : Sl, (∃ T, W.heap[b2]? = some (.cells #[slV t] T (0, 0))) ∧ OwS W t 1 (pre.map iv) ∧ (∀ j ∈ blk t, w2.heap.size + 2 ≤ j) ∧ Ch (fun i => w.heap.size ≤ i) w W
  refine range_none tbOk mixed (gf := gf) (lb := lb) rfl it R95_0ok1 R95_0ok2 R95_0okp ivA_sz G (fun _ _ _ => False) ?_ (fun _ _ _ _ h => h.elim) ?_ (fun h => by cases h) ?_ ?_ ?_ (fun _ _ _ h => h.elim)
  · rintro pre W W' ⟨h1, h3, t, ⟨T, h4⟩, h5, h6, h7⟩ hS
    exact ⟨h1, hIs _ _ _ h3 hS, t, ⟨T, hS.keep _ _ h4 rfl⟩, h5.stb hS, h6, h7.then (.ofStb hS) fun i _ hi => by omega⟩
  · rintro pre W ⟨_, h3, _⟩; exact h3
  · exact ⟨hG0, hIc _ _ _ hI0 e2 fun _ h => h.elim, ⟨none, 0, 0⟩, ⟨_, h2.new⟩, .nil _ _, by simp [blk], e2.mono fun _ _ h => h.elim⟩
  · rintro pre x W ⟨hgd, hJ, t, ⟨T, hb⟩, ho, hbl, hC⟩ hxn hW
    refine F95b0_ok b2 ⟨none, 0, 0⟩ (gf, lb) x _ _ _ _ _ W ?_
    refine ⟨rfl, ⟨rfl, rfl⟩, fun w12 hS hI0 hL => ?_⟩
    have H := hS.keep _ _ hb rfl
    have ho12 := ho.stb hS
    have hJ12 := hIs _ _ _ hJ hS
    have hC12 : Ch (fun i => w.heap.size ≤ i) w w12 := hC.then (.ofStb hS) fun i _ hi => by omega
    have hs12 := hS.size
    refine ⟨t, by rw [cell_of H]; rfl, by decide, fun b20 w21 h21 => ?_⟩
    refine ⟨[iv x], ⟨rfl, cellsAt_of h21.new fun i v hv => by simpa using hv⟩, ?_⟩
    have e21 : Ext w12 w21 := h21.ch _
    have htn : t.n = pre.length := by have := ho.len1; rw [List.length_map] at this; exact this
    have hpl := hGl _ hgd
    have hgd2 := hGs _ _ hgd hxn
    have hpl2 := hGl _ hgd2
    rw [List.length_append, List.length_singleton] at hpl2
    refine (ho12.ext e21).append (cnt := 1) rfl rfl rfl (oneIv x) ⟨by omega, by dsimp only; omega⟩ ?_
    intro s' w24 ho' hn' hc' hb' _
    have hne : ∀ i, i < w2.heap.size → ¬ i ∈ blk t := fun i hi h => by have := hbl i h; omega
    have H24 := hc'.at (e21.at H) (hne _ (by omega))
    refine ⟨rfl, store_one H24 (by simp) rfl fun w25 h25 => ?_⟩
    have hc25 : Ch (fun i => i = b2 ∨ i ∈ blk t) w12 w25 := (((e21.mono fun _ _ h => h.elim).then hc' fun i _ h => .inr h).then h25.ch fun i _ h => .inl h)
    have hb2' : ∀ j ∈ blk s', w2.heap.size + 2 ≤ j := fun j hj => by
      rcases hb' j hj with h | h
      · exact hbl j h
      · have := e21.size; omega
    have far : ∀ i, i < w2.heap.size + 2 → i ≠ b2 → ¬ (i = b2 ∨ i ∈ blk t) := fun i hi hne' h => h.elim hne' fun h => by have := hbl i h; omega
    refine ⟨⟨hc25.old _ (by omega) (far _ (by omega) (by omega)), hc25.old _ (by omega) (far _ (by omega) (by omega))⟩, ⟨hgd2, hIc _ _ _ hJ12 hc25 (fun i hi => hi.elim (fun e => by omega) fun h => by have := hbl i h; omega), s', ⟨_, h25.new⟩, ?_, hb2', ?_⟩, hI0.trans (Its.ch hc25 fun i hi => hi.elim (fun e => e ▸ notIt H) (fun h => ho12.blkIt h))⟩
    · have := ho'.ch h25.ch fun j hj e => by have := hb2' j hj; omega
      rw [List.map_append]; exact this
    · exact hC12.then hc25 fun i hi h => by
        rcases h with h | h
        · omega
        · have := hbl _ h; omega
  · rintro xs W hxs ⟨hgd, hJ, t, ⟨T, hb⟩, ho, hbl, hC⟩ hD
    refine ⟨t, by rw [cell_of hb]; rfl, marks_one hD fun w' hu => ⟨t, xs, rfl, hxs, hGl _ hgd, ?_, ?_, fun j hj => by have := hbl j hj; omega⟩⟩
    · refine ho.ch hu.ch fun j hj e => ?_
      have := hbl j hj; omega
    · exact ⟨hC.rest.trans hu.rest, by rw [hu.size]; exact hC.size, fun i hi _ => by rw [hu.old i (by omega)]; exact hC.old i hi (by omega)⟩
theorem collect_of {w : World} {gf : Nat} {lb : Array Value} {Fin : List Int → Prop} (h : IntIt gf lb w Fin) :
    CW Try.prog 71 #[.func (.func gf) #[] lb] w fun v w' => ∃ t, ∃ xs : List Int, v = slV t ∧ Fin xs ∧ xs.length ≤ 1000000 ∧ OwS w' t 1 (xs.map iv) ∧ Ext w w' ∧ ∀ j ∈ blk t, w.heap.size ≤ j := by
  refine F71_ok (gf, lb) w _ ((appendSeq_of h).use ?_)
  rintro _ w2 ⟨t, xs, rfl, h⟩
  exact ⟨t, rfl, t, xs, rfl, h⟩
/-- slices.Sorted of an iterator of ints. -/
theorem sorted_of {w : World} {gf : Nat} {lb : Array Value} {Fin : List Int → Prop} (h : IntIt gf lb w Fin) :
    CW Try.prog 57 #[.func (.func gf) #[] lb] w fun v w' => ∃ t, ∃ xs ys : List Int, v = slV t ∧ Fin ys ∧ xs.Perm ys ∧ ys.length ≤ 1000000 ∧ xs.Pairwise (· ≤ ·) ∧ OwS w' t 1 (xs.map iv) ∧ Ext w w' ∧ ∀ j ∈ blk t, w.heap.size ≤ j := by
  refine F57_ok (gf, lb) w _ ((collect_of h).use ?_)
  rintro _ w2 ⟨t, ys, rfl, hf, hl, ho, e2, hb⟩
  refine ⟨t, rfl, (c49 ho hl).use ?_⟩
  rintro _ w5 ⟨rfl, xs, hp, hs, ho2, hC⟩
  exact ⟨(), rfl, t, xs, ys, rfl, hf, hp, hl, hs, ho2, e2.then hC fun i hi h => by have := hb i h; omega, hb⟩
theorem keysI_stb {n b1 : Nat} {p : MO} {W W' : World} (h : KeysI b1 p W) (hS : Stb n W W') : KeysI b1 p W' := by
  obtain ⟨⟨T, hT⟩, h⟩ := h
  refine ⟨⟨T, hS.keep _ _ hT rfl⟩, ?_⟩
  match p, h with
  | none, _ => trivial
  | some (r, es, ck), h => exact hS.keep _ _ h rfl
theorem keysI_ch {F : Nat → Prop} {b1 : Nat} {p : MO} {W W' : World} (h : KeysI b1 p W) (hc : Ch F W W') (h1 : ¬ F b1) (h2 : ∀ r es ck, p = some (r, es, ck) → ¬ F r) : KeysI b1 p W' := by
  obtain ⟨⟨T, hT⟩, h⟩ := h
  refine ⟨⟨T, hc.at hT h1⟩, ?_⟩
  match p, h, h2 with
  | none, _, _ => trivial
  | some (r, es, ck), h, h2 => exact hc.at h (h2 _ _ _ rfl)
theorem keysIt {g b1 : Nat} (hen : Entr Try.prog g) (hF : ∀ l W R, KeysF Try.prog l b1 W R → CW Try.prog g #[.func (.yield l) #[] #[], .pointer (some ⟨b1, 0, none⟩)] W R) {w : World} {p : MO} {ks : List Int} (hI : KeysI b1 p w) (hks : KeysE p ks) (hl : ks.length ≤ 1000000) :
    IntIt g #[.pointer (some ⟨b1, 0, none⟩)] w fun xs => xs.Perm ks := by
  have hb1 : b1 < w.heap.size := by obtain ⟨⟨T, hT⟩, _⟩ := hI; exact heap_lt hT
  have hr1 : ∀ r es ck, p = some (r, es, ck) → r < w.heap.size := fun r es ck e => by subst e; exact heap_lt hI.2
  refine ⟨_, _, fun pre => pre.Nodup ∧ ∀ x ∈ pre, x ∈ ks, keys_iter hen hF hks, hI, fun n W W' => keysI_stb, fun F W W' h hc hF => keysI_ch h hc (fun h => by have := hF _ h; omega) (fun r es ck e h => by have := hF _ h; have := hr1 _ _ _ e; omega), ⟨.nil, by simp⟩, ?_, ?_⟩
  · rintro pre x ⟨hnd, hsub⟩ ⟨hxk, hxp⟩
    refine ⟨?_, fun a ha => ?_⟩
    · rw [List.nodup_append]; exact ⟨hnd, by simp, fun a ha b hb => by rw [List.mem_singleton.1 hb]; exact fun e => hxp (e ▸ ha)⟩
    · rcases List.mem_append.1 ha with h | h
      · exact hsub a h
      · rw [List.mem_singleton.1 h]; exact hxk
  · rintro l ⟨hnd, hsub⟩
    exact Nat.le_trans (nodup_len hnd hsub) hl
end Go.Proofs.Ytmmhbjbaallkfaa.Gx

/- Slices of ints. -/
namespace Go.Proofs.Ytmmhbjbaallkfaa.Gx
open Go
set_option linter.unusedSimpArgs false
set_option linter.unusedVariables false
theorem owsI {w : World} {t : Sl} {l : List Int} (h : OwS w t 1 (l.map iv)) : t.n = l.length := by have := h.len1; rw [List.length_map] at this; exact this
theorem rdI {w : World} {t : Sl} {l : List Int} (h : Rd w t 1 (l.map iv)) : t.n = l.length := by have := h.len1; rw [List.length_map] at this; exact this
theorem owsI_get {w : World} {t : Sl} {l : List Int} (h : OwS w t 1 (l.map iv)) {i : Nat} {x : Int} (hx : l[i]? = some x) : ∃ a, t.p = some ⟨a, 0, none⟩ ∧ w.cell? ⟨a, 0 + i, none⟩ = some (iv x) := by
  obtain ⟨a, ha, hc⟩ := h.elem1 (i := i) (v := iv x) (by rw [List.getElem?_map, hx]; rfl)
  exact ⟨a, ha, by rw [Nat.zero_add]; exact hc⟩
theorem rdI_get {w : World} {t : Sl} {l : List Int} (h : Rd w t 1 (l.map iv)) {i : Nat} {x : Int} (hx : l[i]? = some x) : ∃ a o, t.p = some ⟨a, o, none⟩ ∧ w.cell? ⟨a, o + i, none⟩ = some (iv x) :=
  h.elem1 (i := i) (v := iv x) (by rw [List.getElem?_map, hx]; rfl)
theorem setI {l : List Int} {i : Nat} {x : Int} (hi : i < l.length) : (l.map iv).take i ++ [iv x] ++ (l.map iv).drop (i + 1) = (l.set i x).map iv := by
  rw [List.map_set, List.set_eq_take_append_cons_drop, if_pos (by rw [List.length_map]; exact hi)]; simp
theorem nodup_le {α : Type} [DecidableEq α] : ∀ {a b : List α}, a.Nodup → (∀ x ∈ a, x ∈ b) → a.length ≤ b.length
  | [], _, _, _ => Nat.zero_le _
  | x :: a, b, hn, h => by
    obtain ⟨h1, h2⟩ := List.nodup_cons.1 hn
    have hx := h x (by simp)
    have := nodup_le (a := a) (b := b.erase x) h2 fun y hy => by
      have hne : y ≠ x := fun e => h1 (by rw [← e]; exact hy)
      exact (List.mem_erase_of_ne hne).2 (h y (by simp [hy]))
    rw [List.length_erase_of_mem hx] at this
    have := List.length_pos_of_mem hx
    simp only [List.length_cons]; omega
end Go.Proofs.Ytmmhbjbaallkfaa.Gx

/- Written by mkf.py: what is to be shown of functions, as Gx reckons it from their code. -/
namespace Go.Proofs.Ytmmhbjbaallkfaa.Gx
open Go
set_option linter.unusedVariables false
set_option maxRecDepth 100000
def F58 (t0 : Option Nat) (w : World) (R : Value → World → Prop) : Prop :=
 AllocP w (Obj.cells #[Value.map t0] (70 : Nat)) fun (b1 : Nat) (w2 : World) =>
 R (Value.func (Fn.func (72 : Nat)) #[] #[Value.pointer (some ({ block := b1, off := (0 : Nat) } : Addr))]) w2
theorem F58_ok (t0 : Option Nat) (w : World) (R : Value → World → Prop) (h : F58 t0 w R) : CW Try.prog 58 #[Value.map t0] w R :=
  call_of tbOk mixed en58 Try.func58 rfl (.nil) (by kernel_rfl) (Nat.le_of_ble_eq_true (by kernel_rfl)) (Eq.mp (α := F58 t0 w R) (by kernel_rfl) h)
def F72 (t0 : Nat) (t1 : Nat) (w : World) (R : Value → World → Prop) : Prop :=
 ∃ (p1 : Option Nat),
 w.cell? ({ block := t1, off := (0 : Nat) } : Addr) = some (Value.map p1) ∧
 MapItP w (Value.map p1) fun (b2 : Nat) (w3 : World) =>
 ∃ (y4 : Nat → Unit → World → Prop),
 (∃ (b5 : Nat), y4 b5 PUnit.unit w3) ∧
 ∀ (b6 : Nat) (y7 : Unit) (w8 : World) (y9 : Nat → Value),
 y4 b6 y7 w8 →
 NextP w8 b2 (fun (w11 : World) => R (Value.tuple #[]) w11) fun (v12 v13 : Value) (w14 : World) =>
 EntryP w14 b2 fun (v15 v16 : Value) =>
 YW Try.prog t0 #[v15] w14 fun (t17 : Bool) (w18 : World) => IfB (!t17) (R (Value.tuple #[]) w18) (([] : List Nat) = [] ∧ ∃ (b19 : Nat), b19 < b6 ∧ y4 b19 PUnit.unit w18)
theorem F72_ok (t0 : Nat) (t1 : Nat) (w : World) (R : Value → World → Prop) (h : F72 t0 t1 w R) : CW Try.prog 72 #[Value.func (Fn.yield t0) #[] #[], Value.pointer (some ({ block := t1, off := 0 } : Addr))] w R :=
  call_of tbOk mixed en72 Try.func72 rfl (.node (.nil) (.loop [] [6, 7, 8, 9, 3, 10, 11, 12, 13] (.nil))) (by kernel_rfl) (Nat.le_of_ble_eq_true (by kernel_rfl)) (Eq.mp (α := F72 t0 t1 w R) (by kernel_rfl) h)
end Go.Proofs.Ytmmhbjbaallkfaa.Gx

/- The keys of a map of ints to bools. -/
namespace Go.Proofs.Ytmmhbjbaallkfaa.Gx
open Go
set_option linter.unusedSimpArgs false
set_option linter.unusedVariables false
theorem F72_eq (l b : Nat) (W : World) (R : Value → World → Prop) : F72 l b W R = KeysF Try.prog l b W R := rfl
theorem it72 {w : World} {b1 : Nat} {mo : MO} {ks : List Int} (hI : KeysI b1 mo w) (hks : KeysE mo ks) (hl : ks.length ≤ 1000000) : IntIt 72 #[.pointer (some ⟨b1, 0, none⟩)] w fun xs => xs.Perm ks :=
  keysIt en72 (fun l W R h => F72_ok l b1 W R (by rw [F72_eq]; exact h)) hI hks hl
end Go.Proofs.Ytmmhbjbaallkfaa.Gx

/- Queues (a slice that is cut at its beginning, and appended to); what is taken out of a map; maps that may be none. -/
namespace Go.Proofs.Ytmmhbjbaallkfaa.Gx
open Go
set_option linter.unusedSimpArgs false
set_option linter.unusedVariables false
section
variable {β : Type} {enc : β → Value}
end
end Go.Proofs.Ytmmhbjbaallkfaa.Gx

/- Packages units and deps: conflicts of nodes, what a node directly depends on; Backward of nodes. -/
namespace Go.Proofs.Ytmmhbjbaallkfaa.Gx
open Go
set_option linter.unusedSimpArgs false
set_option linter.unusedVariables false
abbrev NdV := Int × Int × Int × Bool × Sl × Sl
abbrev nC (x : NdV) : List Value := [.int .i64 x.1, .int .i64 x.2.1, .int .i64 x.2.2.1, .bool x.2.2.2.1, .slice x.2.2.2.2.1.1 x.2.2.2.2.1.2 x.2.2.2.2.1.3, .slice x.2.2.2.2.2.1 x.2.2.2.2.2.2 x.2.2.2.2.2.3]
abbrev ndV (x : NdV) : Value := .agg #[.int .i64 x.1, .int .i64 x.2.1, .int .i64 x.2.2.1, .bool x.2.2.2.1, .slice x.2.2.2.2.1.1 x.2.2.2.2.1.2 x.2.2.2.2.1.3, .slice x.2.2.2.2.2.1 x.2.2.2.2.2.2 x.2.2.2.2.2.3]
theorem nC_len (x : NdV) : (nC x).length = 6 := rfl
theorem nC_one (x : NdV) : One (nC x) := by intro v hv; simp at hv; rcases hv with rfl | rfl | rfl | rfl | rfl | rfl <;> rfl
/-- A node, with the spans that its slices have. -/
structure Nd where
  v : NdV
  rs : List Spn
  ws : List Spn
abbrev nL (x : Nd) : List Value := nC x.v
theorem nL_len (x : Nd) : (nL x).length = 6 := rfl
theorem nL_one (x : Nd) : One (nL x) := nC_one x.v
structure NdOk (w : World) (n : Nd) : Prop where
  rs : Rd w n.v.2.2.2.2.1 2 (n.rs.flatMap sv)
  ws : Rd w n.v.2.2.2.2.2 2 (n.ws.flatMap sv)
  rl : n.rs.length ≤ 1000000
  wl : n.ws.length ≤ 1000000
theorem NdOk.ext {w w' : World} {n : Nd} (h : NdOk w n) (e : Ext w w') : NdOk w' n := ⟨h.rs.ext e, h.ws.ext e, h.rl, h.wl⟩
theorem Ch.stbE {n : Nat} {w W W' : World} (e : Ext w W) (hS : Stb n W W') (hn : w.heap.size ≤ n) : Ext w W' := e.then (.ofStb hS) fun i hi h => by omega
theorem Ch.chN {F : Nat → Prop} {w W W' : World} (e : Ext w W) (hC : Ch F W W') (hF : ∀ i, F i → w.heap.size ≤ i) : Ext w W' := e.then hC fun i hi h => by have := hF i h; omega
/-- A node in a box of its own. -/
theorem boxNd {w : World} {x : NdV} {z : Array Value} {T : TypeId} (hz : z.size = 6) {K : Nat → World → Prop} (hK : ∀ b w', w.heap.size = b → w'.heap.size = b + 1 → w'.heap[b]? = some (.cells (nC x).toArray T (0, 0)) → Ext w w' → (∀ n, n ≤ w.heap.size → Stb n w w') → K b w') :
    AllocP w (.cells z T) fun b w2 => #[Value.int .i64 x.1, .int .i64 x.2.1, .int .i64 x.2.2.1, .bool x.2.2.2.1, .slice x.2.2.2.2.1.1 x.2.2.2.2.1.2 x.2.2.2.2.1.3, .slice x.2.2.2.2.2.1 x.2.2.2.2.2.2 x.2.2.2.2.2.3].size = 6 ∧ StoreP w2 b 0 (nC x) (K b) :=
  boxCells (vs := nC x) rfl (nC_one x) hz hK
def mtP (xs ys : List Spn) : Prop := ∃ k, hasS xs k ∧ hasS ys k
def cnfP (a b : Nd) : Prop := a.v.1 ≠ b.v.1 ∧ (mtP a.ws b.rs ∨ mtP a.ws b.ws ∨ mtP a.rs b.ws)
def dirP (a b : Nd) : Prop := a.v.1 = b.v.1 ∨ cnfP a b
theorem c42 {w : World} {a b : Nd} (ha : NdOk w a) (hb : NdOk w b) :
    CW Try.prog 42 #[ndV a.v, ndV b.v] w fun v w' => ∃ r, v = .bool r ∧ (r = true ↔ cnfP a b) ∧ Ext w w' := by
  refine F42_ok a.v b.v w _ fun b1 w2 h2 b3 w4 h4 => ?_
  have e4 : Ext w w4 := (h2.ch _).trans (h4.ch _)
  have H1 := h4.at h2.new
  have H3 := h4.new
  have q1 : ∀ {W : World} (o : Nat), Ext w4 W → W.cell? ⟨b1, 0 + o, none⟩ = (nC a.v)[o]? := fun o e => by rw [cell_of (e.at H1), Nat.zero_add]; exact List.getElem?_toArray ..
  have q3 : ∀ {W : World} (o : Nat), Ext w4 W → W.cell? ⟨b3, 0 + o, none⟩ = (nC b.v)[o]? := fun o e => by rw [cell_of (e.at H3), Nat.zero_add]; exact List.getElem?_toArray ..
  refine ⟨_, q1 0 (Ch.refl _ _), _, q3 0 (Ch.refl _ _), IfB.intro (fun hne => ?_) fun he => ?_⟩
  · have hne : a.v.1 ≠ b.v.1 := by simpa using hne
    refine ⟨_, q1 5 (Ch.refl _ _), _, q3 4 (Ch.refl _ _), (c60 (ha.ws.ext e4) (hb.rs.ext e4) ha.wl hb.rl).use ?_⟩
    rintro _ w10 ⟨r1, rfl, hr1, e10⟩
    refine ⟨r1, rfl, IfB.intro (fun h => ⟨true, rfl, ?_, e4.trans e10⟩) fun h => ?_⟩
    · exact ⟨fun _ => ⟨hne, .inl (hr1.1 h)⟩, fun _ => rfl⟩
    have n1 : ¬ mtP a.ws b.rs := fun h' => by rw [hr1.2 h'] at h; cases h
    have e410 := e4.trans e10
    refine ⟨_, q1 5 e10, _, q3 5 e10, (c60 (ha.ws.ext e410) (hb.ws.ext e410) ha.wl hb.wl).use ?_⟩
    rintro _ w15 ⟨r2, rfl, hr2, e15⟩
    refine ⟨r2, rfl, IfB.intro (fun h => ⟨true, rfl, ?_, e410.trans e15⟩) fun h => ?_⟩
    · exact ⟨fun _ => ⟨hne, .inr (.inl (hr2.1 h))⟩, fun _ => rfl⟩
    have n2 : ¬ mtP a.ws b.ws := fun h' => by rw [hr2.2 h'] at h; cases h
    have e415 := e410.trans e15
    refine ⟨_, q1 4 (e10.trans e15), _, q3 5 (e10.trans e15), (c60 (ha.rs.ext e415) (hb.ws.ext e415) ha.rl hb.wl).use ?_⟩
    rintro _ w20 ⟨r3, rfl, hr3, e20⟩
    refine ⟨r3, rfl, r3, rfl, ?_, e415.trans e20⟩
    rw [hr3]
    exact ⟨fun h => ⟨hne, .inr (.inr h)⟩, fun h => by
      rcases h.2 with h | h | h
      · exact absurd h n1
      · exact absurd h n2
      · exact h⟩
  · have he : a.v.1 = b.v.1 := by simpa using he
    exact ⟨false, rfl, ⟨fun h => (by cases h), fun h => absurd he h.1⟩, e4⟩
theorem c38 {w : World} {a b : Nd} (ha : NdOk w a) (hb : NdOk w b) :
    CW Try.prog 38 #[ndV a.v, ndV b.v] w fun v w' => ∃ r, v = .bool r ∧ (r = true ↔ dirP a b) ∧ Ext w w' := by
  refine F38_ok a.v b.v w _ fun b1 w2 h2 b3 w4 h4 => ?_
  have e4 : Ext w w4 := (h2.ch _).trans (h4.ch _)
  have H1 := h4.at h2.new
  have H3 := h4.new
  refine ⟨a.v.1, by rw [cell_of H1]; rfl, b.v.1, by rw [cell_of H3]; rfl, IfB.intro (fun he => ?_) fun hne => ?_⟩
  · have he : a.v.1 = b.v.1 := by simpa using he
    exact ⟨true, rfl, ⟨fun _ => .inl he, fun _ => rfl⟩, e4⟩
  · have hne : a.v.1 ≠ b.v.1 := by simpa using hne
    refine ⟨a.v, cellsAt_of H1 fun i v hv => by simpa using hv, b.v, cellsAt_of H3 fun i v hv => by simpa using hv, (c42 (ha.ext e4) (hb.ext e4)).use ?_⟩
    rintro _ w10 ⟨r, rfl, hr, e10⟩
    exact ⟨r, rfl, r, rfl, hr.trans ⟨.inr, fun h => h.resolve_left hne⟩, e4.trans e10⟩
structure Hst (w : World) (t : Sl) (hs : List Nd) : Prop where
  rd : Rd w t 6 (hs.flatMap nL)
  ok : ∀ n ∈ hs, NdOk w n
  len : hs.length ≤ 1000000
  cap : t.n ≤ t.c
theorem Hst.ext {w w' : World} {t : Sl} {hs : List Nd} (h : Hst w t hs) (e : Ext w w') : Hst w' t hs := ⟨h.rd.ext e, fun n hn => (h.ok n hn).ext e, h.len, h.cap⟩
theorem Hst.n {w : World} {t : Sl} {hs : List Nd} (h : Hst w t hs) : t.n = hs.length := rdN nL_len (by omega) h.rd
theorem Hst.at {w : World} {t : Sl} {hs : List Nd} (h : Hst w t hs) {i : Nat} {x : Nd} (hx : hs[i]? = some x) : ∃ b o, t.p = some ⟨b, o, none⟩ ∧ CellsAt w b (o + i * 6) (nC x.v) :=
  h.rd.elem (i := i) (by have := h.n; have := (List.getElem?_eq_some_iff.1 hx).1; omega) (by omega) (flatGet nL_len hx)
theorem Hst.get {w : World} {t : Sl} {hs : List Nd} (h : Hst w t hs) {i : Nat} {x : Nd} (hx : hs[i]? = some x) : NdOk w x := h.ok x (List.mem_of_getElem? hx)
theorem Hst.cut {w : World} {t : Sl} {hs : List Nd} (h : Hst w t hs) {k : Nat} (hk : k ≤ hs.length) : Hst w ⟨t.p, k, t.c⟩ (hs.take k) := by
  refine ⟨?_, fun n hn => h.ok n (List.mem_of_mem_take hn), by rw [List.length_take]; have := h.len; omega, by have := h.cap; have := h.n; dsimp only; omega⟩
  have := h.rd.cut (k := k) (by have := h.n; omega)
  rw [flatTake nL_len] at this
  exact this
/-- Directly: k is ahead of i. -/
def EdP (hs : List Nd) (i k : Nat) : Prop := k < i ∧ ∃ a b, hs[i]? = some a ∧ hs[k]? = some b ∧ dirP a b
theorem c16 {w : World} {t : Sl} {hs : List Nd} (h : Hst w t hs) (i k : Int) :
    CW Try.prog 16 #[slV t, iv i, iv k] w fun v w' => ∃ r, v = .bool r ∧ (r = true ↔ 0 ≤ i ∧ 0 ≤ k ∧ EdP hs i.toNat k.toNat) ∧ Ext w w' := by
  have hn := h.n
  have ed := extDrew w
  refine F16_ok t i k w _ (IfB.dec (fun h0 => IfB.dec (fun h1 => IfB.dec (fun h2 => ?_) fun h2 => ?_) fun h1 => ?_) fun h0 => ?_)
  · have h2' : i < (t.n : Int) := h2
    have hi : i.toNat < hs.length := by omega
    have hk : k.toNat < hs.length := by omega
    have ha : hs[i.toNat]? = some hs[i.toNat] := List.getElem?_eq_getElem hi
    have hb : hs[k.toNat]? = some hs[k.toNat] := List.getElem?_eq_getElem hk
    generalize hs[i.toNat] = a at ha
    generalize hs[k.toNat] = b at hb
    have hD := h.ext ed
    obtain ⟨b1, o1, hp1, hc1⟩ := hD.at ha
    obtain ⟨b2, o2, hp2, hc2⟩ := hD.at hb
    refine ⟨b1, o1, hp1, ⟨by omega, h2⟩, a.v, hc1, b2, o2, hp2, ⟨by omega, by show k < (t.n : Int); omega⟩, b.v, hc2, (c38 (hD.get ha) (hD.get hb)).use ?_⟩
    rintro _ w8 ⟨r, rfl, hr, e8⟩
    refine ⟨r, rfl, r, rfl, ?_, ed.trans e8⟩
    rw [hr]
    constructor
    · exact fun hd => ⟨by omega, by omega, by omega, a, b, ha, hb, hd⟩
    · rintro ⟨_, _, _, a', b', ha', hb', hd⟩
      rw [ha] at ha'; rw [hb] at hb'
      cases ha'; cases hb'; exact hd
  · have h2' : ¬ i < (t.n : Int) := h2
    refine ⟨false, rfl, ⟨fun h => by (cases h), fun ⟨_, _, _, a, b, ha, _⟩ => ?_⟩, ed⟩
    have := (List.getElem?_eq_some_iff.1 ha).1
    omega
  · exact ⟨false, rfl, ⟨fun h => by (cases h), fun ⟨_, _, h3, _⟩ => by omega⟩, ed⟩
  · exact ⟨false, rfl, ⟨fun h => by (cases h), fun ⟨_, h3, _⟩ => by omega⟩, ed⟩
abbrev bkA (x : Int × NdV) : Array Value := #[iv x.1, ndV x.2]
structure InvB (b : Nat) (t : Sl) (vs : List NdV) (W : World) : Prop where
  box : ∃ T, W.heap[b]? = some (.cells #[slV t] T (0, 0))
  rd : Rd W t 6 (vs.flatMap nC)
theorem InvB.stb {n b : Nat} {t : Sl} {vs : List NdV} {W W' : World} (h : InvB b t vs W) (hS : Stb n W W') : InvB b t vs W' := by
  obtain ⟨⟨T, h1⟩, h2⟩ := h
  exact ⟨⟨T, hS.keep _ _ h1 rfl⟩, rd_stb h2 hS⟩
theorem itB (b : Nat) (t : Sl) (vs : List NdV) (hl : vs.length ≤ 1000000) :
    Iter Try.prog 70 #[.pointer (some ⟨b, 0, none⟩)] bkA false (fun pre x => ∃ i : Nat, pre.length + i + 1 = vs.length ∧ x.1 = (i : Int) ∧ vs[i]? = some x.2) (fun xs => xs.length = vs.length) (InvB b t vs) := by
  refine ⟨en70, fun l J Jx W hJ hJx hInv hSz _ hstep h0 => ?_⟩
  have hI0 := hInv _ _ h0
  have hn := rdN nC_len (by omega) hI0.rd
  obtain ⟨T1, hT1⟩ := hI0.box
  refine F70_ok l b W _ ⟨t, by rw [cell_of hT1]; rfl, fun n x w6 => ∃ pre : List (Int × NdV), pre.length ≤ vs.length ∧ n + pre.length = vs.length ∧ x = (vs.length : Int) - 1 - (pre.length : Int) ∧ J pre w6, ⟨vs.length, [], Nat.zero_le _, rfl, ?_, h0⟩, ?_⟩
  · rw [wrap_of (by omega) (by omega), hn]; simp
  rintro n _ w6 g ⟨pre, hp, hnp, rfl, hj⟩
  have hI := hInv _ _ hj
  obtain ⟨T2, hT2⟩ := hI.box
  unfold F70j1
  refine IfB.dec (fun hge => ?_) fun hlt => ?_
  · obtain ⟨i, hi⟩ : ∃ i : Nat, pre.length + i + 1 = vs.length := ⟨vs.length - 1 - pre.length, by omega⟩
    have hx : vs[i]? = some vs[i] := List.getElem?_eq_getElem (by omega)
    generalize vs[i] = x at hx
    have hie : (vs.length : Int) - 1 - (pre.length : Int) = (i : Int) := by omega
    rw [hie]
    obtain ⟨a, o, ha, hc⟩ := hI.rd.elem (i := i) (by omega) (by omega) (flatGet nC_len hx)
    refine ⟨t, by rw [cell_of hT2]; rfl, a, o, ha, (⟨by omega, by omega⟩ : (0 : Int) ≤ (i : Int) ∧ (i : Int) < (t.n : Int)), x, by rw [Int.toNat_natCast]; exact hc, (hstep pre ((i : Int), x) w6 hj ⟨i, hi, rfl, hx⟩).mono fun r w14 hr => ?_⟩
    cases r with
    | false => exact IfB.yes rfl (.inr ⟨_, hr⟩)
    | true =>
      refine IfB.no rfl ⟨rfl, n - 1, by omega, pre ++ [((i : Int), x)], by simp; omega, by simp; omega, ?_, hr.1⟩
      rw [wrap_of (by omega) (by omega)]
      simp
      omega
  · exact .inl ⟨pre, by omega, hj⟩
theorem c56 (t : Sl) (w : World) : CW Try.prog 56 #[slV t] w fun v w' => ∃ b T, v = .func (.func 70) #[] #[.pointer (some ⟨b, 0, none⟩)] ∧ IsAlloc w (.cells #[slV t] T (0, 0)) b w' :=
  F56_ok t w _ fun b w' a => ⟨b, _, rfl, a⟩
def encB (b : Bool) : Value := .bool b
theorem c55 {w : World} {b r : Nat} {f : List (Int × Bool)} (k : Int) (hb : ∃ T, w.heap[b]? = some (.cells #[.map (some r)] T (0, 0))) (hM : Mp encB w r f) :
    CW Try.prog 55 #[iv k, .pointer (some ⟨b, 0, none⟩)] w fun v w' => v = .tuple #[] ∧ ∃ f', (∀ k', getM f' k' = if k = k' then some true else getM f k') ∧ Mp encB w' r f' ∧ Ch (fun i => i = r) w w' := by
  obtain ⟨T, hT⟩ := hb
  refine F55_ok k b w _ ⟨some r, by rw [cell_of hT]; rfl, Mp.set (enc := encB) (v := true) hM fun f' w' h1 h2 h3 => ⟨rfl, f', h1, h2, h3⟩⟩
end Go.Proofs.Ytmmhbjbaallkfaa.Gx

/- Written by mkf.py: what is to be shown of functions, as Gx reckons it from their code. -/
namespace Go.Proofs.Ytmmhbjbaallkfaa.Gx
open Go
set_option linter.unusedVariables false
set_option maxRecDepth 100000
def F48j1 (R : Value → World → Prop) (s8 : Sl) (y9 : Nat → Int → World → Prop) (b11 : Nat) (n12 : Int) (w13 : World) : Prop :=
 IfB (decide (n12 < (s8.n : Int)))
 (∃ (b16 : Nat),
 ∃ (b17 : Nat),
 s8.1 = some ({ block := b16, off := b17 } : Addr) ∧
 ((0 : Int) ≤ n12 ∧ n12 < (s8.2 : Int)) ∧
 ∃ (x18 : Int × Int × Int × Bool × Sl × Sl),
 CellsAt w13 b16 (b17 + n12.toNat * (6 : Nat))
 [Value.int IntKind.i64 x18.1, Value.int IntKind.i64 x18.snd.1, Value.int IntKind.i64 x18.snd.snd.1, Value.bool x18.snd.snd.snd.1,
 Value.slice x18.snd.snd.snd.snd.fst.1 x18.snd.snd.snd.snd.fst.2 x18.snd.snd.snd.snd.fst.3, Value.slice x18.snd.snd.snd.snd.snd.1 x18.snd.snd.snd.snd.snd.2 x18.snd.snd.snd.snd.snd.3] ∧
 AllocP w13
 (Obj.cells
 #[Value.int IntKind.i64 (0 : Int), Value.int IntKind.i64 (0 : Int), Value.int IntKind.i64 (0 : Int), Value.bool false, Value.slice none (0 : Nat) (0 : Nat), Value.slice none (0 : Nat) (0 : Nat)]
 (27 : Nat))
 fun (b19 : Nat) (w20 : World) =>
 #[Value.int IntKind.i64 x18.1, Value.int IntKind.i64 x18.snd.1, Value.int IntKind.i64 x18.snd.snd.1, Value.bool x18.snd.snd.snd.1,
 Value.slice x18.snd.snd.snd.snd.fst.1 x18.snd.snd.snd.snd.fst.2 x18.snd.snd.snd.snd.fst.3, Value.slice x18.snd.snd.snd.snd.snd.1 x18.snd.snd.snd.snd.snd.2 x18.snd.snd.snd.snd.snd.3].size =
 (6 : Nat) ∧
 StoreP w20 b19 (0 : Nat)
 [Value.int IntKind.i64 x18.1, Value.int IntKind.i64 x18.snd.1, Value.int IntKind.i64 x18.snd.snd.1, Value.bool x18.snd.snd.snd.1,
 Value.slice x18.snd.snd.snd.snd.fst.1 x18.snd.snd.snd.snd.fst.2 x18.snd.snd.snd.snd.fst.3, Value.slice x18.snd.snd.snd.snd.snd.1 x18.snd.snd.snd.snd.snd.2 x18.snd.snd.snd.snd.snd.3]
 fun (w21 : World) =>
 ∃ (s22 : Sl),
 w21.drew.cell? ({ block := b19, off := (0 : Nat) + (4 : Nat) } : Addr) = some (Value.slice s22.1 s22.2 s22.3) ∧
 ∃ (s23 : Sl),
 w21.drew.cell? ({ block := b19, off := (0 : Nat) + (5 : Nat) } : Addr) = some (Value.slice s23.1 s23.2 s23.3) ∧
 CX Try.prog (67 : Nat) #[Value.slice s22.1 s22.2 s22.3] w21.drew fun (v24 : Value) (w25 : World) =>
 ∃ (s26 : Sl),
 v24 = Value.slice s26.1 s26.2 s26.3 ∧
 w25.cell? ({ block := b19, off := (0 : Nat) + (5 : Nat) } : Addr) = some (Value.slice s23.1 s23.2 s23.3) ∧
 CX Try.prog (67 : Nat) #[Value.slice s23.1 s23.2 s23.3] w25 fun (v27 : Value) (w28 : World) =>
 ∃ (s29 : Sl),
 v27 = Value.slice s29.1 s29.2 s29.3 ∧
 ∃ (b30 : Nat),
 ∃ (b31 : Nat),
 s8.1 = some ({ block := b30, off := b31 } : Addr) ∧
 ((0 : Int) ≤ n12 ∧ n12 < (s8.2 : Int)) ∧
 #[Value.slice s26.1 s26.2 s26.3].size = (1 : Nat) ∧
 StoreP w28 b30 (b31 + n12.toNat * (6 : Nat) + (4 : Nat)) [Value.slice s26.1 s26.2 s26.3] fun (w32 : World) =>
 ∃ (b33 : Nat),
 ∃ (b34 : Nat),
 s8.1 = some ({ block := b33, off := b34 } : Addr) ∧
 ((0 : Int) ≤ n12 ∧ n12 < (s8.2 : Int)) ∧
 #[Value.slice s29.1 s29.2 s29.3].size = (1 : Nat) ∧
 StoreP w32 b33 (b34 + n12.toNat * (6 : Nat) + (5 : Nat)) [Value.slice s29.1 s29.2 s29.3] fun (w35 : World) => ([] : List Nat) = [] ∧ ∃ (b36 : Nat), b36 < b11 ∧ y9 b36 (IntKind.i64.wrap (n12 + (1 : Int))) w35)
 (R (Value.slice s8.1 s8.2 s8.3) w13)
def F48 (t0 : Sl) (t1 : Int) (w : World) (R : Value → World → Prop) : Prop :=
 AllocP w (Obj.cells #[Value.int IntKind.i64 t1] (3 : Nat)) fun (b1 : Nat) (w2 : World) =>
 CX Try.prog (65 : Nat) #[Value.slice t0.1 t0.2 t0.3] w2 fun (v3 : Value) (w4 : World) =>
 ∃ (s5 : Sl),
 v3 = Value.slice s5.1 s5.2 s5.3 ∧
 CX Try.prog (64 : Nat) #[Value.slice s5.1 s5.2 s5.3, Value.func (Fn.func (66 : Nat)) #[] #[Value.pointer (some ({ block := b1, off := (0 : Nat) } : Addr))]] w4
 fun (v6 : Value) (w7 : World) =>
 ∃ (s8 : Sl),
 v6 = Value.slice s8.1 s8.2 s8.3 ∧
 ∃ (y9 : Nat → Int → World → Prop),
 (∃ (b10 : Nat), y9 b10 (0 : Int) w7) ∧
 ∀ (b11 : Nat) (n12 : Int) (w13 : World) (y14 : Nat → Value),
 y9 b11 n12 w13 →
 (F48j1 R s8 y9 b11 n12 w13)
theorem F48_ok (t0 : Sl) (t1 : Int) (w : World) (R : Value → World → Prop) (h : F48 t0 t1 w R) : CW Try.prog 48 #[Value.slice t0.1 t0.2 t0.3, Value.int IntKind.i64 t1] w R :=
  call_of tbOk mixed en48 Try.func48 rfl (.node (.nil) (.node (.nil) (.node (.node (.nil) (.loop [(14, .one (.int .i64))] [15, 16, 17, 18, 7, 6, 19, 20, 21, 22, 23, 24, 25, 26, 27, 28, 29, 30, 31, 32, 33, 14] (.node (.nil) (.node (.nil) (.node (.node (.nil) (.draw (.st 0 (.st 1 (.st 2 (.st 3 (.st 4 (.st 5 (.st 7 (.st 8 (.ac 6 [8, 7, 3, 2, 1, 0] (.ac 9 [3, 2, 1, 0] (.st 10 (.st 11 (.ac 12 [3, 2] (.st 13 (.st 14 (.ac 15 [] (.fin) (.non)))) (.non)))) (.non)) (.non)))))))))))) (.nil)))))) (.nil)))) (by kernel_rfl) (Nat.le_of_ble_eq_true (by kernel_rfl)) (Eq.mp (α := F48 t0 t1 w R) (by kernel_rfl) h)
def F66 (t0 : (Leaf.int IntKind.i64).den × dens [Leaf.int IntKind.i64, Leaf.int IntKind.i64, Leaf.bool, Leaf.sl, Leaf.sl]) (t1 : Nat) (w : World) (R : Value → World → Prop) : Prop :=
 AllocP w
 (Obj.cells
 #[Value.int IntKind.i64 t0.1, Value.int IntKind.i64 t0.snd.1, Value.int IntKind.i64 t0.snd.snd.1, Value.bool t0.snd.snd.snd.1,
 Value.slice t0.snd.snd.snd.snd.fst.1 t0.snd.snd.snd.snd.fst.2 t0.snd.snd.snd.snd.fst.3, Value.slice t0.snd.snd.snd.snd.snd.1 t0.snd.snd.snd.snd.snd.2 t0.snd.snd.snd.snd.snd.3]
 (27 : Nat))
 fun (b1 : Nat) (w2 : World) =>
 ∃ (n3 : Int),
 w2.cell? ({ block := b1, off := (0 : Nat) + (0 : Nat) } : Addr) = some (Value.int IntKind.i64 n3) ∧
 ∃ (n4 : Int), w2.cell? ({ block := t1, off := (0 : Nat) } : Addr) = some (Value.int IntKind.i64 n4) ∧ R (Value.bool (n3 != n4)) w2
theorem F66_ok (t0 : (Leaf.int IntKind.i64).den × dens [Leaf.int IntKind.i64, Leaf.int IntKind.i64, Leaf.bool, Leaf.sl, Leaf.sl]) (t1 : Nat) (w : World) (R : Value → World → Prop) (h : F66 t0 t1 w R) : CW Try.prog 66 #[Value.agg #[Value.int IntKind.i64 t0.1, Value.int IntKind.i64 t0.snd.1, Value.int IntKind.i64 t0.snd.snd.1, Value.bool t0.snd.snd.snd.1, Value.slice t0.snd.snd.snd.snd.fst.1 t0.snd.snd.snd.snd.fst.2 t0.snd.snd.snd.snd.fst.3, Value.slice t0.snd.snd.snd.snd.snd.1 t0.snd.snd.snd.snd.snd.2 t0.snd.snd.snd.snd.snd.3], Value.pointer (some ({ block := t1, off := 0 } : Addr))] w R :=
  call_of tbOk mixed en66 Try.func66 rfl (.nil) (by kernel_rfl) (Nat.le_of_ble_eq_true (by kernel_rfl)) (Eq.mp (α := F66 t0 t1 w R) (by kernel_rfl) h)
def F64k1 (t0 : Sl) (x7 : Int × Int) (w8 : World) (t1 : Nat × Array Value) (b6 : Nat) (y4 : Nat → Int × Int → World → Prop) : Prop :=
 ∃ (b11 : Nat),
 ∃ (b12 : Nat),
 t0.1 = some ({ block := b11, off := b12 } : Addr) ∧
 ((0 : Int) ≤ x7.2 ∧ x7.2 < (t0.2 : Int)) ∧
 ∃ (x13 : Int × Int × Int × Bool × Sl × Sl),
 CellsAt w8 b11 (b12 + x7.2.toNat * (6 : Nat))
 [Value.int IntKind.i64 x13.1, Value.int IntKind.i64 x13.snd.1, Value.int IntKind.i64 x13.snd.snd.1, Value.bool x13.snd.snd.snd.1,
 Value.slice x13.snd.snd.snd.snd.fst.1 x13.snd.snd.snd.snd.fst.2 x13.snd.snd.snd.snd.fst.3, Value.slice x13.snd.snd.snd.snd.snd.1 x13.snd.snd.snd.snd.snd.2 x13.snd.snd.snd.snd.snd.3] ∧
 AllocP w8
 (Obj.cells
 #[Value.int IntKind.i64 (0 : Int), Value.int IntKind.i64 (0 : Int), Value.int IntKind.i64 (0 : Int), Value.bool false, Value.slice none (0 : Nat) (0 : Nat), Value.slice none (0 : Nat) (0 : Nat)]
 (27 : Nat))
 fun (b14 : Nat) (w15 : World) =>
 #[Value.int IntKind.i64 x13.1, Value.int IntKind.i64 x13.snd.1, Value.int IntKind.i64 x13.snd.snd.1, Value.bool x13.snd.snd.snd.1,
 Value.slice x13.snd.snd.snd.snd.fst.1 x13.snd.snd.snd.snd.fst.2 x13.snd.snd.snd.snd.fst.3, Value.slice x13.snd.snd.snd.snd.snd.1 x13.snd.snd.snd.snd.snd.2 x13.snd.snd.snd.snd.snd.3].size =
 (6 : Nat) ∧
 StoreP w15 b14 (0 : Nat)
 [Value.int IntKind.i64 x13.1, Value.int IntKind.i64 x13.snd.1, Value.int IntKind.i64 x13.snd.snd.1, Value.bool x13.snd.snd.snd.1,
 Value.slice x13.snd.snd.snd.snd.fst.1 x13.snd.snd.snd.snd.fst.2 x13.snd.snd.snd.snd.fst.3, Value.slice x13.snd.snd.snd.snd.snd.1 x13.snd.snd.snd.snd.snd.2 x13.snd.snd.snd.snd.snd.3]
 fun (w16 : World) =>
 ∃ (x17 : Int × Int × Int × Bool × Sl × Sl),
 CellsAt w16 b14 (0 : Nat)
 [Value.int IntKind.i64 x17.1, Value.int IntKind.i64 x17.snd.1, Value.int IntKind.i64 x17.snd.snd.1, Value.bool x17.snd.snd.snd.1,
 Value.slice x17.snd.snd.snd.snd.fst.1 x17.snd.snd.snd.snd.fst.2 x17.snd.snd.snd.snd.fst.3, Value.slice x17.snd.snd.snd.snd.snd.1 x17.snd.snd.snd.snd.snd.2 x17.snd.snd.snd.snd.snd.3] ∧
 CX Try.prog t1.1
 { toList := Value.agg #[Value.int IntKind.i64 x17.1, Value.int IntKind.i64 x17.snd.1, Value.int IntKind.i64 x17.snd.snd.1, Value.bool x17.snd.snd.snd.1, Value.slice x17.snd.snd.snd.snd.fst.1 x17.snd.snd.snd.snd.fst.2 x17.snd.snd.snd.snd.fst.3, Value.slice x17.snd.snd.snd.snd.snd.1 x17.snd.snd.snd.snd.snd.2 x17.snd.snd.snd.snd.snd.3] :: t1.snd.1 }
 w16 fun (v18 : Value) (w19 : World) =>
 ∃ (t20 : Bool),
 v18 = Value.bool t20 ∧
 IfB (!t20)
 (∃ (x21 : Int × Int × Int × Bool × Sl × Sl),
 CellsAt w19 b14 (0 : Nat)
 [Value.int IntKind.i64 x21.1, Value.int IntKind.i64 x21.snd.1, Value.int IntKind.i64 x21.snd.snd.1, Value.bool x21.snd.snd.snd.1,
 Value.slice x21.snd.snd.snd.snd.fst.1 x21.snd.snd.snd.snd.fst.2 x21.snd.snd.snd.snd.fst.3, Value.slice x21.snd.snd.snd.snd.snd.1 x21.snd.snd.snd.snd.snd.2 x21.snd.snd.snd.snd.snd.3] ∧
 ∃ (b22 : Nat),
 ∃ (b23 : Nat),
 t0.1 = some ({ block := b22, off := b23 } : Addr) ∧
 ((0 : Int) ≤ x7.1 ∧ x7.1 < (t0.2 : Int)) ∧
 #[Value.int IntKind.i64 x21.1, Value.int IntKind.i64 x21.snd.1, Value.int IntKind.i64 x21.snd.snd.1, Value.bool x21.snd.snd.snd.1,
 Value.slice x21.snd.snd.snd.snd.fst.1 x21.snd.snd.snd.snd.fst.2 x21.snd.snd.snd.snd.fst.3, Value.slice x21.snd.snd.snd.snd.snd.1 x21.snd.snd.snd.snd.snd.2 x21.snd.snd.snd.snd.snd.3].size =
 (6 : Nat) ∧
 StoreP w19 b22 (b23 + x7.1.toNat * (6 : Nat))
 [Value.int IntKind.i64 x21.1, Value.int IntKind.i64 x21.snd.1, Value.int IntKind.i64 x21.snd.snd.1, Value.bool x21.snd.snd.snd.1,
 Value.slice x21.snd.snd.snd.snd.fst.1 x21.snd.snd.snd.snd.fst.2 x21.snd.snd.snd.snd.fst.3, Value.slice x21.snd.snd.snd.snd.snd.1 x21.snd.snd.snd.snd.snd.2 x21.snd.snd.snd.snd.snd.3]
 fun (w24 : World) => ([] : List Nat) = [] ∧ ∃ (b25 : Nat), b25 < b6 ∧ y4 b25 (IntKind.i64.wrap (x7.1 + (1 : Int)), IntKind.i64.wrap (x7.2 + (1 : Int))) w24)
 (([] : List Nat) = [] ∧ ∃ (b26 : Nat), b26 < b6 ∧ y4 b26 (x7.1, IntKind.i64.wrap (x7.2 + (1 : Int))) w19)
def F64j1 (t0 : Sl) (t1 : Nat × Array Value) (R : Value → World → Prop) (y4 : Nat → Int × Int → World → Prop) (b6 : Nat) (x7 : Int × Int) (w8 : World) : Prop :=
 IfB (decide (x7.snd < (t0.n : Int)))
 (F64k1 t0 x7 w8 t1 b6 y4)
 (((0 : Int) ≤ x7.1 ∧ x7.1 ≤ (t0.2 : Int)) ∧
 match slAddr t0.1 t0.3 x7.1.toNat (6 : Nat) with
 | none => ((0 : Int) ≤ x7.1 ∧ x7.1 ≤ (t0.3 : Int)) ∧ R (Value.slice (slAddr t0.1 t0.3 (0 : Nat) (6 : Nat)) x7.1.toNat t0.3) w8
 | some ({ block := b28, off := b29, spot := none } : Addr) => StoreP w8 b28 b29 (zc #[Value.int IntKind.i64 (0 : Int), Value.int IntKind.i64 (0 : Int), Value.int IntKind.i64 (0 : Int), Value.bool false, Value.slice none (0 : Nat) (0 : Nat), Value.slice none (0 : Nat) (0 : Nat)] (t0.2 - x7.1.toNat)) fun (w30 : World) => ((0 : Int) ≤ x7.1 ∧ x7.1 ≤ (t0.3 : Int)) ∧ R (Value.slice (slAddr t0.1 t0.3 (0 : Nat) (6 : Nat)) x7.1.toNat t0.3) w30
 | some y31 => False)
def F64 (t0 : Sl) (t1 : Nat × Array Value) (w : World) (R : Value → World → Prop) : Prop :=
 CX Try.prog (85 : Nat) #[Value.slice t0.1 t0.2 t0.3, Value.func (Fn.func t1.1) #[] t1.2] w fun (v1 : Value) (w2 : World) =>
 ∃ (n3 : Int),
 v1 = Value.int IntKind.i64 n3 ∧
 IfB (n3 == (-1 : Int)) (R (Value.slice t0.1 t0.2 t0.3) w2)
 (∃ (y4 : Nat → Int × Int → World → Prop),
 (∃ (b5 : Nat), y4 b5 (n3, IntKind.i64.wrap (n3 + (1 : Int))) w2) ∧
 ∀ (b6 : Nat) (x7 : Int × Int) (w8 : World) (y9 : Nat → Value),
 y4 b6 x7 w8 →
 (F64j1 t0 t1 R y4 b6 x7 w8))
theorem F64_ok (t0 : Sl) (t1 : Nat × Array Value) (w : World) (R : Value → World → Prop) (h : F64 t0 t1 w R) : CW Try.prog 64 #[Value.slice t0.1 t0.2 t0.3, Value.func (Fn.func t1.1) #[] t1.2] w R :=
  call_of tbOk mixed en64 Try.func64 rfl (.node (.nil) (.node (.nil) (.node (.nil) (.node (.node (.nil) (.loop [(5, .one (.int .i64)), (6, .one (.int .i64))] [16, 17, 18, 19, 22, 23, 24, 25, 7, 26, 27, 28, 29, 30, 31, 32, 33, 34, 35, 5, 20, 21, 6] (.nil))) (.nil))))) (by kernel_rfl) (Nat.le_of_ble_eq_true (by kernel_rfl)) (Eq.mp (α := F64 t0 t1 w R) (by kernel_rfl) h)
def F85j1 (t0 : Sl) (t1 : Nat × Array Value) (R : Value → World → Prop) (y1 : Nat → Int → World → Prop) (b3 : Nat) (n4 : Int) (w5 : World) : Prop :=
 IfB (decide (n4 < (t0.n : Int)))
 (∃ (b8 : Nat),
 ∃ (b9 : Nat),
 t0.1 = some ({ block := b8, off := b9 } : Addr) ∧
 ((0 : Int) ≤ n4 ∧ n4 < (t0.2 : Int)) ∧
 ∃ (x10 : Int × Int × Int × Bool × Sl × Sl),
 CellsAt w5 b8 (b9 + n4.toNat * (6 : Nat))
 [Value.int IntKind.i64 x10.1, Value.int IntKind.i64 x10.snd.1, Value.int IntKind.i64 x10.snd.snd.1, Value.bool x10.snd.snd.snd.1,
 Value.slice x10.snd.snd.snd.snd.fst.1 x10.snd.snd.snd.snd.fst.2 x10.snd.snd.snd.snd.fst.3, Value.slice x10.snd.snd.snd.snd.snd.1 x10.snd.snd.snd.snd.snd.2 x10.snd.snd.snd.snd.snd.3] ∧
 CX Try.prog t1.1
 { toList := Value.agg #[Value.int IntKind.i64 x10.1, Value.int IntKind.i64 x10.snd.1, Value.int IntKind.i64 x10.snd.snd.1, Value.bool x10.snd.snd.snd.1, Value.slice x10.snd.snd.snd.snd.fst.1 x10.snd.snd.snd.snd.fst.2 x10.snd.snd.snd.snd.fst.3, Value.slice x10.snd.snd.snd.snd.snd.1 x10.snd.snd.snd.snd.snd.2 x10.snd.snd.snd.snd.snd.3] :: t1.snd.1 }
 w5 fun (v11 : Value) (w12 : World) =>
 ∃ (t13 : Bool), v11 = Value.bool t13 ∧ IfB t13 (R (Value.int IntKind.i64 n4) w12) (([] : List Nat) = [] ∧ ∃ (b14 : Nat), b14 < b3 ∧ y1 b14 (IntKind.i64.wrap (n4 + (1 : Int))) w12))
 (R (Value.int IntKind.i64 (-1 : Int)) w5)
def F85 (t0 : Sl) (t1 : Nat × Array Value) (w : World) (R : Value → World → Prop) : Prop :=
 ∃ (y1 : Nat → Int → World → Prop),
 (∃ (b2 : Nat), y1 b2 (0 : Int) w) ∧
 ∀ (b3 : Nat) (n4 : Int) (w5 : World) (y6 : Nat → Value),
 y1 b3 n4 w5 →
 (F85j1 t0 t1 R y1 b3 n4 w5)
theorem F85_ok (t0 : Sl) (t1 : Nat × Array Value) (w : World) (R : Value → World → Prop) (h : F85 t0 t1 w R) : CW Try.prog 85 #[Value.slice t0.1 t0.2 t0.3, Value.func (Fn.func t1.1) #[] t1.2] w R :=
  call_of tbOk mixed en85 Try.func85 rfl (.node (.nil) (.node (.node (.nil) (.loop [(8, .one (.int .i64))] [9, 10, 5, 11, 12, 13, 14, 15, 16, 17, 4, 18, 8] (.nil))) (.nil))) (by kernel_rfl) (Nat.le_of_ble_eq_true (by kernel_rfl)) (Eq.mp (α := F85 t0 t1 w R) (by kernel_rfl) h)
def F65 (t0 : Sl) (w : World) (R : Value → World → Prop) : Prop :=
 IfB t0.1.isNone (R (Value.slice none (0 : Nat) (0 : Nat)) w)
 ((0 : Nat) * (6 : Nat) ≤ (16777216 : Nat) ∧
 AllocP w (Obj.cells #[] (27 : Nat)) fun (b1 : Nat) (w2 : World) =>
 ∃ (l3 : List Value),
 ReadC w2 t0.1 (t0.2 * (6 : Nat)) l3 ∧
 AppendP tt27 (27 : Nat) w2 (some ({ block := b1, off := (0 : Nat) } : Addr)) (0 : Nat) (0 : Nat) t0.2 l3 fun (s4 : Sl) (w5 : World) => R (Value.slice s4.1 s4.2 s4.3) w5)
theorem F65_ok (t0 : Sl) (w : World) (R : Value → World → Prop) (h : F65 t0 w R) : CW Try.prog 65 #[Value.slice t0.1 t0.2 t0.3] w R :=
  call_of tbOk mixed en65 Try.func65 rfl (.nil) (by kernel_rfl) (Nat.le_of_ble_eq_true (by kernel_rfl)) (Eq.mp (α := F65 t0 w R) (by kernel_rfl) h)
def F67 (t0 : Sl) (w : World) (R : Value → World → Prop) : Prop :=
 IfB t0.1.isNone (R (Value.slice none (0 : Nat) (0 : Nat)) w)
 ((0 : Nat) * (2 : Nat) ≤ (16777216 : Nat) ∧
 AllocP w (Obj.cells #[] (51 : Nat)) fun (b1 : Nat) (w2 : World) =>
 ∃ (l3 : List Value),
 ReadC w2 t0.1 (t0.2 * (2 : Nat)) l3 ∧
 AppendP tt51 (51 : Nat) w2 (some ({ block := b1, off := (0 : Nat) } : Addr)) (0 : Nat) (0 : Nat) t0.2 l3 fun (s4 : Sl) (w5 : World) => R (Value.slice s4.1 s4.2 s4.3) w5)
theorem F67_ok (t0 : Sl) (w : World) (R : Value → World → Prop) (h : F67 t0 w R) : CW Try.prog 67 #[Value.slice t0.1 t0.2 t0.3] w R :=
  call_of tbOk mixed en67 Try.func67 rfl (.nil) (by kernel_rfl) (Nat.le_of_ble_eq_true (by kernel_rfl)) (Eq.mp (α := F67 t0 w R) (by kernel_rfl) h)
def F28j1 (t0 : Sl) (t1 : Sl) (R : Value → World → Prop) (y1 : Nat → Sl × Int → World → Prop) (b3 : Nat) (x4 : Sl × Int) (w5 : World) : Prop :=
 IfB (decide (x4.snd < (t1.n : Int)))
 (∃ (b8 : Nat),
 ∃ (b9 : Nat),
 t1.1 = some ({ block := b8, off := b9 } : Addr) ∧
 ((0 : Int) ≤ x4.2 ∧ x4.2 < (t1.2 : Int)) ∧
 ∃ (n10 : Int),
 w5.cell? ({ block := b8, off := b9 + x4.2.toNat } : Addr) = some (Value.int IntKind.i64 n10) ∧
 ((0 : Int) ≤ x4.2 ∧ x4.2 ≤ (t1.3 : Int)) ∧
 CX Try.prog (39 : Nat) #[Value.slice (slAddr t1.1 t1.3 (0 : Nat) (1 : Nat)) x4.2.toNat t1.3, Value.int IntKind.i64 n10] w5 fun (v11 : Value) (w12 : World) =>
 ∃ (t13 : Bool),
 v11 = Value.bool t13 ∧
 IfB (!t13)
 (CX Try.prog (48 : Nat) #[Value.slice t0.1 t0.2 t0.3, Value.int IntKind.i64 n10] w12 fun (v14 : Value) (w15 : World) =>
 ∃ (s16 : Sl),
 v14 = Value.slice s16.1 s16.2 s16.3 ∧
 ∃ (l17 : List Value),
 ReadC w15 s16.1 (s16.2 * (6 : Nat)) l17 ∧
 AppendP tt27 (27 : Nat) w15 x4.fst.1 x4.fst.2 x4.fst.3 s16.2 l17 fun (s18 : Sl) (w19 : World) =>
 ([] : List Nat) = [] ∧ ∃ (b20 : Nat), b20 < b3 ∧ y1 b20 ({ p := s18.1, n := s18.2, c := s18.3 }, IntKind.i64.wrap (x4.2 + (1 : Int))) w19)
 (([] : List Nat) = [] ∧ ∃ (b21 : Nat), b21 < b3 ∧ y1 b21 ({ p := x4.fst.1, n := x4.fst.2, c := x4.fst.3 }, IntKind.i64.wrap (x4.2 + (1 : Int))) w12))
 (R (Value.slice x4.fst.1 x4.fst.2 x4.fst.3) w5)
def F28 (t0 : Sl) (t1 : Sl) (w : World) (R : Value → World → Prop) : Prop :=
 ∃ (y1 : Nat → Sl × Int → World → Prop),
 (∃ (b2 : Nat), y1 b2 ({ p := none, n := (0 : Nat), c := (0 : Nat) }, (0 : Int)) w) ∧
 ∀ (b3 : Nat) (x4 : Sl × Int) (w5 : World) (y6 : Nat → Value),
 y1 b3 x4 w5 →
 (F28j1 t0 t1 R y1 b3 x4 w5)
theorem F28_ok (t0 : Sl) (t1 : Sl) (w : World) (R : Value → World → Prop) (h : F28 t0 t1 w R) : CW Try.prog 28 #[Value.slice t0.1 t0.2 t0.3, Value.slice t1.1 t1.2 t1.3] w R :=
  call_of tbOk mixed en28 Try.func28 rfl (.node (.nil) (.node (.nil) (.node (.node (.nil) (.loop [(5, .one (.sl)), (10, .one (.int .i64))] [11, 12, 13, 14, 6, 7, 15, 16, 17, 18, 19, 20, 21, 22, 23, 24, 25, 5, 26, 10] (.nil))) (.nil)))) (by kernel_rfl) (Nat.le_of_ble_eq_true (by kernel_rfl)) (Eq.mp (α := F28 t0 t1 w R) (by kernel_rfl) h)
end Go.Proofs.Ytmmhbjbaallkfaa.Gx

/- slices.IndexFunc, DeleteFunc, Clone of nodes; Clone of spans. Written by mksere.py out of XKeyA. -/
namespace Go.Proofs.Ytmmhbjbaallkfaa.Gx
open Go
set_option linter.unusedSimpArgs false
set_option linter.unusedVariables false
theorem c85 {w : World} {t : Sl} {xs : List NdV} {t1 : Nat × Array Value} {q : NdV → Bool} (h : Rd w t 6 (xs.flatMap nC)) (hl : xs.length ≤ 1000000)
    (hq : ∀ (x : NdV) (W : World), x ∈ xs → Ext w W → ∀ R' : Value → World → Prop, (∀ w', Ext W w' → R' (.bool (q x)) w') → CX Try.prog t1.1 { toList := ndV x :: t1.2.toList } W R') :
    CW Try.prog 85 #[slV t, .func (.func t1.1) #[] t1.2] w fun v w' => v = iv (idxV (xs.findIdx? q)) ∧ Ext w w' := by
  refine F85_ok t t1 w _ ?_
  have hn := rdN nC_len (by omega) h
  have e : F85 t t1 w (fun v w' => v = iv (idxV (xs.findIdx? q)) ∧ Ext w w') = IndexF Try.prog (fun W b o i (x : NdV) => CellsAt W b (o + i * 6) (nC x)) ndV t t1 w (fun v w' => v = iv (idxV (xs.findIdx? q)) ∧ Ext w w') := rfl
  rw [e]
  refine IndexF_of xs id q hn (by omega) (fun i x W hx e => ?_) (fun i x W hx e R' hR => hq x W (List.mem_of_getElem? hx) e R' hR) fun w' e => ⟨rfl, e⟩
  obtain ⟨hi, _⟩ := List.getElem?_eq_some_iff.1 hx
  obtain ⟨b, o, hp, hc⟩ := (h.ext e).elem (i := i) (by omega) (by omega) (flatGet nC_len hx)
  exact ⟨b, o, hp, hc⟩
/-- DeleteFunc where each element is put into a box first. -/
theorem c64 {w : World} {t0 : Sl} {xs : List NdV} {t1 : Nat × Array Value} {q : NdV → Bool} (ho : OwS w t0 6 (xs.flatMap nC)) (hn : xs.length ≤ 1000000)
    (hq : ∀ (x : NdV) (W : World), x ∈ xs → Ch (fun i => i ∈ blk t0) w W → ∀ R' : Value → World → Prop, (∀ w', Ext W w' → R' (.bool (q x)) w') → CX Try.prog t1.1 { toList := ndV x :: t1.2.toList } W R') :
    CW Try.prog 64 #[slV t0, .func (.func t1.1) #[] t1.2] w fun v w' => ∃ t', v = slV t' ∧ OwS w' t' 6 ((xs.filter fun x => !q x).flatMap nC) ∧ t'.p = t0.p ∧ Ch (fun i => i ∈ blk t0) w w' := by
  have htn := owsN nC_len (by omega) ho
  have hl := nC_len
  refine F64_ok t0 t1 w _ ((c85 ho.rd hn fun x W hx e => hq x W hx (e.mono fun _ _ h => h.elim)).use ?_)
  rintro _ w2 ⟨rfl, e2⟩
  refine ⟨_, rfl, ?_⟩
  cases hf : xs.findIdx? q with
  | none =>
    refine IfB.yes rfl ?_
    have : (xs.filter fun x => !q x) = xs := List.filter_eq_self.2 fun x hx => by rw [List.findIdx?_eq_none_iff.1 hf x hx]; rfl
    exact ⟨t0, rfl, by rw [this]; exact ho.ext e2, rfl, e2.mono fun _ _ h => h.elim⟩
  | some i0 =>
    obtain ⟨hi0, hqi, hlow⟩ := List.findIdx?_eq_some_iff_getElem.1 hf
    refine IfB.no (by simp [idxV]) ?_
    have hx0 : xs[i0]? = some xs[i0] := List.getElem?_eq_getElem hi0
    have hkeep0 : (xs.take i0).filter (fun x => !q x) = xs.take i0 := List.filter_eq_self.2 fun x hx => by
      obtain ⟨j, hj, rfl⟩ := List.getElem_of_mem hx
      rw [List.length_take] at hj
      rw [List.getElem_take]
      have := hlow j (by omega)
      simpa using this
    have hkeep1 : (xs.take (i0 + 1)).filter (fun x => !q x) = xs.take i0 := by rw [takeFilter hx0, hkeep0, hqi]; simp
    refine ⟨fun n x W => ∃ (j : Nat) (gs : List NdV), gs ≠ [] ∧ n + j = xs.length ∧ ((xs.take j).filter fun x => !q x).length + gs.length = j ∧ j ≤ xs.length ∧ x = ((((xs.take j).filter fun x => !q x).length : Int), (j : Int)) ∧ OwS W t0 6 ((((xs.take j).filter fun x => !q x) ++ gs ++ xs.drop j).flatMap nC) ∧ Ch (fun i => i ∈ blk t0) w W,
      ⟨xs.length - (i0 + 1), i0 + 1, [xs[i0]], by simp, by omega, by rw [hkeep1, List.length_take]; simp; omega, by omega, ?_, ?_, e2.mono fun _ _ h => h.elim⟩, ?_⟩
    · rw [hkeep1, List.length_take, Nat.min_eq_left (by omega)]
      show ((i0 : Int), IntKind.i64.wrap ((i0 : Int) + 1)) = _
      rw [wrap_of (by omega) (by omega)]; rfl
    · rw [hkeep1]
      have : xs.take i0 ++ [xs[i0]] ++ xs.drop (i0 + 1) = xs := by
        rw [List.append_assoc, List.singleton_append, ← List.drop_eq_getElem_cons hi0, List.take_append_drop]
      rw [this]
      exact ho.ext e2
    · rintro n _ W g ⟨j, gs, hgs, hnj, hlen, hj, rfl, hO, hC⟩
      generalize hkd : (xs.take j).filter (fun x => !q x) = kd at hlen hO
      have hg0 : 0 < gs.length := List.length_pos_iff.2 hgs
      have hcap := ho.cap
      obtain ⟨b, hp⟩ := ho.ptr (by omega)
      have hbl : b < w.heap.size := ho.lt b (by simp [blk, hp])
      unfold F64j1
      refine IfB.dec (fun hlt => ?_) fun hge => ?_
      · have hj' : j < xs.length := by dsimp only at hlt; omega
        have hx : xs[j]? = some xs[j] := List.getElem?_eq_getElem hj'
        have hxm := List.mem_of_getElem? hx
        have htf := takeFilter (p := fun x => !q x) hx
        rw [hkd] at htf
        have hdrop : xs.drop j = xs[j] :: xs.drop (j + 1) := List.drop_eq_getElem_cons hj'
        generalize xs[j] = x at hx hxm htf hdrop
        have hLx : (kd ++ gs ++ xs.drop j)[j]? = some x := by
          rw [List.getElem?_append_right (by rw [List.length_append]; omega), List.length_append, show j - (kd.length + gs.length) = 0 by omega, hdrop]; rfl
        obtain ⟨b', hp', hc⟩ := hO.elem (i := j) (by omega) (flatGet hl hLx)
        rw [hp] at hp'; cases hp'
        refine ⟨b, 0, hp, ⟨by dsimp only; omega, hlt⟩, x, ?_, boxNd rfl fun b14 w16 hb14 hs16 h16 e16 _ => ⟨x, cellsAt_of h16 fun i v hv => by simpa using hv, hq x w16 hxm (hC.then e16 fun _ _ h => h.elim) _ fun w19 e19 => ⟨q x, rfl, ?_⟩⟩⟩
        · dsimp only
          rw [Int.toNat_natCast, Nat.zero_add]
          exact hc
        · have e15 : Ext W w19 := e16.trans e19
          have h19 := e19.at h16
          have hO15 := hO.ext e15
          have hC15 := hC.then e15 fun _ _ h => h.elim
          refine IfB.intro (fun hk => ?_) fun hk => ?_
          · have hqx : q x = false := by simpa using hk
            rw [hqx] at htf
            simp only [Bool.not_false, if_true] at htf
            refine ⟨x, cellsAt_of h19 fun i v hv => by simpa using hv, b, 0, hp, ⟨by dsimp only; omega, by show (kd.length : Int) < (t0.n : Int); omega⟩, rfl, ?_⟩
            dsimp only
            rw [Int.toNat_natCast, Nat.zero_add]
            have hLl : (kd ++ gs ++ xs.drop j).length = xs.length := by rw [List.length_append, List.length_append, List.length_drop]; omega
            refine hO15.store (vs := nC x) hp (by rw [hl]; omega) (nC_one x) fun w19 hO19 hC19 => ⟨rfl, n - 1, by omega, j + 1, gs.tail ++ [x], by simp, by omega, ?_, by omega, ?_, ?_, hC15.then hC19 fun i _ e => by simp [blk, hp, e]⟩
            · rw [htf]; simp; omega
            · rw [htf, wrap_of (by omega) (by omega), wrap_of (by omega) (by omega)]; simp
            · rw [hl, flatSet hl (by omega)] at hO19
              rw [htf]
              have : (kd ++ gs ++ xs.drop j).set kd.length x = kd ++ [x] ++ (gs.tail ++ [x]) ++ xs.drop (j + 1) := by
                rw [hdrop]
                cases gs with
                | nil => exact absurd rfl hgs
                | cons g0 gs => simp
              rw [← this]; exact hO19
          · have hqx : q x = true := by simpa using hk
            rw [hqx] at htf
            simp only [Bool.not_true, Bool.false_eq_true, if_false, List.append_nil] at htf
            refine ⟨rfl, n - 1, by omega, j + 1, gs ++ [x], by simp, by omega, by rw [htf]; simp; omega, by omega, ?_, ?_, hC15⟩
            · rw [htf]; dsimp only; rw [wrap_of (by omega) (by omega)]; rfl
            · rw [htf]
              rw [hdrop] at hO15
              simpa using hO15
      · have hjn : j = xs.length := by dsimp only at hge; omega
        subst hjn
        rw [List.take_length] at hkd
        rw [List.drop_length, List.append_nil] at hO
        have hkl : kd.length < t0.n := by omega
        refine ⟨⟨by dsimp only; omega, by show (kd.length : Int) ≤ (t0.n : Int); omega⟩, ?_⟩
        dsimp only
        rw [Int.toNat_natCast, hp, slAddr_some]
        have hcut := hO.cut (k := kd.length) (by omega)
        rw [flatTake hl, List.take_append_of_le_length (Nat.le_refl _), List.take_length] at hcut
        dsimp only
        rw [if_neg (by omega), Nat.zero_add]
        refine hcut.storeTail hp (Nat.le_refl _) (by rw [zc_len]; show kd.length * 6 + (t0.n - kd.length) * 6 ≤ t0.c * 6; omega) (zc_one (by intro y hy; simp at hy; rcases hy with rfl | rfl | rfl | rfl | rfl | rfl <;> rfl) _) fun w25 hO25 hC25 => ⟨⟨by omega, by omega⟩, ⟨t0.p, kd.length, t0.c⟩, ?_, by rw [hkd]; exact hO25, hp, hC.then hC25 fun i _ e => by simp [blk, hp, e]⟩
        rw [← hp, slAddr_zero]
theorem c65 {w : World} {t : Sl} {xs : List NdV} (h : Rd w t 6 (xs.flatMap nC)) (hl : xs.length ≤ 1000000) : CW Try.prog 65 #[slV t] w fun v w' => ∃ t', v = slV t' ∧ OwS w' t' 6 (xs.flatMap nC) ∧ Ext w w' ∧ ∀ i ∈ blk t', w.heap.size ≤ i := by
  have hn := rdN nC_len (by omega) h
  refine F65_ok t w _ ?_
  have e : ∀ R, F65 t w R = CloneF tt27 27 6 t w R := fun _ => rfl
  rw [e]
  refine CloneF_of h rfl rfl (flatOne nC_one _) ⟨by omega, ?_⟩ (fun s' w' h1 h2 h3 h4 => ⟨s', rfl, h1, h3, h4⟩) fun hp => ?_
  · show 2 * t.n * 80 ≤ _
    omega
  · have h2 := h.2
    rw [hp] at h2
    have : xs.flatMap nC = [] := h2
    have h3 := h.1
    rw [this] at h3
    simp at h3; omega
theorem c67 {w : World} {t : Sl} {xs : List Spn} (h : Rd w t 2 (xs.flatMap sv)) (hl : xs.length * 16 ≤ 140737488355328) : CW Try.prog 67 #[slV t] w fun v w' => ∃ t', v = slV t' ∧ OwS w' t' 2 (xs.flatMap sv) ∧ Ext w w' ∧ ∀ i ∈ blk t', w.heap.size ≤ i := by
  have hn := rdN sv_len (by omega) h
  refine F67_ok t w _ ?_
  have e : ∀ R, F67 t w R = CloneF tt51 51 2 t w R := fun _ => rfl
  rw [e]
  refine CloneF_of h rfl rfl (flatOne sv_one _) ⟨by omega, ?_⟩ (fun s' w' h1 h2 h3 h4 => ⟨s', rfl, h1, h3, h4⟩) fun hp => ?_
  · show 2 * t.n * 16 ≤ _
    omega
  · have h2 := h.2
    rw [hp] at h2
    have : xs.flatMap sv = [] := h2
    have h3 := h.1
    rw [this] at h3
    simp at h3; omega
end Go.Proofs.Ytmmhbjbaallkfaa.Gx

/- Package deps: on, Of. -/
namespace Go.Proofs.Ytmmhbjbaallkfaa.Gx
open Go
set_option linter.unusedSimpArgs false
set_option linter.unusedVariables false
/-- i depends on k. -/
abbrev Dp (hs : List Nd) : Nat → Nat → Prop := TC (EdP hs)
theorem Dp_lt {hs : List Nd} {i k : Nat} (h : Dp hs i k) : k < i := by
  induction h with
  | one h => exact h.1
  | more _ h ih => exact Nat.lt_trans h.1 ih
structure RowOf (hs : List Nd) (i : Nat) (xs : List Int) : Prop where
  srt : xs.Pairwise (· < ·)
  mem : ∀ k : Int, k ∈ xs ↔ ∃ k' : Nat, k = (k' : Int) ∧ Dp hs i k'
theorem sorted_nodup {xs : List Int} (h : xs.Pairwise (· < ·)) : xs.Nodup := h.imp fun h e => by omega
theorem RowOf.len {hs : List Nd} {i : Nat} {xs : List Int} (h : RowOf hs i xs) : xs.length ≤ i := by
  have := nodup_le (a := xs) (b := (List.range i).map fun k : Nat => (k : Int)) (sorted_nodup h.srt) fun k hk => by
    obtain ⟨k', rfl, hd⟩ := (h.mem k).1 hk
    exact List.mem_map.2 ⟨k', List.mem_range.2 (Dp_lt hd), rfl⟩
  simpa using this
theorem sorted_ext : ∀ {xs ys : List Int}, xs.Pairwise (· < ·) → ys.Pairwise (· < ·) → (∀ k, k ∈ xs ↔ k ∈ ys) → xs = ys
  | [], [], _, _, _ => rfl
  | [], y :: ys, _, _, h => by have := (h y).2 (by simp); cases this
  | x :: xs, [], _, _, h => by have := (h x).1 (by simp); cases this
  | x :: xs, y :: ys, hx, hy, h => by
    rw [List.pairwise_cons] at hx hy
    have e : x = y := by
      rcases List.mem_cons.1 ((h x).1 (by simp)) with e | e
      · exact e
      · rcases List.mem_cons.1 ((h y).2 (by simp)) with e' | e'
        · exact e'.symm
        · have := hx.1 _ e'; have := hy.1 _ e; omega
    subst e
    refine congrArg _ (sorted_ext hx.2 hy.2 fun k => ?_)
    constructor
    · intro hk
      rcases List.mem_cons.1 ((h k).1 (List.mem_cons_of_mem _ hk)) with e | e
      · have := hx.1 _ hk; omega
      · exact e
    · intro hk
      rcases List.mem_cons.1 ((h k).2 (List.mem_cons_of_mem _ hk)) with e | e
      · have := hy.1 _ hk; omega
      · exact e
/-- What was found behind j and at it. -/
def FsP (hs : List Nd) (len j : Nat) (k : Int) : Prop := ∃ m k' : Nat, k = (k' : Int) ∧ j ≤ m ∧ EdP hs len m ∧ (k' = m ∨ Dp hs m k')
theorem FsP_top {hs : List Nd} {len : Nat} (k : Int) : ¬ FsP hs len len k := fun ⟨m, _, _, h, h2, _⟩ => by have := h2.1; omega
theorem FsP_zero {hs : List Nd} {len : Nat} (k : Int) : FsP hs len 0 k ↔ ∃ k' : Nat, k = (k' : Int) ∧ Dp hs len k' := by
  constructor
  · rintro ⟨m, k', rfl, _, h, rfl | h'⟩
    · exact ⟨_, rfl, .one h⟩
    · exact ⟨_, rfl, (TC.one h).trans h'⟩
  · rintro ⟨k', rfl, h⟩
    obtain ⟨c, hc, h⟩ := h.first
    exact ⟨c, k', rfl, Nat.zero_le _, hc, h.imp Eq.symm id⟩
theorem FsP_mono {hs : List Nd} {len j : Nat} {k : Int} (h : FsP hs len (j + 1) k) : FsP hs len j k := by
  obtain ⟨m, k', h1, h2, h3⟩ := h
  exact ⟨m, k', h1, by omega, h3⟩
theorem FsP_found {hs : List Nd} {len j : Nat} (h : FsP hs len (j + 1) (j : Int)) (k : Int) : FsP hs len j k ↔ FsP hs len (j + 1) k := by
  refine ⟨fun ⟨m, k', h1, h2, h3, h4⟩ => ?_, FsP_mono⟩
  by_cases hm : m = j
  · subst hm
    obtain ⟨m0, j', e, h5, h6, h7⟩ := h
    have e : j' = m := by omega
    subst e
    rcases h7 with h7 | h7
    · omega
    · refine ⟨m0, k', h1, h5, h6, .inr ?_⟩
      rcases h4 with rfl | h4
      · exact h7
      · exact h7.trans h4
  · exact ⟨m, k', h1, by omega, h3, h4⟩
theorem FsP_not {hs : List Nd} {len j : Nat} (h : ¬ EdP hs len j) (k : Int) : FsP hs len j k ↔ FsP hs len (j + 1) k := by
  refine ⟨fun ⟨m, k', h1, h2, h3, h4⟩ => ⟨m, k', h1, ?_, h3, h4⟩, FsP_mono⟩
  have : m ≠ j := fun e => h (e ▸ h3)
  omega
theorem FsP_add {hs : List Nd} {len j : Nat} (h : EdP hs len j) (k : Int) : FsP hs len j k ↔ FsP hs len (j + 1) k ∨ k = (j : Int) ∨ ∃ k' : Nat, k = (k' : Int) ∧ Dp hs j k' := by
  constructor
  · rintro ⟨m, k', h1, h2, h3, h4⟩
    by_cases hm : m = j
    · subst hm
      rcases h4 with rfl | h4
      · exact .inr (.inl h1)
      · exact .inr (.inr ⟨k', h1, h4⟩)
    · exact .inl ⟨m, k', h1, by omega, h3, h4⟩
  · rintro (h' | h' | ⟨k', h1, h2⟩)
    · exact FsP_mono h'
    · exact ⟨j, j, h', Nat.le_refl _, h, .inl rfl⟩
    · exact ⟨j, k', h1, Nat.le_refl _, h, .inr h2⟩
def Fnd (W : World) (r : Nat) (P : Int → Prop) : Prop := ∃ f : List (Int × Bool), Mp encB W r f ∧ ∀ k, (getM f k = some true ∧ P k) ∨ (getM f k = none ∧ ¬ P k)
theorem Fnd.iff {W : World} {r : Nat} {P Q : Int → Prop} (h : Fnd W r P) (hq : ∀ k, Q k ↔ P k) : Fnd W r Q := by
  obtain ⟨f, h1, h2⟩ := h
  exact ⟨f, h1, fun k => (h2 k).imp (fun h => ⟨h.1, (hq k).2 h.2⟩) fun h => ⟨h.1, fun h' => h.2 ((hq k).1 h')⟩⟩
theorem Fnd.ch {F : Nat → Prop} {W W' : World} {r : Nat} {P : Int → Prop} (h : Fnd W r P) (hc : Ch F W W') (hF : ¬ F r) : Fnd W' r P := by
  obtain ⟨f, h1, h2⟩ := h
  exact ⟨f, h1.ch hc hF, h2⟩
theorem Fnd.ext {W W' : World} {r : Nat} {P : Int → Prop} (h : Fnd W r P) (hc : Ext W W') : Fnd W' r P := h.ch hc id
theorem Fnd.stb {n : Nat} {W W' : World} {r : Nat} {P : Int → Prop} (h : Fnd W r P) (hc : Stb n W W') : Fnd W' r P := by
  obtain ⟨f, h1, h2⟩ := h
  exact ⟨f, h1.stb hc, h2⟩
theorem Fnd.put {W : World} {r b : Nat} {P : Int → Prop} (h : Fnd W r P) (k : Int) (hb : ∃ T, W.heap[b]? = some (.cells #[.map (some r)] T (0, 0))) :
    CW Try.prog 55 #[iv k, .pointer (some ⟨b, 0, none⟩)] W fun v w' => v = .tuple #[] ∧ Fnd w' r (fun k' => P k' ∨ k' = k) ∧ Ch (fun i => i = r) W w' := by
  obtain ⟨f, h1, h2⟩ := h
  refine (c55 k hb h1).mono ?_
  rintro _ w' ⟨rfl, f', hf', hM, hC⟩
  refine ⟨rfl, ⟨f', hM, fun k' => ?_⟩, hC⟩
  rw [hf']
  by_cases hk : k = k'
  · rw [if_pos hk]; exact .inl ⟨rfl, .inr hk.symm⟩
  · rw [if_neg hk]
    exact (h2 k').imp (fun h => ⟨h.1, .inl h.2⟩) fun h => ⟨h.1, fun h' => h'.elim h.2 fun e => hk e.symm⟩
theorem mpKeys {β : Type} {enc : β → Value} {w : World} {r : Nat} {f : List (Int × β)} (h : Mp enc w r f) : ∃ es ck, w.heap[r]? = some (.map es ck) ∧ KeysE (some (r, es, ck)) (f.map (·.1)) := by
  obtain ⟨es, ck, h1, h2, h3, h4, h5⟩ := h
  refine ⟨es, ck, h1, ?_, h3, h4, h5⟩
  have := congrArg (List.map Prod.fst) h2
  rw [List.map_map, List.map_map] at this
  rw [List.map_map]; exact this
theorem pw_le_lt {xs : List Int} (h : xs.Pairwise (· ≤ ·)) (hn : xs.Nodup) : xs.Pairwise (· < ·) := (h.and hn).imp fun ⟨h1, h2⟩ => by omega
/-- The keys that were found, in their order. -/
theorem Fnd.keys {W : World} {r n : Nat} {P : Int → Prop} (h : Fnd W r P) (hP : ∀ k, P k → 0 ≤ k ∧ k < (n : Int)) (hn : n ≤ 1000000) {K : Value → World → Prop}
    (hK : ∀ (t : Sl) (xs : List Int) (w' : World), xs.Pairwise (· < ·) → (∀ k, k ∈ xs ↔ P k) → OwS w' t 1 (xs.map iv) → Ext W w' → (∀ j ∈ blk t, W.heap.size ≤ j) → K (slV t) w') :
    CX Try.prog 58 #[.map (some r)] W fun v w1 => ∃ x : Nat × Array Value, v = .func (.func x.1) #[] x.2 ∧ CX Try.prog 57 #[.func (.func x.1) #[] x.2] w1 K := by
  obtain ⟨f, h1, h2⟩ := h
  obtain ⟨es, ck, hr, hks⟩ := mpKeys h1
  have hnd : (f.map (·.1)).Nodup := hks.2.1
  have hkm : ∀ k, k ∈ f.map (·.1) ↔ P k := fun k => by
    rw [getM_key]
    rcases h2 k with ⟨e, h⟩ | ⟨e, h⟩
    · simp [e, h]
    · simp [e, h]
  have hlen : (f.map (·.1)).length ≤ 1000000 := by
    have := nodup_le (a := f.map (·.1)) (b := (List.range n).map fun k : Nat => (k : Int)) hnd fun k hk => by
      have := hP k ((hkm k).1 hk)
      exact List.mem_map.2 ⟨k.toNat, List.mem_range.2 (by omega), by omega⟩
    simp at this
    simp; omega
  refine CW.use (F58_ok (some r) W (fun v w' => ∃ b1 T, v = .func (.func 72) #[] #[.pointer (some ⟨b1, 0, none⟩)] ∧ IsAlloc W (.cells #[.map (some r)] T (0, 0)) b1 w') fun b1 w' a => ⟨b1, _, rfl, a⟩) ?_
  rintro _ w5 ⟨b1, T, rfl, a5⟩
  have e5 : Ext W w5 := a5.ch _
  have hKI : KeysI b1 (some (r, es, ck)) w5 := ⟨⟨T, a5.new⟩, e5.at hr⟩
  refine ⟨(72, _), rfl, (sorted_of (it72 hKI hks hlen)).use ?_⟩
  rintro _ w8 ⟨t, xs, ys, rfl, hp, hp2, _, hs, ho, e8, hb⟩
  have hpp := hp2.trans hp
  exact hK t xs w8 (pw_le_lt hs (hpp.nodup_iff.2 hnd)) (fun k => hpp.mem_iff.trans (hkm k)) ho (e5.trans e8) fun j hj => by have := hb j hj; have := e5.size; omega
abbrev RwL := Sl × List Int
abbrev hR (x : RwL) : Value := slV x.1
structure Rws (w : World) (t : Sl) (rows : List RwL) : Prop where
  rd : Rd w t 1 (rows.map hR)
  row : ∀ r ∈ rows, Rd w r.1 1 (r.2.map iv)
theorem Rws.ext {w w' : World} {t : Sl} {rows : List RwL} (h : Rws w t rows) (e : Ext w w') : Rws w' t rows := ⟨h.rd.ext e, fun r hr => (h.row r hr).ext e⟩
theorem Rws.n {w : World} {t : Sl} {rows : List RwL} (h : Rws w t rows) : t.n = rows.length := by rw [h.rd.len1, List.length_map]
theorem Rws.at {w : World} {t : Sl} {rows : List RwL} (h : Rws w t rows) {i : Nat} {x : RwL} (hx : rows[i]? = some x) : (∃ b o, t.p = some ⟨b, o, none⟩ ∧ w.cell? ⟨b, o + i, none⟩ = some (slV x.1)) ∧ Rd w x.1 1 (x.2.map iv) ∧ x.1.n = x.2.length := by
  have hr := h.row x (List.mem_of_getElem? hx)
  refine ⟨h.rd.elem1 (i := i) (v := hR x) (by rw [List.getElem?_map, hx]; rfl), hr, by rw [hr.len1, List.length_map]⟩
theorem c37 {w : World} {tl t : Sl} {rows : List RwL} {hs : List Nd} {n : Nd} (hL : Rws w tl rows) (hH : Hst w t hs) (hn : NdOk w n) (hrl : rows.length = hs.length) (hrow : ∀ i x, rows[i]? = some x → RowOf (hs ++ [n]) i x.2) :
    CW Try.prog 37 #[slV tl, slV t, ndV n.v] w fun v w' => ∃ t' xs, v = slV t' ∧ RowOf (hs ++ [n]) hs.length xs ∧ OwS w' t' 1 (xs.map iv) ∧ Ext w w' ∧ ∀ j ∈ blk t', w.heap.size ≤ j := by
  have hlen := hH.len
  have hsn := hH.n
  have hln := hL.n
  have hEd : ∀ i x, hs[i]? = some x → (EdP (hs ++ [n]) hs.length i ↔ dirP n x) := fun i x hx => by
    have hi := (List.getElem?_eq_some_iff.1 hx).1
    unfold EdP
    rw [List.getElem?_append_right (Nat.le_refl _), Nat.sub_self, List.getElem?_append_left hi, hx]
    constructor
    · rintro ⟨_, a, b, ha, hb, hd⟩
      cases ha; cases hb; exact hd
    · exact fun hd => ⟨hi, n, x, rfl, rfl, hd⟩
  refine F37_ok tl t n.v w _ fun b1 w2 a2 b3 w4 a4 b5 w6 a6 b7 w8 a8 => ⟨rfl, store_one a8.new (by simp) rfl fun w9 u9 b10 w11 a11 => ⟨rfl, store_one a11.new (by simp) rfl fun w12 u12 => ?_⟩⟩
  have z2 := a2.size; have z4 := a4.size; have z6 := a6.size; have z8 := a8.size; have z9 := u9.size; have z11 := a11.size; have z12 := u12.size
  have p2 := a2.here; have p4 := a4.here; have p6 := a6.here; have p8 := a8.here; have p11 := a11.here
  have x8 : Ext w w8 := (((a2.ch _).trans (a4.ch _)).trans (a6.ch _)).trans (a8.ch _)
  have x9 : Ext w w9 := x8.chN u9.ch fun i e => by omega
  have x12 : Ext w w12 := (x9.trans (a11.ch _)).chN u12.ch fun i e => by omega
  refine (c56 t w12).use ?_
  rintro _ w14 ⟨pb, T, rfl, a14⟩
  have p14 := a14.here; have z14 := a14.size
  have x14 : Ext w w14 := x12.trans (a14.ch _)
  have c14 : Ext w12 w14 := a14.ch _
  have k1 : w14.heap[b1]? = some (.cells #[slV tl] 29 (0, 0)) := c14.at (u12.at (a11.at (u9.at (a8.at (a6.at (a4.at a2.new))) (by omega))) (by omega))
  have k3 : w14.heap[b3]? = some (.cells (nC n.v).toArray 27 (0, 0)) := c14.at (u12.at (a11.at (u9.at (a8.at (a6.at a4.new)) (by omega))) (by omega))
  have k7 : w14.heap[b7]? = some (.cells #[.map (some b5)] 70 (0, 0)) := c14.at (u12.at (a11.at u9.new) (by omega))
  have k10 : w14.heap[b10]? = some (.cells #[.func (.func 55) #[] #[.pointer (some ⟨b7, 0, none⟩)]] 73 (0, 0)) := c14.at u12.new
  have hF0 : Fnd w14 b5 (FsP (hs ++ [n]) hs.length hs.length) := ⟨[], ((((Mp.new a6).ext (a8.ch _)).ch u9.ch (by omega)).ext (a11.ch _)).ch (u12.ch.then c14 fun _ _ h => h.elim) (by omega), fun k => .inr ⟨rfl, FsP_top k⟩⟩
  refine ⟨(70, #[.pointer (some ⟨pb, 0, none⟩)]), rfl, fun g => ?_⟩
  obtain ⟨vs, hvs⟩ : ∃ vs, vs = hs.map (·.v) := ⟨_, rfl⟩
  have hvl : vs.length = hs.length := by rw [hvs, List.length_map]
  have hvf : hs.flatMap nL = vs.flatMap nC := by rw [hvs, List.flatMap_map]
  let G : List (Int × NdV) → World → Prop := fun pre W => pre.length ≤ hs.length ∧ InvB pb t vs W ∧ Fnd W b5 (FsP (hs ++ [n]) hs.length (hs.length - pre.length)) ∧
    (W.heap[b1]? = some (.cells #[slV tl] 29 (0, 0)) ∧ W.heap[b3]? = some (.cells (nC n.v).toArray 27 (0, 0)) ∧ W.heap[b7]? = some (.cells #[.map (some b5)] 70 (0, 0)) ∧ W.heap[b10]? = some (.cells #[.func (.func 55) #[] #[.pointer (some ⟨b7, 0, none⟩)]] 73 (0, 0))) ∧ Ext w W
  refine range_none tbOk mixed (gf := 70) (lb := #[.pointer (some ⟨pb, 0, none⟩)]) rfl (itB pb t vs (by omega)) R37_0ok1 R37_0ok2 R37_0okp (fun _ => rfl) G (fun _ _ _ => False) ?_ (fun _ _ _ _ h => h.elim) ?_ (fun h => by cases h) ?_ ?_ ?_ (fun _ _ _ h => h.elim)
  · rintro pre A B ⟨h1, h2, h3, ⟨q1, q3, q7, q10⟩, h4⟩ hS
    exact ⟨h1, h2.stb hS, h3.stb hS, ⟨hS.keep _ _ q1 rfl, hS.keep _ _ q3 rfl, hS.keep _ _ q7 rfl, hS.keep _ _ q10 rfl⟩, h4.stbE hS (by omega)⟩
  · rintro pre W ⟨_, h, _⟩; exact h
  · exact ⟨Nat.zero_le _, ⟨⟨T, a14.new⟩, by rw [← hvf]; exact hH.rd.ext x14⟩, hF0, ⟨k1, k3, k7, k10⟩, x14⟩
  · rintro pre ⟨xi, xv⟩ W ⟨hpl, hIB, hFn, ⟨q1, q3, q7, q10⟩, hX⟩ ⟨i, hi, hxi, hxv⟩ hW
    dsimp only at hxi hxv
    subst hxi
    have hi' : i < hs.length := by omega
    have hnd : hs[i]? = some hs[i] := List.getElem?_eq_getElem hi'
    generalize hs[i] = nd at hnd
    have hxe : xv = nd.v := by
      rw [hvs, List.getElem?_map, hnd] at hxv
      exact (Option.some.inj hxv).symm
    subst hxe
    have hj1 : hs.length - pre.length = i + 1 := by omega
    have hj0 : hs.length - (pre ++ [((i : Int), nd.v)]).length = i := by simp; omega
    rw [hj1] at hFn
    refine F37b0_ok b1 b3 ⟨none, 0, 0⟩ b7 b10 (70, #[.pointer (some ⟨pb, 0, none⟩)]) (i : Int) nd.v _ _ _ _ _ W ?_
    refine boxNd rfl fun bb w3 hbb hs3 h3 e3 hS3 => ⟨rfl, ⟨e3.old _ (by omega) id, e3.old _ (by omega) id⟩, fun w12' hS hIt hL' => ?_⟩
    have zS := hS.size
    have e12 : Ext w w12' := (hX.trans e3).stbE hS (by omega)
    have r1 := hS.keep _ _ (e3.at q1) rfl
    have r3 := hS.keep _ _ (e3.at q3) rfl
    have r7 := hS.keep _ _ (e3.at q7) rfl
    have r10 := hS.keep _ _ (e3.at q10) rfl
    have rb := hS.keep _ _ h3 rfl
    have hFn12 := (hFn.ext e3).stb hS
    have hIB12 := (hIB.stb (hS3 w14.heap.size (by omega))).stb hS
    refine ⟨fun r W30 => Ext w12' W30 ∧ (r = true → ∀ k, FsP (hs ++ [n]) hs.length i k ↔ FsP (hs ++ [n]) hs.length (i + 1) k) ∧ (r = false → EdP (hs ++ [n]) hs.length i), ?_, ?_⟩
    · refine ⟨some b5, by rw [cell_of r7]; rfl, ?_⟩
      obtain ⟨f, hM, hf⟩ := hFn12
      refine hM.get ?_
      rcases hf (i : Int) with ⟨hg, hP⟩ | ⟨hg, hP⟩
      · rw [hg]
        exact ⟨true, rfl, IfB.yes rfl ⟨rfl, Ch.refl _ _, fun _ => FsP_found hP, fun h => by cases h⟩⟩
      · rw [hg]
        refine ⟨false, rfl, IfB.no rfl ⟨n.v, cellsAt_of r3 fun q v hv => by simpa using hv, nd.v, cellsAt_of rb fun q v hv => by simpa using hv, (c38 (hn.ext e12) ((hH.get hnd).ext e12)).use ?_⟩⟩
        rintro _ w27 ⟨r, rfl, hr, e27⟩
        refine ⟨r, rfl, rfl, e27, fun h => FsP_not fun hE => ?_, fun h => (hEd i nd hnd).2 (hr.1 (by simpa using h))⟩
        rw [hr.2 ((hEd i nd hnd).1 hE)] at h
        cases h
    · rintro r w30 g ⟨e30, hrt, hrf⟩
      have X30 := e12.trans e30
      have z30 := e30.size
      have s1 := e30.at r1
      have s3 := e30.at r3
      have s7 := e30.at r7
      have s10 := e30.at r10
      unfold F37b0j1
      have hItW : Its W w12' := (Its.ext e3).trans hIt
      refine IfB.intro (fun h => ?_) fun h => ?_
      · refine ⟨⟨e30.old _ (by omega) id, e30.old _ (by omega) id⟩, ⟨by simp; omega, ⟨⟨_, e30.at hIB12.box.choose_spec⟩, hIB12.rd.ext e30⟩, ?_, ⟨s1, s3, s7, s10⟩, X30⟩, hItW.trans (Its.ext e30)⟩
        rw [hj0]
        exact (hFn12.ext e30).iff (hrt h)
      · have hE := hrf h
        refine ⟨(55, #[.pointer (some ⟨b7, 0, none⟩)]), by rw [cell_of s10]; rfl, ((hFn12.ext e30).put (i : Int) ⟨_, s7⟩).use ?_⟩
        rintro _ w43 ⟨rfl, hF43, hC43⟩
        have X43 : Ext w w43 := X30.chN hC43 fun j e => by omega
        have hrw : rows[i]? = some rows[i] := List.getElem?_eq_getElem (by omega)
        generalize rows[i] = rw' at hrw
        obtain ⟨⟨ba, oa, hpa, hca⟩, hrr, hrn⟩ := (hL.ext X43).at hrw
        have hRow := hrow i rw' hrw
        have hRl := hRow.len
        have t1 := hC43.at s1 (by omega)
        have t3 := hC43.at s3 (by omega)
        have t7 := hC43.at s7 (by omega)
        have t10 := hC43.at s10 (by omega)
        refine ⟨(), rfl, tl, by rw [cell_of t1]; rfl, ba, oa, hpa, ⟨by omega, by omega⟩, rw'.1, by rw [Int.toNat_natCast]; exact hca, fun m x W' => ∃ q : Nat, q ≤ rw'.2.length ∧ m + q = rw'.2.length ∧ x = (q : Int) ∧ Ch (fun j => j = b5) w43 W' ∧ Fnd W' b5 (fun k => (FsP (hs ++ [n]) hs.length (i + 1) k ∨ k = (i : Int)) ∨ k ∈ rw'.2.take q),
          ⟨rw'.2.length, 0, Nat.zero_le _, rfl, rfl, Ch.refl _ _, hF43.iff fun k => by simp⟩, ?_⟩
        rintro m _ w53 g ⟨q, hq, hmq, rfl, hC53, hF53⟩
        have X53 : Ext w w53 := X43.chN hC53 fun j e => by omega
        have u1 := hC53.at t1 (by omega)
        have u3 := hC53.at t3 (by omega)
        have u7 := hC53.at t7 (by omega)
        have u10 := hC53.at t10 (by omega)
        unfold F37b0j2
        refine IfB.dec (fun hlt => ?_) fun hge => ?_
        · have hq' : q < rw'.2.length := by omega
          have hy : rw'.2[q]? = some rw'.2[q] := List.getElem?_eq_getElem hq'
          generalize rw'.2[q] = y at hy
          obtain ⟨bc, oc, hpc, hcc⟩ := ((hL.ext X53).at hrw).2.1.elem1 (i := q) (v := iv y) (by rw [List.getElem?_map, hy]; rfl)
          refine ⟨bc, oc, hpc, ⟨by omega, hlt⟩, y, by rw [Int.toNat_natCast]; exact hcc, (55, #[.pointer (some ⟨b7, 0, none⟩)]), by rw [cell_of u10]; rfl, (hF53.put y ⟨_, u7⟩).use ?_⟩
          rintro _ w61 ⟨rfl, hF61, hC61⟩
          refine ⟨(), rfl, rfl, m - 1, by omega, q + 1, hq', by omega, by rw [wrap_of (by omega) (by omega)]; rfl, hC53.trans hC61, hF61.iff fun k => ?_⟩
          rw [take_succ_get hy, List.mem_append, List.mem_singleton]
          simp only [or_assoc]
        · have hq' : q = rw'.2.length := by omega
          subst hq'
          rw [List.take_length] at hF53
          have hA : Ch (fun j => j = b5) w12' w53 := (((e30.mono fun _ _ h => h.elim).trans hC43).trans hC53)
          have hb5n : ∀ j m s q t, j = b5 → w12'.heap[j]? ≠ some (.mapIter m s q t) := fun j m s q t e => by
            subst e
            obtain ⟨f, ⟨es, ck, hh, _⟩, _⟩ := hFn12
            rw [hh]; simp
          refine ⟨⟨hA.old _ (by omega) (by omega), hA.old _ (by omega) (by omega)⟩, ⟨by simp; omega, ⟨⟨_, hA.at hIB12.box.choose_spec (by omega)⟩, hIB12.rd.ch0 hA ?_⟩, ?_, ⟨u1, u3, u7, u10⟩, X53⟩, hItW.trans (Its.ch hA fun j e m s q t => hb5n j m s q t e)⟩
          · intro h0 j hj e
            have := rd_lt hH.rd (by omega) h0 j hj
            omega
          · rw [hj0]
            refine hF53.iff fun k => ?_
            rw [FsP_add hE k, or_assoc, ← hRow.mem]
  · rintro xs W hxs ⟨hpl, hIB, hFn, ⟨q1, q3, q7, q10⟩, hX⟩ hD
    rw [hxs, hvl, Nat.sub_self] at hFn
    refine ⟨some b5, by rw [cell_of q7]; rfl, hFn.keys (n := hs.length) (fun k hk => ?_) hlen fun t' ys w' h1 h2 h3 h4 h5 => ⟨t', rfl, marks_one (h4.at hD) fun w'' hu => ?_⟩⟩
    · obtain ⟨m, k', rfl, _, hE, h⟩ := hk
      have := hE.1
      rcases h with rfl | h
      · omega
      · have := Dp_lt h; omega
    · refine ⟨t', ys, rfl, ⟨h1, fun k => (h2 k).trans (FsP_zero k)⟩, h3.ch hu.ch fun j hj e => ?_, (hX.trans h4).chN hu.ch fun j e => by omega, fun j hj => ?_⟩
      · have := h5 j hj; have := heap_lt hD; omega
      · have := h5 j hj; have := hX.size; omega
end Go.Proofs.Ytmmhbjbaallkfaa.Gx

/- Written by mkf.py: what is to be shown of functions, as Gx reckons it from their code. -/
namespace Go.Proofs.Ytmmhbjbaallkfaa.Gx
open Go
set_option linter.unusedVariables false
set_option maxRecDepth 100000
def F41 (t0 : Sl) (w : World) (R : Value → World → Prop) : Prop :=
 IfB t0.1.isNone (R (Value.slice none (0 : Nat) (0 : Nat)) w)
 ((0 : Nat) * (1 : Nat) ≤ (16777216 : Nat) ∧
 AllocP w (Obj.cells #[] (3 : Nat)) fun (b1 : Nat) (w2 : World) =>
 ∃ (l3 : List Value),
 ReadC w2 t0.1 (t0.2 * (1 : Nat)) l3 ∧
 AppendP tt3 (3 : Nat) w2
 (some ({ block := b1, off := (0 : Nat) } : Addr)) (0 : Nat) (0 : Nat) t0.2 l3 fun (s4 : Sl) (w5 : World) => R (Value.slice s4.1 s4.2 s4.3) w5)
theorem F41_ok (t0 : Sl) (w : World) (R : Value → World → Prop) (h : F41 t0 w R) : CW Try.prog 41 #[Value.slice t0.1 t0.2 t0.3] w R :=
  call_of tbOk mixed en41 Try.func41 rfl (.nil) (by kernel_rfl) (Nat.le_of_ble_eq_true (by kernel_rfl)) (Eq.mp (α := F41 t0 w R) (by kernel_rfl) h)
end Go.Proofs.Ytmmhbjbaallkfaa.Gx

/- slices.Clone of ints. -/
namespace Go.Proofs.Ytmmhbjbaallkfaa.Gx
open Go
set_option linter.unusedSimpArgs false
set_option linter.unusedVariables false
theorem c41 {w : World} {t : Sl} {xs : List Int} (h : Rd w t 1 (xs.map iv)) (hl : xs.length ≤ 1000000) : CW Try.prog 41 #[slV t] w fun v w' => ∃ t', v = slV t' ∧ OwS w' t' 1 (xs.map iv) ∧ Ext w w' ∧ ∀ i ∈ blk t', w.heap.size ≤ i := by
  have hn := rdI h
  refine F41_ok t w _ ?_
  have e : ∀ R, F41 t w R = CloneF tt3 3 1 t w R := fun _ => rfl
  rw [e]
  refine CloneF_of h rfl rfl (fun v hv => by obtain ⟨x, _, rfl⟩ := List.mem_map.1 hv; rfl) ⟨by omega, ?_⟩ (fun s' w' h1 h2 h3 h4 => ⟨s', rfl, h1, h3, h4⟩) fun hp => ?_
  · show 2 * t.n * 8 ≤ _
    omega
  · have h2 := h.2
    rw [hp] at h2
    have : xs.map iv = [] := h2
    rw [hn, List.map_eq_nil_iff.1 this]; rfl
end Go.Proofs.Ytmmhbjbaallkfaa.Gx

/- Written by mkf.py: what is to be shown of functions, as Gx reckons it from their code. -/
namespace Go.Proofs.Ytmmhbjbaallkfaa.Gx
open Go
set_option linter.unusedVariables false
set_option maxRecDepth 100000
def F59j1 (t0 : Sl) (t1 : Int) (R : Value → World → Prop) (y1 : Nat → Int → World → Prop) (b3 : Nat) (n4 : Int) (w5 : World) : Prop :=
 IfB (decide (n4 < (t0.n : Int)))
 (∃ (b8 : Nat),
 ∃ (b9 : Nat),
 t0.1 = some ({ block := b8, off := b9 } : Addr) ∧
 ((0 : Int) ≤ n4 ∧ n4 < (t0.2 : Int)) ∧
 ∃ (n10 : Int),
 w5.cell? ({ block := b8, off := b9 + n4.toNat } : Addr) = some (Value.int IntKind.i64 n10) ∧
 IfB (t1 == n10) (R (Value.int IntKind.i64 n4) w5) (([] : List Nat) = [] ∧ ∃ (b11 : Nat), b11 < b3 ∧ y1 b11 (IntKind.i64.wrap (n4 + (1 : Int))) w5))
 (R (Value.int IntKind.i64 (-1 : Int)) w5)
def F59 (t0 : Sl) (t1 : Int) (w : World) (R : Value → World → Prop) : Prop :=
 ∃ (y1 : Nat → Int → World → Prop),
 (∃ (b2 : Nat), y1 b2 (0 : Int) w) ∧
 ∀ (b3 : Nat) (n4 : Int) (w5 : World) (y6 : Nat → Value),
 y1 b3 n4 w5 →
 (F59j1 t0 t1 R y1 b3 n4 w5)
theorem F59_ok (t0 : Sl) (t1 : Int) (w : World) (R : Value → World → Prop) (h : F59 t0 t1 w R) : CW Try.prog 59 #[Value.slice t0.1 t0.2 t0.3, Value.int IntKind.i64 t1] w R :=
  call_of tbOk mixed en59 Try.func59 rfl (.node (.nil) (.node (.node (.nil) (.loop [(8, .one (.int .i64))] [9, 10, 5, 11, 12, 13, 14, 15, 16, 17, 4, 18, 8] (.nil))) (.nil))) (by kernel_rfl) (Nat.le_of_ble_eq_true (by kernel_rfl)) (Eq.mp (α := F59 t0 t1 w R) (by kernel_rfl) h)
def F39 (t0 : Sl) (t1 : Int) (w : World) (R : Value → World → Prop) : Prop :=
 CX Try.prog (59 : Nat) #[Value.slice t0.1 t0.2 t0.3, Value.int IntKind.i64 t1] w fun (v1 : Value) (w2 : World) =>
 ∃ (n3 : Int), v1 = Value.int IntKind.i64 n3 ∧ R (Value.bool (decide ((0 : Int) ≤ n3))) w2
theorem F39_ok (t0 : Sl) (t1 : Int) (w : World) (R : Value → World → Prop) (h : F39 t0 t1 w R) : CW Try.prog 39 #[Value.slice t0.1 t0.2 t0.3, Value.int IntKind.i64 t1] w R :=
  call_of tbOk mixed en39 Try.func39 rfl (.nil) (by kernel_rfl) (Nat.le_of_ble_eq_true (by kernel_rfl)) (Eq.mp (α := F39 t0 t1 w R) (by kernel_rfl) h)
end Go.Proofs.Ytmmhbjbaallkfaa.Gx

/- slices.Index, Contains of ints. -/
namespace Go.Proofs.Ytmmhbjbaallkfaa.Gx
open Go
set_option linter.unusedSimpArgs false
set_option linter.unusedVariables false
theorem c59 {w : World} {t : Sl} {xs : List Int} (h : Rd w t 1 (xs.map iv)) (hl : xs.length ≤ 1000000) (x : Int) : CW Try.prog 59 #[slV t, iv x] w fun v w' => v = iv (idxV (xs.findIdx? fun y => x == y)) ∧ w = w' := by
  have hn := rdI h
  refine F59_ok t x w _ ⟨fun k n W => ∃ i : Nat, n = (i : Int) ∧ k + i = xs.length ∧ W = w ∧ ∀ j < i, ∀ y, xs[j]? = some y → (x == y) = false, ⟨xs.length, 0, rfl, rfl, rfl, fun j hj => absurd hj (Nat.not_lt_zero _)⟩, ?_⟩
  rintro k _ W g ⟨i, rfl, hk, rfl, hlow⟩
  unfold F59j1
  refine IfB.dec (fun hlt => ?_) fun hge => ?_
  · have hi : i < xs.length := by omega
    have hx : xs[i]? = some xs[i] := List.getElem?_eq_getElem hi
    obtain ⟨a, o, ha, hc⟩ := rdI_get h hx
    refine ⟨a, o, ha, ⟨by omega, hlt⟩, xs[i], by rw [Int.toNat_natCast]; exact hc, IfB.intro (fun he => ⟨?_, rfl⟩) fun he => ⟨rfl, k - 1, by omega, i + 1, wp1 (by omega), by omega, rfl, fun j hj y hy => ?_⟩⟩
    · have : xs.findIdx? (fun y => x == y) = some i := by
        rw [List.findIdx?_eq_some_iff_getElem]
        exact ⟨hi, he, fun j hj => by have := hlow j hj _ (List.getElem?_eq_getElem (by omega)); rw [this]; simp⟩
      rw [this]; rfl
    · by_cases hji : j < i
      · exact hlow j hji y hy
      · have : j = i := by omega
        subst this; rw [hx] at hy; cases hy; exact he
  · have : xs.findIdx? (fun y => x == y) = none := by
      rw [List.findIdx?_eq_none_iff]
      intro y hy
      obtain ⟨j, hj, rfl⟩ := List.getElem_of_mem hy
      exact hlow j (by omega) _ (List.getElem?_eq_getElem hj)
    rw [this]; exact ⟨rfl, rfl⟩
theorem idx_contains (xs : List Int) (x : Int) : decide ((0 : Int) ≤ idxV (xs.findIdx? fun y => x == y)) = decide (x ∈ xs) := by
  refine decide_eq_decide.2 ?_
  cases h : xs.findIdx? (fun y => x == y) with
  | none =>
    rw [List.findIdx?_eq_none_iff] at h
    refine ⟨fun h0 => absurd h0 (by simp [idxV]), fun hm => ?_⟩
    have := h x hm
    simp at this
  | some i =>
    obtain ⟨hi, he, _⟩ := List.findIdx?_eq_some_iff_getElem.1 h
    refine ⟨fun _ => ?_, fun _ => by simp [idxV]⟩
    have : x = xs[i] := by simpa using he
    rw [this]; exact List.getElem_mem hi
theorem c39 {w : World} {t : Sl} {xs : List Int} (h : Rd w t 1 (xs.map iv)) (hl : xs.length ≤ 1000000) (x : Int) : CW Try.prog 39 #[slV t, iv x] w fun v w' => v = .bool (decide (x ∈ xs)) ∧ w = w' := by
  refine F39_ok t x w _ ((c59 h hl x).use ?_)
  rintro _ _ ⟨rfl, rfl⟩
  exact ⟨_, rfl, by rw [idx_contains], rfl⟩
end Go.Proofs.Ytmmhbjbaallkfaa.Gx

/- Package deps: Of, Depends, Apart, Add. -/
namespace Go.Proofs.Ytmmhbjbaallkfaa.Gx
open Go
set_option linter.unusedSimpArgs false
set_option linter.unusedVariables false
theorem EdP_take {hs : List Nd} {m i k : Nat} (hi : i < m) : EdP (hs.take m) i k ↔ EdP hs i k := by
  unfold EdP
  constructor
  · rintro ⟨h, a, b, ha, hb, hd⟩
    rw [List.getElem?_take, if_pos hi] at ha
    rw [List.getElem?_take, if_pos (by omega)] at hb
    exact ⟨h, a, b, ha, hb, hd⟩
  · rintro ⟨h, a, b, ha, hb, hd⟩
    exact ⟨h, a, b, by rw [List.getElem?_take, if_pos hi]; exact ha, by rw [List.getElem?_take, if_pos (by omega)]; exact hb, hd⟩
theorem Dp_take {hs : List Nd} {m i k : Nat} (hi : i < m) : Dp (hs.take m) i k ↔ Dp hs i k := by
  constructor
  · intro h
    induction h with
    | one h => exact .one ((EdP_take hi).1 h)
    | more h1 h2 ih => exact .more ih ((EdP_take (by have := Dp_lt h1; omega)).1 h2)
  · intro h
    induction h with
    | one h => exact .one ((EdP_take hi).2 h)
    | more h1 h2 ih => exact .more ih ((EdP_take (by have := Dp_lt h1; omega)).2 h2)
theorem RowOf_take {hs : List Nd} {m i : Nat} {xs : List Int} (hi : i < m) : RowOf (hs.take m) i xs ↔ RowOf hs i xs :=
  ⟨fun h => ⟨h.srt, fun k => (h.mem k).trans (exists_congr fun k' => and_congr_right fun _ => Dp_take hi)⟩,
   fun h => ⟨h.srt, fun k => (h.mem k).trans (exists_congr fun k' => and_congr_right fun _ => (Dp_take hi).symm)⟩⟩
structure OwR (w : World) (n : Nat) (t : Sl) (rows : List RwL) : Prop where
  own : OwS w t 1 (rows.map hR)
  row : ∀ r ∈ rows, OwS w r.1 1 (r.2.map iv)
  apart : ∀ r ∈ rows, ∀ j ∈ blk r.1, j ∉ blk t
  new : ∀ j ∈ blk t, n ≤ j
  rnew : ∀ r ∈ rows, ∀ j ∈ blk r.1, n ≤ j
theorem OwR.ext {w w' : World} {n : Nat} {t : Sl} {rows : List RwL} (h : OwR w n t rows) (e : Ext w w') : OwR w' n t rows := ⟨h.own.ext e, fun r hr => (h.row r hr).ext e, h.apart, h.new, h.rnew⟩
theorem OwR.rws {w : World} {n : Nat} {t : Sl} {rows : List RwL} (h : OwR w n t rows) : Rws w t rows := ⟨h.own.rd, fun r hr => (h.row r hr).rd⟩
theorem OwR.n {w : World} {m : Nat} {t : Sl} {rows : List RwL} (h : OwR w m t rows) : t.n = rows.length := h.rws.n
theorem OwR.nil (w : World) (n : Nat) : OwR w n ⟨none, 0, 0⟩ [] := ⟨.nil _ _, by simp, by simp, by simp [blk], by simp⟩
/-- A new row more. -/
theorem OwR.add {w : World} {n : Nat} {t s : Sl} {rows : List RwL} {xs : List Int} {T : TypeId} {K : Sl → World → Prop} (h : OwR w n t rows) (hs : OwS w s 1 (xs.map iv)) (hnew : ∀ j ∈ blk s, n ≤ j) (hap : ∀ j ∈ blk s, j ∉ blk t) (hn : n ≤ w.heap.size) (hl : rows.length ≤ 999999)
    (hK : ∀ s' w', OwR w' n s' (rows ++ [(s, xs)]) → Ch (fun i => i ∈ blk t) w w' → K s' w') :
    AllocP w (.cells #[slV s] T) fun b w1 => ∃ l, ReadC w1 (some ⟨b, 0, none⟩) (1 * 1) l ∧ AppendP tt31 31 w1 t.p t.n t.c 1 l K := by
  intro b w1 a
  have e1 : Ext w w1 := a.ch _
  have htn := h.n
  refine (h.own.ext e1).lit (new := [slV s]) (T' := T) a.new rfl (by intro v hv; rw [List.mem_singleton.1 hv]; rfl) rfl rfl (by omega) (by decide) fun s' w' ho hn' hC hb => hK s' w' ?_ ((e1.mono fun _ _ h => h.elim).then hC fun _ _ h => h)
  have hz := a.size
  have up : ∀ j ∈ blk s', j ∈ blk t ∨ w.heap.size ≤ j := fun j hj => (hb j hj).imp id fun h => by omega
  refine ⟨by rw [List.map_append]; exact ho, fun r hr => ?_, fun r hr j hj hj' => ?_, fun j hj => ?_, fun r hr j hj => ?_⟩
  · rcases List.mem_append.1 hr with hr | hr
    · exact ((h.row r hr).ext e1).ch hC fun j hj => h.apart r hr j hj
    · rw [List.mem_singleton.1 hr]; exact (hs.ext e1).ch hC fun j hj => hap j hj
  · rcases List.mem_append.1 hr with hr | hr
    · rcases up j hj' with h' | h'
      · exact h.apart r hr j hj h'
      · have := (h.row r hr).lt j hj; omega
    · rw [List.mem_singleton.1 hr] at hj
      rcases up j hj' with h' | h'
      · exact hap j hj h'
      · have := hs.lt j hj; omega
  · rcases up j hj with h' | h'
    · exact h.new j h'
    · omega
  · rcases List.mem_append.1 hr with hr | hr
    · exact h.rnew r hr j hj
    · rw [List.mem_singleton.1 hr] at hj; exact hnew j hj
theorem c13 {w : World} {t : Sl} {hs : List Nd} (hH : Hst w t hs) (hl : hs.length ≤ 1000) :
    CW Try.prog 13 #[slV t] w fun v w' => ∃ t' rows, v = slV t' ∧ rows.length = hs.length ∧ (∀ i x, rows[i]? = some x → RowOf hs i x.2) ∧ OwR w' w.heap.size t' rows ∧ Ext w w' := by
  have hn := hH.n
  refine F13_ok t w _ ⟨fun m x W => ∃ (i : Nat) (so : Sl) (rows : List RwL), i ≤ hs.length ∧ m + i = hs.length ∧ x = (so, (i : Int)) ∧ rows.length = i ∧ (∀ i x, rows[i]? = some x → RowOf hs i x.2) ∧ OwR W w.heap.size so rows ∧ Ext w W,
    ⟨hs.length, 0, ⟨none, 0, 0⟩, [], Nat.zero_le _, rfl, rfl, rfl, by simp, .nil _ _, Ch.refl _ _⟩, ?_⟩
  rintro m _ W g ⟨i, so, rows, hi, hmi, rfl, hrl, hrow, hO, hE⟩
  unfold F13j1
  refine IfB.dec (fun hlt => ?_) fun hge => ?_
  · have hi' : i < hs.length := by dsimp only at hlt; omega
    have hx : hs[i]? = some hs[i] := List.getElem?_eq_getElem hi'
    have htk := take_succ_get hx
    generalize hs[i] = nd at hx htk
    have hW := hH.ext hE
    obtain ⟨a, o, hp, hc⟩ := hW.at hx
    refine ⟨a, o, hp, (⟨by omega, by omega⟩ : (0 : Int) ≤ (i : Int) ∧ (i : Int) < (t.n : Int)), nd.v, by rw [Int.toNat_natCast]; exact hc, boxNd rfl fun b11 w13 hb hs13 h13 e13 _ => ?_⟩
    have ed := extDrew w13
    have e1 : Ext W w13.drew := e13.trans ed
    have E1 : Ext w w13.drew := hE.trans e1
    refine ⟨(⟨by omega, by have := hH.cap; omega⟩ : (0 : Int) ≤ (i : Int) ∧ (i : Int) ≤ (t.c : Int)), nd.v, cellsAt_of (ed.at h13) fun q v hv => by simpa using hv, ?_⟩
    have hcut := (hW.ext e1).cut (k := i) (by omega)
    dsimp only
    rw [Int.toNat_natCast, slAddr_zero]
    refine (c37 (tl := so) (t := ⟨t.p, i, t.c⟩) (rows := rows) (n := nd) (hO.rws.ext e1) hcut ((hW.get hx).ext e1) (by rw [List.length_take]; omega) fun j x hjx => ?_).use ?_
    · rw [← htk]
      have := (List.getElem?_eq_some_iff.1 hjx).1
      exact (RowOf_take (by omega)).2 (hrow j x hjx)
    rintro _ w16 ⟨s17, xs, rfl, hxs, ho, e16, hb17⟩
    rw [← htk, List.length_take, Nat.min_eq_left hi] at hxs
    have hxs := (RowOf_take (by omega)).1 hxs
    have e2 := e1.trans e16
    have hO16 := hO.ext e2
    have z1 := E1.size
    have z2 := e16.size
    have z3 := e1.size
    refine ⟨s17, rfl, by decide, hO16.add ho (fun j hj => by have := hb17 j hj; omega) (fun j hj h => by have := hb17 j hj; have := hO.own.lt j h; omega) (by omega) (by omega) fun s' w' hO' hC' => ⟨rfl, m - 1, by omega, i + 1, s', rows ++ [(s17, xs)], hi', by omega, by rw [wrap_of (by omega) (by omega)]; rfl, by simp [hrl], fun j x hjx => ?_, hO', (E1.trans e16).chN hC' fun j hj => hO.new j hj⟩⟩
    by_cases hj : j < i
    · rw [List.getElem?_append_left (by omega)] at hjx
      exact hrow j x hjx
    · have := (List.getElem?_eq_some_iff.1 hjx).1
      simp at this
      have hji : j = i := by omega
      subst hji
      rw [List.getElem?_append_right (by omega), hrl, Nat.sub_self] at hjx
      cases hjx
      exact hxs
  · have hi' : i = hs.length := by dsimp only at hge; omega
    subst hi'
    exact ⟨so, rows, rfl, hrl, hrow, hO, hE⟩
theorem c17 {w : World} {t : Sl} {hs : List Nd} (hH : Hst w t hs) (hl : hs.length ≤ 1000) (i k : Int) :
    CW Try.prog 17 #[slV t, iv i, iv k] w fun v w' => ∃ r, v = .bool r ∧ (r = true ↔ 0 ≤ i ∧ i < (hs.length : Int) ∧ ∃ k' : Nat, k = (k' : Int) ∧ Dp hs i.toNat k') ∧ Ext w w' := by
  have hn := hH.n
  refine F17_ok t i k w _ (IfB.dec (fun h0 => IfB.dec (fun h1 => (c13 hH hl).use ?_) fun h1 => ?_) fun h0 => ?_)
  · have h1' : i < (t.n : Int) := h1
    rintro _ w2 ⟨t', rows, rfl, hrl, hrow, hO, e2⟩
    have hr : rows[i.toNat]? = some (rows[i.toNat]'(by omega)) := List.getElem?_eq_getElem (by omega)
    generalize rows[i.toNat]'_ = row at hr
    obtain ⟨⟨b, o, hp, hc⟩, hrr, hrn⟩ := hO.rws.at hr
    have hR := hrow _ _ hr
    have hRl := hR.len
    have htn := hO.n
    refine ⟨t', rfl, b, o, hp, ⟨h0, by show i < (t'.n : Int); omega⟩, row.1, hc, (c39 hrr (by omega) k).use ?_⟩
    rintro _ _ ⟨rfl, rfl⟩
    refine ⟨_, rfl, _, rfl, ?_, e2⟩
    rw [decide_eq_true_eq, hR.mem]
    exact ⟨fun h => ⟨h0, by omega, h⟩, fun h => h.2.2⟩
  · have h1' : ¬ i < (t.n : Int) := h1
    exact ⟨false, rfl, ⟨fun h => (by cases h), fun h => by omega⟩, Ch.refl _ _⟩
  · exact ⟨false, rfl, ⟨fun h => (by cases h), fun h => by omega⟩, Ch.refl _ _⟩
end Go.Proofs.Ytmmhbjbaallkfaa.Gx

/- Written by mkf.py: what is to be shown of functions, as Gx reckons it from their code. -/
namespace Go.Proofs.Ytmmhbjbaallkfaa.Gx
open Go
set_option linter.unusedVariables false
set_option maxRecDepth 100000
def F43 (t0 : Sl) (t1 : Nat × Array Value) (w : World) (R : Value → World → Prop) : Prop :=
 CX Try.prog (62 : Nat) #[Value.int IntKind.u64 (IntKind.u64.wrap (t0.2 : Int))] w fun (v1 : Value) (w2 : World) =>
 ∃ (n3 : Int),
 v1 = Value.int IntKind.i64 n3 ∧
 CX Try.prog (61 : Nat)
 #[Value.slice t0.1 t0.2 t0.3, Value.int IntKind.i64 (0 : Int), Value.int IntKind.i64 (t0.2 : Int), Value.int IntKind.i64 n3, Value.func (Fn.func t1.1) #[] t1.2] w2
 fun (v4 : Value) (w5 : World) => ∃ (y6 : Unit), v4 = Value.tuple #[] ∧ R (Value.tuple #[]) w5
theorem F43_ok (t0 : Sl) (t1 : Nat × Array Value) (w : World) (R : Value → World → Prop) (h : F43 t0 t1 w R) : CW Try.prog 43 #[Value.slice t0.1 t0.2 t0.3, Value.func (Fn.func t1.1) #[] t1.2] w R :=
  call_of tbOk mixed en43 Try.func43 rfl (.nil) (by kernel_rfl) (Nat.le_of_ble_eq_true (by kernel_rfl)) (Eq.mp (α := F43 t0 t1 w R) (by kernel_rfl) h)
def F61k2 (t0 : Sl) (x4 : Int × Int × Int × Bool × Bool) (x56 : Int × Bool) (n18 : Int) (t4 : Nat × Array Value) (w55 : World) (b3 : Nat) (y1 : Nat → Int × Int × Int × Bool × Bool → World → Prop) : Prop :=
 CX Try.prog (61 : Nat) #[Value.slice t0.1 t0.2 t0.3, Value.int IntKind.i64 x4.1, Value.int IntKind.i64 x56.1, Value.int IntKind.i64 n18, Value.func (Fn.func t4.1) #[] t4.2]
 w55 fun (v57 : Value) (w58 : World) =>
 ∃ (y59 : Unit),
 v57 = Value.tuple #[] ∧
 ([] : List Nat) = [] ∧
 ∃ (b60 : Nat),
 b60 < b3 ∧
 y1 b60 (IntKind.i64.wrap (x56.1 + (1 : Int)), x4.snd.1, n18, decide (IntKind.i64.wrap ((IntKind.i64.wrap (x4.snd.fst - x4.fst)).tdiv (8 : Int)) ≤ IntKind.i64.wrap (x56.fst - x4.fst)), x56.2) w58
def F61k1 (t0 : Sl) (x56 : Int × Bool) (x4 : Int × Int × Int × Bool × Bool) (n18 : Int) (t4 : Nat × Array Value) (w55 : World) (b3 : Nat) (y1 : Nat → Int × Int × Int × Bool × Bool → World → Prop) : Prop :=
 CX Try.prog (61 : Nat)
 #[Value.slice t0.1 t0.2 t0.3, Value.int IntKind.i64 (IntKind.i64.wrap (x56.1 + (1 : Int))), Value.int IntKind.i64 x4.snd.1, Value.int IntKind.i64 n18, Value.func (Fn.func t4.1) #[] t4.2]
 w55 fun (v61 : Value) (w62 : World) =>
 ∃ (y63 : Unit),
 v61 = Value.tuple #[] ∧
 ([] : List Nat) = [] ∧
 ∃ (b64 : Nat), b64 < b3 ∧ y1 b64 (x4.1, x56.1, n18, decide (IntKind.i64.wrap ((IntKind.i64.wrap (x4.snd.fst - x4.fst)).tdiv (8 : Int)) ≤ IntKind.i64.wrap (x4.snd.fst - x56.fst)), x56.2) w62
def F61j4 (t0 : Sl) (t4 : Nat × Array Value) (y1 : Nat → Int × Int × Int × Bool × Bool → World → Prop) (b3 : Nat) (x4 : Int × Int × Int × Bool × Bool) (n18 : Int) (x29 : Int × Int) (w38 : World) : Prop :=
 IfB (decide ((0 : Int) < x4.fst))
 (∃ (b41 : Nat),
 ∃ (b42 : Nat),
 t0.1 = some ({ block := b41, off := b42 } : Addr) ∧
 ((0 : Int) ≤ IntKind.i64.wrap (x4.1 - (1 : Int)) ∧ IntKind.i64.wrap (x4.1 - (1 : Int)) < (t0.2 : Int)) ∧
 ∃ (x43 : Int × Int),
 CellsAt w38.drew b41 (b42 + (IntKind.i64.wrap (x4.1 - (1 : Int))).toNat * (2 : Nat)) [Value.int IntKind.i64 x43.1, Value.int IntKind.i64 x43.2] ∧
 ∃ (b44 : Nat),
 ∃ (b45 : Nat),
 t0.1 = some ({ block := b44, off := b45 } : Addr) ∧
 ((0 : Int) ≤ x29.1 ∧ x29.1 < (t0.2 : Int)) ∧
 ∃ (x46 : Int × Int),
 CellsAt w38.drew b44 (b45 + x29.1.toNat * (2 : Nat)) [Value.int IntKind.i64 x46.1, Value.int IntKind.i64 x46.2] ∧
 CX Try.prog t4.1
 { toList := Value.agg #[Value.int IntKind.i64 x43.1, Value.int IntKind.i64 x43.2] :: Value.agg #[Value.int IntKind.i64 x46.1, Value.int IntKind.i64 x46.2] :: t4.snd.1 }
 w38.drew fun (v47 : Value) (w48 : World) =>
 ∃ (n49 : Int),
 v47 = Value.int IntKind.i64 n49 ∧
 IfB (!decide (n49 < (0 : Int)))
 (CX Try.prog (81 : Nat)
 #[Value.slice t0.1 t0.2 t0.3, Value.int IntKind.i64 x4.1, Value.int IntKind.i64 x4.snd.1, Value.int IntKind.i64 x29.1, Value.func (Fn.func t4.1) #[] t4.2] w48
 fun (v50 : Value) (w51 : World) => ∃ (n52 : Int), v50 = Value.int IntKind.i64 n52 ∧ ([] : List Nat) = [] ∧ ∃ (b53 : Nat), b53 < b3 ∧ y1 b53 (n52, x4.snd.1, n18, x4.snd.snd.snd.1, x4.snd.snd.snd.2) w51)
 (CX Try.prog (82 : Nat)
 #[Value.slice t0.1 t0.2 t0.3, Value.int IntKind.i64 x4.1, Value.int IntKind.i64 x4.snd.1, Value.int IntKind.i64 x29.1, Value.func (Fn.func t4.1) #[] t4.2] w48
 fun (v54 : Value) (w55 : World) =>
 ∃ (x56 : Int × Bool),
 v54 = Value.tuple #[Value.int IntKind.i64 x56.1, Value.bool x56.2] ∧
 ¬(8 : Int) = (0 : Int) ∧
 IfB (decide (IntKind.i64.wrap (x56.fst - x4.fst) < IntKind.i64.wrap (x4.snd.fst - x56.fst)))
 (F61k2 t0 x4 x56 n18 t4 w55 b3 y1)
 (F61k1 t0 x56 x4 n18 t4 w55 b3 y1)))
 (CX Try.prog (82 : Nat)
 #[Value.slice t0.1 t0.2 t0.3, Value.int IntKind.i64 x4.1, Value.int IntKind.i64 x4.snd.1, Value.int IntKind.i64 x29.1, Value.func (Fn.func t4.1) #[] t4.2] w38.drew
 fun (v65 : Value) (w66 : World) =>
 ∃ (x67 : Int × Bool),
 v65 = Value.tuple #[Value.int IntKind.i64 x67.1, Value.bool x67.2] ∧
 ¬(8 : Int) = (0 : Int) ∧
 IfB (decide (IntKind.i64.wrap (x67.fst - x4.fst) < IntKind.i64.wrap (x4.snd.fst - x67.fst)))
 (F61k2 t0 x4 x67 n18 t4 w66 b3 y1)
 (F61k1 t0 x67 x4 n18 t4 w66 b3 y1))
def F61j3 (t0 : Sl) (t4 : Nat × Array Value) (R : Value → World → Prop) (y1 : Nat → Int × Int × Int × Bool × Bool → World → Prop) (b3 : Nat) (x4 : Int × Int × Int × Bool × Bool) (n18 : Int) (x29 : Int × Int) (w30 : World) : Prop :=
 ∃ (y33 : Unit → World → Prop),
 IfB x4.snd.snd.snd.1
 (IfB x4.snd.snd.snd.2
 (IfB (x29.2 == (1 : Int))
 (CX Try.prog (80 : Nat) #[Value.slice t0.1 t0.2 t0.3, Value.int IntKind.i64 x4.1, Value.int IntKind.i64 x4.snd.1, Value.func (Fn.func t4.1) #[] t4.2] w30
 fun (v34 : Value) (w35 : World) => ∃ (t36 : Bool), v34 = Value.bool t36 ∧ IfB t36 (R (Value.tuple #[]) w35) (([] : List Nat) = [] ∧ y33 PUnit.unit w35))
 (([] : List Nat) = [] ∧ y33 PUnit.unit w30))
 (([] : List Nat) = [] ∧ y33 PUnit.unit w30))
 (([] : List Nat) = [] ∧ y33 PUnit.unit w30) ∧
 ∀ (y37 : Unit) (w38 : World) (y39 : Nat → Value),
 y33 y37 w38 →
 (F61j4 t0 t4 y1 b3 x4 n18 x29 w38)
def F61j2 (t0 : Sl) (t4 : Nat × Array Value) (R : Value → World → Prop) (y1 : Nat → Int × Int × Int × Bool × Bool → World → Prop) (b3 : Nat) (x4 : Int × Int × Int × Bool × Bool) (n18 : Int) (w19 : World) : Prop :=
 CX Try.prog (78 : Nat) #[Value.slice t0.1 t0.2 t0.3, Value.int IntKind.i64 x4.1, Value.int IntKind.i64 x4.snd.1, Value.func (Fn.func t4.1) #[] t4.2] w19
 fun (v22 : Value) (w23 : World) =>
 ∃ (x24 : Int × Int),
 v22 = Value.tuple #[Value.int IntKind.i64 x24.1, Value.int IntKind.i64 x24.2] ∧
 ∃ (y25 : Int × Int → World → Prop),
 IfB (x24.2 == (2 : Int))
 (CX Try.prog (79 : Nat) #[Value.slice t0.1 t0.2 t0.3, Value.int IntKind.i64 x4.1, Value.int IntKind.i64 x4.snd.1, Value.func (Fn.func t4.1) #[] t4.2] w23
 fun (v26 : Value) (w27 : World) =>
 ∃ (y28 : Unit), v26 = Value.tuple #[] ∧ ([] : List Nat) = [] ∧ y25 (IntKind.i64.wrap (IntKind.i64.wrap (x4.snd.1 - (1 : Int)) - IntKind.i64.wrap (x24.1 - x4.1)), (1 : Int)) w27)
 (([] : List Nat) = [] ∧ y25 (x24.1, x24.2) w23) ∧
 ∀ (x29 : Int × Int) (w30 : World) (y31 : Nat → Value),
 y25 x29 w30 →
 (F61j3 t0 t4 R y1 b3 x4 n18 x29 w30)
def F61j1 (t0 : Sl) (t4 : Nat × Array Value) (R : Value → World → Prop) (y1 : Nat → Int × Int × Int × Bool × Bool → World → Prop) (b3 : Nat) (x4 : Int × Int × Int × Bool × Bool) (w5 : World) : Prop :=
 IfB (decide (IntKind.i64.wrap (x4.snd.fst - x4.fst) ≤ (12 : Int)))
 (CX Try.prog (75 : Nat) #[Value.slice t0.1 t0.2 t0.3, Value.int IntKind.i64 x4.1, Value.int IntKind.i64 x4.snd.1, Value.func (Fn.func t4.1) #[] t4.2] w5
 fun (v8 : Value) (w9 : World) => ∃ (y10 : Unit), v8 = Value.tuple #[] ∧ R (Value.tuple #[]) w9)
 (IfB (x4.snd.snd.1 == (0 : Int))
 (CX Try.prog (76 : Nat) #[Value.slice t0.1 t0.2 t0.3, Value.int IntKind.i64 x4.1, Value.int IntKind.i64 x4.snd.1, Value.func (Fn.func t4.1) #[] t4.2] w5
 fun (v11 : Value) (w12 : World) => ∃ (y13 : Unit), v11 = Value.tuple #[] ∧ R (Value.tuple #[]) w12)
 (∃ (y14 : Int → World → Prop),
 IfB (!x4.snd.snd.snd.1)
 (CX Try.prog (77 : Nat) #[Value.slice t0.1 t0.2 t0.3, Value.int IntKind.i64 x4.1, Value.int IntKind.i64 x4.snd.1, Value.func (Fn.func t4.1) #[] t4.2] w5
 fun (v15 : Value) (w16 : World) => ∃ (y17 : Unit), v15 = Value.tuple #[] ∧ ([] : List Nat) = [] ∧ y14 (IntKind.i64.wrap (x4.snd.snd.1 - (1 : Int))) w16)
 (([] : List Nat) = [] ∧ y14 x4.snd.snd.1 w5) ∧
 ∀ (n18 : Int) (w19 : World) (y20 : Nat → Value),
 y14 n18 w19 →
 (F61j2 t0 t4 R y1 b3 x4 n18 w19)))
def F61 (t0 : Sl) (t1 : Int) (t2 : Int) (t3 : Int) (t4 : Nat × Array Value) (w : World) (R : Value → World → Prop) : Prop :=
 ∃ (y1 : Nat → Int × Int × Int × Bool × Bool → World → Prop),
 (∃ (b2 : Nat), y1 b2 (t1, t2, t3, true, true) w) ∧
 ∀ (b3 : Nat) (x4 : Int × Int × Int × Bool × Bool) (w5 : World) (y6 : Nat → Value),
 y1 b3 x4 w5 →
 (F61j1 t0 t4 R y1 b3 x4 w5)
theorem F61_ok (t0 : Sl) (t1 : Int) (t2 : Int) (t3 : Int) (t4 : Nat × Array Value) (w : World) (R : Value → World → Prop) (h : F61 t0 t1 t2 t3 t4 w R) : CW Try.prog 61 #[Value.slice t0.1 t0.2 t0.3, Value.int IntKind.i64 t1, Value.int IntKind.i64 t2, Value.int IntKind.i64 t3, Value.func (Fn.func t4.1) #[] t4.2] w R :=
  call_of tbOk mixed en61 Try.func61 rfl (.node (.nil) (.node (.nil) (.loop [(1, .one (.int .i64)), (2, .one (.int .i64)), (3, .one (.int .i64)), (10, .one (.bool)), (11, .one (.bool))] [21, 22, 23, 12, 24, 25, 26, 27, 28, 29, 30, 31, 32, 33, 34, 35, 36, 37, 38, 39, 40, 41, 42, 43, 44, 45, 46, 3, 48, 49, 50, 51, 52, 47, 53, 54, 13, 14, 55, 56, 57, 58, 59, 60, 61, 62, 63, 64, 65, 66, 67, 68, 69, 70, 71, 72, 73, 74, 75, 76, 77, 78, 79, 80, 81, 82, 83, 84, 85, 86, 87, 88, 89, 90, 91, 92, 93, 94, 95, 96, 97, 98, 99, 100, 101, 102, 103, 15, 104, 1, 106, 107, 108, 109, 110, 111, 105, 112, 113, 16, 17, 114, 11, 115, 116, 117, 118, 119, 120, 18, 19, 121, 122, 20, 123, 124, 125, 126, 127, 128, 10, 129, 130, 131, 132, 133, 134, 135, 136, 137, 138, 139, 140, 141, 142, 143, 144, 145, 146, 147, 2] (.node (.nil) (.node (.nil) (.node (.nil) (.join [(3, .one (.int .i64))] [38, 39, 40, 41, 42, 43, 44, 45, 46, 3] (.nil) (.node (.nil) (.join [(13, .one (.int .i64)), (14, .one (.int .i64))] [55, 56, 57, 58, 59, 60, 61, 62, 63, 64, 65, 66, 67, 13, 14] (.nil) (.join [] [68, 69, 70, 71, 72, 73, 74, 75, 76, 77, 78, 79, 80] (.nil) (.node (.node (.draw (.st 0 (.st 1 (.st 2 (.st 3 (.st 4 (.st 5 (.st 6 (.st 7 (.st 8 (.st 9 (.st 10 (.st 11 (.st 12 (.ac 13 [] (.st 14 (.st 15 (.st 16 (.fin)))) (.non)))))))))))))))) (.nil)) (.nil)))))))))))) (by kernel_rfl) (Nat.le_of_ble_eq_true (by kernel_rfl)) (Eq.mp (α := F61 t0 t1 t2 t3 t4 w R) (by kernel_rfl) h)
def F75j2 (t0 : Sl) (t1 : Int) (t3 : Nat × Array Value) (y1 : Nat → Int → World → Prop) (b3 : Nat) (n4 : Int) (y8 : Nat → Int → World → Prop) (b10 : Nat) (n11 : Int) (w12 : World) : Prop :=
 IfB (decide (t1 < n11))
 (∃ (b15 : Nat),
 ∃ (b16 : Nat),
 t0.1 = some ({ block := b15, off := b16 } : Addr) ∧
 ((0 : Int) ≤ n11 ∧ n11 < (t0.2 : Int)) ∧
 ∃ (x17 : Int × Int),
 CellsAt w12.drew b15 (b16 + n11.toNat * (2 : Nat)) [Value.int IntKind.i64 x17.1, Value.int IntKind.i64 x17.2] ∧
 ∃ (b18 : Nat),
 ∃ (b19 : Nat),
 t0.1 = some ({ block := b18, off := b19 } : Addr) ∧
 ((0 : Int) ≤ IntKind.i64.wrap (n11 - (1 : Int)) ∧ IntKind.i64.wrap (n11 - (1 : Int)) < (t0.2 : Int)) ∧
 ∃ (x20 : Int × Int),
 CellsAt w12.drew b18 (b19 + (IntKind.i64.wrap (n11 - (1 : Int))).toNat * (2 : Nat)) [Value.int IntKind.i64 x20.1, Value.int IntKind.i64 x20.2] ∧
 CX Try.prog t3.1
 { toList := Value.agg #[Value.int IntKind.i64 x17.1, Value.int IntKind.i64 x17.2] :: Value.agg #[Value.int IntKind.i64 x20.1, Value.int IntKind.i64 x20.2] :: t3.snd.1 }
 w12.drew fun (v21 : Value) (w22 : World) =>
 ∃ (n23 : Int),
 v21 = Value.int IntKind.i64 n23 ∧
 IfB (decide (n23 < (0 : Int)))
 (∃ (b24 : Nat),
 ∃ (b25 : Nat),
 t0.1 = some ({ block := b24, off := b25 } : Addr) ∧
 ((0 : Int) ≤ IntKind.i64.wrap (n11 - (1 : Int)) ∧ IntKind.i64.wrap (n11 - (1 : Int)) < (t0.2 : Int)) ∧
 ∃ (x26 : Int × Int),
 CellsAt w22.drew b24 (b25 + (IntKind.i64.wrap (n11 - (1 : Int))).toNat * (2 : Nat)) [Value.int IntKind.i64 x26.1, Value.int IntKind.i64 x26.2] ∧
 ∃ (b27 : Nat),
 ∃ (b28 : Nat),
 t0.1 = some ({ block := b27, off := b28 } : Addr) ∧
 ((0 : Int) ≤ n11 ∧ n11 < (t0.2 : Int)) ∧
 ∃ (x29 : Int × Int),
 CellsAt w22.drew b27 (b28 + n11.toNat * (2 : Nat)) [Value.int IntKind.i64 x29.1, Value.int IntKind.i64 x29.2] ∧
 ∃ (b30 : Nat),
 ∃ (b31 : Nat),
 t0.1 = some ({ block := b30, off := b31 } : Addr) ∧
 ((0 : Int) ≤ n11 ∧ n11 < (t0.2 : Int)) ∧
 #[Value.int IntKind.i64 x26.1, Value.int IntKind.i64 x26.2].size = (2 : Nat) ∧
 StoreP w22.drew b30 (b31 + n11.toNat * (2 : Nat)) [Value.int IntKind.i64 x26.1, Value.int IntKind.i64 x26.2] fun (w32 : World) =>
 ∃ (b33 : Nat),
 ∃ (b34 : Nat),
 t0.1 = some ({ block := b33, off := b34 } : Addr) ∧
 ((0 : Int) ≤ IntKind.i64.wrap (n11 - (1 : Int)) ∧ IntKind.i64.wrap (n11 - (1 : Int)) < (t0.2 : Int)) ∧
 #[Value.int IntKind.i64 x29.1, Value.int IntKind.i64 x29.2].size = (2 : Nat) ∧
 StoreP w32 b33 (b34 + (IntKind.i64.wrap (n11 - (1 : Int))).toNat * (2 : Nat)) [Value.int IntKind.i64 x29.1, Value.int IntKind.i64 x29.2] fun (w35 : World) =>
 ([] : List Nat) = [] ∧ ∃ (b36 : Nat), b36 < b10 ∧ y8 b36 (IntKind.i64.wrap (n11 - (1 : Int))) w35)
 (([] : List Nat) = [] ∧ ∃ (b37 : Nat), b37 < b3 ∧ y1 b37 (IntKind.i64.wrap (n4 + (1 : Int))) w22))
 (([] : List Nat) = [] ∧ ∃ (b38 : Nat), b38 < b3 ∧ y1 b38 (IntKind.i64.wrap (n4 + (1 : Int))) w12.drew)
def F75 (t0 : Sl) (t1 : Int) (t2 : Int) (t3 : Nat × Array Value) (w : World) (R : Value → World → Prop) : Prop :=
 ∃ (y1 : Nat → Int → World → Prop),
 (∃ (b2 : Nat), y1 b2 (IntKind.i64.wrap (t1 + (1 : Int))) w) ∧
 ∀ (b3 : Nat) (n4 : Int) (w5 : World) (y6 : Nat → Value),
 y1 b3 n4 w5 →
 IfB (decide (n4 < t2))
 (∃ (y8 : Nat → Int → World → Prop),
 (∃ (b9 : Nat), y8 b9 n4 w5) ∧
 ∀ (b10 : Nat) (n11 : Int) (w12 : World) (y13 : Nat → Value),
 y8 b10 n11 w12 →
 (F75j2 t0 t1 t3 y1 b3 n4 y8 b10 n11 w12))
 (R (Value.tuple #[]) w5)
theorem F75_ok (t0 : Sl) (t1 : Int) (t2 : Int) (t3 : Nat × Array Value) (w : World) (R : Value → World → Prop) (h : F75 t0 t1 t2 t3 w R) : CW Try.prog 75 #[Value.slice t0.1 t0.2 t0.3, Value.int IntKind.i64 t1, Value.int IntKind.i64 t2, Value.func (Fn.func t3.1) #[] t3.2] w R :=
  call_of tbOk mixed en75 Try.func75 rfl (.node (.nil) (.loop [(8, .one (.int .i64))] [12, 13, 14, 17, 9, 18, 19, 20, 21, 22, 23, 24, 25, 26, 27, 28, 29, 30, 31, 32, 33, 34, 37, 38, 39, 40, 41, 42, 43, 44, 45, 46, 47, 48, 49, 50, 51, 52, 35, 36, 15, 16, 8] (.node (.nil) (.node (.node (.nil) (.loop [(9, .one (.int .i64))] [18, 19, 20, 21, 22, 23, 24, 25, 26, 27, 28, 29, 30, 31, 32, 33, 34, 37, 38, 39, 40, 41, 42, 43, 44, 45, 46, 47, 48, 49, 50, 51, 52, 35, 36, 9] (.node (.node (.draw (.st 0 (.st 1 (.st 2 (.st 3 (.st 4 (.st 5 (.st 6 (.st 7 (.st 8 (.st 9 (.st 10 (.st 11 (.st 12 (.st 13 (.ac 14 [] (.st 15 (.st 16 (.fin))) (.non))))))))))))))))) (.nil)) (.node (.draw (.st 0 (.st 1 (.st 2 (.st 3 (.st 4 (.st 5 (.st 6 (.st 7 (.st 8 (.st 9 (.st 10 (.st 11 (.st 12 (.st 13 (.st 14 (.ac 15 [4, 3, 2] (.st 16 (.ac 17 [] (.fin) (.non))) (.non)))))))))))))))))) (.nil))))) (.nil))))) (by kernel_rfl) (Nat.le_of_ble_eq_true (by kernel_rfl)) (Eq.mp (α := F75 t0 t1 t2 t3 w R) (by kernel_rfl) h)
def F76j2 (t0 : Sl) (t1 : Int) (t3 : Nat × Array Value) (R : Value → World → Prop) (y12 : Nat → Int → World → Prop) (b14 : Nat) (n15 : Int) (w16 : World) : Prop :=
 IfB (decide ((0 : Int) ≤ n15))
 (∃ (b19 : Nat),
 ∃ (b20 : Nat),
 t0.1 = some ({ block := b19, off := b20 } : Addr) ∧
 ((0 : Int) ≤ IntKind.i64.wrap (t1 + n15) ∧ IntKind.i64.wrap (t1 + n15) < (t0.2 : Int)) ∧
 ∃ (x21 : Int × Int),
 CellsAt w16.drew b19 (b20 + (IntKind.i64.wrap (t1 + n15)).toNat * (2 : Nat)) [Value.int IntKind.i64 x21.1, Value.int IntKind.i64 x21.2] ∧
 ∃ (b22 : Nat),
 ∃ (b23 : Nat),
 t0.1 = some ({ block := b22, off := b23 } : Addr) ∧
 ((0 : Int) ≤ t1 ∧ t1 < (t0.2 : Int)) ∧
 ∃ (x24 : Int × Int),
 CellsAt w16.drew b22 (b23 + t1.toNat * (2 : Nat)) [Value.int IntKind.i64 x24.1, Value.int IntKind.i64 x24.2] ∧
 ∃ (b25 : Nat),
 ∃ (b26 : Nat),
 t0.1 = some ({ block := b25, off := b26 } : Addr) ∧
 ((0 : Int) ≤ t1 ∧ t1 < (t0.2 : Int)) ∧
 #[Value.int IntKind.i64 x21.1, Value.int IntKind.i64 x21.2].size = (2 : Nat) ∧
 StoreP w16.drew b25 (b26 + t1.toNat * (2 : Nat)) [Value.int IntKind.i64 x21.1, Value.int IntKind.i64 x21.2] fun (w27 : World) =>
 ∃ (b28 : Nat),
 ∃ (b29 : Nat),
 t0.1 = some ({ block := b28, off := b29 } : Addr) ∧
 ((0 : Int) ≤ IntKind.i64.wrap (t1 + n15) ∧ IntKind.i64.wrap (t1 + n15) < (t0.2 : Int)) ∧
 #[Value.int IntKind.i64 x24.1, Value.int IntKind.i64 x24.2].size = (2 : Nat) ∧
 StoreP w27 b28 (b29 + (IntKind.i64.wrap (t1 + n15)).toNat * (2 : Nat)) [Value.int IntKind.i64 x24.1, Value.int IntKind.i64 x24.2] fun (w30 : World) =>
 CX Try.prog (103 : Nat)
 #[Value.slice t0.1 t0.2 t0.3, Value.int IntKind.i64 (0 : Int), Value.int IntKind.i64 n15, Value.int IntKind.i64 t1, Value.func (Fn.func t3.1) #[] t3.2] w30
 fun (v31 : Value) (w32 : World) => ∃ (y33 : Unit), v31 = Value.tuple #[] ∧ ([] : List Nat) = [] ∧ ∃ (b34 : Nat), b34 < b14 ∧ y12 b34 (IntKind.i64.wrap (n15 - (1 : Int))) w32)
 (R (Value.tuple #[]) w16)
def F76j1 (t0 : Sl) (t1 : Int) (t2 : Int) (t3 : Nat × Array Value) (R : Value → World → Prop) (y1 : Nat → Int → World → Prop) (b3 : Nat) (n4 : Int) (w5 : World) : Prop :=
 IfB (decide ((0 : Int) ≤ n4))
 (CX Try.prog (103 : Nat)
 #[Value.slice t0.1 t0.2 t0.3, Value.int IntKind.i64 n4, Value.int IntKind.i64 (IntKind.i64.wrap (t2 - t1)), Value.int IntKind.i64 t1, Value.func (Fn.func t3.1) #[] t3.2] w5
 fun (v8 : Value) (w9 : World) => ∃ (y10 : Unit), v8 = Value.tuple #[] ∧ ([] : List Nat) = [] ∧ ∃ (b11 : Nat), b11 < b3 ∧ y1 b11 (IntKind.i64.wrap (n4 - (1 : Int))) w9)
 (∃ (y12 : Nat → Int → World → Prop),
 (∃ (b13 : Nat), y12 b13 (IntKind.i64.wrap (IntKind.i64.wrap (t2 - t1) - (1 : Int))) w5) ∧
 ∀ (b14 : Nat) (n15 : Int) (w16 : World) (y17 : Nat → Value),
 y12 b14 n15 w16 →
 (F76j2 t0 t1 t3 R y12 b14 n15 w16))
def F76 (t0 : Sl) (t1 : Int) (t2 : Int) (t3 : Nat × Array Value) (w : World) (R : Value → World → Prop) : Prop :=
 ¬(2 : Int) = (0 : Int) ∧
 ∃ (y1 : Nat → Int → World → Prop),
 (∃ (b2 : Nat), y1 b2 (IntKind.i64.wrap ((IntKind.i64.wrap (IntKind.i64.wrap (t2 - t1) - (1 : Int))).tdiv (2 : Int))) w) ∧
 ∀ (b3 : Nat) (n4 : Int) (w5 : World) (y6 : Nat → Value),
 y1 b3 n4 w5 →
 (F76j1 t0 t1 t2 t3 R y1 b3 n4 w5)
theorem F76_ok (t0 : Sl) (t1 : Int) (t2 : Int) (t3 : Nat × Array Value) (w : World) (R : Value → World → Prop) (h : F76 t0 t1 t2 t3 w R) : CW Try.prog 76 #[Value.slice t0.1 t0.2 t0.3, Value.int IntKind.i64 t1, Value.int IntKind.i64 t2, Value.func (Fn.func t3.1) #[] t3.2] w R :=
  call_of tbOk mixed en76 Try.func76 rfl (.node (.nil) (.node (.nil) (.node (.nil) (.node (.node (.nil) (.loop [(11, .one (.int .i64))] [20, 21, 24, 25, 26, 27, 28, 29, 22, 23, 11] (.nil))) (.node (.nil) (.loop [(12, .one (.int .i64))] [32, 33, 36, 37, 38, 39, 40, 41, 42, 43, 44, 45, 46, 47, 48, 49, 50, 51, 52, 53, 54, 55, 56, 57, 58, 59, 34, 35, 12] (.node (.nil) (.node (.node (.draw (.st 0 (.st 1 (.st 2 (.st 3 (.st 4 (.st 5 (.st 6 (.st 7 (.st 8 (.st 9 (.st 10 (.st 11 (.st 12 (.st 13 (.st 14 (.st 15 (.st 16 (.ac 17 [5, 4, 3, 2] (.st 18 (.ac 19 [] (.fin) (.non))) (.non)))))))))))))))))))) (.nil)) (.nil))))))))) (by kernel_rfl) (Nat.le_of_ble_eq_true (by kernel_rfl)) (Eq.mp (α := F76 t0 t1 t2 t3 w R) (by kernel_rfl) h)
def F77j2 (t0 : Sl) (t1 : Int) (y7 : Nat → Int → World → Prop) (b9 : Nat) (n10 : Int) (n18 : Int) (w19 : World) : Prop :=
 ∃ (b22 : Nat),
 ∃ (b23 : Nat),
 t0.1 = some ({ block := b22, off := b23 } : Addr) ∧
 ((0 : Int) ≤ IntKind.i64.wrap (t1 + n18) ∧ IntKind.i64.wrap (t1 + n18) < (t0.2 : Int)) ∧
 ∃ (x24 : Int × Int),
 CellsAt w19.drew b22 (b23 + (IntKind.i64.wrap (t1 + n18)).toNat * (2 : Nat)) [Value.int IntKind.i64 x24.1, Value.int IntKind.i64 x24.2] ∧
 ∃ (b25 : Nat),
 ∃ (b26 : Nat),
 t0.1 = some ({ block := b25, off := b26 } : Addr) ∧
 ((0 : Int) ≤ n10 ∧ n10 < (t0.2 : Int)) ∧
 ∃ (x27 : Int × Int),
 CellsAt w19.drew b25 (b26 + n10.toNat * (2 : Nat)) [Value.int IntKind.i64 x27.1, Value.int IntKind.i64 x27.2] ∧
 ∃ (b28 : Nat),
 ∃ (b29 : Nat),
 t0.1 = some ({ block := b28, off := b29 } : Addr) ∧
 ((0 : Int) ≤ n10 ∧ n10 < (t0.2 : Int)) ∧
 #[Value.int IntKind.i64 x24.1, Value.int IntKind.i64 x24.2].size = (2 : Nat) ∧
 StoreP w19.drew b28 (b29 + n10.toNat * (2 : Nat)) [Value.int IntKind.i64 x24.1, Value.int IntKind.i64 x24.2] fun (w30 : World) =>
 ∃ (b31 : Nat),
 ∃ (b32 : Nat),
 t0.1 = some ({ block := b31, off := b32 } : Addr) ∧
 ((0 : Int) ≤ IntKind.i64.wrap (t1 + n18) ∧ IntKind.i64.wrap (t1 + n18) < (t0.2 : Int)) ∧
 #[Value.int IntKind.i64 x27.1, Value.int IntKind.i64 x27.2].size = (2 : Nat) ∧
 StoreP w30 b31 (b32 + (IntKind.i64.wrap (t1 + n18)).toNat * (2 : Nat)) [Value.int IntKind.i64 x27.1, Value.int IntKind.i64 x27.2] fun (w33 : World) =>
 ([] : List Nat) = [] ∧ ∃ (b34 : Nat), b34 < b9 ∧ y7 b34 (IntKind.i64.wrap (n10 + (1 : Int))) w33
def F77j1 (t0 : Sl) (t1 : Int) (t2 : Int) (R : Value → World → Prop) (b1 : Nat) (n6 : Int) (y7 : Nat → Int → World → Prop) (b9 : Nat) (n10 : Int) (w11 : World) : Prop :=
 ¬(4 : Int) = (0 : Int) ∧
 IfB (decide (n10 ≤ IntKind.i64.wrap (IntKind.i64.wrap (t1 + IntKind.i64.wrap (IntKind.i64.wrap ((IntKind.i64.wrap (t2 - t1)).tdiv (4 : Int)) * (2 : Int))) + (1 : Int))))
 (CX Try.prog (105 : Nat) #[Value.pointer (some ({ block := b1, off := (0 : Nat) } : Addr))] w11 fun (v14 : Value) (w15 : World) =>
 ∃ (n16 : Int),
 v14 = Value.int IntKind.u64 n16 ∧
 ∃ (y17 : Int → World → Prop),
 IfB (decide (IntKind.i64.wrap (t2 - t1) ≤ IntKind.i64.wrap (bitsI BinOp.and IntKind.u64 n16 (IntKind.u64.wrap (n6 - (1 : Int))))))
 (([] : List Nat) = [] ∧ y17 (IntKind.i64.wrap (IntKind.i64.wrap (bitsI BinOp.and IntKind.u64 n16 (IntKind.u64.wrap (n6 - (1 : Int)))) - IntKind.i64.wrap (t2 - t1))) w15)
 (([] : List Nat) = [] ∧ y17 (IntKind.i64.wrap (bitsI BinOp.and IntKind.u64 n16 (IntKind.u64.wrap (n6 - (1 : Int))))) w15) ∧
 ∀ (n18 : Int) (w19 : World) (y20 : Nat → Value),
 y17 n18 w19 →
 (F77j2 t0 t1 y7 b9 n10 n18 w19))
 (R (Value.tuple #[]) w11)
def F77 (t0 : Sl) (t1 : Int) (t2 : Int) (t3 : Nat × Array Value) (w : World) (R : Value → World → Prop) : Prop :=
 IfB (decide ((8 : Int) ≤ IntKind.i64.wrap (t2 - t1)))
 (AllocP w (Obj.cells #[Value.int IntKind.u64 (0 : Int)] (121 : Nat)) fun (b1 : Nat) (w2 : World) =>
 #[Value.int IntKind.u64 (IntKind.u64.wrap (IntKind.i64.wrap (t2 - t1)))].size = (1 : Nat) ∧
 StoreP w2 b1 (0 : Nat) [Value.int IntKind.u64 (IntKind.u64.wrap (IntKind.i64.wrap (t2 - t1)))] fun (w3 : World) =>
 CX Try.prog (104 : Nat) #[Value.int IntKind.i64 (IntKind.i64.wrap (t2 - t1))] w3 fun (v4 : Value) (w5 : World) =>
 ∃ (n6 : Int),
 v4 = Value.int IntKind.u64 n6 ∧
 ¬(4 : Int) = (0 : Int) ∧
 ∃ (y7 : Nat → Int → World → Prop),
 (∃ (b8 : Nat), y7 b8 (IntKind.i64.wrap (IntKind.i64.wrap (t1 + IntKind.i64.wrap (IntKind.i64.wrap ((IntKind.i64.wrap (t2 - t1)).tdiv (4 : Int)) * (2 : Int))) - (1 : Int))) w5) ∧
 ∀ (b9 : Nat) (n10 : Int) (w11 : World) (y12 : Nat → Value),
 y7 b9 n10 w11 →
 (F77j1 t0 t1 t2 R b1 n6 y7 b9 n10 w11))
 (R (Value.tuple #[]) w)
theorem F77_ok (t0 : Sl) (t1 : Int) (t2 : Int) (t3 : Nat × Array Value) (w : World) (R : Value → World → Prop) (h : F77 t0 t1 t2 t3 w R) : CW Try.prog 77 #[Value.slice t0.1 t0.2 t0.3, Value.int IntKind.i64 t1, Value.int IntKind.i64 t2, Value.func (Fn.func t3.1) #[] t3.2] w R :=
  call_of tbOk mixed en77 Try.func77 rfl (.node (.nil) (.node (.nil) (.node (.node (.nil) (.node (.nil) (.node (.nil) (.loop [(11, .one (.int .i64))] [28, 29, 30, 31, 32, 33, 34, 35, 38, 39, 40, 41, 42, 12, 43, 44, 45, 46, 47, 48, 49, 50, 51, 52, 53, 54, 55, 56, 57, 58, 59, 60, 61, 62, 63, 64, 65, 66, 36, 37, 11] (.node (.nil) (.node (.node (.nil) (.join [(12, .one (.int .i64))] [43, 44, 45, 46, 47, 48, 12] (.nil) (.draw (.st 0 (.st 1 (.st 2 (.st 3 (.st 4 (.st 5 (.st 6 (.st 7 (.st 8 (.st 9 (.st 10 (.st 11 (.st 12 (.st 13 (.st 14 (.st 15 (.st 16 (.ac 17 [5, 4, 3, 2] (.st 18 (.ac 19 [] (.fin) (.non))) (.non)))))))))))))))))))))) (.nil))))))) (.nil)))) (by kernel_rfl) (Nat.le_of_ble_eq_true (by kernel_rfl)) (Eq.mp (α := F77 t0 t1 t2 t3 w R) (by kernel_rfl) h)
def F78j2 (R : Value → World → Prop) (b1 : Nat) (n21 : Int) (w22 : World) : Prop :=
 ∃ (n25 : Int),
 w22.cell? ({ block := b1, off := (0 : Nat) } : Addr) = some (Value.int IntKind.i64 n25) ∧
 IfB (n25 == (0 : Int)) (R (Value.tuple #[Value.int IntKind.i64 n21, Value.int IntKind.i64 (1 : Int)]) w22)
 (IfB (n25 == (12 : Int)) (R (Value.tuple #[Value.int IntKind.i64 n21, Value.int IntKind.i64 (2 : Int)]) w22)
 (R (Value.tuple #[Value.int IntKind.i64 n21, Value.int IntKind.i64 (0 : Int)]) w22))
def F78 (t0 : Sl) (t1 : Int) (t2 : Int) (t3 : Nat × Array Value) (w : World) (R : Value → World → Prop) : Prop :=
 AllocP w (Obj.cells #[Value.int IntKind.i64 (0 : Int)] (3 : Nat)) fun (b1 : Nat) (w2 : World) =>
 ¬(4 : Int) = (0 : Int) ∧
 ¬(4 : Int) = (0 : Int) ∧
 ¬(4 : Int) = (0 : Int) ∧
 ∃ (y3 : Int → World → Prop),
 IfB (decide ((8 : Int) ≤ IntKind.i64.wrap (t2 - t1)))
 (∃ (y4 : Int × Int × Int → World → Prop),
 IfB (decide ((50 : Int) ≤ IntKind.i64.wrap (t2 - t1)))
 (CX Try.prog (106 : Nat)
 #[Value.slice t0.1 t0.2 t0.3, Value.int IntKind.i64 (IntKind.i64.wrap (t1 + IntKind.i64.wrap (IntKind.i64.wrap ((IntKind.i64.wrap (t2 - t1)).tdiv (4 : Int)) * (1 : Int)))),
 Value.pointer (some ({ block := b1, off := (0 : Nat) } : Addr)), Value.func (Fn.func t3.1) #[] t3.2]
 w2 fun (v5 : Value) (w6 : World) =>
 ∃ (n7 : Int),
 v5 = Value.int IntKind.i64 n7 ∧
 CX Try.prog (106 : Nat)
 #[Value.slice t0.1 t0.2 t0.3, Value.int IntKind.i64 (IntKind.i64.wrap (t1 + IntKind.i64.wrap (IntKind.i64.wrap ((IntKind.i64.wrap (t2 - t1)).tdiv (4 : Int)) * (2 : Int)))),
 Value.pointer (some ({ block := b1, off := (0 : Nat) } : Addr)), Value.func (Fn.func t3.1) #[] t3.2]
 w6 fun (v8 : Value) (w9 : World) =>
 ∃ (n10 : Int),
 v8 = Value.int IntKind.i64 n10 ∧
 CX Try.prog (106 : Nat)
 #[Value.slice t0.1 t0.2 t0.3, Value.int IntKind.i64 (IntKind.i64.wrap (t1 + IntKind.i64.wrap (IntKind.i64.wrap ((IntKind.i64.wrap (t2 - t1)).tdiv (4 : Int)) * (3 : Int)))),
 Value.pointer (some ({ block := b1, off := (0 : Nat) } : Addr)), Value.func (Fn.func t3.1) #[] t3.2]
 w9 fun (v11 : Value) (w12 : World) => ∃ (n13 : Int), v11 = Value.int IntKind.i64 n13 ∧ ([] : List Nat) = [] ∧ y4 (n7, n10, n13) w12)
 (([] : List Nat) = [] ∧
 y4
 (IntKind.i64.wrap (t1 + IntKind.i64.wrap (IntKind.i64.wrap ((IntKind.i64.wrap (t2 - t1)).tdiv (4 : Int)) * (1 : Int))),
 IntKind.i64.wrap (t1 + IntKind.i64.wrap (IntKind.i64.wrap ((IntKind.i64.wrap (t2 - t1)).tdiv (4 : Int)) * (2 : Int))),
 IntKind.i64.wrap (t1 + IntKind.i64.wrap (IntKind.i64.wrap ((IntKind.i64.wrap (t2 - t1)).tdiv (4 : Int)) * (3 : Int))))
 w2) ∧
 ∀ (x14 : Int × Int × Int) (w15 : World) (y16 : Nat → Value),
 y4 x14 w15 →
 CX Try.prog (107 : Nat)
 #[Value.slice t0.1 t0.2 t0.3, Value.int IntKind.i64 x14.1, Value.int IntKind.i64 x14.snd.1, Value.int IntKind.i64 x14.snd.2, Value.pointer (some ({ block := b1, off := (0 : Nat) } : Addr)),
 Value.func (Fn.func t3.1) #[] t3.2]
 w15 fun (v18 : Value) (w19 : World) => ∃ (n20 : Int), v18 = Value.int IntKind.i64 n20 ∧ ([] : List Nat) = [] ∧ y3 n20 w19)
 (([] : List Nat) = [] ∧ y3 (IntKind.i64.wrap (t1 + IntKind.i64.wrap (IntKind.i64.wrap ((IntKind.i64.wrap (t2 - t1)).tdiv (4 : Int)) * (2 : Int)))) w2) ∧
 ∀ (n21 : Int) (w22 : World) (y23 : Nat → Value),
 y3 n21 w22 →
 (F78j2 R b1 n21 w22)
theorem F78_ok (t0 : Sl) (t1 : Int) (t2 : Int) (t3 : Nat × Array Value) (w : World) (R : Value → World → Prop) (h : F78 t0 t1 t2 t3 w R) : CW Try.prog 78 #[Value.slice t0.1 t0.2 t0.3, Value.int IntKind.i64 t1, Value.int IntKind.i64 t2, Value.func (Fn.func t3.1) #[] t3.2] w R :=
  call_of tbOk mixed en78 Try.func78 rfl (.node (.nil) (.node (.nil) (.node (.nil) (.node (.nil) (.node (.nil) (.node (.nil) (.join [(13, .one (.int .i64))] [33, 34, 35, 36, 37, 38, 39, 40, 12, 41, 42, 43, 44, 13, 45, 46, 47, 48, 14, 49, 50, 51, 52, 53, 54] (.node (.nil) (.node (.join [(12, .one (.int .i64)), (13, .one (.int .i64)), (14, .one (.int .i64))] [35, 36, 37, 38, 39, 40, 12, 41, 42, 43, 44, 13, 45, 46, 47, 48, 14] (.nil) (.nil)) (.nil))) (.nil)))))))) (by kernel_rfl) (Nat.le_of_ble_eq_true (by kernel_rfl)) (Eq.mp (α := F78 t0 t1 t2 t3 w R) (by kernel_rfl) h)
def F79j1 (t0 : Sl) (R : Value → World → Prop) (y1 : Nat → Int × Int → World → Prop) (b3 : Nat) (x4 : Int × Int) (w5 : World) : Prop :=
 IfB (decide (x4.fst < x4.snd))
 (∃ (b8 : Nat),
 ∃ (b9 : Nat),
 t0.1 = some ({ block := b8, off := b9 } : Addr) ∧
 ((0 : Int) ≤ x4.2 ∧ x4.2 < (t0.2 : Int)) ∧
 ∃ (x10 : Int × Int),
 CellsAt w5.drew b8 (b9 + x4.2.toNat * (2 : Nat)) [Value.int IntKind.i64 x10.1, Value.int IntKind.i64 x10.2] ∧
 ∃ (b11 : Nat),
 ∃ (b12 : Nat),
 t0.1 = some ({ block := b11, off := b12 } : Addr) ∧
 ((0 : Int) ≤ x4.1 ∧ x4.1 < (t0.2 : Int)) ∧
 ∃ (x13 : Int × Int),
 CellsAt w5.drew b11 (b12 + x4.1.toNat * (2 : Nat)) [Value.int IntKind.i64 x13.1, Value.int IntKind.i64 x13.2] ∧
 ∃ (b14 : Nat),
 ∃ (b15 : Nat),
 t0.1 = some ({ block := b14, off := b15 } : Addr) ∧
 ((0 : Int) ≤ x4.1 ∧ x4.1 < (t0.2 : Int)) ∧
 #[Value.int IntKind.i64 x10.1, Value.int IntKind.i64 x10.2].size = (2 : Nat) ∧
 StoreP w5.drew b14 (b15 + x4.1.toNat * (2 : Nat)) [Value.int IntKind.i64 x10.1, Value.int IntKind.i64 x10.2] fun (w16 : World) =>
 ∃ (b17 : Nat),
 ∃ (b18 : Nat),
 t0.1 = some ({ block := b17, off := b18 } : Addr) ∧
 ((0 : Int) ≤ x4.2 ∧ x4.2 < (t0.2 : Int)) ∧
 #[Value.int IntKind.i64 x13.1, Value.int IntKind.i64 x13.2].size = (2 : Nat) ∧
 StoreP w16 b17 (b18 + x4.2.toNat * (2 : Nat)) [Value.int IntKind.i64 x13.1, Value.int IntKind.i64 x13.2] fun (w19 : World) =>
 ([] : List Nat) = [] ∧ ∃ (b20 : Nat), b20 < b3 ∧ y1 b20 (IntKind.i64.wrap (x4.1 + (1 : Int)), IntKind.i64.wrap (x4.2 - (1 : Int))) w19)
 (R (Value.tuple #[]) w5)
def F79 (t0 : Sl) (t1 : Int) (t2 : Int) (t3 : Nat × Array Value) (w : World) (R : Value → World → Prop) : Prop :=
 ∃ (y1 : Nat → Int × Int → World → Prop),
 (∃ (b2 : Nat), y1 b2 (t1, IntKind.i64.wrap (t2 - (1 : Int))) w) ∧
 ∀ (b3 : Nat) (x4 : Int × Int) (w5 : World) (y6 : Nat → Value),
 y1 b3 x4 w5 →
 (F79j1 t0 R y1 b3 x4 w5)
theorem F79_ok (t0 : Sl) (t1 : Int) (t2 : Int) (t3 : Nat × Array Value) (w : World) (R : Value → World → Prop) (h : F79 t0 t1 t2 t3 w R) : CW Try.prog 79 #[Value.slice t0.1 t0.2 t0.3, Value.int IntKind.i64 t1, Value.int IntKind.i64 t2, Value.func (Fn.func t3.1) #[] t3.2] w R :=
  call_of tbOk mixed en79 Try.func79 rfl (.node (.nil) (.node (.nil) (.loop [(8, .one (.int .i64)), (9, .one (.int .i64))] [13, 14, 15, 16, 17, 18, 19, 20, 21, 22, 23, 24, 25, 26, 27, 28, 29, 30, 31, 8, 32, 33, 9] (.node (.nil) (.node (.draw (.st 0 (.st 1 (.st 2 (.st 3 (.st 4 (.st 5 (.st 6 (.st 7 (.st 8 (.st 9 (.st 10 (.st 11 (.st 12 (.ac 13 [3, 2] (.st 14 (.ac 15 [] (.fin) (.non))) (.non)))))))))))))))) (.nil)))))) (by kernel_rfl) (Nat.le_of_ble_eq_true (by kernel_rfl)) (Eq.mp (α := F79 t0 t1 t2 t3 w R) (by kernel_rfl) h)
def F80j2 (t0 : Sl) (t2 : Int) (t3 : Nat × Array Value) (y8 : Int → World → Prop) (y9 : Nat → Int → World → Prop) (b11 : Nat) (n12 : Int) (w13 : World) : Prop :=
 IfB (decide (n12 < t2))
 (∃ (b16 : Nat),
 ∃ (b17 : Nat),
 t0.1 = some ({ block := b16, off := b17 } : Addr) ∧
 ((0 : Int) ≤ n12 ∧ n12 < (t0.2 : Int)) ∧
 ∃ (x18 : Int × Int),
 CellsAt w13.drew b16 (b17 + n12.toNat * (2 : Nat)) [Value.int IntKind.i64 x18.1, Value.int IntKind.i64 x18.2] ∧
 ∃ (b19 : Nat),
 ∃ (b20 : Nat),
 t0.1 = some ({ block := b19, off := b20 } : Addr) ∧
 ((0 : Int) ≤ IntKind.i64.wrap (n12 - (1 : Int)) ∧ IntKind.i64.wrap (n12 - (1 : Int)) < (t0.2 : Int)) ∧
 ∃ (x21 : Int × Int),
 CellsAt w13.drew b19 (b20 + (IntKind.i64.wrap (n12 - (1 : Int))).toNat * (2 : Nat)) [Value.int IntKind.i64 x21.1, Value.int IntKind.i64 x21.2] ∧
 CX Try.prog t3.1
 { toList := Value.agg #[Value.int IntKind.i64 x18.1, Value.int IntKind.i64 x18.2] :: Value.agg #[Value.int IntKind.i64 x21.1, Value.int IntKind.i64 x21.2] :: t3.snd.1 }
 w13.drew fun (v22 : Value) (w23 : World) =>
 ∃ (n24 : Int), v22 = Value.int IntKind.i64 n24 ∧ IfB (!decide (n24 < (0 : Int))) (([] : List Nat) = [] ∧ ∃ (b25 : Nat), b25 < b11 ∧ y9 b25 (IntKind.i64.wrap (n12 + (1 : Int))) w23) (([] : List Nat) = [] ∧ y8 n12 w23))
 (([] : List Nat) = [] ∧ y8 n12 w13.drew)
def F80j4 (t0 : Sl) (t3 : Nat × Array Value) (y42 : Unit → World → Prop) (y43 : Nat → Int → World → Prop) (b45 : Nat) (n46 : Int) (w47 : World) : Prop :=
 IfB (decide ((1 : Int) ≤ n46))
 (∃ (b50 : Nat),
 ∃ (b51 : Nat),
 t0.1 = some ({ block := b50, off := b51 } : Addr) ∧
 ((0 : Int) ≤ n46 ∧ n46 < (t0.2 : Int)) ∧
 ∃ (x52 : Int × Int),
 CellsAt w47.drew b50 (b51 + n46.toNat * (2 : Nat)) [Value.int IntKind.i64 x52.1, Value.int IntKind.i64 x52.2] ∧
 ∃ (b53 : Nat),
 ∃ (b54 : Nat),
 t0.1 = some ({ block := b53, off := b54 } : Addr) ∧
 ((0 : Int) ≤ IntKind.i64.wrap (n46 - (1 : Int)) ∧ IntKind.i64.wrap (n46 - (1 : Int)) < (t0.2 : Int)) ∧
 ∃ (x55 : Int × Int),
 CellsAt w47.drew b53 (b54 + (IntKind.i64.wrap (n46 - (1 : Int))).toNat * (2 : Nat)) [Value.int IntKind.i64 x55.1, Value.int IntKind.i64 x55.2] ∧
 CX Try.prog t3.1
 { toList := Value.agg #[Value.int IntKind.i64 x52.1, Value.int IntKind.i64 x52.2] :: Value.agg #[Value.int IntKind.i64 x55.1, Value.int IntKind.i64 x55.2] :: t3.snd.1 }
 w47.drew fun (v56 : Value) (w57 : World) =>
 ∃ (n58 : Int),
 v56 = Value.int IntKind.i64 n58 ∧
 IfB (!decide (n58 < (0 : Int))) (([] : List Nat) = [] ∧ y42 PUnit.unit w57)
 (∃ (b59 : Nat),
 ∃ (b60 : Nat),
 t0.1 = some ({ block := b59, off := b60 } : Addr) ∧
 ((0 : Int) ≤ IntKind.i64.wrap (n46 - (1 : Int)) ∧ IntKind.i64.wrap (n46 - (1 : Int)) < (t0.2 : Int)) ∧
 ∃ (x61 : Int × Int),
 CellsAt w57.drew b59 (b60 + (IntKind.i64.wrap (n46 - (1 : Int))).toNat * (2 : Nat)) [Value.int IntKind.i64 x61.1, Value.int IntKind.i64 x61.2] ∧
 ∃ (b62 : Nat),
 ∃ (b63 : Nat),
 t0.1 = some ({ block := b62, off := b63 } : Addr) ∧
 ((0 : Int) ≤ n46 ∧ n46 < (t0.2 : Int)) ∧
 ∃ (x64 : Int × Int),
 CellsAt w57.drew b62 (b63 + n46.toNat * (2 : Nat)) [Value.int IntKind.i64 x64.1, Value.int IntKind.i64 x64.2] ∧
 ∃ (b65 : Nat),
 ∃ (b66 : Nat),
 t0.1 = some ({ block := b65, off := b66 } : Addr) ∧
 ((0 : Int) ≤ n46 ∧ n46 < (t0.2 : Int)) ∧
 #[Value.int IntKind.i64 x61.1, Value.int IntKind.i64 x61.2].size = (2 : Nat) ∧
 StoreP w57.drew b65 (b66 + n46.toNat * (2 : Nat)) [Value.int IntKind.i64 x61.1, Value.int IntKind.i64 x61.2] fun (w67 : World) =>
 ∃ (b68 : Nat),
 ∃ (b69 : Nat),
 t0.1 = some ({ block := b68, off := b69 } : Addr) ∧
 ((0 : Int) ≤ IntKind.i64.wrap (n46 - (1 : Int)) ∧ IntKind.i64.wrap (n46 - (1 : Int)) < (t0.2 : Int)) ∧
 #[Value.int IntKind.i64 x64.1, Value.int IntKind.i64 x64.2].size = (2 : Nat) ∧
 StoreP w67 b68 (b69 + (IntKind.i64.wrap (n46 - (1 : Int))).toNat * (2 : Nat)) [Value.int IntKind.i64 x64.1, Value.int IntKind.i64 x64.2] fun (w70 : World) =>
 ([] : List Nat) = [] ∧ ∃ (b71 : Nat), b71 < b45 ∧ y43 b71 (IntKind.i64.wrap (n46 - (1 : Int))) w70))
 (([] : List Nat) = [] ∧ y42 PUnit.unit w47)
def F80j7 (t0 : Sl) (t2 : Int) (t3 : Nat × Array Value) (y1 : Nat → Int × Int → World → Prop) (b3 : Nat) (x4 : Int × Int) (n26 : Int) (y81 : Nat → Int → World → Prop) (b83 : Nat) (n84 : Int) (w85 : World) : Prop :=
 IfB (decide (n84 < t2))
 (∃ (b88 : Nat),
 ∃ (b89 : Nat),
 t0.1 = some ({ block := b88, off := b89 } : Addr) ∧
 ((0 : Int) ≤ n84 ∧ n84 < (t0.2 : Int)) ∧
 ∃ (x90 : Int × Int),
 CellsAt w85.drew b88 (b89 + n84.toNat * (2 : Nat)) [Value.int IntKind.i64 x90.1, Value.int IntKind.i64 x90.2] ∧
 ∃ (b91 : Nat),
 ∃ (b92 : Nat),
 t0.1 = some ({ block := b91, off := b92 } : Addr) ∧
 ((0 : Int) ≤ IntKind.i64.wrap (n84 - (1 : Int)) ∧ IntKind.i64.wrap (n84 - (1 : Int)) < (t0.2 : Int)) ∧
 ∃ (x93 : Int × Int),
 CellsAt w85.drew b91 (b92 + (IntKind.i64.wrap (n84 - (1 : Int))).toNat * (2 : Nat)) [Value.int IntKind.i64 x93.1, Value.int IntKind.i64 x93.2] ∧
 CX Try.prog t3.1
 { toList := Value.agg #[Value.int IntKind.i64 x90.1, Value.int IntKind.i64 x90.2] :: Value.agg #[Value.int IntKind.i64 x93.1, Value.int IntKind.i64 x93.2] :: t3.snd.1 }
 w85.drew fun (v94 : Value) (w95 : World) =>
 ∃ (n96 : Int),
 v94 = Value.int IntKind.i64 n96 ∧
 IfB (!decide (n96 < (0 : Int))) (([] : List Nat) = [] ∧ ∃ (b97 : Nat), b97 < b3 ∧ y1 b97 (n26, IntKind.i64.wrap (x4.2 + (1 : Int))) w95)
 (∃ (b98 : Nat),
 ∃ (b99 : Nat),
 t0.1 = some ({ block := b98, off := b99 } : Addr) ∧
 ((0 : Int) ≤ IntKind.i64.wrap (n84 - (1 : Int)) ∧ IntKind.i64.wrap (n84 - (1 : Int)) < (t0.2 : Int)) ∧
 ∃ (x100 : Int × Int),
 CellsAt w95.drew b98 (b99 + (IntKind.i64.wrap (n84 - (1 : Int))).toNat * (2 : Nat)) [Value.int IntKind.i64 x100.1, Value.int IntKind.i64 x100.2] ∧
 ∃ (b101 : Nat),
 ∃ (b102 : Nat),
 t0.1 = some ({ block := b101, off := b102 } : Addr) ∧
 ((0 : Int) ≤ n84 ∧ n84 < (t0.2 : Int)) ∧
 ∃ (x103 : Int × Int),
 CellsAt w95.drew b101 (b102 + n84.toNat * (2 : Nat)) [Value.int IntKind.i64 x103.1, Value.int IntKind.i64 x103.2] ∧
 ∃ (b104 : Nat),
 ∃ (b105 : Nat),
 t0.1 = some ({ block := b104, off := b105 } : Addr) ∧
 ((0 : Int) ≤ n84 ∧ n84 < (t0.2 : Int)) ∧
 #[Value.int IntKind.i64 x100.1, Value.int IntKind.i64 x100.2].size = (2 : Nat) ∧
 StoreP w95.drew b104 (b105 + n84.toNat * (2 : Nat)) [Value.int IntKind.i64 x100.1, Value.int IntKind.i64 x100.2] fun (w106 : World) =>
 ∃ (b107 : Nat),
 ∃ (b108 : Nat),
 t0.1 = some ({ block := b107, off := b108 } : Addr) ∧
 ((0 : Int) ≤ IntKind.i64.wrap (n84 - (1 : Int)) ∧ IntKind.i64.wrap (n84 - (1 : Int)) < (t0.2 : Int)) ∧
 #[Value.int IntKind.i64 x103.1, Value.int IntKind.i64 x103.2].size = (2 : Nat) ∧
 StoreP w106 b107 (b108 + (IntKind.i64.wrap (n84 - (1 : Int))).toNat * (2 : Nat)) [Value.int IntKind.i64 x103.1, Value.int IntKind.i64 x103.2] fun (w109 : World) =>
 ([] : List Nat) = [] ∧ ∃ (b110 : Nat), b110 < b83 ∧ y81 b110 (IntKind.i64.wrap (n84 + (1 : Int))) w109))
 (([] : List Nat) = [] ∧ ∃ (b111 : Nat), b111 < b3 ∧ y1 b111 (n26, IntKind.i64.wrap (x4.2 + (1 : Int))) w85)
def F80j5 (t0 : Sl) (t2 : Int) (t3 : Nat × Array Value) (y1 : Nat → Int × Int → World → Prop) (b3 : Nat) (x4 : Int × Int) (n26 : Int) (w73 : World) : Prop :=
 ∃ (y76 : Bool → World → Prop),
 (([] : List Nat) = [] ∧ y76 (decide ((2 : Int) ≤ IntKind.i64.wrap (t2 - n26))) w73) ∧
 ∀ (t77 : Bool) (w78 : World) (y79 : Nat → Value),
 y76 t77 w78 →
 IfB t77
 (∃ (y81 : Nat → Int → World → Prop),
 (∃ (b82 : Nat), y81 b82 (IntKind.i64.wrap (n26 + (1 : Int))) w78) ∧
 ∀ (b83 : Nat) (n84 : Int) (w85 : World) (y86 : Nat → Value),
 y81 b83 n84 w85 →
 (F80j7 t0 t2 t3 y1 b3 x4 n26 y81 b83 n84 w85))
 (([] : List Nat) = [] ∧ ∃ (b112 : Nat), b112 < b3 ∧ y1 b112 (n26, IntKind.i64.wrap (x4.2 + (1 : Int))) w78)
def F80j3 (t0 : Sl) (t1 : Int) (t2 : Int) (t3 : Nat × Array Value) (R : Value → World → Prop) (y1 : Nat → Int × Int → World → Prop) (b3 : Nat) (x4 : Int × Int) (n26 : Int) (w27 : World) : Prop :=
 IfB (n26 == t2) (R (Value.bool true) w27)
 (IfB (decide (IntKind.i64.wrap (t2 - t1) < (50 : Int))) (R (Value.bool false) w27)
 (∃ (b30 : Nat),
 ∃ (b31 : Nat),
 t0.1 = some ({ block := b30, off := b31 } : Addr) ∧
 ((0 : Int) ≤ IntKind.i64.wrap (n26 - (1 : Int)) ∧ IntKind.i64.wrap (n26 - (1 : Int)) < (t0.2 : Int)) ∧
 ∃ (x32 : Int × Int),
 CellsAt w27.drew b30 (b31 + (IntKind.i64.wrap (n26 - (1 : Int))).toNat * (2 : Nat)) [Value.int IntKind.i64 x32.1, Value.int IntKind.i64 x32.2] ∧
 ∃ (b33 : Nat),
 ∃ (b34 : Nat),
 t0.1 = some ({ block := b33, off := b34 } : Addr) ∧
 ((0 : Int) ≤ n26 ∧ n26 < (t0.2 : Int)) ∧
 ∃ (x35 : Int × Int),
 CellsAt w27.drew b33 (b34 + n26.toNat * (2 : Nat)) [Value.int IntKind.i64 x35.1, Value.int IntKind.i64 x35.2] ∧
 ∃ (b36 : Nat),
 ∃ (b37 : Nat),
 t0.1 = some ({ block := b36, off := b37 } : Addr) ∧
 ((0 : Int) ≤ n26 ∧ n26 < (t0.2 : Int)) ∧
 #[Value.int IntKind.i64 x32.1, Value.int IntKind.i64 x32.2].size = (2 : Nat) ∧
 StoreP w27.drew b36 (b37 + n26.toNat * (2 : Nat)) [Value.int IntKind.i64 x32.1, Value.int IntKind.i64 x32.2] fun (w38 : World) =>
 ∃ (b39 : Nat),
 ∃ (b40 : Nat),
 t0.1 = some ({ block := b39, off := b40 } : Addr) ∧
 ((0 : Int) ≤ IntKind.i64.wrap (n26 - (1 : Int)) ∧ IntKind.i64.wrap (n26 - (1 : Int)) < (t0.2 : Int)) ∧
 #[Value.int IntKind.i64 x35.1, Value.int IntKind.i64 x35.2].size = (2 : Nat) ∧
 StoreP w38 b39 (b40 + (IntKind.i64.wrap (n26 - (1 : Int))).toNat * (2 : Nat)) [Value.int IntKind.i64 x35.1, Value.int IntKind.i64 x35.2] fun (w41 : World) =>
 ∃ (y42 : Unit → World → Prop),
 IfB (decide ((2 : Int) ≤ IntKind.i64.wrap (n26 - t1)))
 (∃ (y43 : Nat → Int → World → Prop),
 (∃ (b44 : Nat), y43 b44 (IntKind.i64.wrap (n26 - (1 : Int))) w41) ∧
 ∀ (b45 : Nat) (n46 : Int) (w47 : World) (y48 : Nat → Value),
 y43 b45 n46 w47 →
 (F80j4 t0 t3 y42 y43 b45 n46 w47))
 (([] : List Nat) = [] ∧ y42 PUnit.unit w41) ∧
 ∀ (y72 : Unit) (w73 : World) (y74 : Nat → Value),
 y42 y72 w73 →
 (F80j5 t0 t2 t3 y1 b3 x4 n26 w73)))
def F80 (t0 : Sl) (t1 : Int) (t2 : Int) (t3 : Nat × Array Value) (w : World) (R : Value → World → Prop) : Prop :=
 ∃ (y1 : Nat → Int × Int → World → Prop),
 (∃ (b2 : Nat), y1 b2 (IntKind.i64.wrap (t1 + (1 : Int)), (0 : Int)) w) ∧
 ∀ (b3 : Nat) (x4 : Int × Int) (w5 : World) (y6 : Nat → Value),
 y1 b3 x4 w5 →
 IfB (decide (x4.snd < (5 : Int)))
 (∃ (y8 : Int → World → Prop),
 (∃ (y9 : Nat → Int → World → Prop),
 (∃ (b10 : Nat), y9 b10 x4.1 w5) ∧
 ∀ (b11 : Nat) (n12 : Int) (w13 : World) (y14 : Nat → Value),
 y9 b11 n12 w13 →
 (F80j2 t0 t2 t3 y8 y9 b11 n12 w13)) ∧
 ∀ (n26 : Int) (w27 : World) (y28 : Nat → Value),
 y8 n26 w27 →
 (F80j3 t0 t1 t2 t3 R y1 b3 x4 n26 w27))
 (R (Value.bool false) w5)
theorem F80_ok (t0 : Sl) (t1 : Int) (t2 : Int) (t3 : Nat × Array Value) (w : World) (R : Value → World → Prop) (h : F80 t0 t1 t2 t3 w R) : CW Try.prog 80 #[Value.slice t0.1 t0.2 t0.3, Value.int IntKind.i64 t1, Value.int IntKind.i64 t2, Value.func (Fn.func t3.1) #[] t3.2] w R :=
  call_of tbOk mixed en80 Try.func80 rfl (.node (.nil) (.node (.nil) (.node (.node (.nil) (.loop [(9, .one (.int .i64)), (10, .one (.int .i64))] [15, 16, 19, 20, 21, 22, 23, 24, 25, 26, 27, 28, 29, 30, 31, 32, 33, 34, 35, 36, 37, 38, 9, 39, 40, 41, 8, 42, 43, 44, 45, 46, 47, 48, 49, 50, 51, 52, 53, 54, 55, 56, 57, 58, 59, 60, 61, 62, 63, 64, 65, 66, 67, 11, 68, 69, 72, 73, 74, 75, 76, 77, 78, 79, 80, 81, 82, 83, 84, 85, 86, 87, 88, 89, 90, 91, 92, 93, 94, 95, 96, 97, 98, 99, 100, 70, 71, 101, 102, 103, 104, 105, 106, 12, 107, 108, 109, 112, 113, 114, 115, 116, 117, 118, 119, 120, 121, 122, 123, 124, 125, 126, 127, 128, 129, 130, 131, 132, 133, 134, 135, 136, 137, 138, 139, 140, 110, 111, 17, 18, 10] (.node (.nil) (.node (.join [(9, .one (.int .i64))] [19, 20, 21, 22, 23, 24, 25, 26, 27, 28, 29, 30, 31, 32, 33, 34, 35, 36, 37, 38, 9] (.loop [(9, .one (.int .i64))] [19, 20, 21, 22, 23, 24, 25, 26, 27, 28, 29, 30, 31, 32, 33, 34, 35, 36, 37, 38, 9] (.node (.node (.draw (.st 0 (.st 1 (.st 2 (.st 3 (.st 4 (.st 5 (.st 6 (.st 7 (.st 8 (.st 9 (.st 10 (.st 11 (.st 12 (.st 13 (.ac 14 [] (.st 15 (.st 16 (.st 17 (.fin)))) (.non))))))))))))))))) (.nil)) (.nil))) (.node (.nil) (.node (.nil) (.node (.draw (.st 0 (.st 1 (.st 2 (.st 3 (.st 4 (.st 5 (.st 6 (.st 7 (.st 8 (.st 9 (.st 10 (.st 11 (.st 12 (.st 13 (.st 14 (.ac 15 [4, 3, 2] (.st 16 (.ac 17 [] (.fin) (.non))) (.non)))))))))))))))))) (.join [] [62, 63, 64, 65, 66, 67, 11, 68, 69, 72, 73, 74, 75, 76, 77, 78, 79, 80, 81, 82, 83, 84, 85, 86, 87, 88, 89, 90, 91, 92, 93, 94, 95, 96, 97, 98, 99, 100, 70, 71] (.node (.nil) (.node (.node (.nil) (.loop [(11, .one (.int .i64))] [68, 69, 72, 73, 74, 75, 76, 77, 78, 79, 80, 81, 82, 83, 84, 85, 86, 87, 88, 89, 90, 91, 92, 93, 94, 95, 96, 97, 98, 99, 100, 70, 71, 11] (.node (.nil) (.node (.node (.node (.draw (.st 0 (.st 1 (.st 2 (.st 3 (.st 4 (.st 5 (.st 6 (.st 7 (.st 8 (.st 9 (.ac 10 [] (.st 11 (.st 12 (.fin))) (.non))))))))))))) (.nil)) (.draw (.st 0 (.st 1 (.st 2 (.st 3 (.st 4 (.st 5 (.st 6 (.st 7 (.st 8 (.st 9 (.st 10 (.st 11 (.st 12 (.st 13 (.st 14 (.ac 15 [4, 3, 2] (.st 16 (.ac 17 [] (.fin) (.non))) (.non))))))))))))))))))) (.nil))))) (.nil))) (.join [(104, .one (.bool))] [101, 102, 103, 104] (.nil) (.node (.node (.nil) (.loop [(12, .one (.int .i64))] [107, 108, 109, 112, 113, 114, 115, 116, 117, 118, 119, 120, 121, 122, 123, 124, 125, 126, 127, 128, 129, 130, 131, 132, 133, 134, 135, 136, 137, 138, 139, 140, 110, 111, 12] (.node (.nil) (.node (.node (.node (.draw (.st 0 (.st 1 (.st 2 (.st 3 (.st 4 (.st 5 (.st 6 (.st 7 (.st 8 (.st 9 (.ac 10 [] (.st 11 (.st 12 (.fin))) (.non))))))))))))) (.nil)) (.draw (.st 0 (.st 1 (.st 2 (.st 3 (.st 4 (.st 5 (.st 6 (.st 7 (.st 8 (.st 9 (.st 10 (.st 11 (.st 12 (.st 13 (.st 14 (.ac 15 [4, 3, 2] (.st 16 (.ac 17 [] (.fin) (.non))) (.non))))))))))))))))))) (.nil))))) (.nil)))))))) (.nil))))) (.nil)))) (by kernel_rfl) (Nat.le_of_ble_eq_true (by kernel_rfl)) (Eq.mp (α := F80 t0 t1 t2 t3 w R) (by kernel_rfl) h)
def F81j2 (t0 : Sl) (t1 : Int) (t4 : Nat × Array Value) (x16 : Int × Int) (y20 : Int → World → Prop) (y21 : Nat → Int → World → Prop) (b23 : Nat) (n24 : Int) (w25 : World) : Prop :=
 IfB (decide (n24 ≤ x16.snd))
 (∃ (b28 : Nat),
 ∃ (b29 : Nat),
 t0.1 = some ({ block := b28, off := b29 } : Addr) ∧
 ((0 : Int) ≤ t1 ∧ t1 < (t0.2 : Int)) ∧
 ∃ (x30 : Int × Int),
 CellsAt w25.drew b28 (b29 + t1.toNat * (2 : Nat)) [Value.int IntKind.i64 x30.1, Value.int IntKind.i64 x30.2] ∧
 ∃ (b31 : Nat),
 ∃ (b32 : Nat),
 t0.1 = some ({ block := b31, off := b32 } : Addr) ∧
 ((0 : Int) ≤ n24 ∧ n24 < (t0.2 : Int)) ∧
 ∃ (x33 : Int × Int),
 CellsAt w25.drew b31 (b32 + n24.toNat * (2 : Nat)) [Value.int IntKind.i64 x33.1, Value.int IntKind.i64 x33.2] ∧
 CX Try.prog t4.1
 { toList := Value.agg #[Value.int IntKind.i64 x30.1, Value.int IntKind.i64 x30.2] :: Value.agg #[Value.int IntKind.i64 x33.1, Value.int IntKind.i64 x33.2] :: t4.snd.1 }
 w25.drew fun (v34 : Value) (w35 : World) =>
 ∃ (n36 : Int), v34 = Value.int IntKind.i64 n36 ∧ IfB (!decide (n36 < (0 : Int))) (([] : List Nat) = [] ∧ ∃ (b37 : Nat), b37 < b23 ∧ y21 b37 (IntKind.i64.wrap (n24 + (1 : Int))) w35) (([] : List Nat) = [] ∧ y20 n24 w35))
 (([] : List Nat) = [] ∧ y20 n24 w25.drew)
def F81j4 (t0 : Sl) (t1 : Int) (t4 : Nat × Array Value) (n38 : Int) (y42 : Int → World → Prop) (y43 : Nat → Int → World → Prop) (b45 : Nat) (n46 : Int) (w47 : World) : Prop :=
 IfB (decide (n38 ≤ n46))
 (∃ (b50 : Nat),
 ∃ (b51 : Nat),
 t0.1 = some ({ block := b50, off := b51 } : Addr) ∧
 ((0 : Int) ≤ t1 ∧ t1 < (t0.2 : Int)) ∧
 ∃ (x52 : Int × Int),
 CellsAt w47.drew b50 (b51 + t1.toNat * (2 : Nat)) [Value.int IntKind.i64 x52.1, Value.int IntKind.i64 x52.2] ∧
 ∃ (b53 : Nat),
 ∃ (b54 : Nat),
 t0.1 = some ({ block := b53, off := b54 } : Addr) ∧
 ((0 : Int) ≤ n46 ∧ n46 < (t0.2 : Int)) ∧
 ∃ (x55 : Int × Int),
 CellsAt w47.drew b53 (b54 + n46.toNat * (2 : Nat)) [Value.int IntKind.i64 x55.1, Value.int IntKind.i64 x55.2] ∧
 CX Try.prog t4.1
 { toList := Value.agg #[Value.int IntKind.i64 x52.1, Value.int IntKind.i64 x52.2] :: Value.agg #[Value.int IntKind.i64 x55.1, Value.int IntKind.i64 x55.2] :: t4.snd.1 }
 w47.drew fun (v56 : Value) (w57 : World) =>
 ∃ (n58 : Int), v56 = Value.int IntKind.i64 n58 ∧ IfB (decide (n58 < (0 : Int))) (([] : List Nat) = [] ∧ ∃ (b59 : Nat), b59 < b45 ∧ y43 b59 (IntKind.i64.wrap (n46 - (1 : Int))) w57) (([] : List Nat) = [] ∧ y42 n46 w57))
 (([] : List Nat) = [] ∧ y42 n46 w47.drew)
def F81j5 (t0 : Sl) (R : Value → World → Prop) (y13 : Nat → Int × Int → World → Prop) (b15 : Nat) (n38 : Int) (n60 : Int) (w61 : World) : Prop :=
 IfB (decide (n60 < n38)) (R (Value.int IntKind.i64 n38) w61)
 (∃ (b64 : Nat),
 ∃ (b65 : Nat),
 t0.1 = some ({ block := b64, off := b65 } : Addr) ∧
 ((0 : Int) ≤ n60 ∧ n60 < (t0.2 : Int)) ∧
 ∃ (x66 : Int × Int),
 CellsAt w61.drew b64 (b65 + n60.toNat * (2 : Nat)) [Value.int IntKind.i64 x66.1, Value.int IntKind.i64 x66.2] ∧
 ∃ (b67 : Nat),
 ∃ (b68 : Nat),
 t0.1 = some ({ block := b67, off := b68 } : Addr) ∧
 ((0 : Int) ≤ n38 ∧ n38 < (t0.2 : Int)) ∧
 ∃ (x69 : Int × Int),
 CellsAt w61.drew b67 (b68 + n38.toNat * (2 : Nat)) [Value.int IntKind.i64 x69.1, Value.int IntKind.i64 x69.2] ∧
 ∃ (b70 : Nat),
 ∃ (b71 : Nat),
 t0.1 = some ({ block := b70, off := b71 } : Addr) ∧
 ((0 : Int) ≤ n38 ∧ n38 < (t0.2 : Int)) ∧
 #[Value.int IntKind.i64 x66.1, Value.int IntKind.i64 x66.2].size = (2 : Nat) ∧
 StoreP w61.drew b70 (b71 + n38.toNat * (2 : Nat)) [Value.int IntKind.i64 x66.1, Value.int IntKind.i64 x66.2] fun (w72 : World) =>
 ∃ (b73 : Nat),
 ∃ (b74 : Nat),
 t0.1 = some ({ block := b73, off := b74 } : Addr) ∧
 ((0 : Int) ≤ n60 ∧ n60 < (t0.2 : Int)) ∧
 #[Value.int IntKind.i64 x69.1, Value.int IntKind.i64 x69.2].size = (2 : Nat) ∧
 StoreP w72 b73 (b74 + n60.toNat * (2 : Nat)) [Value.int IntKind.i64 x69.1, Value.int IntKind.i64 x69.2] fun (w75 : World) =>
 ([] : List Nat) = [] ∧ ∃ (b76 : Nat), b76 < b15 ∧ y13 b76 (IntKind.i64.wrap (n38 + (1 : Int)), IntKind.i64.wrap (n60 - (1 : Int))) w75)
def F81j1 (t0 : Sl) (t1 : Int) (t4 : Nat × Array Value) (R : Value → World → Prop) (y13 : Nat → Int × Int → World → Prop) (b15 : Nat) (x16 : Int × Int) (w17 : World) : Prop :=
 ∃ (y20 : Int → World → Prop),
 (∃ (y21 : Nat → Int → World → Prop),
 (∃ (b22 : Nat), y21 b22 x16.1 w17) ∧
 ∀ (b23 : Nat) (n24 : Int) (w25 : World) (y26 : Nat → Value),
 y21 b23 n24 w25 →
 (F81j2 t0 t1 t4 x16 y20 y21 b23 n24 w25)) ∧
 ∀ (n38 : Int) (w39 : World) (y40 : Nat → Value),
 y20 n38 w39 →
 ∃ (y42 : Int → World → Prop),
 (∃ (y43 : Nat → Int → World → Prop),
 (∃ (b44 : Nat), y43 b44 x16.2 w39) ∧
 ∀ (b45 : Nat) (n46 : Int) (w47 : World) (y48 : Nat → Value),
 y43 b45 n46 w47 →
 (F81j4 t0 t1 t4 n38 y42 y43 b45 n46 w47)) ∧
 ∀ (n60 : Int) (w61 : World) (y62 : Nat → Value),
 y42 n60 w61 →
 (F81j5 t0 R y13 b15 n38 n60 w61)
def F81 (t0 : Sl) (t1 : Int) (t2 : Int) (t3 : Int) (t4 : Nat × Array Value) (w : World) (R : Value → World → Prop) : Prop :=
 ∃ (b1 : Nat),
 ∃ (b2 : Nat),
 t0.1 = some ({ block := b1, off := b2 } : Addr) ∧
 ((0 : Int) ≤ t3 ∧ t3 < (t0.2 : Int)) ∧
 ∃ (x3 : Int × Int),
 CellsAt w.drew b1 (b2 + t3.toNat * (2 : Nat)) [Value.int IntKind.i64 x3.1, Value.int IntKind.i64 x3.2] ∧
 ∃ (b4 : Nat),
 ∃ (b5 : Nat),
 t0.1 = some ({ block := b4, off := b5 } : Addr) ∧
 ((0 : Int) ≤ t1 ∧ t1 < (t0.2 : Int)) ∧
 ∃ (x6 : Int × Int),
 CellsAt w.drew b4 (b5 + t1.toNat * (2 : Nat)) [Value.int IntKind.i64 x6.1, Value.int IntKind.i64 x6.2] ∧
 ∃ (b7 : Nat),
 ∃ (b8 : Nat),
 t0.1 = some ({ block := b7, off := b8 } : Addr) ∧
 ((0 : Int) ≤ t1 ∧ t1 < (t0.2 : Int)) ∧
 #[Value.int IntKind.i64 x3.1, Value.int IntKind.i64 x3.2].size = (2 : Nat) ∧
 StoreP w.drew b7 (b8 + t1.toNat * (2 : Nat)) [Value.int IntKind.i64 x3.1, Value.int IntKind.i64 x3.2] fun (w9 : World) =>
 ∃ (b10 : Nat),
 ∃ (b11 : Nat),
 t0.1 = some ({ block := b10, off := b11 } : Addr) ∧
 ((0 : Int) ≤ t3 ∧ t3 < (t0.2 : Int)) ∧
 #[Value.int IntKind.i64 x6.1, Value.int IntKind.i64 x6.2].size = (2 : Nat) ∧
 StoreP w9 b10 (b11 + t3.toNat * (2 : Nat)) [Value.int IntKind.i64 x6.1, Value.int IntKind.i64 x6.2] fun (w12 : World) =>
 ∃ (y13 : Nat → Int × Int → World → Prop),
 (∃ (b14 : Nat), y13 b14 (IntKind.i64.wrap (t1 + (1 : Int)), IntKind.i64.wrap (t2 - (1 : Int))) w12) ∧
 ∀ (b15 : Nat) (x16 : Int × Int) (w17 : World) (y18 : Nat → Value),
 y13 b15 x16 w17 →
 (F81j1 t0 t1 t4 R y13 b15 x16 w17)
theorem F81_ok (t0 : Sl) (t1 : Int) (t2 : Int) (t3 : Int) (t4 : Nat × Array Value) (w : World) (R : Value → World → Prop) (h : F81 t0 t1 t2 t3 t4 w R) : CW Try.prog 81 #[Value.slice t0.1 t0.2 t0.3, Value.int IntKind.i64 t1, Value.int IntKind.i64 t2, Value.int IntKind.i64 t3, Value.func (Fn.func t4.1) #[] t4.2] w R :=
  call_of tbOk mixed en81 Try.func81 rfl (.node (.nil) (.node (.draw (.st 0 (.st 1 (.st 2 (.st 3 (.st 4 (.st 5 (.st 6 (.st 7 (.st 8 (.st 9 (.st 10 (.st 11 (.st 12 (.ac 13 [3, 2] (.st 14 (.ac 15 [] (.fin) (.non))) (.non)))))))))))))))) (.node (.nil) (.node (.loop [(11, .one (.int .i64)), (12, .one (.int .i64))] [31, 32, 33, 34, 35, 36, 37, 38, 39, 40, 41, 42, 43, 44, 45, 46, 47, 48, 49, 11, 50, 51, 52, 53, 54, 55, 56, 57, 58, 59, 60, 61, 62, 63, 64, 65, 66, 67, 12, 68, 69, 70, 71, 72, 73, 74, 75, 76, 77, 78, 79, 80, 81, 82, 83, 84, 85, 86, 87, 88] (.join [(11, .one (.int .i64))] [31, 32, 33, 34, 35, 36, 37, 38, 39, 40, 41, 42, 43, 44, 45, 46, 47, 48, 49, 11] (.loop [(11, .one (.int .i64))] [31, 32, 33, 34, 35, 36, 37, 38, 39, 40, 41, 42, 43, 44, 45, 46, 47, 48, 49, 11] (.node (.node (.draw (.st 0 (.st 1 (.st 2 (.st 3 (.st 4 (.st 5 (.st 6 (.st 7 (.st 8 (.st 9 (.st 10 (.st 11 (.st 12 (.ac 13 [] (.st 14 (.st 15 (.st 16 (.fin)))) (.non)))))))))))))))) (.nil)) (.nil))) (.join [(12, .one (.int .i64))] [50, 51, 52, 53, 54, 55, 56, 57, 58, 59, 60, 61, 62, 63, 64, 65, 66, 67, 12] (.loop [(12, .one (.int .i64))] [50, 51, 52, 53, 54, 55, 56, 57, 58, 59, 60, 61, 62, 63, 64, 65, 66, 67, 12] (.node (.node (.draw (.st 0 (.st 1 (.st 2 (.st 3 (.st 4 (.st 5 (.st 6 (.st 7 (.st 8 (.st 9 (.st 10 (.st 11 (.st 12 (.ac 13 [] (.st 14 (.st 15 (.fin))) (.non)))))))))))))))) (.nil)) (.nil))) (.node (.nil) (.node (.draw (.st 0 (.st 1 (.st 2 (.st 3 (.st 4 (.st 5 (.st 6 (.st 7 (.st 8 (.st 9 (.st 10 (.st 11 (.st 12 (.ac 13 [3, 2] (.st 14 (.ac 15 [] (.fin) (.non))) (.non)))))))))))))))) (.nil)))))) (.nil))))) (by kernel_rfl) (Nat.le_of_ble_eq_true (by kernel_rfl)) (Eq.mp (α := F81 t0 t1 t2 t3 t4 w R) (by kernel_rfl) h)
def F82j1 (t0 : Sl) (t1 : Int) (t2 : Int) (t4 : Nat × Array Value) (y13 : Int → World → Prop) (y14 : Nat → Int → World → Prop) (b16 : Nat) (n17 : Int) (w18 : World) : Prop :=
 IfB (decide (n17 ≤ IntKind.i64.wrap (t2 - (1 : Int))))
 (∃ (b21 : Nat),
 ∃ (b22 : Nat),
 t0.1 = some ({ block := b21, off := b22 } : Addr) ∧
 ((0 : Int) ≤ n17 ∧ n17 < (t0.2 : Int)) ∧
 ∃ (x23 : Int × Int),
 CellsAt w18.drew b21 (b22 + n17.toNat * (2 : Nat)) [Value.int IntKind.i64 x23.1, Value.int IntKind.i64 x23.2] ∧
 ∃ (b24 : Nat),
 ∃ (b25 : Nat),
 t0.1 = some ({ block := b24, off := b25 } : Addr) ∧
 ((0 : Int) ≤ t1 ∧ t1 < (t0.2 : Int)) ∧
 ∃ (x26 : Int × Int),
 CellsAt w18.drew b24 (b25 + t1.toNat * (2 : Nat)) [Value.int IntKind.i64 x26.1, Value.int IntKind.i64 x26.2] ∧
 CX Try.prog t4.1
 { toList := Value.agg #[Value.int IntKind.i64 x23.1, Value.int IntKind.i64 x23.2] :: Value.agg #[Value.int IntKind.i64 x26.1, Value.int IntKind.i64 x26.2] :: t4.snd.1 }
 w18.drew fun (v27 : Value) (w28 : World) =>
 ∃ (n29 : Int), v27 = Value.int IntKind.i64 n29 ∧ IfB (decide (n29 < (0 : Int))) (([] : List Nat) = [] ∧ ∃ (b30 : Nat), b30 < b16 ∧ y14 b30 (IntKind.i64.wrap (n17 + (1 : Int))) w28) (([] : List Nat) = [] ∧ y13 n17 w28))
 (([] : List Nat) = [] ∧ y13 n17 w18.drew)
def F82j3 (t0 : Sl) (t1 : Int) (t4 : Nat × Array Value) (n31 : Int) (y35 : Int → World → Prop) (y36 : Nat → Int → World → Prop) (b38 : Nat) (n39 : Int) (w40 : World) : Prop :=
 IfB (decide (n31 ≤ n39))
 (∃ (b43 : Nat),
 ∃ (b44 : Nat),
 t0.1 = some ({ block := b43, off := b44 } : Addr) ∧
 ((0 : Int) ≤ n39 ∧ n39 < (t0.2 : Int)) ∧
 ∃ (x45 : Int × Int),
 CellsAt w40.drew b43 (b44 + n39.toNat * (2 : Nat)) [Value.int IntKind.i64 x45.1, Value.int IntKind.i64 x45.2] ∧
 ∃ (b46 : Nat),
 ∃ (b47 : Nat),
 t0.1 = some ({ block := b46, off := b47 } : Addr) ∧
 ((0 : Int) ≤ t1 ∧ t1 < (t0.2 : Int)) ∧
 ∃ (x48 : Int × Int),
 CellsAt w40.drew b46 (b47 + t1.toNat * (2 : Nat)) [Value.int IntKind.i64 x48.1, Value.int IntKind.i64 x48.2] ∧
 CX Try.prog t4.1
 { toList := Value.agg #[Value.int IntKind.i64 x45.1, Value.int IntKind.i64 x45.2] :: Value.agg #[Value.int IntKind.i64 x48.1, Value.int IntKind.i64 x48.2] :: t4.snd.1 }
 w40.drew fun (v49 : Value) (w50 : World) =>
 ∃ (n51 : Int), v49 = Value.int IntKind.i64 n51 ∧ IfB (!decide (n51 < (0 : Int))) (([] : List Nat) = [] ∧ ∃ (b52 : Nat), b52 < b38 ∧ y36 b52 (IntKind.i64.wrap (n39 - (1 : Int))) w50) (([] : List Nat) = [] ∧ y35 n39 w50))
 (([] : List Nat) = [] ∧ y35 n39 w40.drew)
def F82j6 (t0 : Sl) (t1 : Int) (t4 : Nat × Array Value) (x84 : Int × Int) (y88 : Int → World → Prop) (y89 : Nat → Int → World → Prop) (b91 : Nat) (n92 : Int) (w93 : World) : Prop :=
 IfB (decide (n92 ≤ x84.snd))
 (∃ (b96 : Nat),
 ∃ (b97 : Nat),
 t0.1 = some ({ block := b96, off := b97 } : Addr) ∧
 ((0 : Int) ≤ n92 ∧ n92 < (t0.2 : Int)) ∧
 ∃ (x98 : Int × Int),
 CellsAt w93.drew b96 (b97 + n92.toNat * (2 : Nat)) [Value.int IntKind.i64 x98.1, Value.int IntKind.i64 x98.2] ∧
 ∃ (b99 : Nat),
 ∃ (b100 : Nat),
 t0.1 = some ({ block := b99, off := b100 } : Addr) ∧
 ((0 : Int) ≤ t1 ∧ t1 < (t0.2 : Int)) ∧
 ∃ (x101 : Int × Int),
 CellsAt w93.drew b99 (b100 + t1.toNat * (2 : Nat)) [Value.int IntKind.i64 x101.1, Value.int IntKind.i64 x101.2] ∧
 CX Try.prog t4.1
 { toList := Value.agg #[Value.int IntKind.i64 x98.1, Value.int IntKind.i64 x98.2] :: Value.agg #[Value.int IntKind.i64 x101.1, Value.int IntKind.i64 x101.2] :: t4.snd.1 }
 w93.drew fun (v102 : Value) (w103 : World) =>
 ∃ (n104 : Int),
 v102 = Value.int IntKind.i64 n104 ∧ IfB (decide (n104 < (0 : Int))) (([] : List Nat) = [] ∧ ∃ (b105 : Nat), b105 < b91 ∧ y89 b105 (IntKind.i64.wrap (n92 + (1 : Int))) w103) (([] : List Nat) = [] ∧ y88 n92 w103))
 (([] : List Nat) = [] ∧ y88 n92 w93.drew)
def F82j8 (t0 : Sl) (t1 : Int) (t4 : Nat × Array Value) (n106 : Int) (y110 : Int → World → Prop) (y111 : Nat → Int → World → Prop) (b113 : Nat) (n114 : Int) (w115 : World) : Prop :=
 IfB (decide (n106 ≤ n114))
 (∃ (b118 : Nat),
 ∃ (b119 : Nat),
 t0.1 = some ({ block := b118, off := b119 } : Addr) ∧
 ((0 : Int) ≤ n114 ∧ n114 < (t0.2 : Int)) ∧
 ∃ (x120 : Int × Int),
 CellsAt w115.drew b118 (b119 + n114.toNat * (2 : Nat)) [Value.int IntKind.i64 x120.1, Value.int IntKind.i64 x120.2] ∧
 ∃ (b121 : Nat),
 ∃ (b122 : Nat),
 t0.1 = some ({ block := b121, off := b122 } : Addr) ∧
 ((0 : Int) ≤ t1 ∧ t1 < (t0.2 : Int)) ∧
 ∃ (x123 : Int × Int),
 CellsAt w115.drew b121 (b122 + t1.toNat * (2 : Nat)) [Value.int IntKind.i64 x123.1, Value.int IntKind.i64 x123.2] ∧
 CX Try.prog t4.1
 { toList := Value.agg #[Value.int IntKind.i64 x120.1, Value.int IntKind.i64 x120.2] :: Value.agg #[Value.int IntKind.i64 x123.1, Value.int IntKind.i64 x123.2] :: t4.snd.1 }
 w115.drew fun (v124 : Value) (w125 : World) =>
 ∃ (n126 : Int),
 v124 = Value.int IntKind.i64 n126 ∧ IfB (!decide (n126 < (0 : Int))) (([] : List Nat) = [] ∧ ∃ (b127 : Nat), b127 < b113 ∧ y111 b127 (IntKind.i64.wrap (n114 - (1 : Int))) w125) (([] : List Nat) = [] ∧ y110 n114 w125))
 (([] : List Nat) = [] ∧ y110 n114 w115.drew)
def F82j9 (t0 : Sl) (t1 : Int) (R : Value → World → Prop) (y81 : Nat → Int × Int → World → Prop) (b83 : Nat) (n106 : Int) (n128 : Int) (w129 : World) : Prop :=
 IfB (decide (n128 < n106))
 (∃ (b132 : Nat),
 ∃ (b133 : Nat),
 t0.1 = some ({ block := b132, off := b133 } : Addr) ∧
 ((0 : Int) ≤ t1 ∧ t1 < (t0.2 : Int)) ∧
 ∃ (x134 : Int × Int),
 CellsAt w129.drew b132 (b133 + t1.toNat * (2 : Nat)) [Value.int IntKind.i64 x134.1, Value.int IntKind.i64 x134.2] ∧
 ∃ (b135 : Nat),
 ∃ (b136 : Nat),
 t0.1 = some ({ block := b135, off := b136 } : Addr) ∧
 ((0 : Int) ≤ n128 ∧ n128 < (t0.2 : Int)) ∧
 ∃ (x137 : Int × Int),
 CellsAt w129.drew b135 (b136 + n128.toNat * (2 : Nat)) [Value.int IntKind.i64 x137.1, Value.int IntKind.i64 x137.2] ∧
 ∃ (b138 : Nat),
 ∃ (b139 : Nat),
 t0.1 = some ({ block := b138, off := b139 } : Addr) ∧
 ((0 : Int) ≤ n128 ∧ n128 < (t0.2 : Int)) ∧
 #[Value.int IntKind.i64 x134.1, Value.int IntKind.i64 x134.2].size = (2 : Nat) ∧
 StoreP w129.drew b138 (b139 + n128.toNat * (2 : Nat)) [Value.int IntKind.i64 x134.1, Value.int IntKind.i64 x134.2] fun (w140 : World) =>
 ∃ (b141 : Nat),
 ∃ (b142 : Nat),
 t0.1 = some ({ block := b141, off := b142 } : Addr) ∧
 ((0 : Int) ≤ t1 ∧ t1 < (t0.2 : Int)) ∧
 #[Value.int IntKind.i64 x137.1, Value.int IntKind.i64 x137.2].size = (2 : Nat) ∧
 StoreP w140 b141 (b142 + t1.toNat * (2 : Nat)) [Value.int IntKind.i64 x137.1, Value.int IntKind.i64 x137.2] fun (w143 : World) =>
 R (Value.tuple #[Value.int IntKind.i64 n128, Value.bool false]) w143)
 (∃ (b144 : Nat),
 ∃ (b145 : Nat),
 t0.1 = some ({ block := b144, off := b145 } : Addr) ∧
 ((0 : Int) ≤ n128 ∧ n128 < (t0.2 : Int)) ∧
 ∃ (x146 : Int × Int),
 CellsAt w129.drew b144 (b145 + n128.toNat * (2 : Nat)) [Value.int IntKind.i64 x146.1, Value.int IntKind.i64 x146.2] ∧
 ∃ (b147 : Nat),
 ∃ (b148 : Nat),
 t0.1 = some ({ block := b147, off := b148 } : Addr) ∧
 ((0 : Int) ≤ n106 ∧ n106 < (t0.2 : Int)) ∧
 ∃ (x149 : Int × Int),
 CellsAt w129.drew b147 (b148 + n106.toNat * (2 : Nat)) [Value.int IntKind.i64 x149.1, Value.int IntKind.i64 x149.2] ∧
 ∃ (b150 : Nat),
 ∃ (b151 : Nat),
 t0.1 = some ({ block := b150, off := b151 } : Addr) ∧
 ((0 : Int) ≤ n106 ∧ n106 < (t0.2 : Int)) ∧
 #[Value.int IntKind.i64 x146.1, Value.int IntKind.i64 x146.2].size = (2 : Nat) ∧
 StoreP w129.drew b150 (b151 + n106.toNat * (2 : Nat)) [Value.int IntKind.i64 x146.1, Value.int IntKind.i64 x146.2] fun (w152 : World) =>
 ∃ (b153 : Nat),
 ∃ (b154 : Nat),
 t0.1 = some ({ block := b153, off := b154 } : Addr) ∧
 ((0 : Int) ≤ n128 ∧ n128 < (t0.2 : Int)) ∧
 #[Value.int IntKind.i64 x149.1, Value.int IntKind.i64 x149.2].size = (2 : Nat) ∧
 StoreP w152 b153 (b154 + n128.toNat * (2 : Nat)) [Value.int IntKind.i64 x149.1, Value.int IntKind.i64 x149.2] fun (w155 : World) =>
 ([] : List Nat) = [] ∧ ∃ (b156 : Nat), b156 < b83 ∧ y81 b156 (IntKind.i64.wrap (n106 + (1 : Int)), IntKind.i64.wrap (n128 - (1 : Int))) w155)
def F82j5 (t0 : Sl) (t1 : Int) (t4 : Nat × Array Value) (R : Value → World → Prop) (y81 : Nat → Int × Int → World → Prop) (b83 : Nat) (x84 : Int × Int) (w85 : World) : Prop :=
 ∃ (y88 : Int → World → Prop),
 (∃ (y89 : Nat → Int → World → Prop),
 (∃ (b90 : Nat), y89 b90 x84.1 w85) ∧
 ∀ (b91 : Nat) (n92 : Int) (w93 : World) (y94 : Nat → Value),
 y89 b91 n92 w93 →
 (F82j6 t0 t1 t4 x84 y88 y89 b91 n92 w93)) ∧
 ∀ (n106 : Int) (w107 : World) (y108 : Nat → Value),
 y88 n106 w107 →
 ∃ (y110 : Int → World → Prop),
 (∃ (y111 : Nat → Int → World → Prop),
 (∃ (b112 : Nat), y111 b112 x84.2 w107) ∧
 ∀ (b113 : Nat) (n114 : Int) (w115 : World) (y116 : Nat → Value),
 y111 b113 n114 w115 →
 (F82j8 t0 t1 t4 n106 y110 y111 b113 n114 w115)) ∧
 ∀ (n128 : Int) (w129 : World) (y130 : Nat → Value),
 y110 n128 w129 →
 (F82j9 t0 t1 R y81 b83 n106 n128 w129)
def F82j4 (t0 : Sl) (t1 : Int) (t4 : Nat × Array Value) (R : Value → World → Prop) (n31 : Int) (n53 : Int) (w54 : World) : Prop :=
 IfB (decide (n53 < n31))
 (∃ (b57 : Nat),
 ∃ (b58 : Nat),
 t0.1 = some ({ block := b57, off := b58 } : Addr) ∧
 ((0 : Int) ≤ t1 ∧ t1 < (t0.2 : Int)) ∧
 ∃ (x59 : Int × Int),
 CellsAt w54.drew b57 (b58 + t1.toNat * (2 : Nat)) [Value.int IntKind.i64 x59.1, Value.int IntKind.i64 x59.2] ∧
 ∃ (b60 : Nat),
 ∃ (b61 : Nat),
 t0.1 = some ({ block := b60, off := b61 } : Addr) ∧
 ((0 : Int) ≤ n53 ∧ n53 < (t0.2 : Int)) ∧
 ∃ (x62 : Int × Int),
 CellsAt w54.drew b60 (b61 + n53.toNat * (2 : Nat)) [Value.int IntKind.i64 x62.1, Value.int IntKind.i64 x62.2] ∧
 ∃ (b63 : Nat),
 ∃ (b64 : Nat),
 t0.1 = some ({ block := b63, off := b64 } : Addr) ∧
 ((0 : Int) ≤ n53 ∧ n53 < (t0.2 : Int)) ∧
 #[Value.int IntKind.i64 x59.1, Value.int IntKind.i64 x59.2].size = (2 : Nat) ∧
 StoreP w54.drew b63 (b64 + n53.toNat * (2 : Nat)) [Value.int IntKind.i64 x59.1, Value.int IntKind.i64 x59.2] fun (w65 : World) =>
 ∃ (b66 : Nat),
 ∃ (b67 : Nat),
 t0.1 = some ({ block := b66, off := b67 } : Addr) ∧
 ((0 : Int) ≤ t1 ∧ t1 < (t0.2 : Int)) ∧
 #[Value.int IntKind.i64 x62.1, Value.int IntKind.i64 x62.2].size = (2 : Nat) ∧
 StoreP w65 b66 (b67 + t1.toNat * (2 : Nat)) [Value.int IntKind.i64 x62.1, Value.int IntKind.i64 x62.2] fun (w68 : World) =>
 R (Value.tuple #[Value.int IntKind.i64 n53, Value.bool true]) w68)
 (∃ (b69 : Nat),
 ∃ (b70 : Nat),
 t0.1 = some ({ block := b69, off := b70 } : Addr) ∧
 ((0 : Int) ≤ n53 ∧ n53 < (t0.2 : Int)) ∧
 ∃ (x71 : Int × Int),
 CellsAt w54.drew b69 (b70 + n53.toNat * (2 : Nat)) [Value.int IntKind.i64 x71.1, Value.int IntKind.i64 x71.2] ∧
 ∃ (b72 : Nat),
 ∃ (b73 : Nat),
 t0.1 = some ({ block := b72, off := b73 } : Addr) ∧
 ((0 : Int) ≤ n31 ∧ n31 < (t0.2 : Int)) ∧
 ∃ (x74 : Int × Int),
 CellsAt w54.drew b72 (b73 + n31.toNat * (2 : Nat)) [Value.int IntKind.i64 x74.1, Value.int IntKind.i64 x74.2] ∧
 ∃ (b75 : Nat),
 ∃ (b76 : Nat),
 t0.1 = some ({ block := b75, off := b76 } : Addr) ∧
 ((0 : Int) ≤ n31 ∧ n31 < (t0.2 : Int)) ∧
 #[Value.int IntKind.i64 x71.1, Value.int IntKind.i64 x71.2].size = (2 : Nat) ∧
 StoreP w54.drew b75 (b76 + n31.toNat * (2 : Nat)) [Value.int IntKind.i64 x71.1, Value.int IntKind.i64 x71.2] fun (w77 : World) =>
 ∃ (b78 : Nat),
 ∃ (b79 : Nat),
 t0.1 = some ({ block := b78, off := b79 } : Addr) ∧
 ((0 : Int) ≤ n53 ∧ n53 < (t0.2 : Int)) ∧
 #[Value.int IntKind.i64 x74.1, Value.int IntKind.i64 x74.2].size = (2 : Nat) ∧
 StoreP w77 b78 (b79 + n53.toNat * (2 : Nat)) [Value.int IntKind.i64 x74.1, Value.int IntKind.i64 x74.2] fun (w80 : World) =>
 ∃ (y81 : Nat → Int × Int → World → Prop),
 (∃ (b82 : Nat), y81 b82 (IntKind.i64.wrap (n31 + (1 : Int)), IntKind.i64.wrap (n53 - (1 : Int))) w80) ∧
 ∀ (b83 : Nat) (x84 : Int × Int) (w85 : World) (y86 : Nat → Value),
 y81 b83 x84 w85 →
 (F82j5 t0 t1 t4 R y81 b83 x84 w85))
def F82 (t0 : Sl) (t1 : Int) (t2 : Int) (t3 : Int) (t4 : Nat × Array Value) (w : World) (R : Value → World → Prop) : Prop :=
 ∃ (b1 : Nat),
 ∃ (b2 : Nat),
 t0.1 = some ({ block := b1, off := b2 } : Addr) ∧
 ((0 : Int) ≤ t3 ∧ t3 < (t0.2 : Int)) ∧
 ∃ (x3 : Int × Int),
 CellsAt w.drew b1 (b2 + t3.toNat * (2 : Nat)) [Value.int IntKind.i64 x3.1, Value.int IntKind.i64 x3.2] ∧
 ∃ (b4 : Nat),
 ∃ (b5 : Nat),
 t0.1 = some ({ block := b4, off := b5 } : Addr) ∧
 ((0 : Int) ≤ t1 ∧ t1 < (t0.2 : Int)) ∧
 ∃ (x6 : Int × Int),
 CellsAt w.drew b4 (b5 + t1.toNat * (2 : Nat)) [Value.int IntKind.i64 x6.1, Value.int IntKind.i64 x6.2] ∧
 ∃ (b7 : Nat),
 ∃ (b8 : Nat),
 t0.1 = some ({ block := b7, off := b8 } : Addr) ∧
 ((0 : Int) ≤ t1 ∧ t1 < (t0.2 : Int)) ∧
 #[Value.int IntKind.i64 x3.1, Value.int IntKind.i64 x3.2].size = (2 : Nat) ∧
 StoreP w.drew b7 (b8 + t1.toNat * (2 : Nat)) [Value.int IntKind.i64 x3.1, Value.int IntKind.i64 x3.2] fun (w9 : World) =>
 ∃ (b10 : Nat),
 ∃ (b11 : Nat),
 t0.1 = some ({ block := b10, off := b11 } : Addr) ∧
 ((0 : Int) ≤ t3 ∧ t3 < (t0.2 : Int)) ∧
 #[Value.int IntKind.i64 x6.1, Value.int IntKind.i64 x6.2].size = (2 : Nat) ∧
 StoreP w9 b10 (b11 + t3.toNat * (2 : Nat)) [Value.int IntKind.i64 x6.1, Value.int IntKind.i64 x6.2] fun (w12 : World) =>
 ∃ (y13 : Int → World → Prop),
 (∃ (y14 : Nat → Int → World → Prop),
 (∃ (b15 : Nat), y14 b15 (IntKind.i64.wrap (t1 + (1 : Int))) w12) ∧
 ∀ (b16 : Nat) (n17 : Int) (w18 : World) (y19 : Nat → Value),
 y14 b16 n17 w18 →
 (F82j1 t0 t1 t2 t4 y13 y14 b16 n17 w18)) ∧
 ∀ (n31 : Int) (w32 : World) (y33 : Nat → Value),
 y13 n31 w32 →
 ∃ (y35 : Int → World → Prop),
 (∃ (y36 : Nat → Int → World → Prop),
 (∃ (b37 : Nat), y36 b37 (IntKind.i64.wrap (t2 - (1 : Int))) w32) ∧
 ∀ (b38 : Nat) (n39 : Int) (w40 : World) (y41 : Nat → Value),
 y36 b38 n39 w40 →
 (F82j3 t0 t1 t4 n31 y35 y36 b38 n39 w40)) ∧
 ∀ (n53 : Int) (w54 : World) (y55 : Nat → Value),
 y35 n53 w54 →
 (F82j4 t0 t1 t4 R n31 n53 w54)
theorem F82_ok (t0 : Sl) (t1 : Int) (t2 : Int) (t3 : Int) (t4 : Nat × Array Value) (w : World) (R : Value → World → Prop) (h : F82 t0 t1 t2 t3 t4 w R) : CW Try.prog 82 #[Value.slice t0.1 t0.2 t0.3, Value.int IntKind.i64 t1, Value.int IntKind.i64 t2, Value.int IntKind.i64 t3, Value.func (Fn.func t4.1) #[] t4.2] w R :=
  call_of tbOk mixed en82 Try.func82 rfl (.node (.nil) (.node (.draw (.st 0 (.st 1 (.st 2 (.st 3 (.st 4 (.st 5 (.st 6 (.st 7 (.st 8 (.st 9 (.st 10 (.st 11 (.st 12 (.ac 13 [3, 2] (.st 14 (.ac 15 [] (.fin) (.non))) (.non)))))))))))))))) (.node (.nil) (.join [(12, .one (.int .i64))] [32, 33, 34, 35, 36, 37, 38, 39, 40, 41, 42, 43, 44, 45, 46, 47, 48, 49, 12] (.loop [(12, .one (.int .i64))] [32, 33, 34, 35, 36, 37, 38, 39, 40, 41, 42, 43, 44, 45, 46, 47, 48, 49, 12] (.node (.node (.draw (.st 0 (.st 1 (.st 2 (.st 3 (.st 4 (.st 5 (.st 6 (.st 7 (.st 8 (.st 9 (.st 10 (.st 11 (.st 12 (.ac 13 [] (.st 14 (.st 15 (.fin))) (.non)))))))))))))))) (.nil)) (.nil))) (.join [(13, .one (.int .i64))] [50, 51, 52, 53, 54, 55, 56, 57, 58, 59, 60, 61, 62, 63, 64, 65, 66, 67, 68, 13] (.loop [(13, .one (.int .i64))] [50, 51, 52, 53, 54, 55, 56, 57, 58, 59, 60, 61, 62, 63, 64, 65, 66, 67, 68, 13] (.node (.node (.draw (.st 0 (.st 1 (.st 2 (.st 3 (.st 4 (.st 5 (.st 6 (.st 7 (.st 8 (.st 9 (.st 10 (.st 11 (.st 12 (.ac 13 [] (.st 14 (.st 15 (.st 16 (.fin)))) (.non)))))))))))))))) (.nil)) (.nil))) (.node (.node (.nil) (.node (.node (.draw (.st 0 (.st 1 (.st 2 (.st 3 (.st 4 (.st 5 (.st 6 (.st 7 (.st 8 (.st 9 (.st 10 (.st 11 (.st 12 (.ac 13 [3, 2] (.st 14 (.ac 15 [] (.fin) (.non))) (.non)))))))))))))))) (.nil)) (.nil))) (.node (.draw (.st 0 (.st 1 (.st 2 (.st 3 (.st 4 (.st 5 (.st 6 (.st 7 (.st 8 (.st 9 (.st 10 (.st 11 (.st 12 (.ac 13 [3, 2] (.st 14 (.ac 15 [] (.fin) (.non))) (.non)))))))))))))))) (.node (.nil) (.node (.nil) (.node (.loop [(12, .one (.int .i64)), (13, .one (.int .i64))] [105, 106, 107, 108, 109, 110, 111, 112, 113, 114, 115, 116, 117, 118, 119, 120, 121, 122, 12, 123, 124, 125, 126, 127, 128, 129, 130, 131, 132, 133, 134, 135, 136, 137, 138, 139, 140, 141, 13, 142, 143, 144, 145, 146, 147, 148, 149, 150, 151, 152, 153, 154, 155, 156, 157, 158, 159, 160, 161, 162] (.join [(12, .one (.int .i64))] [105, 106, 107, 108, 109, 110, 111, 112, 113, 114, 115, 116, 117, 118, 119, 120, 121, 122, 12] (.loop [(12, .one (.int .i64))] [105, 106, 107, 108, 109, 110, 111, 112, 113, 114, 115, 116, 117, 118, 119, 120, 121, 122, 12] (.node (.node (.draw (.st 0 (.st 1 (.st 2 (.st 3 (.st 4 (.st 5 (.st 6 (.st 7 (.st 8 (.st 9 (.st 10 (.st 11 (.st 12 (.ac 13 [] (.st 14 (.st 15 (.fin))) (.non)))))))))))))))) (.nil)) (.nil))) (.join [(13, .one (.int .i64))] [123, 124, 125, 126, 127, 128, 129, 130, 131, 132, 133, 134, 135, 136, 137, 138, 139, 140, 141, 13] (.loop [(13, .one (.int .i64))] [123, 124, 125, 126, 127, 128, 129, 130, 131, 132, 133, 134, 135, 136, 137, 138, 139, 140, 141, 13] (.node (.node (.draw (.st 0 (.st 1 (.st 2 (.st 3 (.st 4 (.st 5 (.st 6 (.st 7 (.st 8 (.st 9 (.st 10 (.st 11 (.st 12 (.ac 13 [] (.st 14 (.st 15 (.st 16 (.fin)))) (.non)))))))))))))))) (.nil)) (.nil))) (.node (.nil) (.node (.draw (.st 0 (.st 1 (.st 2 (.st 3 (.st 4 (.st 5 (.st 6 (.st 7 (.st 8 (.st 9 (.st 10 (.st 11 (.st 12 (.ac 13 [3, 2] (.st 14 (.ac 15 [] (.fin) (.non))) (.non)))))))))))))))) (.nil)))))) (.node (.draw (.st 0 (.st 1 (.st 2 (.st 3 (.st 4 (.st 5 (.st 6 (.st 7 (.st 8 (.st 9 (.st 10 (.st 11 (.st 12 (.ac 13 [3, 2] (.st 14 (.ac 15 [] (.fin) (.non))) (.non)))))))))))))))) (.nil)))))))))))) (by kernel_rfl) (Nat.le_of_ble_eq_true (by kernel_rfl)) (Eq.mp (α := F82 t0 t1 t2 t3 t4 w R) (by kernel_rfl) h)
def F103j2 (t0 : Sl) (t3 : Int) (t4 : Nat × Array Value) (R : Value → World → Prop) (y1 : Nat → Int → World → Prop) (b3 : Nat) (n4 : Int) (n18 : Int) (w19 : World) : Prop :=
 ∃ (b22 : Nat),
 ∃ (b23 : Nat),
 t0.1 = some ({ block := b22, off := b23 } : Addr) ∧
 ((0 : Int) ≤ IntKind.i64.wrap (t3 + n4) ∧ IntKind.i64.wrap (t3 + n4) < (t0.2 : Int)) ∧
 ∃ (x24 : Int × Int),
 CellsAt w19.drew b22 (b23 + (IntKind.i64.wrap (t3 + n4)).toNat * (2 : Nat)) [Value.int IntKind.i64 x24.1, Value.int IntKind.i64 x24.2] ∧
 ∃ (b25 : Nat),
 ∃ (b26 : Nat),
 t0.1 = some ({ block := b25, off := b26 } : Addr) ∧
 ((0 : Int) ≤ IntKind.i64.wrap (t3 + n18) ∧ IntKind.i64.wrap (t3 + n18) < (t0.2 : Int)) ∧
 ∃ (x27 : Int × Int),
 CellsAt w19.drew b25 (b26 + (IntKind.i64.wrap (t3 + n18)).toNat * (2 : Nat)) [Value.int IntKind.i64 x27.1, Value.int IntKind.i64 x27.2] ∧
 CX Try.prog t4.1
 { toList := Value.agg #[Value.int IntKind.i64 x24.1, Value.int IntKind.i64 x24.2] :: Value.agg #[Value.int IntKind.i64 x27.1, Value.int IntKind.i64 x27.2] :: t4.snd.1 }
 w19.drew fun (v28 : Value) (w29 : World) =>
 ∃ (n30 : Int),
 v28 = Value.int IntKind.i64 n30 ∧
 IfB (!decide (n30 < (0 : Int))) (R (Value.tuple #[]) w29)
 (∃ (b31 : Nat),
 ∃ (b32 : Nat),
 t0.1 = some ({ block := b31, off := b32 } : Addr) ∧
 ((0 : Int) ≤ IntKind.i64.wrap (t3 + n18) ∧ IntKind.i64.wrap (t3 + n18) < (t0.2 : Int)) ∧
 ∃ (x33 : Int × Int),
 CellsAt w29.drew b31 (b32 + (IntKind.i64.wrap (t3 + n18)).toNat * (2 : Nat)) [Value.int IntKind.i64 x33.1, Value.int IntKind.i64 x33.2] ∧
 ∃ (b34 : Nat),
 ∃ (b35 : Nat),
 t0.1 = some ({ block := b34, off := b35 } : Addr) ∧
 ((0 : Int) ≤ IntKind.i64.wrap (t3 + n4) ∧ IntKind.i64.wrap (t3 + n4) < (t0.2 : Int)) ∧
 ∃ (x36 : Int × Int),
 CellsAt w29.drew b34 (b35 + (IntKind.i64.wrap (t3 + n4)).toNat * (2 : Nat)) [Value.int IntKind.i64 x36.1, Value.int IntKind.i64 x36.2] ∧
 ∃ (b37 : Nat),
 ∃ (b38 : Nat),
 t0.1 = some ({ block := b37, off := b38 } : Addr) ∧
 ((0 : Int) ≤ IntKind.i64.wrap (t3 + n4) ∧ IntKind.i64.wrap (t3 + n4) < (t0.2 : Int)) ∧
 #[Value.int IntKind.i64 x33.1, Value.int IntKind.i64 x33.2].size = (2 : Nat) ∧
 StoreP w29.drew b37 (b38 + (IntKind.i64.wrap (t3 + n4)).toNat * (2 : Nat)) [Value.int IntKind.i64 x33.1, Value.int IntKind.i64 x33.2] fun (w39 : World) =>
 ∃ (b40 : Nat),
 ∃ (b41 : Nat),
 t0.1 = some ({ block := b40, off := b41 } : Addr) ∧
 ((0 : Int) ≤ IntKind.i64.wrap (t3 + n18) ∧ IntKind.i64.wrap (t3 + n18) < (t0.2 : Int)) ∧
 #[Value.int IntKind.i64 x36.1, Value.int IntKind.i64 x36.2].size = (2 : Nat) ∧
 StoreP w39 b40 (b41 + (IntKind.i64.wrap (t3 + n18)).toNat * (2 : Nat)) [Value.int IntKind.i64 x36.1, Value.int IntKind.i64 x36.2] fun (w42 : World) =>
 ([] : List Nat) = [] ∧ ∃ (b43 : Nat), b43 < b3 ∧ y1 b43 n18 w42)
def F103j1 (t0 : Sl) (t2 : Int) (t3 : Int) (t4 : Nat × Array Value) (R : Value → World → Prop) (y1 : Nat → Int → World → Prop) (b3 : Nat) (n4 : Int) (w5 : World) : Prop :=
 IfB (decide (t2 ≤ IntKind.i64.wrap (IntKind.i64.wrap ((2 : Int) * n4) + (1 : Int)))) (R (Value.tuple #[]) w5)
 (∃ (y8 : Int → World → Prop),
 IfB (decide (IntKind.i64.wrap (IntKind.i64.wrap (IntKind.i64.wrap ((2 : Int) * n4) + (1 : Int)) + (1 : Int)) < t2))
 (∃ (b9 : Nat),
 ∃ (b10 : Nat),
 t0.1 = some ({ block := b9, off := b10 } : Addr) ∧
 ((0 : Int) ≤ IntKind.i64.wrap (t3 + IntKind.i64.wrap (IntKind.i64.wrap ((2 : Int) * n4) + (1 : Int))) ∧
 IntKind.i64.wrap (t3 + IntKind.i64.wrap (IntKind.i64.wrap ((2 : Int) * n4) + (1 : Int))) < (t0.2 : Int)) ∧
 ∃ (x11 : Int × Int),
 CellsAt w5.drew b9 (b10 + (IntKind.i64.wrap (t3 + IntKind.i64.wrap (IntKind.i64.wrap ((2 : Int) * n4) + (1 : Int)))).toNat * (2 : Nat)) [Value.int IntKind.i64 x11.1, Value.int IntKind.i64 x11.2] ∧
 ∃ (b12 : Nat),
 ∃ (b13 : Nat),
 t0.1 = some ({ block := b12, off := b13 } : Addr) ∧
 ((0 : Int) ≤ IntKind.i64.wrap (IntKind.i64.wrap (t3 + IntKind.i64.wrap (IntKind.i64.wrap ((2 : Int) * n4) + (1 : Int))) + (1 : Int)) ∧
 IntKind.i64.wrap (IntKind.i64.wrap (t3 + IntKind.i64.wrap (IntKind.i64.wrap ((2 : Int) * n4) + (1 : Int))) + (1 : Int)) < (t0.2 : Int)) ∧
 ∃ (x14 : Int × Int),
 CellsAt w5.drew b12 (b13 + (IntKind.i64.wrap (IntKind.i64.wrap (t3 + IntKind.i64.wrap (IntKind.i64.wrap ((2 : Int) * n4) + (1 : Int))) + (1 : Int))).toNat * (2 : Nat))
 [Value.int IntKind.i64 x14.1, Value.int IntKind.i64 x14.2] ∧
 CX Try.prog t4.1
 { toList := Value.agg #[Value.int IntKind.i64 x11.1, Value.int IntKind.i64 x11.2] :: Value.agg #[Value.int IntKind.i64 x14.1, Value.int IntKind.i64 x14.2] :: t4.snd.1 }
 w5.drew fun (v15 : Value) (w16 : World) =>
 ∃ (n17 : Int),
 v15 = Value.int IntKind.i64 n17 ∧
 IfB (decide (n17 < (0 : Int))) (([] : List Nat) = [] ∧ y8 (IntKind.i64.wrap (IntKind.i64.wrap (IntKind.i64.wrap ((2 : Int) * n4) + (1 : Int)) + (1 : Int))) w16)
 (([] : List Nat) = [] ∧ y8 (IntKind.i64.wrap (IntKind.i64.wrap ((2 : Int) * n4) + (1 : Int))) w16))
 (([] : List Nat) = [] ∧ y8 (IntKind.i64.wrap (IntKind.i64.wrap ((2 : Int) * n4) + (1 : Int))) w5.drew) ∧
 ∀ (n18 : Int) (w19 : World) (y20 : Nat → Value),
 y8 n18 w19 →
 (F103j2 t0 t3 t4 R y1 b3 n4 n18 w19))
def F103 (t0 : Sl) (t1 : Int) (t2 : Int) (t3 : Int) (t4 : Nat × Array Value) (w : World) (R : Value → World → Prop) : Prop :=
 ∃ (y1 : Nat → Int → World → Prop),
 (∃ (b2 : Nat), y1 b2 t1 w) ∧
 ∀ (b3 : Nat) (n4 : Int) (w5 : World) (y6 : Nat → Value),
 y1 b3 n4 w5 →
 (F103j1 t0 t2 t3 t4 R y1 b3 n4 w5)
theorem F103_ok (t0 : Sl) (t1 : Int) (t2 : Int) (t3 : Int) (t4 : Nat × Array Value) (w : World) (R : Value → World → Prop) (h : F103 t0 t1 t2 t3 t4 w R) : CW Try.prog 103 #[Value.slice t0.1 t0.2 t0.3, Value.int IntKind.i64 t1, Value.int IntKind.i64 t2, Value.int IntKind.i64 t3, Value.func (Fn.func t4.1) #[] t4.2] w R :=
  call_of tbOk mixed en103 Try.func103 rfl (.node (.nil) (.loop [(10, .one (.int .i64))] [13, 14, 15, 11, 16, 17, 18, 19, 20, 21, 22, 23, 24, 25, 26, 27, 28, 29, 30, 31, 32, 33, 34, 35, 36, 37, 38, 39, 40, 41, 42, 43, 44, 45, 46, 47, 48, 49, 50, 51, 52, 53, 54, 55, 56, 57, 58, 59, 60, 61, 62, 63, 64, 65, 66, 67, 68, 69, 70, 71, 72, 73, 74, 75, 76, 77, 78, 79, 80, 81, 10] (.node (.nil) (.node (.nil) (.join [(11, .one (.int .i64))] [19, 20, 21, 22, 23, 24, 25, 26, 27, 28, 29, 30, 31, 32, 33, 34, 35, 36, 37, 38, 39, 40, 41, 42, 11] (.node (.draw (.st 0 (.st 1 (.st 2 (.st 3 (.st 4 (.st 5 (.st 6 (.st 7 (.st 8 (.st 9 (.st 10 (.st 11 (.st 12 (.st 13 (.st 14 (.st 15 (.st 16 (.st 17 (.st 18 (.ac 19 [] (.st 20 (.st 21 (.fin))) (.non)))))))))))))))))))))) (.nil)) (.node (.node (.draw (.st 0 (.st 1 (.st 2 (.st 3 (.st 4 (.st 5 (.st 6 (.st 7 (.st 8 (.st 9 (.st 10 (.st 11 (.st 12 (.ac 13 [] (.st 14 (.st 15 (.fin))) (.non)))))))))))))))) (.nil)) (.node (.draw (.st 0 (.st 1 (.st 2 (.st 3 (.st 4 (.st 5 (.st 6 (.st 7 (.st 8 (.st 9 (.st 10 (.st 11 (.st 12 (.st 13 (.st 14 (.st 15 (.st 16 (.st 17 (.st 18 (.st 19 (.st 20 (.ac 21 [7, 6, 5, 4] (.st 22 (.ac 23 [] (.fin) (.non))) (.non)))))))))))))))))))))))) (.nil)))))))) (by kernel_rfl) (Nat.le_of_ble_eq_true (by kernel_rfl)) (Eq.mp (α := F103 t0 t1 t2 t3 t4 w R) (by kernel_rfl) h)
def F106 (t0 : Sl) (t1 : Int) (t2 : Option Addr) (t3 : Nat × Array Value) (w : World) (R : Value → World → Prop) : Prop :=
 CX Try.prog (107 : Nat)
 #[Value.slice t0.1 t0.2 t0.3, Value.int IntKind.i64 (IntKind.i64.wrap (t1 - (1 : Int))), Value.int IntKind.i64 t1, Value.int IntKind.i64 (IntKind.i64.wrap (t1 + (1 : Int))), Value.pointer t2,
 Value.func (Fn.func t3.1) #[] t3.2]
 w fun (v1 : Value) (w2 : World) => ∃ (n3 : Int), v1 = Value.int IntKind.i64 n3 ∧ R (Value.int IntKind.i64 n3) w2
theorem F106_ok (t0 : Sl) (t1 : Int) (t2 : Option Addr) (t3 : Nat × Array Value) (w : World) (R : Value → World → Prop) (h : F106 t0 t1 t2 t3 w R) : CW Try.prog 106 #[Value.slice t0.1 t0.2 t0.3, Value.int IntKind.i64 t1, Value.pointer t2, Value.func (Fn.func t3.1) #[] t3.2] w R :=
  call_of tbOk mixed en106 Try.func106 rfl (.nil) (by kernel_rfl) (Nat.le_of_ble_eq_true (by kernel_rfl)) (Eq.mp (α := F106 t0 t1 t2 t3 w R) (by kernel_rfl) h)
def F107 (t0 : Sl) (t1 : Int) (t2 : Int) (t3 : Int) (t4 : Option Addr) (t5 : Nat × Array Value) (w : World) (R : Value → World → Prop) : Prop :=
 CX Try.prog (114 : Nat) #[Value.slice t0.1 t0.2 t0.3, Value.int IntKind.i64 t1, Value.int IntKind.i64 t2, Value.pointer t4, Value.func (Fn.func t5.1) #[] t5.2] w
 fun (v1 : Value) (w2 : World) =>
 ∃ (x3 : Int × Int),
 v1 = Value.tuple #[Value.int IntKind.i64 x3.1, Value.int IntKind.i64 x3.2] ∧
 CX Try.prog (114 : Nat) #[Value.slice t0.1 t0.2 t0.3, Value.int IntKind.i64 x3.2, Value.int IntKind.i64 t3, Value.pointer t4, Value.func (Fn.func t5.1) #[] t5.2] w2
 fun (v4 : Value) (w5 : World) =>
 ∃ (x6 : Int × Int),
 v4 = Value.tuple #[Value.int IntKind.i64 x6.1, Value.int IntKind.i64 x6.2] ∧
 CX Try.prog (114 : Nat) #[Value.slice t0.1 t0.2 t0.3, Value.int IntKind.i64 x3.1, Value.int IntKind.i64 x6.1, Value.pointer t4, Value.func (Fn.func t5.1) #[] t5.2] w5
 fun (v7 : Value) (w8 : World) => ∃ (x9 : Int × Int), v7 = Value.tuple #[Value.int IntKind.i64 x9.1, Value.int IntKind.i64 x9.2] ∧ R (Value.int IntKind.i64 x9.2) w8
theorem F107_ok (t0 : Sl) (t1 : Int) (t2 : Int) (t3 : Int) (t4 : Option Addr) (t5 : Nat × Array Value) (w : World) (R : Value → World → Prop) (h : F107 t0 t1 t2 t3 t4 t5 w R) : CW Try.prog 107 #[Value.slice t0.1 t0.2 t0.3, Value.int IntKind.i64 t1, Value.int IntKind.i64 t2, Value.int IntKind.i64 t3, Value.pointer t4, Value.func (Fn.func t5.1) #[] t5.2] w R :=
  call_of tbOk mixed en107 Try.func107 rfl (.nil) (by kernel_rfl) (Nat.le_of_ble_eq_true (by kernel_rfl)) (Eq.mp (α := F107 t0 t1 t2 t3 t4 t5 w R) (by kernel_rfl) h)
def F114 (t0 : Sl) (t1 : Int) (t2 : Int) (t3 : Option Addr) (t4 : Nat × Array Value) (w : World) (R : Value → World → Prop) : Prop :=
 ∃ (b1 : Nat),
 ∃ (b2 : Nat),
 t0.1 = some ({ block := b1, off := b2 } : Addr) ∧
 ((0 : Int) ≤ t2 ∧ t2 < (t0.2 : Int)) ∧
 ∃ (x3 : Int × Int),
 CellsAt w.drew b1 (b2 + t2.toNat * (2 : Nat)) [Value.int IntKind.i64 x3.1, Value.int IntKind.i64 x3.2] ∧
 ∃ (b4 : Nat),
 ∃ (b5 : Nat),
 t0.1 = some ({ block := b4, off := b5 } : Addr) ∧
 ((0 : Int) ≤ t1 ∧ t1 < (t0.2 : Int)) ∧
 ∃ (x6 : Int × Int),
 CellsAt w.drew b4 (b5 + t1.toNat * (2 : Nat)) [Value.int IntKind.i64 x6.1, Value.int IntKind.i64 x6.2] ∧
 CX Try.prog t4.1
 { toList := Value.agg #[Value.int IntKind.i64 x3.1, Value.int IntKind.i64 x3.2] :: Value.agg #[Value.int IntKind.i64 x6.1, Value.int IntKind.i64 x6.2] :: t4.snd.1 } w.drew
 fun (v7 : Value) (w8 : World) =>
 ∃ (n9 : Int),
 v7 = Value.int IntKind.i64 n9 ∧
 IfB (decide (n9 < (0 : Int)))
 (∃ (b10 : Nat),
 ∃ (b11 : Nat),
 t3 = some ({ block := b10, off := b11 } : Addr) ∧
 ∃ (n12 : Int),
 w8.cell? ({ block := b10, off := b11 } : Addr) = some (Value.int IntKind.i64 n12) ∧
 ∃ (b13 : Nat),
 ∃ (b14 : Nat),
 t3 = some ({ block := b13, off := b14 } : Addr) ∧
 #[Value.int IntKind.i64 (IntKind.i64.wrap (n12 + (1 : Int)))].size = (1 : Nat) ∧
 StoreP w8 b13 b14 [Value.int IntKind.i64 (IntKind.i64.wrap (n12 + (1 : Int)))] fun (w15 : World) => R (Value.tuple #[Value.int IntKind.i64 t2, Value.int IntKind.i64 t1]) w15)
 (R (Value.tuple #[Value.int IntKind.i64 t1, Value.int IntKind.i64 t2]) w8)
theorem F114_ok (t0 : Sl) (t1 : Int) (t2 : Int) (t3 : Option Addr) (t4 : Nat × Array Value) (w : World) (R : Value → World → Prop) (h : F114 t0 t1 t2 t3 t4 w R) : CW Try.prog 114 #[Value.slice t0.1 t0.2 t0.3, Value.int IntKind.i64 t1, Value.int IntKind.i64 t2, Value.pointer t3, Value.func (Fn.func t4.1) #[] t4.2] w R :=
  call_of tbOk mixed en114 Try.func114 rfl (.node (.nil) (.node (.node (.draw (.st 0 (.st 1 (.st 2 (.st 3 (.st 4 (.st 5 (.st 6 (.st 7 (.st 8 (.ac 9 [] (.st 10 (.fin)) (.non)))))))))))) (.nil)) (.nil))) (by kernel_rfl) (Nat.le_of_ble_eq_true (by kernel_rfl)) (Eq.mp (α := F114 t0 t1 t2 t3 t4 w R) (by kernel_rfl) h)
end Go.Proofs.Ytmmhbjbaallkfaa.Gx
