/- Package keys: plain. -/
import Derived.Test.YtmmhbjbaallkfaaKeyA
namespace Go.Proofs.Ytmmhbjbaallkfaa.Gx
open Go
set_option linter.unusedSimpArgs false
set_option linter.unusedVariables false

def NormS (l : List Spn) : Prop := l.Pairwise (fun a b => a.2 + 1 < b.1) ∧ ∀ x ∈ l, mayS x
structure PlI (os ds : List Spn) : Prop where
  norm : NormS os
  has : ∀ k, hasS os k ↔ hasS ds k
  lo : ∀ y ∈ os, ∃ d ∈ ds, y.1 = d.1
  len : os.length ≤ ds.length
theorem PlI.nil : PlI [] [] := ⟨⟨.nil, by simp⟩, fun k => Iff.rfl, by simp, Nat.le_refl _⟩
theorem hasS_append (a b : List Spn) (k : Int) : hasS (a ++ b) k ↔ hasS a k ∨ hasS b k := by
  unfold hasS
  constructor
  · rintro ⟨x, hx, h⟩
    rcases List.mem_append.1 hx with hx | hx
    · exact .inl ⟨x, hx, h⟩
    · exact .inr ⟨x, hx, h⟩
  · rintro (⟨x, hx, h⟩ | ⟨x, hx, h⟩)
    · exact ⟨x, List.mem_append.2 (.inl hx), h⟩
    · exact ⟨x, List.mem_append.2 (.inr hx), h⟩
theorem hasS_one (s : Spn) (k : Int) : hasS [s] k ↔ mayS s ∧ s.1 ≤ k ∧ k ≤ s.2 := by simp [hasS]
theorem PlI.add {os ds : List Spn} {s : Spn} (h : PlI os ds) (hs : mayS s) (hb : ∀ y ∈ os, y.2 + 1 < s.1) : PlI (os ++ [s]) (ds ++ [s]) := by
  refine ⟨⟨List.pairwise_append.2 ⟨h.norm.1, by simp, fun a ha b hb' => ?_⟩, fun x hx => ?_⟩, fun k => ?_, fun y hy => ?_, ?_⟩
  · rw [List.mem_singleton.1 hb']; exact hb a ha
  · rcases List.mem_append.1 hx with hx | hx
    · exact h.norm.2 x hx
    · rw [List.mem_singleton.1 hx]; exact hs
  · rw [hasS_append, hasS_append, h.has]
  · rcases List.mem_append.1 hy with hy | hy
    · obtain ⟨d, hd, e⟩ := h.lo y hy
      exact ⟨d, List.mem_append.2 (.inl hd), e⟩
    · exact ⟨y, List.mem_append.2 (.inr hy), rfl⟩
  · have := h.len; simp; omega
theorem PlI.grow {pre ds : List Spn} {l s : Spn} {m : Int} (h : PlI (pre ++ [l]) ds) (hs : mayS s) (hd : ∀ d ∈ ds, d.1 ≤ s.1) (hb : s.1 ≤ l.2 + 1) (hm : m = if l.2 < s.2 then s.2 else l.2) : PlI (pre ++ [(l.1, m)]) (ds ++ [s]) := by
  obtain ⟨d0, hd0, e0⟩ := h.lo l (by simp)
  have hls : l.1 ≤ s.1 := by rw [e0]; exact hd d0 hd0
  have hml := h.norm.2 l (by simp)
  obtain ⟨p1, _, p3⟩ := List.pairwise_append.1 h.norm.1
  have hm1 : l.2 ≤ m := by subst hm; split <;> omega
  have hm2 : s.2 ≤ m := by subst hm; split <;> omega
  have hm3 : m = s.2 ∨ m = l.2 := by subst hm; split <;> simp
  have hmm : mayS (l.1, m) := by unfold mayS at *; dsimp only; omega
  refine ⟨⟨List.pairwise_append.2 ⟨p1, by simp, fun a ha b hb' => ?_⟩, fun x hx => ?_⟩, fun k => ?_, fun y hy => ?_, ?_⟩
  · rw [List.mem_singleton.1 hb']; exact p3 a ha l (by simp)
  · rcases List.mem_append.1 hx with hx | hx
    · exact h.norm.2 x (by simp [hx])
    · rw [List.mem_singleton.1 hx]; exact hmm
  · rw [hasS_append, hasS_append, ← h.has, hasS_append, hasS_one, hasS_one, hasS_one, or_assoc]
    refine or_congr Iff.rfl ?_
    unfold mayS at *
    dsimp only at *
    omega
  · rcases List.mem_append.1 hy with hy | hy
    · obtain ⟨d, hd, e⟩ := h.lo y (by simp [hy])
      exact ⟨d, List.mem_append.2 (.inl hd), e⟩
    · rw [List.mem_singleton.1 hy]
      exact ⟨d0, List.mem_append.2 (.inl hd0), e0⟩
  · have := h.len; simp at this ⊢; omega
theorem hasS_filter (xs : List Spn) (k : Int) : hasS (xs.filter fun x => !!decide (mayS x)) k ↔ hasS xs k := by
  unfold hasS
  constructor
  · rintro ⟨x, hx, h⟩; exact ⟨x, (List.mem_filter.1 hx).1, h⟩
  · rintro ⟨x, hx, h⟩; exact ⟨x, List.mem_filter.2 ⟨hx, by simp [h.1]⟩, h⟩
theorem hasS_perm {xs ys : List Spn} (h : xs.Perm ys) (k : Int) : hasS xs k ↔ hasS ys k := by
  unfold hasS
  exact ⟨fun ⟨x, hx, r⟩ => ⟨x, h.mem_iff.1 hx, r⟩, fun ⟨x, hx, r⟩ => ⟨x, h.mem_iff.2 hx, r⟩⟩
theorem last_split {os : List Spn} (h : 0 < os.length) : ∃ pre l, os = pre ++ [l] := by
  have hne : os ≠ [] := List.length_pos_iff.1 h
  exact ⟨os.dropLast, os.getLast hne, (List.dropLast_concat_getLast hne).symm⟩

theorem c74 {w : World} {t : Sl} {xs : List SpL} (h : Rd w t 1 (xs.map hS)) (hx : ∀ x ∈ xs, Rd w x.1 2 (x.2.flatMap sv)) (hl : sumS xs ≤ 1000000) (hn : xs.length ≤ 1000) :
    CW Try.prog 74 #[slV t] w fun v w' => ∃ t' os, v = slV t' ∧ NormS os ∧ (∀ k, hasS os k ↔ hasS (xs.flatMap (·.2)) k) ∧ OwS w' t' 2 (os.flatMap sv) ∧ os.length ≤ sumS xs ∧ Ext w w' ∧ ∀ j ∈ blk t', w.heap.size ≤ j := by
  refine F74_ok t w _ ((c98 h hx hl hn).use ?_)
  rintro _ w2 ⟨s3, rfl, ho3, e2, hb3⟩
  obtain ⟨all, hall⟩ : ∃ all, all = xs.flatMap (·.2) := ⟨_, rfl⟩
  have hal : all.length = sumS xs := by rw [hall]; rfl
  rw [← hall] at ho3 ⊢
  refine ⟨s3, rfl, (c97 (t1 := (99, #[])) (q := fun x => !decide (mayS x)) ho3 (by omega) fun x W hx hC R' hR => (c99 x W).use fun v w' ⟨hv, e⟩ => hv ▸ hR w' e).use ?_⟩
  rintro _ w5 ⟨s6, rfl, ho6, hp6, hC5⟩
  have hb6 : blk s6 = blk s3 := by simp [blk, hp6]
  have e5 : Ext w w5 := e2.then hC5 fun i hi h => by have := hb3 i h; omega
  have hfl := List.length_filter_le (fun x : Spn => !!decide (mayS x)) all
  refine ⟨s6, rfl, (SfS.c101 c102 ho6 (by omega)).use ?_⟩
  rintro _ w8 ⟨rfl, zs, hperm, hsort, ho8, hC8⟩
  have e8 : Ext w w8 := e5.then hC8 fun i hi h => by rw [hb6] at h; have := hb3 i h; omega
  have hzl : zs.length ≤ sumS xs := by have := hperm.length_eq; omega
  have hzm : ∀ x ∈ zs, mayS x := fun x hx => by
    have := (List.mem_filter.1 (hperm.mem_iff.1 hx)).2
    simpa using this
  have hzk : ∀ k, hasS zs k ↔ hasS all k := fun k => (hasS_perm hperm k).trans (hasS_filter all k)
  have hzn := owsN sv_len (by omega) ho8
  have hzs : ∀ i (hi : i < zs.length), ∀ d ∈ zs.take i, d.1 ≤ zs[i].1 := fun i hi d hd => by
    obtain ⟨j, hj, rfl⟩ := List.getElem_of_mem hd
    rw [List.length_take] at hj
    rw [List.getElem_take]
    exact List.pairwise_iff_getElem.1 hsort j i (by omega) hi (by omega)
  have hR8 := ho8.rd
  refine ⟨(), rfl, fun n x W => ∃ (i : Nat) (so : Sl) (os : List Spn), i ≤ zs.length ∧ n + i = zs.length ∧ x = (so, (i : Int)) ∧ PlI os (zs.take i) ∧ OwS W so 2 (os.flatMap sv) ∧ Ext w8 W ∧ ∀ j ∈ blk so, w8.heap.size ≤ j,
    ⟨zs.length, 0, ⟨none, 0, 0⟩, [], Nat.zero_le _, rfl, rfl, .nil, .nil _ _, Ch.refl _ _, by simp [blk]⟩, ?_⟩
  rintro n _ W g ⟨i, so, os, hi, hni, rfl, hI, ho, hE, hbo⟩
  have hon := owsN sv_len (by omega) ho
  have hol := hI.len
  rw [List.length_take] at hol
  unfold F74j1
  refine IfB.dec (fun hlt => ?_) fun hge => ?_
  · have hi' : i < zs.length := by
      have : (i : Int) < (s6.n : Int) := hlt
      omega
    have hz : zs[i]? = some zs[i] := List.getElem?_eq_getElem hi'
    have hms := hzm _ (List.getElem_mem hi')
    have hds := hzs i hi'
    generalize zs[i] = s at hz hms hds
    obtain ⟨a, o, hp, hc⟩ := (hR8.ext hE).elem (i := i) (by omega) (by omega) (flatGet sv_len hz)
    have htk := take_succ_get hz
    refine ⟨a, o, hp, (⟨by omega, by omega⟩ : (0 : Int) ≤ (i : Int) ∧ (i : Int) < (s6.n : Int)), s, by rw [Int.toNat_natCast]; exact hc, boxSp rfl fun b20 w22 hb20 hs22 h22 e22 _ => ?_⟩
    have ho22 := ho.ext e22
    have hi1 : IntKind.i64.wrap ((i : Int) + 1) = ((i + 1 : Nat) : Int) := by rw [wrap_of (by omega) (by omega)]; rfl
    -- a span more
    have app : (∀ y ∈ os, y.2 + 1 < s.1) → ∀ (w2 : World), Ext w22 w2 → ∃ (x42 : Int × Int), CellsAt w2 b20 0 [.int .i64 x42.1, .int .i64 x42.2] ∧ 1 * 2 ≤ 16777216 ∧
        AllocP w2 (.cells #[.int .i64 x42.1, .int .i64 x42.2] 51) fun b43 w44 => ∃ l45, ReadC w44 (some ⟨b43, 0, none⟩) (1 * 2) l45 ∧
        AppendP tt51 51 w44 so.1 so.2 so.3 1 l45 fun s46 w47 => ([] : List Nat) = [] ∧ ∃ b48, b48 < n ∧ ∃ (i' : Nat) (so' : Sl) (os : List Spn), i' ≤ zs.length ∧ b48 + i' = zs.length ∧ (({ p := s46.1, n := s46.2, c := s46.3 } : Sl), IntKind.i64.wrap ((i : Int) + 1)) = (so', (i' : Int)) ∧ PlI os (zs.take i') ∧ OwS w47 so' 2 (os.flatMap sv) ∧ Ext w8 w47 ∧ ∀ j ∈ blk so', w8.heap.size ≤ j := by
      intro hb w2 e2
      refine ⟨s, cellsAt_of (e2.at h22) fun i v hv => by simpa using hv, by decide, fun b43 w44 h44 => ?_⟩
      have e44 : Ext w22 w44 := e2.trans (h44.ch _)
      refine (ho22.ext e44).lit (new := sv s) (T' := 51) h44.new rfl (sv_one s) rfl rfl (by omega) (by decide) fun s' w' ho' hn' hC' hb' => ⟨rfl, n - 1, by omega, i + 1, s', os ++ [s], hi', by omega, by rw [hi1], ?_, ?_, ?_, ?_⟩
      · rw [htk]; exact hI.add hms hb
      · rw [List.flatMap_append]; simpa using ho'
      · exact (hE.trans (e22.trans e44)).then hC' fun j hj h => by have := hbo j h; omega
      · intro j hj
        rcases hb' j hj with h | h
        · exact hbo j h
        · have := hE.size; have := (e22.trans e44).size; omega
    refine IfB.dec (fun h0 => ?_) fun h0 => ?_
    · have h0' : 0 < os.length := by
        have : (0 : Int) < (so.n : Int) := h0
        omega
      obtain ⟨pre, l, hos⟩ := last_split h0'
      have hol' : os.length = pre.length + 1 := by rw [hos]; simp
      have hgl : os[pre.length]? = some l := by rw [hos]; simp
      have hml : mayS l := hI.norm.2 l (by rw [hos]; simp)
      have hd : ∀ W2, Ext w22 W2 → ∃ a2, so.p = some ⟨a2, 0, none⟩ ∧ CellsAt W2 a2 (pre.length * 2) [.int .i64 l.1, .int .i64 l.2] := fun W2 e => (ho22.ext e).elem (i := pre.length) (by omega) (flatGet sv_len hgl)
      have ed := extDrew w22
      have edd := ed.trans (extDrew w22.drew)
      obtain ⟨a2, hp2, hc2⟩ := hd _ ed
      obtain ⟨a3, hp3, hc3⟩ := hd _ edd
      rw [hp2] at hp3; cases hp3
      have hwn : IntKind.i64.wrap ((so.n : Int) - 1) = ((pre.length : Nat) : Int) := by rw [wrap_of (by omega) (by omega)]; omega
      have hw2 : IntKind.i64.wrap (l.2 + 1) = l.2 + 1 := by unfold mayS at hml; rw [wrap_of (by omega) (by omega)]
      have q0 : ∀ W2, Ext w22 W2 → W2.cell? ⟨b20, 0 + 0, none⟩ = some (.int .i64 s.1) := fun W2 e => by rw [cell_of (e.at h22)]; rfl
      have q1 : ∀ W2, Ext w22 W2 → W2.cell? ⟨b20, 0 + 1, none⟩ = some (.int .i64 s.2) := fun W2 e => by rw [cell_of (e.at h22)]; rfl
      refine ⟨s.1, q0 _ ed, a2, 0, hp2, ?_, l.2, ?_, ?_⟩
      · dsimp only; rw [hwn]; omega
      · dsimp only; rw [hwn, Int.toNat_natCast, Nat.zero_add]; exact hc2.snd
      · rw [hw2]
        refine IfB.dec (fun hle => ?_) fun hgt => ?_
        · refine ⟨a2, 0, hp2, ?_, l.2, ?_, s.2, q1 _ edd, a2, 0, hp2, ?_, rfl, ?_⟩
          · dsimp only; rw [hwn]; omega
          · dsimp only; rw [hwn, Int.toNat_natCast, Nat.zero_add]; exact hc3.snd
          · dsimp only; rw [hwn]; omega
          · dsimp only; rw [hwn, Int.toNat_natCast, Nat.zero_add]
            refine (ho22.ext edd).store (vs := [.int .i64 (if l.2 < s.2 then s.2 else l.2)]) hp2 (by simp; omega) (by intro v hv; rw [List.mem_singleton.1 hv]; rfl) fun w33 ho33 hC33 => ?_
            refine ⟨rfl, n - 1, by omega, i + 1, so, pre ++ [(l.1, if l.2 < s.2 then s.2 else l.2)], hi', by omega, by rw [hi1], ?_, ?_, ?_, hbo⟩
            · rw [htk]; exact PlI.grow (hos ▸ hI) hms hds hle rfl
            · have e1 : (os.flatMap sv) = (pre.flatMap sv ++ [.int .i64 l.1]) ++ [.int .i64 l.2] := by rw [hos]; simp
              have e2 : (pre.flatMap sv ++ [Value.int .i64 l.1]).length = pre.length * 2 + 1 := by simp [flatLen sv_len]
              rw [e1, ← e2, List.take_append_of_le_length (Nat.le_refl _), List.take_length, List.drop_of_length_le (by simp)] at ho33
              simpa using ho33
            · exact (hE.trans (e22.trans edd)).then hC33 fun j hj e => by have := hbo j (by simp [blk, hp2, e]); omega
        · unfold F74k1
          refine app (fun y hy => ?_) _ ed
          have hgt' : l.2 + 1 < s.1 := by omega
          rw [hos] at hy
          rcases List.mem_append.1 hy with hy | hy
          · have := (List.pairwise_append.1 (hos ▸ hI.norm.1)).2.2 y hy l (by simp)
            unfold mayS at hml; omega
          · rw [List.mem_singleton.1 hy]; exact hgt'
    · have h0' : os = [] := List.length_eq_zero_iff.1 (by
        have : ¬ (0 : Int) < (so.n : Int) := h0
        omega)
      unfold F74k1
      exact app (by rw [h0']; simp) _ (extDrew _)
  · have hi' : i = zs.length := by
      have : ¬ (i : Int) < (s6.n : Int) := hge
      omega
    subst hi'
    rw [List.take_length] at hI
    exact ⟨so, os, rfl, hI.norm, fun k => (hI.has k).trans (hzk k), ho, by omega, e8.trans hE, fun j hj => by have := hbo j hj; have := e8.size; omega⟩
end Go.Proofs.Ytmmhbjbaallkfaa.Gx
