/- The statements on pages: PagesOrder. -/
import Derived.Test.YtopecljhehcldaaPagesX
import Derived.Test.YtopecljhehcldaaPagesL
namespace Go.Proofs.Ytopecljhehcldaa.Gx
open Go
set_option linter.unusedSimpArgs false
set_option linter.unusedVariables false

theorem drop_get {α : Type} {l : List α} {i : Nat} {x : α} (h : l[i]? = some x) : l.drop i = x :: l.drop (i + 1) := by
  obtain ⟨hi, rfl⟩ := List.getElem?_eq_some_iff.1 h
  exact List.drop_eq_getElem_cons hi

theorem pagesOrder (w : World) {l : List Pr} {m : Pr} {c : Value} {cs : Array Value} (h : rep (fun _ => True) w (.sl (.pair (.int .i64) (.int .i64))) l [c]) (h' : rep (fun _ => True) w (.pair (.int .i64) (.int .i64)) m cs.toList) :
    CW Try.prog 6 #[c, .agg cs] w fun r w' => r = .bool true ∧ Ext w w' := by
  obtain ⟨s, rfl, hr, hsn, _, _⟩ := open_pairs h
  obtain ⟨mk, mv⟩ := m
  obtain ⟨c1, c2, hcs, ⟨rfl, r1⟩, ⟨rfl, r2⟩⟩ := h'
  have ec : cs = #[.int .i64 mk, .int .i64 mv] := by
    apply Array.toList_inj.1; rw [hcs]; rfl
  subst ec
  refine F6_ok s (mk, mv) w _ ?_
  intro b1 w2 h2
  have e2 : Ext w w2 := h2.ch _
  have p2 := h2.here; have z2 := h2.size
  refine (c18 w2).use ?_
  rintro _ w4 ⟨rfl, e4⟩
  have x4 := e2.trans e4
  have m4 := e4.at h2.new
  have hcell : ∀ (w' : World) {T : TypeId}, w'.heap[b1]? = some (.cells #[.int .i64 mk, .int .i64 mv] T (0, 0)) → w'.cell? ⟨b1, 0, none⟩ = some (.int .i64 mk) ∧ w'.cell? ⟨b1, 1, none⟩ = some (.int .i64 mv) := fun w' T hw => by
    refine ⟨?_, ?_⟩ <;> rw [cell_of hw] <;> rfl
  refine ⟨true, rfl, IfB.no rfl (IfB.dec (fun _ => ⟨rfl, x4⟩) fun hl => ?_)⟩
  have hl : l.length ≤ 60 := by omega
  refine ⟨fun n x W => ∃ i : Nat, i ≤ l.length ∧ n + i = l.length ∧ x = (i : Int) ∧ Ext w4 W ∧ ((l.take i).map (·.1)).Nodup ∧ ∀ y ∈ l.take i, y.1 ≠ mk, ⟨l.length, 0, Nat.zero_le _, rfl, rfl, Ch.refl _ _, .nil, by simp⟩, ?_⟩
  rintro n _ w10 g ⟨i, hi, hni, rfl, e10, hnd, hmk⟩
  have x10 := x4.trans e10
  have m10 := e10.at m4
  unfold F6j1
  refine IfB.dec (fun hlt => ?_) (fun hge => ?_)
  · have hi' : i < l.length := by omega
    have ed := extDrew w10
    have hx : l[i]? = some l[i] := List.getElem?_eq_getElem hi'
    have ht := take_succ_get hx
    generalize l[i] = x at hx ht
    obtain ⟨a, o, ha, hc⟩ := pageR ((hr.ext x10).ext ed) hx
    have h0 := hc 0 _ rfl
    have hb : (0 : Int) ≤ (i : Int) ∧ (i : Int) < (s.n : Int) := ⟨by omega, by omega⟩
    refine ⟨a, o, ha, hb, x.1, by rw [Int.toNat_natCast]; exact h0, mk, (hcell _ (ed.at m10)).1, IfB.intro (fun _ => ⟨rfl, x10.trans ed⟩) fun hne => ?_⟩
    have hne : x.1 ≠ mk := beq_eq_false_iff_ne.1 hne
    refine ⟨fun n x' W => ∃ k : Nat, k ≤ i ∧ n + k = i ∧ x' = (k : Int) ∧ Ext w10 W ∧ ∀ y ∈ l.take k, y.1 ≠ x.1, ⟨i, 0, Nat.zero_le _, rfl, rfl, ed, by simp⟩, ?_⟩
    rintro n' _ w21 g' ⟨k, hk, hnk, rfl, e21, hdk⟩
    unfold F6j2
    refine IfB.dec (fun hlt2 => ?_) (fun hge2 => ?_)
    · have hk' : k < i := by omega
      have ed2 := extDrew w21
      have hy : l[k]? = some (l[k]'(by omega)) := List.getElem?_eq_getElem (by omega)
      have ht2 := take_succ_get hy
      generalize l[k]'(by omega) = y at hy ht2
      have hr21 := ((hr.ext x10).ext e21).ext ed2
      obtain ⟨a, o, ha, hc⟩ := pageR hr21 hx
      obtain ⟨a2, o2, ha2, hc2⟩ := pageR hr21 hy
      have h0 := hc 0 _ rfl
      have h1 := hc2 0 _ rfl
      refine ⟨a2, o2, ha2, (⟨by omega, by omega⟩ : (0 : Int) ≤ (k : Int) ∧ (k : Int) < (s.n : Int)), y.1, by rw [Int.toNat_natCast]; exact h1, a, o, ha, hb, x.1, by rw [Int.toNat_natCast]; exact h0, IfB.intro (fun _ => ⟨rfl, (x10.trans e21).trans ed2⟩) fun hne2 => ?_⟩
      refine ⟨rfl, n' - 1, by omega, k + 1, by omega, by omega, by rw [wrap_of (by omega) (by omega)]; rfl, e21.trans ed2, ?_⟩
      rw [ht2]
      intro z hz
      rcases List.mem_append.1 hz with hz | hz
      · exact hdk z hz
      · rw [List.mem_singleton.1 hz]; exact beq_eq_false_iff_ne.1 hne2
    · have : k = i := by omega
      subst this
      refine ⟨rfl, n - 1, by omega, k + 1, by omega, by omega, by rw [wrap_of (by omega) (by omega)]; rfl, e10.trans e21, ?_, ?_⟩
      · rw [ht, List.map_append, List.nodup_append]
        refine ⟨hnd, by simp, ?_⟩
        intro a ha b hb
        obtain ⟨z, hz, rfl⟩ := List.mem_map.1 ha
        simp only [List.map_cons, List.map_nil, List.mem_singleton] at hb
        rw [hb]; exact hdk z hz
      · rw [ht]
        intro z hz
        rcases List.mem_append.1 hz with hz | hz
        · exact hmk z hz
        · rw [List.mem_singleton.1 hz]; exact hne
  have hi2 : i = l.length := by omega
  subst hi2
  rw [List.take_length] at hnd hmk
  have z4 := e4.size; have z10 := e10.size
  refine ⟨fun n x W => ∃ (j : Nat) (u : Sl), j ≤ l.length ∧ n + j = l.length ∧ x = (u, (l.length : Int) - 1 - (j : Int)) ∧ OwS W u 2 (prs (l.drop (l.length - j)).reverse) ∧ Ext w10 W ∧ ∀ q ∈ blk u, w10.heap.size ≤ q, ⟨l.length, 0, ⟨none, 0, 0⟩, Nat.zero_le _, rfl, ?_, ?_, Ch.refl _ _, by simp [blk]⟩, ?_⟩
  · rw [show s.2 = s.n from rfl, hsn, wrap_of (by omega) (by omega)]; simp
  · rw [Nat.sub_zero, List.drop_length]; exact .nil _ _
  rintro n _ w36 g ⟨j, u, hj, hnj, rfl, hou, e36, hbu⟩
  have z36 := e36.size
  have hun : u.n = j := by have := hou.len; rw [prs_len, List.length_reverse, List.length_drop] at this; omega
  have x36 := x10.trans e36
  have m36 := e36.at m10
  unfold F6j3
  refine IfB.dec (fun hlt => ?_) (fun hge => ?_)
  · have hj' : j < l.length := by
      have : (0 : Int) ≤ (l.length : Int) - 1 - (j : Int) := hlt
      omega
    have hx : l[l.length - 1 - j]? = some (l[l.length - 1 - j]'(by omega)) := List.getElem?_eq_getElem (by omega)
    have ht := drop_get hx
    generalize l[l.length - 1 - j]'(by omega) = x at hx ht
    obtain ⟨a, o, ha, hc⟩ := pageR (hr.ext x36) hx
    have en : ((l.length : Int) - 1 - (j : Int)).toNat = l.length - 1 - j := by omega
    refine ⟨a, o, ha, (⟨by omega, by omega⟩ : (0 : Int) ≤ (l.length : Int) - 1 - (j : Int) ∧ (l.length : Int) - 1 - (j : Int) < (s.n : Int)), x, ?_, by decide, fun b42 w43 h43 => ?_⟩
    · show CellsAt w36 a (o + ((l.length : Int) - 1 - (j : Int)).toNat * 2) _
      rw [en]; exact hc
    have e43 : Ext w36 w43 := h43.ch _
    have z43 := h43.size; have p43 := h43.here
    refine (hou.ext e43).lit (new := prV x) h43.new rfl (prV_one x) rfl rfl (by omega) (by decide) fun s' w46 ho' hn' hc' hb' => ⟨rfl, n - 1, by omega, j + 1, s', by omega, by omega, ?_, ?_, ?_, ?_⟩
    · show (_, _) = (_, _)
      congr 1
      show IntKind.i64.wrap ((l.length : Int) - 1 - (j : Int) - 1) = _
      rw [wrap_of (by omega) (by omega)]; omega
    · rw [show l.length - (j + 1) = l.length - 1 - j by omega, ht, List.reverse_cons, prs_append, show l.length - 1 - j + 1 = l.length - j by omega]
      exact ho'
    · exact (e36.trans e43).then hc' fun q hq h => by have := hbu q h; omega
    · intro q hq
      rcases hb' q hq with h | h
      · exact hbu q h
      · omega
  have hj2 : j = l.length := by
    have : ¬ (0 : Int) ≤ (l.length : Int) - 1 - (j : Int) := hge
    omega
  subst hj2
  rw [Nat.sub_self, List.drop_zero] at hou
  refine (c19 (hr.ext x36) (by omega)).use ?_
  rintro _ w49 ⟨b50, rfl, hA49, e49⟩
  have z49 := e49.size
  refine ⟨_, rfl, (c19 (hou.ext e49).rd (by rw [List.length_reverse]; omega)).use ?_⟩
  rintro _ w52 ⟨b53, rfl, hB52, e52⟩
  have z52 := e52.size
  have hA52 := (hA49.mono (B := fun q => w36.heap.size ≤ q ∧ q < w49.heap.size) fun q hq h => ⟨h, hq⟩).ext e52
  have x52 : Ext w36 w52 := e49.trans e52
  have m52 := x52.at m36
  have hIa : Inv (putL [] l) := putL_inv Inv.nil
  have hIb : Inv (putL [] l.reverse) := putL_inv Inv.nil
  refine ⟨_, rfl, mk, (hcell _ m52).1, mv, (hcell _ m52).2, (c28 hB52 hIb mk mv).use ?_⟩
  rintro _ w57 ⟨rfl, hB57, hC57⟩
  have z57 := hC57.size
  have m57 := hC57.at m52 (by omega)
  have hI57 := putQ_inv hIb mk mv
  refine ⟨_, rfl, mk, (hcell _ m57).1, (c27 hB57 hI57 mk).use ?_⟩
  rintro _ w61 ⟨rfl, hB61, hC61⟩
  have z61 := hC61.size
  have hI61 := delQ_inv hI57 mk
  have hA61 := (hA52.ch hC57 fun q hq h h' => by omega).ch hC61 fun q hq h h' => by
    rcases h' with h' | h' <;> omega
  obtain ⟨sa, pa, hSa, hPa, _⟩ := hA61
  obtain ⟨sb, pb, hSb, hPb, _⟩ := hB61
  obtain ⟨srca, qa1, qa2, _, qa3⟩ := srcOf hSa hPa hIa
  obtain ⟨srcb, qb1, qb2, _, qb3⟩ := srcOf hSb hPb hI61
  have h25 := c25 (qa3 _ hSa) (qb3 _ hSb) (by rw [qa2]; exact hIa.flen) (by rw [qb2]; exact hI61.flen)
  rw [qa1, qa2, qb1, qb2] at h25
  refine ⟨_, rfl, h25.use ?_⟩
  rintro _ w64 ⟨rfl, e64⟩
  have fa : (putL [] l).flatten = l.foldl insR [] := putL_flat Inv.nil
  have fb : (putL [] l.reverse).flatten = l.foldl insR [] := by rw [putL_flat Inv.nil]; exact fold_rev hnd
  have hk : ∀ x ∈ l.foldl insR [], x.1 ≠ mk := fun x hx => by
    rcases key_fold hx with h | h
    · exact hmk x h
    · cases h
  have eq : (putL [] l).flatten = (delQ (if 0 ≤ mk ∧ mk ≤ 999 then putP (putL [] l.reverse) mk mv else putL [] l.reverse) mk).flatten := by
    rw [delQ_flat hI57, fa]
    split
    · rw [putP_flat hIb, fb, del_ins (srt_fold .nil) hk]
    · rw [fb, delS_none hk]
  refine ⟨_, rfl, IfB.yes (by rw [eq]; simp) ⟨?_, ?_⟩⟩
  · congr 1
    unfold delR
    split
    · rename_i hr
      rw [if_pos ((has_iff (putP_inv hIb hr) mk).2 ⟨mv, by rw [putP_flat hIb, mem_insS_iff hIb.sorted]; exact .inl rfl⟩)]; rfl
    · rfl
  · exact ((((x36.trans e49).trans e52).then hC57 fun q hq h => by have := x10.size; omega).then hC61 fun q hq h => by
      have := x10.size
      rcases h with h | h <;> omega).trans e64
end Go.Proofs.Ytopecljhehcldaa.Gx
