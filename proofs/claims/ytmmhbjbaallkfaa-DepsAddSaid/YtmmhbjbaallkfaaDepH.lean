/- Package gimmallaw15: DepsAdd. -/
import Derived.Test.YtmmhbjbaallkfaaDepG
namespace Go.Proofs.Ytmmhbjbaallkfaa.Gx
open Go
set_option linter.unusedSimpArgs false
set_option linter.unusedVariables false

/-- A history is copied behind nothing. -/
theorem app1 {W : World} {s t : Sl} {hs : List Nd} (ho : OwS W s 6 []) (hn : s.n = 0) (hH : HIn W t hs) (hr : t.n * 80 ≤ 140737488351232) {K : Sl → World → Prop}
    (hK : ∀ s' W', OwS W' s' 6 (hs.flatMap nL) → s'.n = hs.length → Ch (fun i => i ∈ blk s) W W' → (∀ i ∈ blk s', i ∈ blk s ∨ W.heap.size ≤ i) → K s' W') :
    ∃ l, ReadC W t.1 (t.2 * 6) l ∧ AppendP tt27 27 W s.1 s.2 s.3 t.2 l K := by
  refine ⟨_, hH.rd.2, ho.append (cnt := t.n) rfl rfl hH.rd.1 (flatOne nL_one _) ⟨by omega, ?_⟩ fun s' W' h1 h2 h3 h4 _ => hK s' W' h1 (by have := hH.n; omega) h3 h4⟩
  show 2 * (s.n + t.n) * 80 ≤ _
  omega
/-- A node behind it. -/
theorem app2 {W : World} {s : Sl} {cs : List Value} {x : NdV} {b : Nat} {T : TypeId} (ho : OwS W s 6 cs) (hr : s.n * 80 ≤ 140737488351232) (hb : W.heap[b]? = some (.cells (nC x).toArray T (0, 0))) {K : Sl → World → Prop}
    (hK : ∀ s' W', OwS W' s' 6 (cs ++ nC x) → Ch (fun i => i ∈ blk s) W W' → K s' W') :
    ∃ l, ReadC W (some ⟨b, 0, none⟩) (1 * 6) l ∧ AppendP tt27 27 W s.1 s.2 s.3 1 l K := by
  refine ⟨nC x, ⟨rfl, cellsAt_of hb fun i v hv => by simpa using hv⟩, ho.append (cnt := 1) rfl rfl rfl (nC_one x) ⟨by omega, ?_⟩ fun s' W' h1 h2 h3 h4 _ => hK s' W' h1 h3⟩
  show 2 * (s.n + 1) * 80 ≤ _
  omega

/-- append(append([]api.Node{}, h...), n), in whatever order its parts are reckoned. -/
theorem orders {w : World} {t : Sl} {hs : List Nd} {n : Nd} {b1 : Nat} {T1 : TypeId} (hH : HIn w t hs) (hN : NdIn w n) (hr : t.n * 80 ≤ 140737488351232) (hb1 : w.heap[b1]? = some (.cells (nC n.v).toArray T1 (0, 0))) {K : Sl → World → Prop}
    (hK : ∀ s w', HIn w' s (hs ++ [n]) → Ext w w' → K s w') :
    (0 * 6 ≤ 16777216 ∧ AllocP w (.cells #[] 27) fun b7 w8 => CellsAt w8 b1 0 (nC n.v) ∧
      (∃ l9, ReadC w8 t.1 (t.2 * 6) l9 ∧ AppendP tt27 27 w8 (some ⟨b7, 0, none⟩) 0 0 t.2 l9 fun s10 w11 => CellsAt w11 b1 0 (nC n.v) ∧ 1 * 6 ≤ 16777216 ∧ AllocP w11 (.cells (nC n.v).toArray 27) fun b12 w13 =>
        ∃ l14, ReadC w13 (some ⟨b12, 0, none⟩) (1 * 6) l14 ∧ AppendP tt27 27 w13 s10.1 s10.2 s10.3 1 l14 fun s15 w16 => K s15 w16) ∧
      1 * 6 ≤ 16777216 ∧ AllocP w8 (.cells (nC n.v).toArray 27) fun b92 w93 => ∃ l94, ReadC w93 t.1 (t.2 * 6) l94 ∧ AppendP tt27 27 w93 (some ⟨b7, 0, none⟩) 0 0 t.2 l94 fun s95 w96 =>
        ∃ l97, ReadC w96 (some ⟨b92, 0, none⟩) (1 * 6) l97 ∧ AppendP tt27 27 w96 s95.1 s95.2 s95.3 1 l97 fun s98 w99 => K s98 w99) ∧
    1 * 6 ≤ 16777216 ∧ AllocP w (.cells (nC n.v).toArray 27) fun b175 w176 => 0 * 6 ≤ 16777216 ∧ AllocP w176 (.cells #[] 27) fun b177 w178 =>
      ∃ l179, ReadC w178 t.1 (t.2 * 6) l179 ∧ AppendP tt27 27 w178 (some ⟨b177, 0, none⟩) 0 0 t.2 l179 fun s180 w181 =>
        ∃ l182, ReadC w181 (some ⟨b175, 0, none⟩) (1 * 6) l182 ∧ AppendP tt27 27 w181 s180.1 s180.2 s180.3 1 l182 fun s183 w184 => K s183 w184 := by
  have at1 : ∀ {W : World}, Ext w W → CellsAt W b1 0 (nC n.v) := fun e => cellsAt_of (e.at hb1) fun i v hv => by simpa using hv
  have htn := hH.n
  -- nothing, in a block of its own
  have emp : ∀ {W W' : World} {b : Nat}, IsAlloc W (.cells #[] 27 (0, 0)) b W' → OwS W' ⟨some ⟨b, 0, none⟩, 0, 0⟩ 6 [] := fun a => OwS.new (cs := []) (n := 0) a rfl
  have bkE : ∀ {b : Nat}, ∀ i ∈ blk (⟨some ⟨b, 0, none⟩, 0, 0⟩ : Sl), i = b := fun i hi => by simpa [blk] using hi
  have fin : ∀ {s : Sl} {W W' : World}, OwS W' s 6 (hs.flatMap nL ++ nC n.v) → Ext w W' → K s W' := fun {s W W'} ho e => by
    have hlist : hs.flatMap nL ++ nC n.v = (hs ++ [n]).flatMap nL := by rw [List.flatMap_append]; simp
    rw [hlist] at ho
    refine hK s W' ⟨ho.rd, fun m hm => ?_, ho.cap, ?_⟩ e
    · rcases List.mem_append.1 hm with h | h
      · exact (hH.nd m h).ext e
      · rw [List.mem_singleton.1 h]; exact hN.ext e
    · rw [List.length_append, List.length_singleton]
      have : maxLen = 9223372036854775807 := by decide +kernel
      omega
  refine ⟨⟨by decide, fun b7 w8 a8 => ?_⟩, by decide, fun b175 w176 a176 => ⟨by decide, fun b177 w178 a178 => ?_⟩⟩
  · have e8 : Ext w w8 := a8.ch _
    have p8 := a8.here
    refine ⟨at1 e8, ?_, by decide, fun b92 w93 a93 => ?_⟩
    · refine app1 (s := ⟨some ⟨b7, 0, none⟩, 0, 0⟩) (emp a8) rfl (hH.ext e8) hr fun s10 w11 ho hn hC hb => ?_
      have e11 : Ext w w11 := e8.chN hC fun i hi => by have := bkE i hi; omega
      refine ⟨at1 e11, by decide, fun b12 w13 a13 => ?_⟩
      have e13 : Ext w11 w13 := a13.ch _
      refine app2 (ho.ext e13) (by omega) a13.new fun s15 w16 ho' hC' => fin (W := w) ho' ((e11.trans e13).chN hC' fun i hi => ?_)
      rcases hb i hi with h | h
      · have := bkE i h; omega
      · have := e8.size; omega
    · have e93 : Ext w8 w93 := a93.ch _
      refine app1 (s := ⟨some ⟨b7, 0, none⟩, 0, 0⟩) ((emp a8).ext e93) rfl (hH.ext (e8.trans e93)) hr fun s95 w96 ho hn hC hb => ?_
      have e96 : Ext w w96 := (e8.trans e93).chN hC fun i hi => by have := bkE i hi; omega
      have hb92 := hC.at a93.new fun hi => by have := bkE _ hi; have := a93.here; have := a8.size; omega
      refine app2 ho (by omega) hb92 fun s98 w99 ho' hC' => fin (W := w) ho' (e96.chN hC' fun i hi => ?_)
      rcases hb i hi with h | h
      · have := bkE i h; omega
      · have := e8.size; have := e93.size; omega
  · have e176 : Ext w w176 := a176.ch _
    have e178 : Ext w176 w178 := a178.ch _
    have p178 := a178.here
    have z176 := a176.size
    have p176 := a176.here
    refine app1 (s := ⟨some ⟨b177, 0, none⟩, 0, 0⟩) (emp a178) rfl (hH.ext (e176.trans e178)) hr fun s180 w181 ho hn hC hb => ?_
    have e181 : Ext w w181 := (e176.trans e178).chN hC fun i hi => by have := bkE i hi; omega
    have hb175 := hC.at (e178.at a176.new) fun hi => by have := bkE _ hi; omega
    refine app2 ho (by omega) hb175 fun s183 w184 ho' hC' => fin (W := w) ho' (e181.chN hC' fun i hi => ?_)
    rcases hb i hi with h | h
    · have := bkE i h; omega
    · have := e178.size; omega

theorem GrtP_append {hs : List Nd} {n : Nd} (h : ¬ GrtP (hs ++ [n])) : ¬ GrtP hs := fun h' => h (by
  rcases h' with ⟨m, hm, hl⟩ | hl
  · exact .inl ⟨m, List.mem_append.2 (.inl hm), hl⟩
  · exact .inr (by rw [List.length_append]; omega))
theorem RowOf_short {hs : List Nd} {n : Nd} {i : Nat} {xs : List Int} (hi : i < hs.length) : RowOf (hs ++ [n]) i xs ↔ RowOf hs i xs := by
  rw [← RowOf_take (hs := hs ++ [n]) (m := hs.length) hi, List.take_append_of_le_length (Nat.le_refl _), List.take_length]

theorem depsAdd (w : World) {l : List tyNd.den} {c0 : Value} (h0 : rep (fun _ => True) w (.sl tyNd) l [c0]) {x : tyNd.den} {cs : Array Value} (h1 : rep (fun _ => True) w tyNd x cs.toList) (hreach : ∀ s : Sl, c0 = slV s → s.n * 80 ≤ 140737488351232) :
    CW Try.prog 6 #[c0, .agg cs] w fun v w' => v = .bool true ∧ Ext w w' := by
  obtain ⟨t, hs, e0, hH⟩ := rep_hist h0
  obtain ⟨n, e1, hN⟩ := rep_nd h1
  simp only [List.cons.injEq, and_true] at e0
  subst e0
  have hcs : cs = (nC n.v).toArray := by rw [← Array.toList_inj, e1]
  subst hcs
  have hr := hreach t rfl
  refine F6_ok t n.v w _ fun b1 w2 a2 => (c10 w2).use ?_
  rintro _ w4 ⟨rfl, e4⟩
  have e2 : Ext w w2 := a2.ch _
  have ed := extDrew w4
  have E4 : Ext w w4 := e2.trans e4
  have E4d := E4.trans ed
  have x4 : Ext w2 w4.drew := e4.trans ed
  have at1 : ∀ {W : World}, Ext w2 W → CellsAt W b1 0 (nC n.v) := fun e => cellsAt_of (e.at a2.new) fun i v hv => by simpa using hv
  refine ⟨true, rfl, IfB.no rfl ?_⟩
  unfold F6k2
  refine ⟨n.v, at1 (e4.trans ed), orders (hH.ext E4d) (hN.ext E4d) hr (x4.at a2.new) fun s W hS eW => (c11 hS.rd (fun m hm => (hS.nd m hm).rn) (Nat.le_trans hS.len maxLen_le)).use ?_⟩
  rintro _ _ ⟨r, rfl, hr', rfl⟩
  have EW := E4d.trans eW
  refine ⟨r, rfl, IfB.intro (fun h => ⟨rfl, EW⟩) fun h => ?_⟩
  have hg : ¬ GrtP (hs ++ [n]) := fun h' => by rw [hr'.2 h'] at h; cases h
  have hW2 : Ext w2 W := x4.trans eW
  have hSt := hS.hst hg
  have hSh := (hH.ext EW).hst (GrtP_append hg)
  have hNk : NdOk W n := hSt.ok n (by simp)
  have hl40 : hs.length ≤ 40 := by have : ¬ 40 < hs.length := fun h' => GrtP_append hg (.inr h'); omega
  unfold F6k1
  refine (c13 hSh (by omega)).use ?_
  rintro _ w21 ⟨tl, rows, rfl, hrl, hrow, hO, e21⟩
  refine ⟨tl, rfl, n.v, at1 (hW2.trans e21), (c19 hO.rws (hSh.ext e21) (hNk.ext e21) hrl hrow (by omega)).use ?_⟩
  rintro _ w25 ⟨tm, rowm, rfl, hrlm, hrowm, hOm, e25⟩
  have ed25 := extDrew w25
  have f25 := (e21.trans e25).trans ed25
  have F25 := EW.trans f25
  have x25 : Ext w2 w25.drew := hW2.trans f25
  have hL := ((hO.ext e25).ext ed25).rws
  have hLm := (hOm.ext ed25).rws
  have hsl : (hs ++ [n]).length = hs.length + 1 := by simp
  refine ⟨tm, rfl, n.v, at1 (hW2.trans f25), orders (hH.ext F25) (hN.ext F25) hr (x25.at a2.new) fun s' W' hS' eW' => (c15 (hS'.hst hg) (by rw [hsl]; omega)).use ?_⟩
  rintro _ w39 ⟨td, mr, rfl, hsq, hgm, hM, e39⟩
  have g39 := eW'.trans e39
  refine ⟨td, rfl, (c14 (hs := hs ++ [n]) (hLm.ext g39) (by rw [hsl]; exact hrlm) hrowm hM hsq hgm (by rw [hsl]; omega)).use ?_⟩
  rintro _ _ ⟨rfl, rfl⟩
  refine ⟨true, rfl, IfB.yes rfl ((c15 ((hSh.ext f25).ext g39) (by omega)).use ?_)⟩
  rintro _ w45 ⟨td2, mr2, rfl, hsq2, hgm2, hM2, e45⟩
  refine ⟨td2, rfl, (c14 ((hL.ext g39).ext e45) hrl hrow hM2 hsq2 hgm2 (by omega)).use ?_⟩
  rintro _ _ ⟨rfl, rfl⟩
  exact ⟨true, rfl, rfl, (F25.trans g39).trans e45⟩

/-- What a slice argument's bytes are, at most. -/
theorem arg_reach {P : Program} {H : Type} {enc : TypeId × Value → H} {w : World} {base : Nat} {sp : Nat → Bool} {held : Bool} {t e : TypeId} {v : Value} {x : DataW H} {ps : List MemPlace} {B : Nat} {s : Sl} (hu : P.underlying t = some (.slice e)) (h : DataW.Trod enc P w base sp held t v x ps) (hv : v.cells.toList = [slV s])
    (hx : ∀ elems spare, x = .slice elems spare → (elems.length + spare.length) * P.bytesOf e ≤ B) : s.n * P.bytesOf e ≤ B := by
  obtain ⟨fuel, h⟩ := h
  rcases DataW.trod_slice hu h with ⟨hc, _⟩ | ⟨a, len, cap, elems, rest, n, _, hc, hd, _, _, _, hlen, _⟩
  · rw [hv] at hc
    have : s.n = 0 := by simp at hc; exact hc.2.1
    rw [this]; simp
  · rw [hv] at hc
    have : s.n = len := by simp at hc; exact hc.2.1
    have hd := congrArg Prod.fst hd
    have := hx _ _ hd
    rw [List.length_map, List.length_map] at this
    refine Nat.le_trans (Nat.mul_le_mul_right _ ?_) this
    omega
end Go.Proofs.Ytmmhbjbaallkfaa.Gx
