/- The framework, part 8: every operation; a region in the order of the text. -/
import Derived.Test.YtopecljhehcldaaGx7
namespace Go.Proofs.Ytopecljhehcldaa.Gx
open Go
set_option linter.unusedSimpArgs false

section
variable {P : Program} {tb : Tab} {ρ : Operand → Value} {w : World} {K : Value → World → Prop}

theorem alloc_op {o : Oper} {obj : Obj} {v : Nat → Value} (hr : (execOp ρ o).run P w = .ok (.value (v w.heap.size)) { w with heap := w.heap.push obj })
    (h : AllocP w obj fun b w' => K (v b) w') : Runs P o ρ w K := ⟨_, _, _, hr, .inl rfl, h.use⟩

theorem denseL_fill {size : Nat} : ∀ (parts : List (Nat × Value)) (k : Nat) (l : List Value) (done cells : List Value), denseL size k parts = some l →
    done.length = k * size → cells.length = parts.length * size →
    l.length = parts.length * size ∧ Instr.fill (fun i => some (i * size, size)) (done ++ cells).toArray parts = some (done ++ l).toArray
  | [], k, l, done, cells, h, _, hc => by
    simp only [denseL, Option.some.injEq] at h
    subst h
    have : cells = [] := by simpa using hc
    subst this
    simp [Instr.fill]
  | (i, v) :: rest, k, l, done, cells, h, hd, hc => by
    simp only [denseL] at h
    split at h
    · rename_i hik hsz
      have hik : i = k := Nat.eq_of_beq_eq_true hik
      have hsz : v.cells.size = size := by have := hasLen_eq _ _ hsz; rw [cellsL_eq, Array.length_toList] at this; exact this
      subst hik
      split at h
      · rename_i l' hl'
        simp only [Option.some.injEq, appL_eq, cellsL_eq] at h
        subst h
        have hlen : (rest.length + 1) * size = size + rest.length * size := by rw [Nat.add_mul]; omega
        simp only [List.length_cons] at hc
        rw [hlen] at hc
        have hv : v.cells.toList.length = size := by simpa using hsz
        obtain ⟨h1, h2⟩ := denseL_fill rest (i + 1) l' (done ++ v.cells.toList) (cells.drop size) hl' (by simp [hv, hd, Nat.add_mul]) (by simp; omega)
        refine ⟨by simp only [List.length_append, List.length_cons]; omega, ?_⟩
        simp only [Instr.fill]
        rw [if_neg (by
          simp only [bne_iff_ne, ne_eq, Bool.or_eq_true, decide_eq_true_eq, not_or, Classical.not_not]
          refine ⟨hsz, ?_⟩
          simp only [List.size_toArray, List.length_append, hd, hc, hsz]
          omega)]
        have hfold : (v.cells.zipIdx.foldl (fun cs (x : Value × Nat) => cs.setIfInBounds (i * size + x.2) x.1) (done ++ cells).toArray) = (done ++ v.cells.toList ++ cells.drop size).toArray := by
          have key : ∀ (vs : List Value) (j : Nat) (d c : List Value), d.length = i * size + j → vs.length ≤ c.length →
              ((vs.zipIdx j).foldl (fun cs (x : Value × Nat) => cs.setIfInBounds (i * size + x.2) x.1) (d ++ c).toArray) = (d ++ vs ++ c.drop vs.length).toArray := by
            intro vs
            induction vs with
            | nil => intro j d c _ _; simp
            | cons x xs ih =>
              intro j d c hd hc
              cases c with
              | nil => simp at hc
              | cons y c =>
                simp only [List.zipIdx_cons, List.foldl_cons]
                have : (d ++ y :: c).toArray.setIfInBounds (i * size + j) x = (d ++ [x] ++ c).toArray := by
                  apply Array.toList_inj.1
                  simp only [Array.toList_setIfInBounds, List.append_assoc, List.singleton_append]
                  rw [List.set_append, if_neg (by omega), show i * size + j - d.length = 0 by omega]
                  rfl
                rw [this, ih (j + 1) (d ++ [x]) c (by simp; omega) (by simpa using hc)]
                simp
          have := key v.cells.toList 0 done cells (by omega) (by omega)
          rw [hv] at this
          rw [← this]
          rw [← Array.foldl_toList]
          simp
        rw [hfold]
        simpa using h2
      · cases h
    · cases h

theorem buildSlice_op (hT : tb.Ok P) {o : Oper} {T : TypeId} {len : Nat} {parts : Array (Nat × Operand)} (ho : o.op = .buildSlice T len parts) (h : acx P tb o ρ w K) : Runs P o ρ w K := by
  obtain ⟨dst, op, ty, pos, after, guard⟩ := o
  dsimp only at ho
  subst ho
  unfold acx at h
  dsimp only at h
  split at h
  case h_2 => exact h.elim
  rename_i ti hti
  obtain ⟨d, hd, hk⟩ := (hT _ _ hti).desc
  split at h
  case h_2 => exact h.elim
  rename_i e he
  rw [he] at hk
  have := kd_slice hk; subst this
  split at h
  case h_2 => exact h.elim
  rename_i te hte
  split at h
  case h_2 => exact h.elim
  rename_i l hl hlen
  have hlen' : parts.size = len := by have := Nat.eq_of_beq_eq_true hlen; rw [lenL_eq, Array.length_toList] at this; exact this
  rw [mapL_eq] at hl
  obtain ⟨hle, hK⟩ := h
  have hz := (hT _ _ hte).zsz
  let zero : Array Value := if len * te.size = 0 then #[] else te.zero.cells
  have h0 := denseL_fill (parts.toList.map fun q => (q.1, ρ q.2)) 0 l [] ((Array.range (len * te.size)).map (fun x => zero[x % zero.size]!)).toList hl (by simp) (by simp [hlen'])
  have hfill : Instr.fill (fun i => some (i * te.size, te.size)) ((Array.range (len * te.size)).map (fun x => zero[x % zero.size]!)) (parts.toList.map fun q => (q.1, ρ q.2)) = some l.toArray := by
    have := h0.2
    rw [List.nil_append, Array.toArray_toList] at this
    simpa only [List.nil_append] using this
  refine alloc_op (v := fun b => .slice (some ⟨b, 0, none⟩) len len) ?_ hK
  have hle' : ¬ 16777216 < len * te.size := by omega
  by_cases hz0 : len * te.size = 0
  · simp only [zero, if_pos hz0] at hfill
    simp [execOp, Instr.buildSlice, run_underlying_of hd, run_sizeOf_of (hT _ _ hte), hle', hz0] at hfill ⊢
    rw [hfill]
    simp [run_newRow]
  · simp only [zero, if_neg hz0] at hfill
    simp only [execOp, Instr.buildSlice, Sem.run_bind, run_underlying_of hd, run_sizeOf_of (hT _ _ hte), Result.andThen_ok, if_neg hz0, run_zeroValue_of (hT _ _ hte), Sem.run_pure]
    rw [if_neg (by omega)]
    have hp : (parts.map fun x => (x.1, ρ x.2)).toList = parts.toList.map fun q => (q.1, ρ q.2) := by simp
    simp only [Sem.run_bind, Sem.run_pure, Result.andThen_ok, run_zeroValue_of (hT _ _ hte)]
    rw [hp, hfill]
    simp [run_newRow]

theorem next_op {o : Oper} {it : Operand} (ho : o.op = .next it false) (h : acx P tb o ρ w K) : Runs P o ρ w K := by
  obtain ⟨dst, op, ty, pos, after, guard⟩ := o
  dsimp only at ho
  subst ho
  unfold acx at h
  dsimp only at h
  split at h
  case h_2 => exact h.elim
  rename_i r z hit
  split at h
  case h_2 => exact h.elim
  rename_i hz
  have hz := Nat.eq_of_beq_eq_true hz
  subst hz
  rcases h with ⟨s, q, t, hr, hK⟩ | ⟨m, since, seen, last, es, clock, hr, hm, hbad, hover, hstep⟩
  · have h1 := run_getObj_of (P := P) hr (by simp)
    exact ⟨_, _, w, by simp [execOp, Instr.next, hit, h1], .inl rfl, hK⟩
  · have h1 := run_getObj_of (P := P) hr (by simp)
    have h2 := run_getObj_of (P := P) hm (by simp)
    have hnot : ¬ ((!seen.isEmpty && !es.isEmpty && es.all fun x => decide (x.born ≥ last)) = true) := by
      intro hb
      simp only [Bool.and_eq_true, Bool.not_eq_true'] at hb
      obtain ⟨⟨hs, he⟩, hall⟩ := hb
      rcases hbad with h | h | ⟨x, hx, hlt⟩
      · rw [h] at hs; cases hs
      · rw [h] at he; cases he
      · have := Array.all_eq_true_iff_forall_mem.1 hall x hx
        simp at this
        omega
    let left := es.filter fun e => !seen.contains e.born
    let old := left.filter fun e => decide (e.born < since)
    let new := left.filter fun e => decide (e.born ≥ since)
    let cand : Array (Option MapEntry) := (if old.isEmpty then #[none] else #[]) ++ (old ++ new).map some
    have hcand : cand.size ≠ 0 := by
      by_cases ho : old.isEmpty = true
      · simp [cand, ho]
      · have : 0 < old.size := by
          rcases Nat.eq_zero_or_pos old.size with h | h
          · exact (ho (by simp [Array.isEmpty, h])).elim
          · exact h
        have : cand.size = old.size + new.size := by simp [cand, ho]
        omega
    have hmem : ∀ (i : Nat) x, cand[i]? = some x → (x = none ∧ old.isEmpty = true) ∨ ∃ e, x = some e ∧ e ∈ es ∧ seen.contains e.born = false := by
      intro i x hx
      have hx' : x ∈ cand := Array.mem_of_getElem? hx
      simp only [cand, Array.mem_append, Array.mem_map] at hx'
      rcases hx' with h | ⟨e, he, rfl⟩
      · by_cases ho : old.isEmpty = true
        · simp [ho] at h; exact .inl ⟨h, ho⟩
        · simp [ho] at h
      · refine .inr ⟨e, rfl, ?_⟩
        have : e ∈ left := by rcases he with he | he <;> exact (Array.mem_filter.1 he).1
        have := Array.mem_filter.1 this
        exact ⟨this.1, by simpa using this.2⟩
    have hrun : ∀ (i : Nat) w1, (choose (.mapNext cand.size)).run P w = .ok i w1 →
        (execOp ρ { dst, op := .next it false, type := ty, pos, after, guard }).run P w =
          ((match cand[i]? with
            | some (some e) => do setObj r (.mapIter (some m) since (seen.push e.born) clock); pure (.tuple #[.bool true, e.key, e.val])
            | some none => pure (.tuple #[.bool false])
            | none => stuck "Next: no such candidate" : Sem Value).run P w1).andThen fun a w' => .ok (.value a) w' := fun i w1 hc => by
      simp only [execOp, Instr.next, hit, Sem.run_bind, h1, Result.andThen_ok, h2, if_neg hnot, Sem.run_pure]
      simp only [cand, left, old, new] at hc
      rw [hc]
      rfl
    have hchoose : ∃ i d, i < cand.size ∧ (choose (.mapNext cand.size)).run P w = .ok i { w with drawn := d } := by
      rw [run_choose]
      by_cases hf : (Question.mapNext cand.size).forced = true
      · exact ⟨0, w.drawn, Nat.pos_of_ne_zero hcand, by rw [if_pos hf]⟩
      · exact ⟨_, w.drawn + 1, Nat.mod_lt _ (Nat.pos_of_ne_zero hcand), by rw [if_neg hf]; rfl⟩
    obtain ⟨i, d, hi, hc⟩ := hchoose
    have hr1 := hrun i _ hc
    have hget : cand[i]? = some cand[i] := Array.getElem?_eq_getElem hi
    rcases hmem i _ hget with ⟨hn, hold⟩ | ⟨e, he, hes, hse⟩
    · refine ⟨_, _, _, ?_, .inl rfl, hover (fun x hx hs => ?_) d⟩
      · rw [hr1, hget, hn]; rfl
      · rcases Nat.lt_or_ge x.born since with hlt | hge
        · have : x ∈ old := Array.mem_filter.2 ⟨Array.mem_filter.2 ⟨hx, by simpa using hs⟩, by simpa using hlt⟩
          rw [Array.isEmpty_iff] at hold
          rw [hold] at this
          simp at this
        · exact hge
    · have hr' : ({ w with drawn := d } : World).heap[r]? = some (.mapIter (some m) since seen last) := hr
      have h3 := run_setObj_of (P := P) (w := { w with drawn := d }) hr' (by simp) (.mapIter (some m) since (seen.push e.born) clock)
      refine ⟨_, _, _, ?_, .inl rfl, hstep e hes hse d _ (isUpd_set (w := { w with drawn := d }) hr' _ d)⟩
      rw [hr1, hget, he]
      simp [h3]

theorem entry_op {o : Oper} {it : Operand} (ho : o.op = .entry it) (h : acx P tb o ρ w K) : Runs P o ρ w K := by
  obtain ⟨dst, op, ty, pos, after, guard⟩ := o
  dsimp only at ho
  subst ho
  unfold acx at h
  dsimp only at h
  split at h
  case h_2 => exact h.elim
  rename_i r z hit
  split at h
  case h_2 => exact h.elim
  rename_i hz
  have hz := Nat.eq_of_beq_eq_true hz
  subst hz
  obtain ⟨m, since, seen, ck, es, e, hr, hm, hb, hf, hK⟩ := h
  have h1 := run_getObj_of (P := P) hr (by simp)
  have h2 := run_getObj_of (P := P) hm (by simp)
  exact ⟨_, _, w, by simp [execOp, Instr.entry, hit, h1, h2, hb, hf], .inl rfl, hK⟩

theorem acx_sound (hT : tb.Ok P) {o : Oper} {a : Act} (ha : a.eval = ρ) {r : Option Nat} {next : Act → World → Prop} {Q : Exit → Act → World → Prop}
    (h : acx P tb o ρ w K) (hn : ∀ v w', K v w' → next (a.put o.dst v) w') : o.wpIn (fz r) 0 P a w next Q := by
  obtain ⟨dst, op, ty, pos, after, guard⟩ := o
  cases op with
  | load T p =>
    have h' : LoadP tb w T (ρ p) fun v => K v w := h
    exact (load_runs hT rfl h').wp ha (by simp) hn
  | box T x =>
    have h' : AllocP w (.cells (ρ x).cells T (0, 0)) fun b w' => K (.pointer (some ⟨b, 0, none⟩)) w' := h
    exact (alloc_op (v := fun b => .pointer (some ⟨b, 0, none⟩)) (by simp [execOp, Instr.box, newVar, run_newRow]) h').wp ha (by simp) hn
  | alloc T =>
    simp only [acx] at h
    split at h
    · rename_i ti hti
      exact (alloc_op (v := fun b => .pointer (some ⟨b, 0, none⟩)) (by simp [execOp, Instr.alloc, newVar, run_newRow, run_zeroValue_of (hT _ _ hti)]) h).wp ha (by simp) hn
    · exact h.elim
  | store T p x =>
    simp only [acx] at h
    split at h
    · rename_i ti b o hti hp
      obtain ⟨hs, h⟩ := h
      obtain ⟨w', hr, hK⟩ := h.run (P := P)
      refine Runs.wp (K := K) ⟨_, _, w', ?_, .inr ⟨rfl, rfl⟩, hK⟩ ha (by simp) hn
      simp [execOp, Instr.storeAt, hp, Instr.sureAddr, storeVar, run_sizeOf_of (hT _ _ hti), hs, hr]
    · exact h.elim
  | buildSlice T len parts => exact (buildSlice_op hT rfl h).wp ha (by simp) hn
  | makeSlice T l c =>
    simp only [acx] at h
    split at h
    case h_2 => exact h.elim
    rename_i ti k1 l' k2 c' hti hl hc
    obtain ⟨d, hd, hk⟩ := (hT _ _ hti).desc
    split at h
    case h_2 => exact h.elim
    rename_i e he
    rw [he] at hk
    have := kd_slice hk; subst this
    split at h
    case h_2 => exact h.elim
    rename_i te hte
    obtain ⟨⟨h0, h1, h2, h3⟩, h⟩ := h
    obtain ⟨j, hjs, hjb, hjz, hj⟩ := run_typeInfo_of (hT _ _ hte)
    have hw1 : IntKind.i64.wrap l' = l' := wrap64_of h0 (by omega)
    have hw2 : IntKind.i64.wrap c' = c' := wrap64_of (by omega) h2
    have c1 : ¬ c' < 0 := by omega
    have c2 : ¬ (281474976710656 : Int) < (j.bytes : Int) * c' := by rw [hjb]; omega
    have c3 : ¬ l' < 0 := by omega
    have c4 : ¬ c' < l' := by omega
    have hz := (hT _ _ hte).zsz
    refine (alloc_op (v := fun b => .slice (some ⟨b, 0, none⟩) l'.toNat c'.toNat) ?_ h).wp ha (by simp) hn
    by_cases hn0 : c'.toNat * te.size = 0
    · have hzc : zc te.zero.cells c'.toNat = [] := by simp [zc, Builtin.zeroCells, hz, hn0]
      rw [hzc]
      simp [execOp, Instr.makeSlice, run_underlying_of hd, hl, hc, asInt, asIntOf, hj, hw1, hw2, c1, c2, c3, c4, run_sizeOf_of (hT _ _ hte), hn0, run_newRow]
      congr 2
      apply Array.toList_inj.1
      simp
    · simp [execOp, Instr.makeSlice, run_underlying_of hd, hl, hc, asInt, asIntOf, hj, hw1, hw2, c1, c2, c3, c4, run_sizeOf_of (hT _ _ hte), hn0, run_newRow, run_zeroValue_of (hT _ _ hte), zc, Builtin.zeroCells, hz]
      congr 2
      apply Array.toList_inj.1
      simp
  | makeMap T r =>
    cases r with
    | none =>
      simp only [acx] at h
      split at h
      · exact (alloc_op (v := fun b => .map (some b)) (by simp [execOp, Instr.makeMap]) h).wp ha (by simp) hn
      · exact h.elim
    | some r =>
      simp only [acx] at h
      split at h
      · rename_i ti k n hti hr
        obtain ⟨d, hd, hk⟩ := (hT _ _ hti).desc
        split at h
        · rename_i kt et he
          rw [he] at hk
          have := kd_map hk; subst this
          exact (alloc_op (v := fun b => .map (some b)) (by simp [execOp, Instr.makeMap, run_underlying_of hd, hr, asInt, asIntOf]) h).wp ha (by simp) hn
        · exact h.elim
      · exact h.elim
  | lookup T m k ok => exact (lookup_op hT rfl h).wp ha (by simp) hn
  | mapUpdate T m k x => exact (mapUpdate_op hT rfl h).wp ha (by simp) hn
  | range T m =>
    simp only [acx] at h
    split at h
    case h_2 => exact h.elim
    rename_i ti hti
    obtain ⟨d, hd, hk⟩ := (hT _ _ hti).desc
    split at h
    case h_2 => exact h.elim
    rename_i kt et he
    rw [he] at hk
    have := kd_map hk; subst this
    rcases h with ⟨hm, h⟩ | ⟨r, es, ck, hm, hr, h⟩
    · exact (alloc_op (v := fun b => .pointer (some ⟨b, 0, none⟩)) (by simp [execOp, Instr.range, run_underlying_of hd, hm]) h).wp ha (by simp) hn
    · have h1 := run_getObj_of (P := P) hr (by simp)
      exact (alloc_op (v := fun b => .pointer (some ⟨b, 0, none⟩)) (by simp [execOp, Instr.range, run_underlying_of hd, hm, h1]) h).wp ha (by simp) hn
  | next it isString =>
    cases isString with
    | false => exact (next_op rfl h).wp ha (by simp) hn
    | true => exact h.elim
  | entry it => exact (entry_op rfl h).wp ha (by simp) hn
  | call c =>
    obtain ⟨callee, args, argTypes⟩ := c
    cases callee with
    | builtin b =>
      cases b with
      | append => exact (append_op hT rfl h).wp ha (by simp) hn
      | copy => exact (copy_op hT rfl h).wp ha (by simp) hn
      | clear => exact (clear_op hT rfl h).wp ha (by simp) hn
      | delete => exact (delete_op hT rfl h).wp ha (by simp) hn
      | len => exact (maplen_op hT rfl h).wp ha (by simp) hn
      | _ => exact h.elim
    | invoke _ _ => exact h.elim
    | value g =>
      simp only [acx] at h
      split at h
      · rename_i f first cap hg
        refine wpIn_of_upon (by simp) ?_
        rw [ha]
        have ea : (appL first.toList (appL (mapL ρ args.toList) cap.toList)).toArray = first ++ args.map ρ ++ cap := by
          apply Array.toList_inj.1; simp [appL_eq, mapL_eq]
        rw [ea] at h
        have hres : (execOp ρ { dst, op := .call ⟨.value g, args, argTypes⟩, type := ty, pos, after, guard }).run P w = (callFunc f (first ++ args.map ρ ++ cap)).run P w := by
          simp [execOp, resolve, hg, Deferred.ofValue, invoke]
        rw [hres]
        rcases h with h | ⟨v, w', hr, hK⟩
        · rw [h.1]
          refine ⟨fz_depth r, ?_⟩
          refine fz_callsIn.2 (h.2.mono ?_)
          rintro e w' ⟨v, rfl, hK⟩
          exact hn _ _ hK.out
        · rw [hr]
          exact hn _ _ hK.out
      · rename_i l first cap hg
        refine wpIn_of_upon (by simp) ?_
        rw [ha]
        have ea : (appL first.toList (mapL ρ args.toList)).toArray = first ++ args.map ρ := by
          apply Array.toList_inj.1; simp [appL_eq, mapL_eq]
        rw [ea] at h
        obtain ⟨fn, tmps, assign, body, hy, hR⟩ := h
        have hres : (execOp ρ { dst, op := .call ⟨.value g, args, argTypes⟩, type := ty, pos, after, guard }).run P w = .ok (.round l fn tmps assign body) w := by
          simp [execOp, resolve, hg, Deferred.ofValue, invoke, hy]
        rw [hres]
        refine ⟨fz_depth r, fz_roundIn.2 (hR.mono ?_)⟩
        rintro e w' ⟨b, rfl, hK⟩
        exact hn _ _ hK
      · exact h.elim
  | _ => exact h.elim

theorem opx_sound (hT : tb.Ok P) {o : Oper} {a : Act} (ha : a.eval = ρ) {r : Option Nat} {next : Act → World → Prop} {Q : Exit → Act → World → Prop}
    (h : opx P tb o ρ w K) (hn : ∀ v w', K v w' → next (a.put o.dst v) w') : o.wpIn (fz r) 0 P a w next Q := by
  unfold opx at h
  split at h
  · obtain ⟨v, hK, hv⟩ := pux_sound hT (ty := o.type) h
    obtain ⟨dst, op, ty, pos, after, guard⟩ := o
    have hnd : ∀ c, op ≠ .defer c := fun c e => by
      subst e; simp [pux] at h
    exact Runs.wp (K := K) ⟨_, v, w, hv w dst pos after guard, .inl rfl, hK⟩ ha hnd hn
  · exact acx_sound hT ha h hn
end
end Go.Proofs.Ytopecljhehcldaa.Gx
