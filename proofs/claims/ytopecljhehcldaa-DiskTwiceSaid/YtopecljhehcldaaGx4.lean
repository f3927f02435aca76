/- The framework, part 4: every pure operation yields what part 2 says. -/
import Derived.Test.YtopecljhehcldaaGx3
namespace Go.Proofs.Ytopecljhehcldaa.Gx
open Go

section
variable {P : Program} {tb : Tab} {ρ : Operand → Value} {K : Value → Prop}

theorem slAddr_run {p : Option Addr} {m l size : Nat} : (if m = l then p else p.map (·.add (l * size))) = slAddr p m l size := rfl

theorem run_sliceBound {k : IntKind} {i : Int} {y : Nat} {code : BoundsCode} (h0 : 0 ≤ i) (h1 : i ≤ y) (w : World) :
    (Instr.sliceBound (.int k i) y code).run P w = .ok i.toNat w := by
  simp [Instr.sliceBound, asIntOf, h0, h1]

theorem sliceBounds_sound {b : Bool} {size : Nat} {p : Option Addr} {n c : Nat} {lo hi mx : Option Value} (h : sliceX size p n c lo hi mx K) :
    ∃ l h' m, (∀ w, (Instr.sliceBounds b n c lo hi mx).run P w = .ok (l, h', m) w) ∧ K (.slice (slAddr p m l size) (h' - l) (m - l)) := by
  unfold sliceX at h
  split at h
  · exact ⟨0, n, c, fun w => by simp [Instr.sliceBounds], h⟩
  · rename_i k l
    obtain ⟨⟨h0, h1⟩, hK⟩ := h
    exact ⟨l.toNat, n, c, fun w => by simp [Instr.sliceBounds, run_sliceBound h0 h1], hK⟩
  · rename_i k hh
    obtain ⟨⟨h0, h1⟩, hK⟩ := h
    exact ⟨0, hh.toNat, c, fun w => by simp [Instr.sliceBounds, run_sliceBound h0 h1], hK⟩
  · rename_i k l k' hh
    obtain ⟨⟨h0, h1, h2⟩, hK⟩ := h
    refine ⟨l.toNat, hh.toNat, c, fun w => ?_, hK⟩
    have h3 : 0 ≤ hh := by omega
    have h4 : l ≤ (hh.toNat : Int) := by omega
    simp [Instr.sliceBounds, run_sliceBound h3 h2, run_sliceBound h0 h4]
  · rename_i k hh k' m
    obtain ⟨⟨h0, h1, h2⟩, hK⟩ := h
    refine ⟨0, hh.toNat, m.toNat, fun w => ?_, hK⟩
    have h3 : 0 ≤ m := by omega
    have h4 : hh ≤ (m.toNat : Int) := by omega
    simp [Instr.sliceBounds, run_sliceBound h3 h2, run_sliceBound h0 h4]
  · rename_i k l k' hh k'' m
    obtain ⟨⟨h0, h1, h2, h3⟩, hK⟩ := h
    refine ⟨l.toNat, hh.toNat, m.toNat, fun w => ?_, hK⟩
    have h4 : 0 ≤ m := by omega
    have h5 : hh ≤ (m.toNat : Int) := by omega
    have h6 : 0 ≤ hh := by omega
    have h7 : l ≤ (hh.toNat : Int) := by omega
    simp [Instr.sliceBounds, run_sliceBound h4 h3, run_sliceBound h6 h5, run_sliceBound h0 h7]
  · exact h.elim

theorem sliceStr_sound {s : ByteArray} {lo hi : Option Value} (h : sliceStrX s lo hi K) :
    ∃ l h', (∀ w, (Instr.sliceBounds false s.size s.size lo hi none).run P w = .ok (l, h', s.size) w) ∧ K (.string (s.extract l h')) := by
  unfold sliceStrX at h
  split at h
  · exact ⟨0, s.size, fun w => by simp [Instr.sliceBounds], h⟩
  · rename_i k l
    obtain ⟨⟨h0, h1⟩, hK⟩ := h
    exact ⟨l.toNat, s.size, fun w => by simp [Instr.sliceBounds, run_sliceBound h0 h1], hK⟩
  · rename_i k hh
    obtain ⟨⟨h0, h1⟩, hK⟩ := h
    exact ⟨0, hh.toNat, fun w => by simp [Instr.sliceBounds, run_sliceBound h0 h1], hK⟩
  · rename_i k l k' hh
    obtain ⟨⟨h0, h1, h2⟩, hK⟩ := h
    refine ⟨l.toNat, hh.toNat, fun w => ?_, hK⟩
    have h3 : 0 ≤ hh := by omega
    have h4 : l ≤ (hh.toNat : Int) := by omega
    simp [Instr.sliceBounds, run_sliceBound h3 h2, run_sliceBound h0 h4]
  · exact h.elim

theorem setAll_eq (off : Nat) : ∀ (vs : List Value) (j : Nat) (cs : List Value), off + j + vs.length ≤ cs.length →
    ((vs.zipIdx j).foldl (fun (cs : Array Value) (x : Value × Nat) => cs.setIfInBounds (off + x.2) x.1) cs.toArray).toList = cs.take (off + j) ++ vs ++ cs.drop (off + j + vs.length)
  | [], j, cs, _ => by simp
  | v :: vs, j, cs, h => by
    simp only [List.zipIdx_cons, List.foldl_cons]
    have e : cs.toArray.setIfInBounds (off + j) v = (cs.set (off + j) v).toArray := by apply Array.toList_inj.1; simp
    rw [e, setAll_eq off vs (j + 1) (cs.set (off + j) v) (by simp at h ⊢; omega)]
    simp only [List.length_cons] at h
    have hlt : off + j < cs.length := by omega
    have h1 : (cs.set (off + j) v).take (off + (j + 1)) = cs.take (off + j) ++ [v] := by
      rw [List.set_eq_take_append_cons_drop, if_pos hlt, ← Nat.add_assoc, List.take_append]
      simp [Nat.min_eq_left (Nat.le_of_lt hlt), List.take_take, Nat.min_eq_right (Nat.le_succ (off + j))]
    have h2 : (cs.set (off + j) v).drop (off + (j + 1) + vs.length) = cs.drop (off + j + (vs.length + 1)) := by
      rw [List.drop_set]
      rw [if_pos (by omega)]
      congr 1
      omega
    rw [h1, h2]
    simp

theorem fillL_fill {place : Nat → Option (Nat × Nat)} : ∀ (parts : List (Nat × Value)) (zero cs : List Value), fillL place zero parts = some cs → Instr.fill place zero.toArray parts = some cs.toArray
  | [], zero, cs, h => by simp only [fillL, Option.some.injEq] at h; subst h; rfl
  | (i, v) :: rest, zero, cs, h => by
    simp only [fillL] at h
    split at h
    · cases h
    · rename_i pl hp
      split at h
      · rename_i h1 h2
        have h1 := hasLen_eq _ _ h1
        have h2 : pl.1 + pl.2 ≤ zero.length := geLen_le _ _ h2
        rw [cellsL_eq, Array.length_toList] at h1
        obtain ⟨off, size⟩ := pl
        have ih := fillL_fill rest _ cs h
        simp only [Instr.fill, hp]
        dsimp only at h1 h2
        rw [if_neg (by
          simp only [ne_eq, Bool.or_eq_true, decide_eq_true_eq, not_or, Classical.not_not]
          exact ⟨h1, by simp [h1]; omega⟩)]
        rw [← ih]
        congr 1
        apply Array.toList_inj.1
        rw [← Array.foldl_toList, Array.toList_zipIdx]
        have := setAll_eq off v.cells.toList 0 zero (by simp [h1]; omega)
        rw [this]
        simp [appL_eq, takeL_eq, dropL_eq, cellsL_eq, h1]
      · cases h

theorem fillC_out {place : Nat → Option (Nat × Nat)} {zero : List Value} {parts : List (Nat × Value)} {K : Array Value → Prop} (h : fillC place zero parts K) :
    ∃ cs, Instr.fill place zero.toArray parts = some cs ∧ K cs := by
  unfold fillC at h
  split at h
  · rename_i cs he; exact ⟨_, fillL_fill _ _ _ he, h⟩
  · exact h.elim

theorem allSome_iff : ∀ {l : List (TypeId × Nat)}, allSome tb l = true → ∀ q ∈ l, ∃ ti, tb q.1 = some ti
  | [], _, q, hq => by simp at hq
  | q :: l, h, q', hq => by
    simp only [allSome] at h
    split at h
    · rename_i ti hti
      rcases List.mem_cons.1 hq with rfl | hq
      · exact ⟨ti, hti⟩
      · exact allSome_iff h q' hq
    · cases h

theorem fill_congr {place place' : Nat → Option (Nat × Nat)} (hp : ∀ i q, place i = some q → place' i = some q) :
    ∀ (parts : List (Nat × Value)) (zero cs : Array Value), Instr.fill place zero parts = some cs → Instr.fill place' zero parts = some cs
  | [], _, _, h => h
  | (i, v) :: rest, zero, cs, h => by
    simp only [Instr.fill] at h ⊢
    cases hq : place i with
    | none => rw [hq] at h; cases h
    | some q =>
      obtain ⟨off, size⟩ := q
      rw [hq] at h
      rw [hp i _ hq]
      simp only at h ⊢
      split at h
      · cases h
      · rename_i hc
        rw [if_neg hc]
        exact fill_congr hp rest _ _ h

theorem run_places (hT : tb.Ok P) : ∀ (fs : List Field), (∀ f ∈ fs, ∃ ti, tb f.type = some ti) → ∀ w,
    (fs.mapM (m := Sem) fun f => Prod.mk f.offset <$> sizeOf f.type).run P w = .ok (fs.map fun f => (f.offset, match tb f.type with | some ti => ti.size | none => 0)) w
  | [], _, w => by simp
  | f :: fs, h, w => by
    obtain ⟨ti, hti⟩ := h f (by simp)
    have ih := run_places hT fs (fun g hg => h g (by simp [hg])) w
    simp [List.mapM_cons, run_sizeOf_of (hT _ _ hti), ih, hti]

theorem placesOf_sub {fs : Array Field} {i : Nat} {q : Nat × Nat} (h : placesOf tb (fs.toList.map fun f => (f.type, f.offset)) i = some q) :
    (fs.map fun f => (f.offset, match tb f.type with | some ti => ti.size | none => 0))[i]? = some q := by
  unfold placesOf at h
  simp only [nth_eq, List.getElem?_map, Array.getElem?_toList] at h
  simp only [Array.getElem?_map]
  cases hf : fs[i]? with
  | none => rw [hf] at h; cases h
  | some f =>
    rw [hf] at h
    simp only [Option.map_some] at h ⊢
    cases ht : tb f.type with
    | none => rw [ht] at h; cases h
    | some ti => rw [ht] at h; exact h

theorem pux_build (hT : tb.Ok P) {T : TypeId} {parts : Array (Nat × Operand)} {ty : TypeId} (h : pux P tb (.build T parts) ρ K) : ∃ v, K v ∧ Yv P (.build T parts) ty ρ v := by
  simp only [pux] at h
  cases htb : tb T with
  | none => rw [htb] at h; exact h.elim
  | some ti =>
    rw [htb] at h
    have hi := hT _ _ htb
    obtain ⟨d, hd, hk⟩ := hi.desc
    dsimp only at h
    split at h
    · rename_i fs he
      rw [he] at hk
      obtain ⟨fs', rfl, rfl⟩ := kd_struct hk
      split at h
      · rename_i hall
        obtain ⟨cs, hf, hK⟩ := fillC_out h
        refine ⟨_, hK, fun w dst pos after guard => ?_⟩
        have h1 := run_places hT fs'.toList (fun f hf => allSome_iff hall (f.type, f.offset) (List.mem_map.2 ⟨f, hf, rfl⟩)) w
        have ez : (cellsL ti.zero).toArray = ti.zero.cells := by rw [cellsL_eq, Array.toArray_toList]
        rw [ez, mapL_eq] at hf
        have h2 : Instr.fill (fun x => (fs'.map fun f => (f.offset, match tb f.type with | some ti => ti.size | none => 0))[x]?) ti.zero.cells (parts.toList.map fun q => (q.1, ρ q.2)) = some cs :=
          fill_congr (fun i q hq => placesOf_sub hq) _ _ _ hf
        have h3 : (fs'.mapM (m := Sem) fun f => Prod.mk f.offset <$> sizeOf f.type).run P w = .ok (fs'.map fun f => (f.offset, match tb f.type with | some ti => ti.size | none => 0)) w := by
          rw [Array.mapM_eq_mapM_toList]
          simp only [Sem.run_map, h1, Result.andThen_ok, ← Array.toList_map, Array.toArray_toList]
        simp only [Array.getElem?_map] at h2
        simp [execOp, Instr.build, run_zeroValue_of hi, run_underlying_of hd, h3, h2]
      · exact h.elim
    · rename_i n e he
      rw [he] at hk
      have := kd_array hk; subst this
      split at h
      · rename_i te hte
        obtain ⟨cs, hf, hK⟩ := fillC_out h
        refine ⟨_, hK, fun w dst pos after guard => ?_⟩
        have ez : (cellsL ti.zero).toArray = ti.zero.cells := by rw [cellsL_eq, Array.toArray_toList]
        rw [ez, mapL_eq] at hf
        simp [execOp, Instr.build, run_zeroValue_of hi, run_underlying_of hd, run_sizeOf_of (hT _ _ hte), hf]
      · exact h.elim
    · exact h.elim

theorem pux_sound (hT : tb.Ok P) {op : Op} {ty : TypeId} (h : pux P tb op ρ K) : ∃ v, K v ∧ Yv P op ty ρ v := by
  cases op with
  | move x => exact ⟨_, h, fun w dst pos after guard => by simp [execOp]⟩
  | assign x => exact ⟨_, h, fun w dst pos after guard => by simp [execOp]⟩
  | pick c a b =>
    simp only [pux] at h
    split at h
    · rename_i t ht
      rcases h.cases with ⟨rfl, h⟩ | ⟨rfl, h⟩
      · exact ⟨_, h, fun w dst pos after guard => by simp [execOp, ht, asBool]⟩
      · exact ⟨_, h, fun w dst pos after guard => by simp [execOp, ht, asBool]⟩
    · exact h.elim
  | nilCheck x =>
    simp only [pux] at h
    split at h
    · rename_i p hp
      obtain ⟨b, o, rfl, h⟩ := h
      exact ⟨_, h, fun w dst pos after guard => by simp [execOp, hp]⟩
    · rename_i g a b hp
      exact ⟨_, h, fun w dst pos after guard => by simp [execOp, hp]⟩
    · exact h.elim
  | binOp bop T x y yT =>
    simp only [pux] at h
    split at h
    · rename_i ti hti
      obtain ⟨v, hK, hv⟩ := binX_sound (hT _ _ hti) h
      refine ⟨v, hK, fun w dst pos after guard => ?_⟩
      have := hv x y w
      simp only [execOp, Sem.run_bind, this, Result.andThen_ok, Sem.run_pure]
    · exact h.elim
  | unOp uop T x =>
    simp only [pux, unX] at h
    split at h
    · rename_i b hb
      exact ⟨_, h, fun w dst pos after guard => by simp [execOp, hb, Op.unary]⟩
    · rename_i k n hb
      exact ⟨_, h, fun w dst pos after guard => by simp [execOp, hb, Op.unary, Op.intArith]⟩
    · rename_i k n hb
      exact ⟨_, h, fun w dst pos after guard => by simp [execOp, hb, Op.unary, Op.intBits, bitsI]⟩
    · exact h.elim
  | convert src dst x =>
    simp only [pux] at h
    split at h
    · rename_i tj ti k n htj hti hx
      split at h
      · rename_i k' hk'
        obtain ⟨d, hd, hk⟩ := (hT _ _ hti).desc
        obtain ⟨d', hd', _⟩ := (hT _ _ htj).desc
        rw [hk'] at hk
        have := kd_int hk; subst this
        exact ⟨_, h, fun w dst pos after guard => by cases d' <;> simp [execOp, convert, run_underlying_of hd, run_underlying_of hd', hx, Conv.intToInt]⟩
      · exact h.elim
    · exact h.elim
  | makeFunc fn first captured =>
    simp only [pux, mapL_eq] at h
    have e : ∀ l : Array Operand, (List.map ρ l.toList).toArray = l.map ρ := fun l => by apply Array.toList_inj.1; simp
    rw [e, e] at h
    exact ⟨_, h, fun w dst pos after guard => by simp [execOp, Instr.makeFunc]⟩
  | fieldAddr s x i =>
    simp only [pux] at h
    split at h
    · rename_i ti b o hti hx
      obtain ⟨d, hd, hk⟩ := (hT _ _ hti).desc
      split at h
      · rename_i fs he
        rw [he] at hk
        obtain ⟨fs', rfl, rfl⟩ := kd_struct hk
        split at h
        · rename_i q hf
          simp only [nth_eq, List.getElem?_map, Array.getElem?_toList, Option.map_eq_some_iff] at hf
          obtain ⟨f, hf, rfl⟩ := hf
          split at h
          · rename_i tj htj
            split at h
            · exact h.elim
            · rename_i m hm
              refine ⟨_, h, fun w dst pos after guard => ?_⟩
              simp [execOp, Instr.fieldAt, run_underlying_of hd, hx, hf, Instr.sureAddr, fieldPlace, run_sizeOf_of (hT _ _ htj), hm, addr_add]
          · exact h.elim
        · exact h.elim
      · exact h.elim
    · exact h.elim
  | field s x i =>
    simp only [pux] at h
    split at h
    · rename_i ti cs hti hx
      obtain ⟨d, hd, hk⟩ := (hT _ _ hti).desc
      split at h
      · rename_i fs he
        rw [he] at hk
        obtain ⟨fs', rfl, rfl⟩ := kd_struct hk
        split at h
        · rename_i q hf
          simp only [nth_eq, List.getElem?_map, Array.getElem?_toList, Option.map_eq_some_iff] at hf
          obtain ⟨f, hf, rfl⟩ := hf
          split at h
          · rename_i tj htj
            obtain ⟨v, hK, hv⟩ := run_part_of (hT _ _ htj) h
            exact ⟨v, hK, fun w dst pos after guard => by simp [execOp, Instr.field, run_underlying_of hd, hx, hf, asAgg, hv]⟩
          · exact h.elim
        · exact h.elim
      · exact h.elim
    · exact h.elim
  | indexAddr T x ix =>
    simp only [pux] at h
    split at h
    · rename_i ti p n c k i hti hx hix
      obtain ⟨d, hd, hk⟩ := (hT _ _ hti).desc
      split at h
      · rename_i e he
        rw [he] at hk
        have := kd_slice hk; subst this
        split at h
        · rename_i te hte
          obtain ⟨b, o, rfl, hin, hK⟩ := h
          exact ⟨_, hK, fun w dst pos after guard => by simp [execOp, Instr.indexAt, run_underlying_of hd, hx, hix, asIntOf, run_sizeOf_of (hT _ _ hte), hin, addr_add, mulS_eq]⟩
        · exact h.elim
      · exact h.elim
    · rename_i ti b o k i hti hx hix
      obtain ⟨d, hd, hk⟩ := (hT _ _ hti).desc
      split at h
      · rename_i n e he
        rw [he] at hk
        have := kd_array hk; subst this
        split at h
        · rename_i te hte
          obtain ⟨hin, hK⟩ := h
          exact ⟨_, hK, fun w dst pos after guard => by simp [execOp, Instr.indexAt, run_underlying_of hd, hx, hix, asIntOf, Instr.sureAddr, run_sizeOf_of (hT _ _ hte), hin, addr_add, mulS_eq]⟩
        · exact h.elim
      · exact h.elim
    · exact h.elim
  | index T x ix =>
    simp only [pux] at h
    split at h
    · rename_i ti cs k i hti hx hix
      obtain ⟨d, hd, hk⟩ := (hT _ _ hti).desc
      split at h
      · rename_i n e he
        rw [he] at hk
        have := kd_array hk; subst this
        split at h
        · rename_i te hte
          obtain ⟨hin, h⟩ := h
          rw [mulS_eq] at h
          obtain ⟨v, hK, hv⟩ := run_part_of (hT _ _ hte) h
          exact ⟨v, hK, fun w dst pos after guard => by simp [execOp, Instr.index, run_underlying_of hd, hx, hix, asIntOf, run_sizeOf_of (hT _ _ hte), hin, hv]⟩
        · exact h.elim
      · exact h.elim
    · rename_i ti s k i hti hx hix
      obtain ⟨d, hd, hk⟩ := (hT _ _ hti).desc
      split at h
      · rename_i he
        rw [he] at hk
        have := kd_string hk; subst this
        obtain ⟨b, h0, hb, hK⟩ := h
        exact ⟨_, hK, fun w dst pos after guard => by simp [execOp, Instr.index, run_underlying_of hd, hx, hix, asIntOf, h0, hb]⟩
      · exact h.elim
    · exact h.elim
  | slice T x lo hi mx =>
    simp only [pux] at h
    split at h
    · rename_i ti p n c hti hx
      obtain ⟨d, hd, hk⟩ := (hT _ _ hti).desc
      split at h
      · rename_i e he
        rw [he] at hk
        have := kd_slice hk; subst this
        split at h
        · rename_i te hte
          rw [optM_eq, optM_eq, optM_eq] at h
          obtain ⟨l, h', m, hb, hK⟩ := sliceBounds_sound (P := P) (b := true) h
          exact ⟨_, hK, fun w dst pos after guard => by simp [execOp, Instr.sliceAt, Instr.slice, run_underlying_of hd, hx, hb, run_sizeOf_of (hT _ _ hte), slAddr]⟩
        · exact h.elim
      · exact h.elim
    · rename_i ti s hti hx
      obtain ⟨d, hd, hk⟩ := (hT _ _ hti).desc
      split at h
      · rename_i he
        rw [he] at hk
        have := kd_string hk; subst this
        rw [optM_eq, optM_eq] at h
        obtain ⟨l, h', hb, hK⟩ := sliceStr_sound (P := P) h
        exact ⟨_, hK, fun w dst pos after guard => by simp [execOp, Instr.sliceAt, Instr.slice, run_underlying_of hd, hx, hb]⟩
      · exact h.elim
    · rename_i ti b o hti hx
      obtain ⟨d, hd, hk⟩ := (hT _ _ hti).desc
      split at h
      · rename_i n e he
        rw [he] at hk
        have := kd_array hk; subst this
        split at h
        · rename_i te hte
          rw [optM_eq, optM_eq, optM_eq] at h
          obtain ⟨l, h', m, hb, hK⟩ := sliceBounds_sound (P := P) (b := false) h
          refine ⟨_, hK, fun w dst pos after guard => ?_⟩
          by_cases hml : m = l
          · subst hml
            simp [execOp, Instr.sliceAt, run_underlying_of hd, hx, hb, run_sizeOf_of (hT _ _ hte), slAddr, Instr.sureAddr]
          · simp [execOp, Instr.sliceAt, run_underlying_of hd, hx, hb, run_sizeOf_of (hT _ _ hte), slAddr, Instr.sureAddr, hml]
        · exact h.elim
      · exact h.elim
    · exact h.elim
  | extract t i =>
    simp only [pux] at h
    split at h
    · rename_i vs hx
      rw [nth_eq, Array.getElem?_toList] at h
      split at h
      · rename_i v hv
        exact ⟨v, h, fun w dst pos after guard => by simp [execOp, Instr.extract, hx, hv]⟩
      · exact h.elim
    · exact h.elim
  | build T parts => exact pux_build hT h
  | makeInterface T x =>
    simp only [pux] at h
    split at h
    · rename_i ti hti
      obtain ⟨d, hd, hk⟩ := (hT _ _ hti).desc
      split at h
      · exact h.elim
      · rename_i hne
        refine ⟨_, h, fun w dst pos after guard => ?_⟩
        cases d <;> simp [execOp, Instr.makeInterface, run_underlying_of hd]
        rw [← hk] at hne
        exact (hne rfl).elim
    · exact h.elim
  | call c =>
    simp only [pux] at h
    obtain ⟨callee, args, argTypes⟩ := c
    have hargs : ∀ l, mapL ρ args.toList = l → args.map ρ = l.toArray := fun l h => by
      rw [mapL_eq] at h
      apply Array.toList_inj.1; simpa using h
    have hty : ∀ T l, argTypes.toList = T :: l → argTypes[0]? = some T := fun T l h => by
      rw [← Array.getElem?_toList, h]; rfl
    have hE : ∀ (bi : Builtin) v, (∀ w, (builtin bi argTypes ty (args.map fun | .const _ => true | _ => false) (args.map ρ)).run P w = .ok (.value v) w) →
        Yv P (.call ⟨.builtin bi, args, argTypes⟩) ty ρ v := fun bi v hv w dst pos after guard => by
      simp only [execOp, resolve, invoke, Sem.run_bind, Sem.run_pure, Result.andThen_ok]
      exact hv w
    dsimp only at h
    split at h
    case h_1 p n k T l hl hT' =>
      rw [hargs _ hl] at hE
      split at h
      · rename_i ti hti
        obtain ⟨d, hd, hk⟩ := (hT _ _ hti).desc
        split at h
        · rename_i e he
          rw [he] at hk
          have := kd_slice hk; subst this
          exact ⟨_, h, hE _ _ (fun w => by simp [builtin, Builtin.len_, hty _ _ hT', run_underlying_of hd, goInt])⟩
        · exact h.elim
      · exact h.elim
    case h_2 s T l hl hT' =>
      rw [hargs _ hl] at hE
      split at h
      · rename_i ti hti
        obtain ⟨d, hd, hk⟩ := (hT _ _ hti).desc
        split at h
        · rename_i he
          rw [he] at hk
          have := kd_string hk; subst this
          exact ⟨_, h, hE _ _ (fun w => by simp [builtin, Builtin.len_, hty _ _ hT', run_underlying_of hd, goInt])⟩
        · exact h.elim
      · exact h.elim
    case h_3 cs T l hl hT' =>
      rw [hargs _ hl] at hE
      split at h
      · rename_i ti hti
        obtain ⟨d, hd, hk⟩ := (hT _ _ hti).desc
        split at h
        · rename_i n e he
          rw [he] at hk
          have := kd_array hk; subst this
          exact ⟨_, h, hE _ _ (fun w => by simp [builtin, Builtin.len_, hty _ _ hT', run_underlying_of hd, goInt])⟩
        · exact h.elim
      · exact h.elim
    case h_4 p n k T l hl hT' =>
      rw [hargs _ hl] at hE
      split at h
      · rename_i ti hti
        obtain ⟨d, hd, hk⟩ := (hT _ _ hti).desc
        split at h
        · rename_i e he
          rw [he] at hk
          have := kd_slice hk; subst this
          exact ⟨_, h, hE _ _ (fun w => by simp [builtin, Builtin.cap_, hty _ _ hT', run_underlying_of hd, goInt])⟩
        · exact h.elim
      · exact h.elim
    case h_5 k a j b hl =>
      rw [hargs _ hl] at hE
      obtain ⟨rfl, h1⟩ := h.out
      exact ⟨_, h1, hE _ _ (fun w => by simp [builtin, Builtin.min_, Builtin.min2])⟩
    case h_6 k a j b hl =>
      rw [hargs _ hl] at hE
      obtain ⟨rfl, h1⟩ := h.out
      exact ⟨_, h1, hE _ _ (fun w => by simp [builtin, Builtin.max_, Builtin.max2])⟩
    case h_7 => exact h.elim
  | _ => exact h.elim
end
end Go.Proofs.Ytopecljhehcldaa.Gx
