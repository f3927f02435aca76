/- The framework, part 7: what part 5 says of an operation is what its step needs (the rest). -/
import Derived.Test.YtopecljhehcldaaGx6
namespace Go.Proofs.Ytopecljhehcldaa.Gx
open Go
set_option linter.unusedSimpArgs false

section
variable {P : Program} {tb : Tab} {ρ : Operand → Value} {w : World} {K : Value → World → Prop}

theorem load_runs (hT : tb.Ok P) {o : Oper} {T : TypeId} {p : Operand} (ho : o.op = .load T p) (h : LoadP tb w T (ρ p) fun v => K v w) : Runs P o ρ w K := by
  obtain ⟨dst, op, ty, pos, after, guard⟩ := o
  dsimp only at ho
  subst ho
  unfold LoadP at h
  split at h
  · rename_i ti b o hti hp
    obtain ⟨x, hx, hK⟩ := h
    exact ⟨_, _, w, by simp [execOp, Instr.loadAt, hp, Instr.sureAddr, loadVar_of (hT _ _ hti) hx], .inl rfl, hK⟩
  · exact h.elim

theorem checkKey_of {kt : TypeId} {d : TypeDesc} (hu : P.underlying kt = some d) (hd : ∃ k, d = .int k) (b : Bool) (v : Value) :
    (Instr.checkKey b 10000 kt v).run P w = .ok () w := by
  have : ∀ n, (Instr.checkKey b (n + 1) kt v).run P w = .ok () w := fun n => by
    obtain ⟨k, rfl⟩ := hd
    cases v <;> simp [Instr.checkKey, run_underlying_of hu]
  exact this 9999

theorem findKey_of {kt : TypeId} {d : TypeDesc} (hu : P.underlying kt = some d) {k : Value} {es : List MapEntry} {r : Option (Nat × Value)} (h : Instr.findNow d k es 0 = some r) :
    (Instr.findKey kt k es).run P w = .ok r w := by
  simp [Instr.findKey, run_underlying_of hu, h]

theorem keyDesc_of {kd : Kd} {d : TypeDesc} (h : keyDesc kd = some d) : ∃ k, d = .int k := by
  cases kd <;> simp [keyDesc] at h <;> subst h <;> simp

theorem keyDesc_desc {kd : Kd} {d d' : TypeDesc} (h : keyDesc kd = some d) (h' : kdOf d' = kd) : d' = d := by
  cases kd <;> simp [keyDesc] at h
  rw [kd_int h', h]

theorem findNow_same {d : TypeDesc} {k : Value} : ∀ {es : List MapEntry} {n i : Nat} {v : Value}, Instr.findNow d k es n = some (some (i, v)) →
    n ≤ i ∧ ∃ e, es[i - n]? = some e ∧ Instr.sameNow d k e.key = some true
  | [], n, i, v, h => by simp [Instr.findNow] at h
  | e :: es, n, i, v, h => by
    simp only [Instr.findNow] at h
    split at h
    · rename_i hs
      simp at h
      obtain ⟨rfl, rfl⟩ := h
      exact ⟨Nat.le_refl _, e, by simp, hs⟩
    · obtain ⟨h1, e', h2, h3⟩ := findNow_same h
      refine ⟨by omega, e', ?_, h3⟩
      rw [show i - n = (i - (n + 1)) + 1 by omega]
      simpa using h2
    · cases h

theorem keyThatStays_of {d : TypeDesc} {k old : Value} (hd : ∃ k, d = .int k) (h : Instr.sameNow d k old = some true) : (Instr.keyThatStays old k).run P w = .ok k w := by
  have hs : ∀ n, Instr.sameBits n old k = true := fun n => by
    obtain ⟨kk, rfl⟩ := hd
    cases n <;> unfold Instr.sameNow at h <;> split at h <;> simp_all [Instr.sameBits]
  simp [Instr.keyThatStays, hs]

theorem append_op (hT : tb.Ok P) {o : Oper} {args : Array Operand} {argTypes : Array TypeId} (ho : o.op = .call ⟨.builtin .append, args, argTypes⟩) (h : acx P tb o ρ w K) : Runs P o ρ w K := by
  refine append_runs ho ?_
  unfold acx at h
  rw [ho] at h
  dsimp only at h
  split at h
  case h_2 => exact h.elim
  rename_i p n k x T T2 l ha ht
  have hargs : args.map ρ = #[.slice p n k, x] := by rw [mapL_eq] at ha; apply Array.toList_inj.1; simpa using ha
  have ht1 : argTypes[0]? = some T := by rw [← Array.getElem?_toList, ht]; rfl
  have ht2 : argTypes[1]? = some T2 := by rw [← Array.getElem?_toList, ht]; rfl
  rw [hargs]
  split at h
  case h_2 => exact h.elim
  rename_i ti t2 hti ht2'
  obtain ⟨d, hd, hk⟩ := (hT _ _ hti).desc
  obtain ⟨d2, hd2, hk2⟩ := (hT _ _ ht2').desc
  split at h
  case h_2 => exact h.elim
  rename_i e he
  rw [he] at hk
  have := kd_slice hk; subst this
  split at h
  case h_2 => exact h.elim
  rename_i te hte
  split at h
  · rename_i k2 ki m he2
    rw [he2] at hk2
    have := kd_int hk2; subst this
    obtain ⟨⟨h0, h1, h2⟩, h⟩ := h
    exact append_zeros hd hd2 (hT _ _ hte) ht1 ht2 h0 h1 h2 (hT _ _ hte).zsz h
  · rename_i e2 q m c he2
    rw [he2] at hk2
    have := kd_slice hk2; subst this
    obtain ⟨cs, hcs, h⟩ := h
    exact append_slice hd hd2 (hT _ _ hte) ht1 ht2 hcs h
  · exact h.elim

theorem builtin_runs {o : Oper} {b : Builtin} {args : Array Operand} {argTypes : Array TypeId} (ho : o.op = .call ⟨.builtin b, args, argTypes⟩)
    (h : ∃ v w', (builtin b argTypes o.type (args.map fun | .const _ => true | _ => false) (args.map ρ)).run P w = .ok (.value v) w' ∧ K v w') : Runs P o ρ w K := by
  obtain ⟨dst, op, ty, pos, after, guard⟩ := o
  dsimp only at ho h
  subst ho
  obtain ⟨v, w', hv, hK⟩ := h
  refine ⟨_, v, w', ?_, .inl rfl, hK⟩
  simp only [execOp, resolve, invoke, Sem.run_bind, Sem.run_pure, Result.andThen_ok]
  exact hv

theorem run_getObj_of {r : Nat} {o : Obj} (h : w.heap[r]? = some o) (hc : ∀ a b c, o ≠ .cells a b c) : (getObj r).run P w = .ok o w := by
  cases o <;> simp [getObj, Sem.run, h]
  exact (hc _ _ _ rfl).elim

theorem run_setObj_of {r : Nat} {o : Obj} (h : w.heap[r]? = some o) (hc : ∀ a b c, o ≠ .cells a b c) (o' : Obj) :
    (setObj r o').run P w = .ok () { w with heap := w.heap.setIfInBounds r o' } := by
  cases o <;> simp [setObj, Sem.run, h]
  exact (hc _ _ _ rfl).elim

theorem isUpd_set {r : Nat} {o : Obj} (h : w.heap[r]? = some o) (o' : Obj) (d : Nat) : IsUpd w r o' { w with heap := w.heap.setIfInBounds r o', drawn := d } := by
  have hr : r < w.heap.size := (Array.getElem?_eq_some_iff.1 h).1
  refine ⟨by simp, by simp [hr], fun i hi => ?_, ⟨rfl, rfl, rfl⟩⟩
  show (w.heap.setIfInBounds r o')[i]? = _
  rw [Array.getElem?_setIfInBounds_ne (Ne.symm hi)]

theorem copy_op (hT : tb.Ok P) {o : Oper} {args : Array Operand} {argTypes : Array TypeId} (ho : o.op = .call ⟨.builtin .copy, args, argTypes⟩) (h : acx P tb o ρ w K) : Runs P o ρ w K := by
  refine builtin_runs ho ?_
  unfold acx at h
  rw [ho] at h
  dsimp only at h
  split at h
  case h_2 => exact h.elim
  rename_i p n k q m c T l ha ht
  have hargs : args.map ρ = #[.slice p n k, .slice q m c] := by rw [mapL_eq] at ha; apply Array.toList_inj.1; simpa using ha
  have ht1 : argTypes[0]? = some T := by rw [← Array.getElem?_toList, ht]; rfl
  rw [hargs]
  split at h
  case h_2 => exact h.elim
  rename_i ti hti
  obtain ⟨d, hd, hk⟩ := (hT _ _ hti).desc
  split at h
  case h_2 => exact h.elim
  rename_i e he
  rw [he] at hk
  have := kd_slice hk; subst this
  split at h
  case h_2 => exact h.elim
  rename_i te hte
  obtain ⟨cs, hcs, h⟩ := h
  have hf : (Builtin.firstCells te.size (Nat.min m n) (.slice q m c)).run P w = .ok cs.toArray w := firstCells_of hcs
  split at h
  · rename_i b o
    obtain ⟨w', hs, hK⟩ := h.run (P := P)
    refine ⟨_, w', ?_, hK⟩
    simp [builtin, Builtin.copy_, ht1, run_underlying_of hd, Builtin.lenOf, run_sizeOf_of (hT _ _ hte), hf, hs, goInt]
  · exact h.elim
  · refine ⟨_, w, ?_, h⟩
    simp [builtin, Builtin.copy_, ht1, run_underlying_of hd, Builtin.lenOf, run_sizeOf_of (hT _ _ hte), hf, goInt]

theorem clear_op (hT : tb.Ok P) {o : Oper} {args : Array Operand} {argTypes : Array TypeId} (ho : o.op = .call ⟨.builtin .clear, args, argTypes⟩) (h : acx P tb o ρ w K) : Runs P o ρ w K := by
  refine builtin_runs ho ?_
  unfold acx at h
  rw [ho] at h
  dsimp only at h
  split at h
  case h_3 => exact h.elim
  · rename_i p n k T l ha ht
    have hargs : args.map ρ = #[.slice p n k] := by rw [mapL_eq] at ha; apply Array.toList_inj.1; simpa using ha
    have ht1 : argTypes[0]? = some T := by rw [← Array.getElem?_toList, ht]; rfl
    rw [hargs]
    split at h
    case h_2 => exact h.elim
    rename_i ti hti
    obtain ⟨d, hd, hk⟩ := (hT _ _ hti).desc
    split at h
    case h_2 => exact h.elim
    rename_i e he
    rw [he] at hk
    have := kd_slice hk; subst this
    split at h
    case h_2 => exact h.elim
    rename_i te hte
    split at h
    · exact ⟨_, w, by simp [builtin, Builtin.clear_, ht1, run_underlying_of hd], h⟩
    · rename_i b o
      obtain ⟨w', hs, hK⟩ := h.run (P := P)
      refine ⟨_, w', ?_, hK⟩
      cases n with
      | zero =>
        have : zc te.zero.cells 0 = [] := by simp [zc, Builtin.zeroCells]
        rw [this] at hs
        simp [storeCells] at hs
        subst hs
        simp [builtin, Builtin.clear_, ht1, run_underlying_of hd]
      | succ n =>
        simp only [zc] at hs
        simp [builtin, Builtin.clear_, ht1, run_underlying_of hd, run_zeroValue_of (hT _ _ hte), hs]
    · exact h.elim
  · rename_i p T l ha ht
    have hargs : args.map ρ = #[.map p] := by rw [mapL_eq] at ha; apply Array.toList_inj.1; simpa using ha
    have ht1 : argTypes[0]? = some T := by rw [← Array.getElem?_toList, ht]; rfl
    rw [hargs]
    split at h
    case h_2 => exact h.elim
    rename_i ti hti
    obtain ⟨d, hd, hk⟩ := (hT _ _ hti).desc
    cases p with
    | none => exact ⟨_, w, by simp [builtin, Builtin.clear_, ht1, run_underlying_of hd], h⟩
    | some r =>
      obtain ⟨es, ck, hr, hK⟩ := h
      refine ⟨_, _, ?_, hK _ (isUpd_set hr (.map #[] ck) w.drawn)⟩
      have h1 := run_getObj_of (P := P) hr (by simp)
      have h2 := run_setObj_of (P := P) hr (by simp) (.map #[] ck)
      cases d <;> simp [builtin, Builtin.clear_, ht1, run_underlying_of hd, h1, h2]

theorem delete_op (hT : tb.Ok P) {o : Oper} {args : Array Operand} {argTypes : Array TypeId} (ho : o.op = .call ⟨.builtin .delete, args, argTypes⟩) (h : acx P tb o ρ w K) : Runs P o ρ w K := by
  refine builtin_runs ho ?_
  unfold acx at h
  rw [ho] at h
  dsimp only at h
  split at h
  case h_2 => exact h.elim
  rename_i p k T l ha ht
  have hargs : args.map ρ = #[.map p, k] := by rw [mapL_eq] at ha; apply Array.toList_inj.1; simpa using ha
  have ht1 : argTypes[0]? = some T := by rw [← Array.getElem?_toList, ht]; rfl
  rw [hargs]
  split at h
  case h_2 => exact h.elim
  rename_i ti hti
  obtain ⟨d, hd, hk⟩ := (hT _ _ hti).desc
  split at h
  case h_2 => exact h.elim
  rename_i kt et he
  rw [he] at hk
  have := kd_map hk; subst this
  split at h
  case h_2 => exact h.elim
  rename_i tk htk
  obtain ⟨dk, hdk, hkk⟩ := (hT _ _ htk).desc
  split at h
  case h_2 => exact h.elim
  rename_i kd hkd
  have := keyDesc_desc hkd hkk; subst this
  have hc := fun b => checkKey_of (P := P) (w := w) hdk (keyDesc_of hkd) b k
  cases p with
  | none => exact ⟨_, w, by simp [builtin, Builtin.delete_, ht1, run_underlying_of hd, hc], h⟩
  | some r =>
    obtain ⟨es, ck, hr, q, hq, hK⟩ := h
    have h1 := run_getObj_of (P := P) hr (by simp)
    have h3 := findKey_of (P := P) (w := w) hdk hq
    split at hK
    · rename_i i v
      have h2 := run_setObj_of (P := P) hr (by simp) (.map (es.eraseIdxIfInBounds i) ck)
      exact ⟨_, _, by simp [builtin, Builtin.delete_, ht1, run_underlying_of hd, hc, h1, h2, h3], hK _ (isUpd_set hr _ w.drawn)⟩
    · have h2 := run_setObj_of (P := P) hr (by simp) (.map es ck)
      exact ⟨_, _, by simp [builtin, Builtin.delete_, ht1, run_underlying_of hd, hc, h1, h2, h3], hK _ (isUpd_set hr _ w.drawn)⟩

theorem maplen_op (hT : tb.Ok P) {o : Oper} {args : Array Operand} {argTypes : Array TypeId} (ho : o.op = .call ⟨.builtin .len, args, argTypes⟩) (h : acx P tb o ρ w K) : Runs P o ρ w K := by
  refine builtin_runs ho ?_
  unfold acx at h
  rw [ho] at h
  dsimp only at h
  split at h
  case h_2 => exact h.elim
  rename_i p T l ha ht
  have hargs : args.map ρ = #[.map p] := by rw [mapL_eq] at ha; apply Array.toList_inj.1; simpa using ha
  have ht1 : argTypes[0]? = some T := by rw [← Array.getElem?_toList, ht]; rfl
  rw [hargs]
  split at h
  case h_2 => exact h.elim
  rename_i ti hti
  obtain ⟨d, hd, hk⟩ := (hT _ _ hti).desc
  split at h
  case h_2 => exact h.elim
  rename_i kt et he
  rw [he] at hk
  have := kd_map hk; subst this
  cases p with
  | none => exact ⟨_, w, by simp [builtin, Builtin.len_, ht1, run_underlying_of hd, goInt], h⟩
  | some r =>
    obtain ⟨es, ck, hr, hK⟩ := h
    have h1 := run_getObj_of (P := P) hr (by simp)
    exact ⟨_, w, by simp [builtin, Builtin.len_, ht1, run_underlying_of hd, goInt, h1], hK⟩

theorem lookup_op (hT : tb.Ok P) {o : Oper} {T : TypeId} {m k : Operand} {ok : Bool} (ho : o.op = .lookup T m k ok) (h : acx P tb o ρ w K) : Runs P o ρ w K := by
  obtain ⟨dst, op, ty, pos, after, guard⟩ := o
  dsimp only at ho
  subst ho
  unfold acx at h
  dsimp only at h
  split at h
  case h_2 => exact h.elim
  rename_i ti hti
  obtain ⟨d, hd, hk⟩ := (hT _ _ hti).desc
  split at h
  case h_2 => exact h.elim
  rename_i kt et he
  rw [he] at hk
  have := kd_map hk; subst this
  split at h
  case h_2 => exact h.elim
  rename_i tk te htk hte
  obtain ⟨dk, hdk, hkk⟩ := (hT _ _ htk).desc
  split at h
  case h_2 => exact h.elim
  rename_i kd hkd
  have := keyDesc_desc hkd hkk; subst this
  obtain ⟨es, hm, r, hr, hK⟩ := h
  have hc := fun b => checkKey_of (P := P) (w := w) hdk (keyDesc_of hkd) b (ρ k)
  have h3 := findKey_of (P := P) (w := w) hdk hr
  have hz := run_zeroValue_of (hT _ _ hte) w
  have hrun : ∀ v b, (match r with | some (_, v) => (v, true) | none => (te.zero, false)) = (v, b) →
      (Instr.lookup T (ρ m) (ρ k) ok).run P w = .ok (if ok then .tuple #[v, .bool b] else v) w := fun v b hvb => by
    unfold MapRd at hm
    split at hm
    · rename_i hm'
      subst hm
      cases r with
      | none => simp only [Prod.mk.injEq] at hvb; obtain ⟨rfl, rfl⟩ := hvb; simp [Instr.lookup, run_underlying_of hd, hm', hc, h3, hz]
      | some q => simp [Instr.findNow] at hr
    · rename_i r' hm'
      obtain ⟨a, ck, hb, rfl⟩ := hm
      have h1 := run_getObj_of (P := P) hb (by simp)
      cases r with
      | none => simp only [Prod.mk.injEq] at hvb; obtain ⟨rfl, rfl⟩ := hvb; simp [Instr.lookup, run_underlying_of hd, hm', h1, hc, h3, hz]
      | some q => simp only [Prod.mk.injEq] at hvb; obtain ⟨rfl, rfl⟩ := hvb; simp [Instr.lookup, run_underlying_of hd, hm', h1, hc, h3]
    · exact hm.elim
  have hend : ∀ v b, (match r with | some (_, v) => (v, true) | none => (te.zero, false)) = (v, b) → K (if ok then .tuple #[v, .bool b] else v) w →
      Runs P { dst, op := .lookup T m k ok, type := ty, pos, after, guard } ρ w K := fun v b hvb hK =>
    ⟨_, _, w, by simp only [execOp, Sem.run_bind, hrun v b hvb, Result.andThen_ok, Sem.run_pure], .inl rfl, hK⟩
  cases r with
  | none =>
    have h := Typed.out hK
    cases ok with
    | true => exact hend _ _ rfl h
    | false => exact hend _ _ rfl h
  | some q =>
    obtain ⟨i, v⟩ := q
    have h := Typed.out hK
    cases ok with
    | true => exact hend _ _ rfl h
    | false => exact hend _ _ rfl h

theorem mapUpdate_op (hT : tb.Ok P) {o : Oper} {T : TypeId} {m k x : Operand} (ho : o.op = .mapUpdate T m k x) (h : acx P tb o ρ w K) : Runs P o ρ w K := by
  obtain ⟨dst, op, ty, pos, after, guard⟩ := o
  dsimp only at ho
  subst ho
  unfold acx at h
  dsimp only at h
  split at h
  case h_2 => exact h.elim
  rename_i ti hti
  obtain ⟨d, hd, hk⟩ := (hT _ _ hti).desc
  split at h
  case h_2 => exact h.elim
  rename_i kt et he
  rw [he] at hk
  have := kd_map hk; subst this
  split at h
  case h_2 => exact h.elim
  rename_i tk htk
  obtain ⟨dk, hdk, hkk⟩ := (hT _ _ htk).desc
  split at h
  case h_2 => exact h.elim
  rename_i kd hkd
  have := keyDesc_desc hkd hkk; subst this
  obtain ⟨r, hm, es, ck, hr, q, hq, hK⟩ := h
  have hc := fun b => checkKey_of (P := P) (w := w) hdk (keyDesc_of hkd) b (ρ k)
  have h1 := run_getObj_of (P := P) hr (by simp)
  have h3 := findKey_of (P := P) (w := w) hdk hq
  split at hK
  · rename_i i v
    obtain ⟨_, e, he, hs⟩ := findNow_same hq
    have h4 := keyThatStays_of (P := P) (w := w) (keyDesc_of hkd) hs
    have h2 := run_setObj_of (P := P) hr (by simp) (.map (es.modify i fun e => { e with key := ρ k, val := ρ x }) ck)
    have he' : es[i]? = some e := by simpa using he
    exact ⟨_, _, _, by simp [execOp, Instr.mapUpdate, run_underlying_of hd, hm, h1, hc, h3, he', h4, h2], .inr ⟨rfl, rfl⟩, hK _ (isUpd_set hr _ w.drawn)⟩
  · have h2 := run_setObj_of (P := P) hr (by simp) (.map (es.push { key := ρ k, val := ρ x, born := ck }) (ck + 1))
    exact ⟨_, _, _, by simp [execOp, Instr.mapUpdate, run_underlying_of hd, hm, h1, hc, h3, h2], .inr ⟨rfl, rfl⟩, hK _ (isUpd_set hr _ w.drawn)⟩
end
end Go.Proofs.Ytopecljhehcldaa.Gx
