/- The framework, part E: two values of a struct of integers, bools and strings, or two arrays of integers, are equal just if their parts are. -/
import Derived.Test.YtopecljhehcldaaGxL
import Derived.Laws.StructEq
import Derived.ChangeKeysEq
namespace Go.Proofs.Ytopecljhehcldaa.Gx
open Go
set_option linter.unusedSimpArgs false

def partV (tj : TI) (cs : Array Value) (off : Nat) : Option Value :=
  match tj.kd.isAgg with
  | true => some (.agg (takeL tj.size (dropL off cs.toList)).toArray)
  | false => nth cs.toList off

def eqK : IntKind → IntKind → Bool
  | .i64, .i64 => true | .u64, .u64 => true | .u8, .u8 => true | .i32, .i32 => true | .u32, .u32 => true | .i8, .i8 => true | .i16, .i16 => true | .u16, .u16 => true
  | _, _ => false
theorem eqK_eq {j k : IntKind} (h : eqK j k = true) : j = k := by cases j <;> cases k <;> first | rfl | cases h

def eqF (tb : Tab) (E : TypeId → Value → Value → Option Bool) (xs ys : Array Value) : List Field → Option Bool
  | [] => some true
  | f :: fs => match decide (f.name = "_") with
    | true => none
    | false => match tb f.type with
      | none => none
      | some tj => match partV tj xs f.offset, partV tj ys f.offset with
        | some x, some y => match E f.type x y, eqF tb E xs ys fs with
          | some a, some b => some (a && b)
          | _, _ => none
        | _, _ => none

def eqL (P : Program) (tb : Tab) : Nat → TypeId → Value → Value → Option Bool
  | 0, _, _, _ => none
  | d + 1, t, x, y => match tb t with
    | none => none
    | some ti => match ti.kd, x, y with
      | .int _, .int k a, .int j b => match eqK k j with
        | true => some (a == b)
        | false => none
      | .bool, .bool a, .bool b => some (a == b)
      | .string, .string a, .string b => some (a.toList == b.toList)
      | .struct _, .agg xs, .agg ys => match P.stoodInHeld t with
        | true => none
        | false => eqF tb (eqL P tb d) xs ys (P.fieldsOf t).toList
      | _, _, _ => none

section
variable {P : Program} {tb : Tab}

theorem partV_run (hT : tb.Ok P) {T : TypeId} {tj : TI} (h : tb T = some tj) {cs : Array Value} {off : Nat} {v : Value} (hp : partV tj cs off = some v) (w : World) : (part T cs off).run P w = .ok v w := by
  have : partX tj cs off (fun u => u = v) := by
    unfold partX
    unfold partV at hp
    cases hk : tj.kd.isAgg with
    | true => rw [hk] at hp; exact Option.some.inj hp
    | false =>
      rw [hk] at hp
      dsimp only at hp ⊢
      rw [hp]
  obtain ⟨u, hu, hr⟩ := run_part_of (hT _ _ h) this
  rw [← hu]; exact hr w

theorem eqF_run (hT : tb.Ok P) {d : Nat} {E : TypeId → Value → Value → Option Bool} (hE : ∀ t x y b, E t x y = some b → ∀ w, (Op.equalIn d t x y).run P w = .ok b w) {xs ys : Array Value} : ∀ (fs : List Field) (b : Bool), eqF tb E xs ys fs = some b → ∀ w, (Op.eqFields d xs ys fs).run P w = .ok b w
  | [], b, h, w => by simp only [eqF, Option.some.injEq] at h; subst h; simp [Op.eqFields]
  | f :: fs, b, h, w => by
    simp only [eqF] at h
    split at h
    · cases h
    · rename_i hn
      have hn' : f.name ≠ "_" := by simpa using hn
      split at h
      · cases h
      · rename_i tj htj
        split at h
        · rename_i x y hx hy
          split at h
          · rename_i a b' ha hb
            simp only [Option.some.injEq] at h
            subst h
            have ih := eqF_run hT hE fs b' hb
            simp only [Op.eqFields, if_pos hn', Sem.run_bind, partV_run hT htj hx, partV_run hT htj hy, Result.andThen_ok, hE _ _ _ _ ha]
            cases a
            · simp
            · simpa using ih w
          · cases h
        · cases h

theorem eqL_run (hT : tb.Ok P) : ∀ (d : Nat) (t : TypeId) (x y : Value) (b : Bool), eqL P tb d t x y = some b → ∀ d', d ≤ d' → ∀ w, (Op.equalIn d' t x y).run P w = .ok b w
  | 0, _, _, _, _, h, _, _, _ => by cases h
  | d + 1, t, x, y, b, h, d', hd, w => by
    obtain ⟨d', rfl⟩ : ∃ e, d' = e + 1 := ⟨d' - 1, by omega⟩
    simp only [eqL] at h
    split at h
    · cases h
    · rename_i ti hti
      obtain ⟨u, hu, hk⟩ := (hT _ _ hti).desc
      split at h
      · rename_i k' k a j b' hkd
        rw [hkd] at hk
        have := kd_int hk; subst this
        split at h
        · rename_i he
          have := eqK_eq he; subst this
          simp only [Option.some.injEq] at h; subst h
          exact run_equalIn_int w d' t _ _ a b' hu
        · cases h
      · rename_i a b' hkd
        rw [hkd] at hk
        have := kd_bool hk; subst this
        simp only [Option.some.injEq] at h; subst h
        exact run_equalIn_bool' w d' t a b' hu
      · rename_i a b' hkd
        rw [hkd] at hk
        have := kd_string hk; subst this
        simp only [Option.some.injEq] at h; subst h
        exact run_equalIn_string w d' t a b' hu
      · rename_i fs xs ys hkd
        rw [hkd] at hk
        obtain ⟨fs', rfl, _⟩ := kd_struct hk
        split at h
        · cases h
        · rename_i hs
          have hf : P.fieldsOf t = fs' := by simp [Program.fieldsOf, hu]
          rw [run_equalIn_struct w d' t xs ys (by rw [hf]; exact hu) hs]
          exact eqF_run hT (fun t x y b hb w => eqL_run hT d t x y b hb d' (by omega) w) _ _ h w
      · cases h

/-- Two structs. -/
theorem eqAt_struct (hT : tb.Ok P) {d : Nat} (hd : d ≤ 10000) {t : TypeId} {xs ys : Array Value} {b : Bool} (h : eqL P tb d t (.agg xs) (.agg ys) = some b) (hg : P.eqGuardType P.depth t = false) : EqAt P t (.agg xs) (.agg ys) b := by
  intro xo yo w
  have h1 := eqL_run hT d t _ _ b h 10000 hd w
  constructor
  · simp only [Sem.run_bind, run_eqGuard_agg w _ t xo yo xs ys hg, Result.andThen_ok, run_eql_struct, h1]
  · simp only [Sem.run_bind, run_eqGuard_agg w _ t xo yo xs ys hg, Result.andThen_ok, run_neq_struct, h1]

/-! ### Arrays of integers -/
theorem eqItems_ints (hT : tb.Ok P) {e : TypeId} {te : TI} (hte : tb e = some te) {k : IntKind} (hk : te.kd = .int k) (hz : te.size = 1) (d : Nat) {k' : IntKind} {xs ys : List Int} (hl : xs.length = ys.length) (w : World) :
    ∀ (n i : Nat), i + n = xs.length → (Op.eqItems (d + 1) e 1 (xs.map (Value.int k')).toArray (ys.map (Value.int k')).toArray (List.range' i n)).run P w = .ok (xs.drop i == ys.drop i) w
  | 0, i, h => by
    rw [List.drop_of_length_le (by omega), List.drop_of_length_le (by omega)]; simp [Op.eqItems]
  | n + 1, i, h => by
    obtain ⟨u, hu, hkd⟩ := (hT _ _ hte).desc
    rw [hk] at hkd
    have := kd_int hkd; subst this
    have hi : i < xs.length := by omega
    have hi' : i < ys.length := by omega
    have hp : ∀ (l : List Int) (h : i < l.length), partV te (l.map (Value.int k')).toArray (i * 1) = some (.int k' l[i]) := fun l hl => by
      unfold partV
      rw [hk]
      simp only [Kd.isAgg, Nat.mul_one]
      rw [nth_eq]
      simp [hl]
    have ih := eqItems_ints hT hte hk hz d (k' := k') hl w n (i + 1) (by omega)
    rw [List.range'_succ]
    simp only [Op.eqItems, Sem.run_bind, partV_run hT hte (hp xs hi), partV_run hT hte (hp ys hi'), Result.andThen_ok, run_equalIn_int w d e k' k xs[i] ys[i] hu]
    rw [List.drop_eq_getElem_cons hi, List.drop_eq_getElem_cons hi', List.cons_beq_cons]
    cases hb : xs[i] == ys[i]
    · simp
    · simpa using ih

theorem eqAt_ints (hT : tb.Ok P) {t e : TypeId} {ti te : TI} {n : Nat} (hti : tb t = some ti) (hkt : ti.kd = .array n e) (hte : tb e = some te) {k : IntKind} (hk : te.kd = .int k) (hz : te.size = 1) {k' : IntKind} {xs ys : List Int} (hx : xs.length = n) (hy : ys.length = n)
    (hg : P.eqGuardType P.depth t = false) : EqAt P t (.agg (xs.map (Value.int k')).toArray) (.agg (ys.map (Value.int k')).toArray) (xs == ys) := by
  intro xo yo w
  obtain ⟨u, hu, hkd⟩ := (hT _ _ hti).desc
  rw [hkt] at hkd
  have := kd_array hkd; subst this
  obtain ⟨j, hj, hs, _⟩ := (hT _ _ hte).row
  have hc : P.cellsOf e = 1 := by
    have h1 := run_sizeOf w hj
    have h2 := run_sizeOf_of (hT _ _ hte) w
    rw [h1, hz] at h2
    injection h2
  have h1 : (Op.equalIn 10000 t (.agg (xs.map (Value.int k')).toArray) (.agg (ys.map (Value.int k')).toArray)).run P w = .ok (xs == ys) w := by
    rw [show 10000 = 9998 + 1 + 1 from rfl, run_equalIn_array w (9998 + 1) _ _ hu hj, hc, List.range_eq_range']
    have := eqItems_ints hT hte hk hz 9998 (k' := k') (hx.trans hy.symm) w n 0 (by omega)
    simpa using this
  constructor
  · simp only [Sem.run_bind, run_eqGuard_agg w _ t xo yo _ _ hg, Result.andThen_ok, run_eql_struct, h1]
  · simp only [Sem.run_bind, run_eqGuard_agg w _ t xo yo _ _ hg, Result.andThen_ok, run_neq_struct, h1]
end
end Go.Proofs.Ytopecljhehcldaa.Gx
