/- The framework, part 6: what part 5 says of an operation is what its step needs. -/
import Derived.Test.YtopecljhehcldaaGx5
namespace Go.Proofs.Ytopecljhehcldaa.Gx
open Go
set_option linter.unusedSimpArgs false

def Runs (P : Program) (o : Oper) (ρ : Operand → Value) (w : World) (K : Value → World → Prop) : Prop :=
  ∃ n v w', (execOp ρ o).run P w = .ok n w' ∧ (n = .value v ∨ n = .skip ∧ v = undef) ∧ K v w'

section
variable {P : Program} {tb : Tab} {ρ : Operand → Value} {w : World} {K : Value → World → Prop}

theorem fz_fn (r : Option Nat) (f : FuncId) : (fz r).fn f := trivial
theorem fz_depth (r : Option Nat) : (fz r).depth.isSome = true → 1 ≤ 0 := fun h => by cases h

theorem wpIn_of_upon {r : Option Nat} {o : Oper} {a : Act} {next : Act → World → Prop} {Q : Exit → Act → World → Prop} (hd : ∀ c, o.op ≠ .defer c)
    (h : o.uponIn (fz r) 0 P a next Q ((execOp a.eval o).run P w)) : o.wpIn (fz r) 0 P a w next Q := by
  refine ⟨fun f _ => fz_fn r f, ?_⟩
  rw [Oper.semAt_eq _ _ _ hd]
  exact h

theorem Runs.wp {r : Option Nat} {o : Oper} {a : Act} {next : Act → World → Prop} {Q : Exit → Act → World → Prop} (h : Runs P o ρ w K) (ha : a.eval = ρ)
    (hd : ∀ c, o.op ≠ .defer c) (hn : ∀ v w', K v w' → next (a.put o.dst v) w') : o.wpIn (fz r) 0 P a w next Q := by
  obtain ⟨n, v, w', hr, hv, hK⟩ := h
  refine wpIn_of_upon hd ?_
  rw [ha, hr]
  rcases hv with rfl | ⟨rfl, rfl⟩
  · exact hn _ _ hK
  · exact hn _ _ hK

theorem loadCells_of {b o : Nat} {cs : List Value} (h : CellsAt w b o cs) : (loadCells ⟨b, o, none⟩ cs.length).run P w = .ok cs.toArray w :=
  run_loadCells_list w _ cs fun j v hv => by rw [addr_add]; exact h j v hv

theorem loadVar_of {T : TypeId} {ti : TI} (hi : ti.Ok P T) {b o : Nat} {v : Value} (h : LdF w ti b o v) : (loadVar T ⟨b, o, none⟩).run P w = .ok v w := by
  unfold LdF at h
  cases hk : ti.kd.isAgg with
  | true =>
    rw [hk] at h
    dsimp only at h
    split at h
    · rename_i cs
      split at h
      · rename_i hl
        have hl := hasLen_eq _ _ hl
        have := loadCells_of (P := P) h
        rw [hl] at this
        simp [loadVar, run_isAgg_of hi, hk, run_sizeOf_of hi, this]
      · exact h.elim
    · exact h.elim
  | false =>
    rw [hk] at h
    simp [loadVar, run_isAgg_of hi, hk, run_load, show w.cell? ⟨b, o, none⟩ = some v from h]

theorem firstCells_of {size n k : Nat} {p : Option Addr} {cs : List Value} {len : Nat} (h : ReadC w p (n * size) cs) :
    (Builtin.firstCells size n (.slice p len k)).run P w = .ok cs.toArray w := by
  unfold ReadC at h
  split at h
  · rename_i b o
    have := loadCells_of (P := P) h.2
    rw [h.1] at this
    simpa [Builtin.firstCells] using this
  · rename_i a _
    obtain ⟨h1, rfl⟩ := h
    simp [Builtin.firstCells, h1, loadCells, loadCellsFrom]
  · subst h; simp [Builtin.firstCells]

theorem run_newRow (e : TypeId) (cells : Array Value) : (newRow e cells).run P w = .ok ⟨w.heap.size, 0, none⟩ { w with heap := w.heap.push (.cells cells e) } := by
  simp [newRow]

theorem alloc_runs {o : Obj} {K : Nat → World → Prop} (h : AllocP w o K) : K w.heap.size { w with heap := w.heap.push o } := h.use

theorem growBy_le (need : Nat) : ∀ (r c : Nat), c ≤ 2 * need + 1024 → Builtin.growBy need r c ≤ 2 * need + 1024
  | 0, c, h => h
  | r + 1, c, h => by
    unfold Builtin.growBy
    split
    · exact h
    · exact growBy_le need r _ (by omega)

theorem nextslicecap_le (need c : Nat) (h : c < need) : Builtin.nextslicecap need c ≤ 2 * need + 1024 := by
  unfold Builtin.nextslicecap
  split
  · omega
  · split
    · omega
    · exact growBy_le need 4 c (by omega)

theorem grow_facts {T : TypeId} {te : TI} (he : te.Ok P T) {p : Option Addr} {n k cnt : Nat} {oldc : List Value}
    (hold : ReadC w p (n * te.size) oldc) (hk : k < n + cnt) (hr : Roomy (n + cnt) te.bytes) :
    ∃ j, (∀ w, (typeInfo T).run P w = .ok j w) ∧ ¬ (9223372036854775807 : Int) < (n : Int) + (cnt : Int) ∧ ¬ 281474976710656 < Builtin.nextslicecap (n + cnt) k * j.bytes ∧
      (Builtin.firstCells te.size n (.slice p n k)).run P w.drew = .ok oldc.toArray w.drew ∧ (∀ z : Array Value, ∀ l : List Value, oldc.toArray ++ (l.toArray ++ z) = (oldc ++ l ++ z.toList).toArray) ∧ j.bytes = te.bytes := by
  obtain ⟨j, hjs, hjb, hjz, hj⟩ := run_typeInfo_of he
  refine ⟨j, hj, ?_, ?_, firstCells_of (w := w.drew) hold, fun z l => by apply Array.toList_inj.1; simp, hjb⟩
  · have := hr.1
    omega
  · have h3 := nextslicecap_le (n + cnt) k hk
    have h4 := hr.2
    rw [hjb]
    have h5 := Nat.mul_le_mul_right te.bytes h3
    omega

theorem cut_append (need k : Nat) (T : TypeId) (t : Nat) : need ≤ (Question.appendCap need k T).cut t := by simp [Question.cut]

theorem append_runs {o : Oper} {args : Array Operand} {argTypes : Array TypeId} (ho : o.op = .call ⟨.builtin .append, args, argTypes⟩)
    (h : ∃ v w', (Builtin.append_ argTypes o.type (args.map ρ)).run P w = .ok v w' ∧ K v w') : Runs P o ρ w K := by
  obtain ⟨dst, op, ty, pos, after, guard⟩ := o
  dsimp only at ho h
  subst ho
  obtain ⟨v, w', hv, hK⟩ := h
  refine ⟨_, v, w', ?_, .inl rfl, hK⟩
  simp only [execOp, resolve, invoke, builtin, Sem.run_bind, Sem.run_pure, Result.andThen_ok, hv]

theorem append_slice {argTypes : Array TypeId} {ty : TypeId} {T T2 e : TypeId} {te : TI} {e2 : TypeId}
    (hu : P.underlying T = some (.slice e)) (h2 : P.underlying T2 = some (.slice e2)) (he : te.Ok P e) {p q : Option Addr} {n k m c : Nat} {new : List Value}
    (ht : argTypes[0]? = some T) (ht2 : argTypes[1]? = some T2) (hnew : ReadC w q (m * te.size) new)
    (h : AppendP te e w p n k m new fun s w' => K (.slice s.p s.n s.c) w') : ∃ v w', (Builtin.append_ argTypes ty #[.slice p n k, .slice q m c]).run P w = .ok v w' ∧ K v w' := by
  by_cases hfit : n + m ≤ k
  · have h1 := h.1 hfit
    have hf : (Builtin.firstCells te.size m (.slice q m c)).run P w = .ok new.toArray w := firstCells_of hnew
    split at h1
    · rename_i b o
      obtain ⟨w', hs, hK⟩ := h1.run (P := P)
      refine ⟨_, w', ?_, hK⟩
      simp [Builtin.append_, ht, ht2, run_underlying_of hu, run_underlying_of h2, run_sizeOf_of he, Builtin.lenOf, hfit, hf, addr_add, hs]
    · exact h1.elim
    · refine ⟨_, w, ?_, h1⟩
      simp [Builtin.append_, ht, ht2, run_underlying_of hu, run_underlying_of h2, run_sizeOf_of he, Builtin.lenOf, hfit, hf]
  · obtain ⟨hr, old, hold, hK⟩ := h.2 (by omega)
    obtain ⟨j, hj, h1, h2', hf, hA, _⟩ := grow_facts he hold (by omega : k < n + m) hr
    have hn : (Builtin.firstCells te.size m (.slice q m c)).run P w.drew = .ok new.toArray w.drew := firstCells_of (w := w.drew) hnew
    refine ⟨_, _, ?_, hK _ (cut_append (n + m) k e (w.tape w.drawn (.appendCap (n + m) k e))) _ _ (isAlloc_push _ _ (w.drawn + 1))⟩
    simp only [zc, ← hA]
    simp [Builtin.append_, ht, ht2, run_underlying_of hu, run_underlying_of h2, run_sizeOf_of he, Builtin.lenOf, hfit, hj, h1, h2', hf, hn, run_zeroValue_of he, run_newRow, Question.forced]
    rfl

theorem wrap64_of {n : Int} (h0 : 0 ≤ n) (h1 : n ≤ 281474976710656) : IntKind.i64.wrap n = n := by
  exact IntWalk.i64_in n (by omega)

theorem append_zeros {argTypes : Array TypeId} {ty : TypeId} {T T2 e : TypeId} {te : TI} {k2 ki : IntKind}
    (hu : P.underlying T = some (.slice e)) (h2 : P.underlying T2 = some (.int k2)) (he : te.Ok P e) {p : Option Addr} {n k : Nat} {m : Int}
    (ht : argTypes[0]? = some T) (ht2 : argTypes[1]? = some T2) (hm0 : 0 ≤ m) (hm1 : m ≤ 281474976710656) (hm2 : m * te.bytes ≤ 281474976710656) (hz : te.zero.cells.size = te.size)
    (h : AppendP te e w p n k m.toNat (zc te.zero.cells m.toNat) fun s w' => K (.slice s.p s.n s.c) w') : ∃ v w', (Builtin.append_ argTypes ty #[.slice p n k, .int ki m]).run P w = .ok v w' ∧ K v w' := by
  obtain ⟨j, hjs, hjb, hjz, hj⟩ := run_typeInfo_of he
  have hw : IntKind.i64.wrap m = m := wrap64_of hm0 hm1
  have hlt : ¬ m < 0 := by omega
  have hle : ¬ (281474976710656 : Int) < m * (j.bytes : Int) := by rw [hjb]; omega
  have hz0 : m.toNat * te.size = 0 → zc te.zero.cells m.toNat = [] := fun h0 => by simp [zc, Builtin.zeroCells, hz, h0]
  by_cases hfit : n + m.toNat ≤ k
  · have h1 := h.1 hfit
    split at h1
    · rename_i b o
      obtain ⟨w', hs, hK⟩ := h1.run (P := P)
      refine ⟨_, w', ?_, hK⟩
      by_cases h0 : m.toNat * te.size = 0
      · rw [hz0 h0] at hs
        skip
        simp [Builtin.append_, ht, ht2, run_underlying_of hu, run_underlying_of h2, run_sizeOf_of he, asInt, asIntOf, hw, hlt, hle, hj, hfit, h0, addr_add, hs]
      · simp only [zc] at hs
        simp [Builtin.append_, ht, ht2, run_underlying_of hu, run_underlying_of h2, run_sizeOf_of he, asInt, asIntOf, hw, hlt, hle, hj, hfit, h0, addr_add, run_zeroValue_of he, hs]
    · exact h1.elim
    · refine ⟨_, w, ?_, h1⟩
      by_cases h0 : m.toNat * te.size = 0
      · simp [Builtin.append_, ht, ht2, run_underlying_of hu, run_underlying_of h2, run_sizeOf_of he, asInt, asIntOf, hw, hlt, hle, hj, hfit, h0]
      · simp [Builtin.append_, ht, ht2, run_underlying_of hu, run_underlying_of h2, run_sizeOf_of he, asInt, asIntOf, hw, hlt, hle, hj, hfit, h0, run_zeroValue_of he]
  · obtain ⟨hr, old, hold, hK⟩ := h.2 (by omega)
    obtain ⟨j', hj', h1, h2', hf, hA, _⟩ := grow_facts he hold (by omega : k < n + m.toNat) hr
    obtain rfl : j = j' := by have := (hj w).symm.trans (hj' w); simpa using this
    have h1' : ¬ (9223372036854775807 : Int) < (n : Int) + m := by omega
    have h1'' : ¬ (9223372036854775807 : Int) < (n : Int) + max m 0 := by omega
    by_cases h0 : m.toNat * te.size = 0
    · rw [hz0 h0] at hK
      simp only [List.append_nil] at hK
      have hA' := fun z => hA z []
      simp only [List.append_nil, List.append_toArray, Array.empty_append] at hA'
      refine ⟨_, _, ?_, hK _ (cut_append (n + m.toNat) k e (w.tape w.drawn (.appendCap (n + m.toNat) k e))) _ _ (isAlloc_push _ _ (w.drawn + 1))⟩
      simp only [zc, ← hA']
      simp [Builtin.append_, ht, ht2, run_underlying_of hu, run_underlying_of h2, run_sizeOf_of he, asInt, asIntOf, hw, hlt, hle, hj, hfit, h0, h1', h1'', h2', hf, run_zeroValue_of he, run_newRow, Question.forced]
      rfl
    · have hA' := fun z => hA z (Builtin.zeroCells te.zero.cells m.toNat).toList
      refine ⟨_, _, ?_, hK _ (cut_append (n + m.toNat) k e (w.tape w.drawn (.appendCap (n + m.toNat) k e))) _ _ (isAlloc_push _ _ (w.drawn + 1))⟩
      simp only [zc, ← hA']
      simp [Builtin.append_, ht, ht2, run_underlying_of hu, run_underlying_of h2, run_sizeOf_of he, asInt, asIntOf, hw, hlt, hle, hj, hfit, h0, h1', h1'', h2', hf, run_zeroValue_of he, run_newRow, Question.forced]
      rfl
end
end Go.Proofs.Ytopecljhehcldaa.Gx
