/- The framework, part 10: a region whose order is open, continued. -/
import Derived.Test.YtopecljhehcldaaGx9
import Derived.StillTail
namespace Go.Proofs.Ytopecljhehcldaa.Gx
open Go
set_option linter.unusedSimpArgs false

/-! ### Regions whose order is drawn -/
def isLoad : Op → Bool
  | .load _ _ => true
  | _ => false

def stillB (tb : Tab) (ops : Array Oper) (i : Nat) : Bool :=
  match ops[i]? with
  | some o => pureB tb o.op || isLoad o.op
  | none => false

/-- Does operation k wait for operation i, if by others? -/
def waitsB (ops : Array Oper) (i k : Nat) : Bool := ((Region.before ops).getD k 0).testBit i

abbrev Pend := List (Nat × (World → Prop))

/-- Is what operation i loaded still to be readable: is none done that acts and waits for it? -/
def needB (tb : Tab) (ops : Array Oper) (listed : Array Bool) (i : Nat) : Bool :=
  (List.range ops.size).all fun k => stillB tb ops k || !listed.getD k false || !waitsB ops i k

def pendC (tb : Tab) (ops : Array Oper) (listed : Array Bool) (w : World) : Pend → Prop → Prop
  | [], A => A
  | (i, F) :: rest, A => match needB tb ops listed i with
    | true => F w ∧ pendC tb ops listed w rest A
    | false => pendC tb ops listed w rest A

def loadF (tb : Tab) (T : TypeId) (p v : Value) : World → Prop := fun w =>
  match tb T, p with
  | some ti, .pointer (some ⟨b, o, none⟩) => LdF w ti b o v
  | _, _ => False

/-- Whatever operation k waits for, if by others, is reached by its own edges. -/
def beforeIn (ops : Array Oper) : Bool :=
  (List.range ops.size).all fun k => match ops[k]? with
    | some o => (List.range ops.size).all fun i => !waitsB ops i k || o.after.any fun e => Region.binds .any e && (e.on == i || waitsB ops i e.on)
    | none => true


section
variable {P : Program} {tb : Tab} {ops : Array Oper} {r : Option Nat} {Q : Act → World → Prop}

def Q0 (Q : Act → World → Prop) : Exit → Act → World → Prop
  | .normal, a, w => Q a w
  | _, _, _ => False

def InvP (tb : Tab) (ops : Array Oper) (listed : Array Bool) (pend : Pend) (w : World) : Prop := ∀ q ∈ pend, needB tb ops listed q.1 = true → q.2 w

theorem pendC_out {listed : Array Bool} {w : World} {A : Prop} : ∀ {pend : Pend}, pendC tb ops listed w pend A → InvP tb ops listed pend w ∧ A
  | [], h => ⟨fun q hq => by simp at hq, h⟩
  | (i, F) :: rest, h => by
    unfold pendC at h
    split at h
    · rename_i hn
      obtain ⟨hF, h⟩ := h
      obtain ⟨h1, h2⟩ := pendC_out h
      exact ⟨fun q hq hn' => by
        rcases List.mem_cons.1 hq with rfl | hq
        · exact hF
        · exact h1 q hq hn', h2⟩
    · rename_i hn
      obtain ⟨h1, h2⟩ := pendC_out h
      exact ⟨fun q hq hn' => by
        rcases List.mem_cons.1 hq with rfl | hq
        · rw [hn] at hn'; cases hn'
        · exact h1 q hq hn', h2⟩

/-- Every order, with what is pending at each world on the way. -/
def wpH (P : Program) (tb : Tab) (ops : Array Oper) (r : Option Nat) (Q : Act → World → Prop) (pend : Pend) : Nat → Array Bool → Act → World → Prop
  | 0, listed, a, w => InvP tb ops listed pend w ∧ Region.ready .any ops listed = [] ∧ Q a w
  | n + 1, listed, a, w => InvP tb ops listed pend w ∧ (Region.ready .any ops listed = [] → Q a w) ∧
      ∀ i ∈ Region.ready .any ops listed, wpOpIn (fz r) 0 P ops (Q0 Q) i (wpH P tb ops r Q pend n (listed.setIfInBounds i true)) a w

theorem wpH_any {pend : Pend} {Q' : Exit → Act → World → Prop} (hQ : ∀ a w, Q a w → Q' .normal a w) : ∀ (n : Nat) (listed : Array Bool) (a : Act) (w : World),
    wpH P tb ops r Q pend n listed a w → wpAnyIn (fz r) 0 P .any ops (Q0 Q) n listed a w
  | 0, _, _, _, h => ⟨h.2.1, h.2.2⟩
  | n + 1, _, _, _, h => ⟨h.2.1, fun i hi => wpOpIn_mono (fun a w h => wpH_any hQ n _ a w h) (h.2.2 i hi)⟩

theorem wpH_inv {pend : Pend} : ∀ {n : Nat} {listed : Array Bool} {a : Act} {w : World}, wpH P tb ops r Q pend n listed a w → InvP tb ops listed pend w
  | 0, _, _, _, h => h.1
  | _ + 1, _, _, _, h => h.1

theorem wpH_less {pend pend' : Pend} (hs : ∀ q ∈ pend, q ∈ pend') : ∀ (n : Nat) (listed : Array Bool) (a : Act) (w : World),
    wpH P tb ops r Q pend' n listed a w → wpH P tb ops r Q pend n listed a w
  | 0, _, _, _, h => ⟨fun q hq => h.1 q (hs q hq), h.2⟩
  | n + 1, _, _, _, h => ⟨fun q hq => h.1 q (hs q hq), h.2.1, fun i hi => wpOpIn_mono (fun a w h => wpH_less hs n _ a w h) (h.2.2 i hi)⟩

/-- Operation o yields v in world w (or is not wanted, and v is undef). -/
def YieldsV (P : Program) (ops : Array Oper) (o : Oper) (v : Value) (a : Act) (w : World) : Prop :=
  (Region.wanted o (yielded ops a.tmps) = true ∧ (execOp a.eval o).run P w = .ok (.value v) w) ∨ (Region.wanted o (yielded ops a.tmps) = false ∧ v = undef)

theorem YieldsV.put (hns : Region.noSelect ops = true) {i : Nat} {o oj : Oper} (hi : ops[i]? = some o) {v u : Value} {a : Act} {w : World} (h : YieldsV P ops o v a w) (hap : o.apart ops oj = true) :
    YieldsV P ops o v (a.put oj.dst u) w := by
  obtain ⟨_, _, h3⟩ := Oper.apart_spec hap
  unfold YieldsV at *
  rw [wanted_put o a oj.dst u h3, execOp_put o (fun cs b => Region.noSelect_spec hns i o cs b hi) a oj.dst u h3]
  exact h

theorem YieldsV.congr {o : Oper} {v : Value} {a a' : Act} {w : World} (h : YieldsV P ops o v a w) (ht : a'.tmps = a.tmps) : YieldsV P ops o v a' w := by
  have he : a'.eval = a.eval := by
    funext x
    cases x <;> simp [Act.eval, ht]
  unfold YieldsV at *
  rw [he, ht]
  exact h

theorem YieldsV.wp {i : Nat} {o : Oper} (hi : ops[i]? = some o) (hnd : ∀ c, o.op ≠ .defer c) {v : Value} {a : Act} {w : World} {K : Act → World → Prop} (h : YieldsV P ops o v a w) (hK : K (a.put o.dst v) w) :
    wpOpIn (fz r) 0 P ops (Q0 Q) i K a w := by
  unfold wpOpIn
  simp only [hi]
  rcases h with ⟨hw, hv⟩ | ⟨hw, rfl⟩
  · simp only [hw, if_true]
    refine wpIn_of_upon hnd ?_
    rw [hv]
    exact hK
  · simp only [hw, Bool.false_eq_true, if_false]
    exact ⟨fun f _ => fz_fn r f, hK⟩

theorem wpOpIn_put (hns : Region.noSelect ops = true) {j : Nat} {oi oj : Oper} (hj : ops[j]? = some oj) (hap : oi.apart ops oj = true)
    (hnd : ∀ c, oj.op ≠ .defer c) {v : Value} {a : Act} {w : World} {K : Act → World → Prop} (h : wpOpIn (fz r) 0 P ops (Q0 Q) j K (a.put oi.dst v) w) :
    wpOpIn (fz r) 0 P ops (Q0 Q) j (fun a' w' => (∃ u, a'.tmps = (a.put oj.dst u).tmps) ∧ K (a'.put oi.dst v) w') a w := by
  have hj0 := hj
  obtain ⟨h1, h2, h3⟩ := Oper.apart_spec hap
  unfold wpOpIn at *
  simp only [hj] at h ⊢
  rw [wanted_put oj a oi.dst v h1] at h
  split
  · rename_i hw
    simp only [hw, if_true] at h
    refine wpIn_of_upon hnd ?_
    have h' := h.2
    rw [Oper.semAt_eq _ _ _ hnd, execOp_put oj (fun cs b => Region.noSelect_spec hns j oj cs b hj0) a oi.dst v h1] at h'
    generalize (execOp a.eval oj).run P w = res at *
    cases res with
    | ok x w' =>
      cases x <;> simp only [Oper.uponIn] at h' ⊢
      case value u => exact ⟨⟨u, rfl⟩, by rw [← Act.put_comm a v u h2]; exact h'⟩
      case skip => exact ⟨⟨undef, rfl⟩, by rw [← Act.put_comm a v undef h2]; exact h'⟩
      case defer d =>
        refine ⟨⟨undef, by cases oj.dst <;> rfl⟩, ?_⟩
        have e : ({ a.put oi.dst v with defers := d :: (a.put oi.dst v).defers } : Act) = ({ a with defers := d :: a.defers } : Act).put oi.dst v := Act.put_defers a oi.dst v d
        rw [e, Act.put_comm _ v undef h2] at h'
        exact h'
      case enter f args =>
        refine ⟨h'.1, h'.2.mono ?_⟩
        intro e w'' he
        cases e with
        | returned u => exact ⟨⟨u, rfl⟩, by rw [← Act.put_comm a v u h2]; exact he⟩
        | panicked c => exact he.elim
        | outgrown => obtain ⟨_, _, he⟩ := he; exact he.elim
      case row row args =>
        refine ⟨h'.1, h'.2.mono ?_⟩
        intro u w'' he
        exact ⟨⟨u, rfl⟩, by rw [← Act.put_comm a v u h2]; exact he⟩
      case round l f tmps assign body =>
        refine ⟨h'.1, h'.2.mono ?_⟩
        intro e w'' he
        cases e with
        | returned u => exact ⟨⟨u, rfl⟩, by rw [← Act.put_comm a v u h2]; exact he⟩
        | panicked c => exact he.elim
        | outgrown => obtain ⟨_, _, he⟩ := he; exact he.elim
    | halt x w' =>
      cases x <;> simp only [Oper.uponIn] at h' ⊢ <;> exact h'
  · rename_i hw
    simp only [hw, if_false] at h
    exact ⟨fun f _ => fz_fn r f, ⟨undef, rfl⟩, by rw [← Act.put_comm a v undef h2]; exact h.2⟩

theorem needB_set {listed : Array Bool} {i j : Nat} (hi : stillB tb ops i = true) : needB tb ops (listed.setIfInBounds i true) j = needB tb ops listed j := by
  unfold needB
  congr 1
  funext k
  by_cases hk : k = i
  · subst hk; simp [hi]
  · rw [getD_set_ne false (Ne.symm hk)]

/-- An operation that is ready and still may be done first. -/
theorem wpH_first (hns : Region.noSelect ops = true) (hnd : ∀ (j : Nat) (o : Oper), ops[j]? = some o → ∀ c, o.op ≠ .defer c) {pend pend' : Pend} (hs : ∀ q ∈ pend, q ∈ pend') {i : Nat} {oi : Oper} {v : Value} (hi : ops[i]? = some oi)
    (hstill : stillB tb ops i = true) :
    ∀ (n : Nat) (listed : Array Bool) (a : Act) (w : World), HeadInv .any ops ops.size listed →
      (∀ j oj, ops[j]? = some oj → j ≠ i → listed.getD j true = false → (∀ e ∈ oj.after, Region.binds .any e = true → e.on ≠ i) → oi.apart ops oj = true) →
      i ∈ Region.ready .any ops listed →
      (∀ listed' a' w', HeadInv .any ops ops.size listed' → i ∈ Region.ready .any ops listed' → InvP tb ops listed' pend' w' → (∀ w, YieldsV P ops oi v a w → YieldsV P ops oi v a' w) → YieldsV P ops oi v a' w') →
      InvP tb ops listed pend' w →
      wpH P tb ops r Q pend' n (listed.setIfInBounds i true) (a.put oi.dst v) w → wpH P tb ops r Q pend (n + 1) listed a w := by
  intro n
  induction n with
  | zero =>
    intro listed a w hH hfree hr hy hinv H
    refine ⟨fun q hq => hinv q (hs q hq), fun h => (by rw [h] at hr; cases hr), fun j hj => ?_⟩
    by_cases hji : j = i
    · subst hji
      exact (hy listed a w hH hr hinv (fun _ h => h)).wp hi (hnd j oi hi) (wpH_less hs 0 _ _ _ H)
    · have := ready_mono hj hji
      rw [H.2.1] at this
      cases this
  | succ n ih =>
    intro listed a w hH hfree hr hy hinv H
    refine ⟨fun q hq => hinv q (hs q hq), fun h => (by rw [h] at hr; cases hr), fun j hj => ?_⟩
    by_cases hji : j = i
    · subst hji
      exact (hy listed a w hH hr hinv (fun _ h => h)).wp hi (hnd j oi hi) (wpH_less hs (n + 1) _ _ _ H)
    · have h1 := H.2.2 j (ready_mono hj hji)
      obtain ⟨hjun, oj, hoj, hall⟩ := mem_ready.1 hj
      have hnot : ∀ e ∈ oj.after, Region.binds .any e = true → e.on ≠ i := fun e he hb heq => by
        have h2 := hall e he hb
        have h0 := (mem_ready.1 hr).1
        rw [heq] at h2
        rw [getD_both h0] at h2
        cases h2
      have hap := hfree j oj hoj hji hjun hnot
      have h2 := wpOpIn_put hns hoj hap (hnd j oj hoj) h1
      refine wpOpIn_mono (fun a' w' h3 => ?_) h2
      obtain ⟨⟨u, hu⟩, h3⟩ := h3
      have hH' : HeadInv .any ops ops.size (listed.setIfInBounds j true) := hH.set hj (Array.getElem?_eq_some_iff.1 hoj).1
      have hfree' : ∀ k ok, ops[k]? = some ok → k ≠ i → (listed.setIfInBounds j true).getD k true = false →
          (∀ e ∈ ok.after, Region.binds .any e = true → e.on ≠ i) → oi.apart ops ok = true := fun k ok hk hki hun hno => by
        refine hfree k ok hk hki ?_ hno
        by_cases hjk : j = k
        · subst hjk; exact hjun
        · rw [getD_set_ne true hjk] at hun; exact hun
      have hkeep : ∀ w, YieldsV P ops oi v a w → YieldsV P ops oi v a' w := fun w h => ((h.put (u := u) hns hi hap).congr hu)
      have hinv' : InvP tb ops (listed.setIfInBounds j true) pend' w' := fun q hq hn => by
        have h4 := wpH_inv h3 q hq
        rw [Array.setIfInBounds_comm _ _ (Ne.symm hji), needB_set hstill] at h4
        exact h4 hn
      refine ih (listed.setIfInBounds j true) a' w' hH' hfree' (ready_mono hr (Ne.symm hji)) (fun l' a'' w'' a1 a2 a3 a4 => hy l' a'' w'' a1 a2 a3 (fun w h => a4 w (hkeep w h))) hinv' ?_
      rw [Array.setIfInBounds_comm _ _ hji]
      exact h3

theorem before_edge (hb : beforeIn ops = true) {i k : Nat} {o : Oper} (hk : ops[k]? = some o) (hw : waitsB ops i k = true) (hi : i < ops.size) :
    ∃ e ∈ o.after, Region.binds .any e = true ∧ (e.on = i ∨ waitsB ops i e.on = true) := by
  have h1 := List.all_eq_true.1 hb k (List.mem_range.2 (Array.getElem?_eq_some_iff.1 hk).1)
  rw [hk] at h1
  have h2 := List.all_eq_true.1 h1 i (List.mem_range.2 hi)
  rw [hw] at h2
  simp only [Bool.not_true, Bool.false_or] at h2
  obtain ⟨e, he, h3⟩ := Array.any_eq_true'.1 h2
  simp only [Bool.and_eq_true, Bool.or_eq_true, beq_iff_eq] at h3
  exact ⟨e, he, h3.1, h3.2⟩

/-- What waits for an operation that is not done is not done. -/
theorem not_done (hb : beforeIn ops = true) (hlt : ∀ (k : Nat) (o : Oper), ops[k]? = some o → ∀ e ∈ o.after, Region.binds .any e = true → e.on < k) {listed : Array Bool} (hH : HeadInv .any ops ops.size listed) {i : Nat} (hi : i < ops.size) (hun : listed.getD i true = false) :
    ∀ k, waitsB ops i k = true → listed.getD k false = true → False := by
  intro k
  induction k using Nat.strongRecOn with
  | _ k ih =>
    intro hw hl
    cases hk : ops[k]? with
    | none =>
      have : ops.size ≤ k := by simpa using hk
      rw [Array.getD_eq_getD_getElem?, Array.getElem?_eq_none (by rw [hH.size]; exact this)] at hl
      cases hl
    | some o =>
      obtain ⟨e, he, hbi, hor⟩ := before_edge hb hk hw hi
      have hl' := hH.closed k o hk hl e he hbi
      rcases hor with rfl | hor
      · rw [getD_both hun] at hl'; cases hl'
      · exact ih e.on (hlt k o hk e he hbi) hor hl'

theorem needB_of (hb : beforeIn ops = true) (hlt : ∀ (k : Nat) (o : Oper), ops[k]? = some o → ∀ e ∈ o.after, Region.binds .any e = true → e.on < k) {listed : Array Bool} (hH : HeadInv .any ops ops.size listed) {i : Nat} (hi : i < ops.size) (hun : listed.getD i true = false) :
    needB tb ops listed i = true := by
  refine List.all_eq_true.2 fun k hk => ?_
  simp only [Bool.or_eq_true, Bool.not_eq_true']
  by_cases hw : waitsB ops i k = true
  · refine .inl (.inr ?_)
    cases hl : listed.getD k false with
    | false => rfl
    | true => exact (not_done hb hlt hH hi hun k hw hl).elim
  · exact .inr (by simpa using hw)

def edgesBack (ops : Array Oper) : Bool :=
  (List.range ops.size).all fun k => match ops[k]? with
    | some o => o.after.all fun e => !Region.binds .any e || Nat.blt e.on k
    | none => true

theorem edgesBack_spec (h : edgesBack ops = true) (k : Nat) (o : Oper) (hk : ops[k]? = some o) (e : Edge) (he : e ∈ o.after) (hb : Region.binds .any e = true) : e.on < k := by
  have h1 := List.all_eq_true.1 h k (List.mem_range.2 (Array.getElem?_eq_some_iff.1 hk).1)
  rw [hk] at h1
  have h2 := Array.all_eq_true_iff_forall_mem.1 h1 e he
  rw [hb] at h2
  simpa using h2

def noDefer (ops : Array Oper) : Bool := ops.all fun o => match o.op with | .defer _ => false | _ => true
theorem noDefer_spec (h : noDefer ops = true) (j : Nat) (o : Oper) (ho : ops[j]? = some o) (c : Call) : o.op ≠ .defer c := by
  intro e
  have := Array.all_eq_true_iff_forall_mem.1 h o (Array.mem_of_getElem? ho)
  rw [e] at this
  cases this

end
end Go.Proofs.Ytopecljhehcldaa.Gx
