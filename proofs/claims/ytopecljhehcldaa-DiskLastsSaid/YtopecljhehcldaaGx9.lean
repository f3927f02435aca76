/- The framework, part 9: a region whose order is open. Operations that only compute or load are done as soon as they may be; of the others each order is followed; what was loaded must stay readable until an operation that waits for it. -/
import Derived.Test.YtopecljhehcldaaGx8
namespace Go.Proofs.Ytopecljhehcldaa.Gx
open Go
set_option linter.unusedSimpArgs false

def eqB : Bool → Bool → Bool
  | true, true => true
  | false, false => true
  | _, _ => false
theorem eqB_eq (a b : Bool) : eqB a b = (a == b) := by cases a <;> cases b <;> rfl

def dstAt (ops : List Oper) (j : Nat) : Option Nat :=
  match nth ops j with
  | some o => o.dst
  | none => none
theorem dstAt_eq (ops : Array Oper) (j : Nat) : dstAt ops.toList j = (ops[j]?).bind (·.dst) := by
  unfold dstAt
  rw [nth_eq, Array.getElem?_toList]
  cases ops[j]? <;> rfl

def gval (ops : Array Oper) (f : Fr) (j : Nat) : Option Bool :=
  match dstAt ops.toList j with
  | some d => match f d with
    | .bool b => some b
    | _ => none
  | none => none

def wantB (ops : Array Oper) (f : Fr) (o : Oper) : Bool :=
  match o.guard with
  | none => true
  | some q => match gval ops f q.1 with
    | some b => eqB b q.2
    | none => false

def srcB : List Oper → Nat → Bool
  | [], _ => false
  | o :: l, i => match o.guard with
    | some q => match Nat.beq q.1 i with
      | true => true
      | false => srcB l i
    | none => srcB l i

def splitV (v : Value) (C : Value → Prop) : Prop :=
  match v with
  | .bool b => IfB b (C (.bool true)) (C (.bool false))
  | v => C v

theorem splitV.out {v : Value} {C : Value → Prop} (h : splitV v C) : C v := by
  unfold splitV at h
  split at h
  · rename_i b
    rcases h.cases with ⟨rfl, h⟩ | ⟨rfl, h⟩ <;> exact h
  · exact h

def spl (b : Bool) (v : Value) (C : Value → Prop) : Prop :=
  match b with
  | true => splitV v C
  | false => C v

theorem spl.out {b : Bool} {v : Value} {C : Value → Prop} (h : spl b v C) : C v := by
  cases b
  · exact h
  · exact splitV.out h

/-- A region in the order of the text. -/
def exl (P : Program) (tb : Tab) (ops : Array Oper) : Nat → List Oper → Fr → World → (Fr → World → Prop) → Prop
  | _, [], f, w, K => K f w
  | i, o :: rest, f, w, K =>
    match wantB ops f o with
    | true => opx P tb o (ev f) w fun v w' => spl (srcB ops.toList i) v fun v => exl P tb ops (Nat.succ i) rest (put f o.dst v) w' K
    | false => exl P tb ops (Nat.succ i) rest (put f o.dst undef) w K

def dstOk (N : Nat) (ops : List Oper) : Bool := ops.all fun o => match o.dst with | some d => Nat.blt d N | none => true

theorem dstOk.of {N : Nat} {ops : List Oper} (h : dstOk N ops = true) {o : Oper} (ho : o ∈ ops) : ∀ e, o.dst = some e → e < N := by
  intro e he
  have := List.all_eq_true.1 h o ho
  rw [he] at this
  rw [Nat.blt_eq] at this
  exact this

theorem wantB_eq {N : Nat} {ops : Array Oper} (hd : dstOk N ops.toList = true) {a : Act} {f : Fr} {ds : List Nat} (h : Rel N a f ds) (o : Oper) :
    Region.wanted o (yielded ops a.tmps) = wantB ops f o := by
  unfold Region.wanted wantB
  cases hg : o.guard with
  | none => rfl
  | some q =>
    obtain ⟨j, want⟩ := q
    dsimp only
    unfold gval
    rw [dstAt_eq]
    cases hj : (ops[j]?).bind (·.dst) with
    | none => simp [yielded, hj]
    | some d =>
      have hN : d < N := by
        cases ho : ops[j]? with
        | none => rw [ho] at hj; cases hj
        | some oj =>
          rw [ho] at hj
          exact dstOk.of hd (Array.mem_toList_iff.2 (Array.mem_of_getElem? ho)) d hj
      rw [h.yielded ops j d hj hN]
      dsimp only
      cases f d with
      | bool b => simp only [eqB_eq]; cases b <;> cases want <;> rfl
      | _ => rfl

def dsts (ops : List Oper) : List Nat := ops.filterMap (·.dst)

def AgreeOff (l : List Nat) (f f' : Fr) : Prop := ∀ t, t ∉ l → f' t = f t
theorem AgreeOff.refl (l : List Nat) (f : Fr) : AgreeOff l f f := fun _ _ => rfl
theorem AgreeOff.trans {l : List Nat} {f g h : Fr} (a : AgreeOff l f g) (b : AgreeOff l g h) : AgreeOff l f h := fun t ht => (b t ht).trans (a t ht)
theorem AgreeOff.mono {l m : List Nat} {f g : Fr} (h : ∀ t, t ∈ l → t ∈ m) (a : AgreeOff l f g) : AgreeOff m f g := fun t ht => a t fun h' => ht (h t h')
theorem AgreeOff.put {l : List Nat} {f : Fr} {d : Option Nat} (h : ∀ e, d = some e → e ∈ l) (v : Value) : AgreeOff l f (put f d v) := by
  intro t ht
  cases d with
  | none => rfl
  | some d =>
    simp only [Gx.put]
    split
    · rename_i hb
      have := Nat.eq_of_beq_eq_true hb
      subst this
      exact (ht (h _ rfl)).elim
    · rfl

section
variable {P : Program} {tb : Tab}

theorem exl_sound (hT : tb.Ok P) {N : Nat} {ops : Array Oper} (hd : dstOk N ops.toList = true) {r : Option Nat} {ds : List Nat} {K : Fr → World → Prop} {Q : Exit → Act → World → Prop} {f₀ : Fr} :
    ∀ (l : List Oper) (i : Nat) (f : Fr) (a : Act) (w : World), (∀ j, l[j]? = ops[i + j]?) → exl P tb ops i l f w K → Rel N a f ds → AgreeOff (dsts ops.toList) f₀ f →
      (∀ f' a' w', Rel N a' f' ds → AgreeOff (dsts ops.toList) f₀ f' → K f' w' → Q .normal a' w') → wpOpsIn (fz r) 0 P ops Q (List.range' i l.length) a w
  | [], i, f, a, w, _, h, hR, hA, hK => hK f a w hR hA h
  | o :: rest, i, f, a, w, hl, h, hR, hA, hK => by
    have h0 : ops[i]? = some o := by simpa using (hl 0).symm
    have hmem : o ∈ ops.toList := Array.mem_toList_iff.2 (Array.mem_of_getElem? h0)
    have hdst := dstOk.of hd hmem
    have hin : ∀ e, o.dst = some e → e ∈ dsts ops.toList := fun e he => List.mem_filterMap.2 ⟨o, hmem, he⟩
    have hl' : ∀ j, rest[j]? = ops[i + 1 + j]? := fun j => by have := hl (j + 1); simpa [Nat.add_assoc, Nat.add_comm 1 j] using this
    simp only [List.length_cons, List.range'_succ, wpOpsIn, h0, wantB_eq hd hR]
    unfold exl at h
    cases hw : wantB ops f o with
    | true =>
      rw [hw] at h
      simp only [if_true]
      refine opx_sound hT hR.eval h fun v w' hv => ?_
      exact exl_sound hT hd rest (i + 1) _ _ _ hl' hv.out (hR.put hdst v) (hA.trans (AgreeOff.put hin v)) hK
    | false =>
      rw [hw] at h
      simp only [Bool.false_eq_true, if_false]
      exact ⟨fun f _ => fz_fn r f, exl_sound hT hd rest (i + 1) _ _ _ hl' h (hR.put hdst undef) (hA.trans (AgreeOff.put hin undef)) hK⟩

end
end Go.Proofs.Ytopecljhehcldaa.Gx
