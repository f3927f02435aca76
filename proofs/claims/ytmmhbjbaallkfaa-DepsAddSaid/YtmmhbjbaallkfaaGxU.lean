/- Ranges over iterators that have boxes of their own between two rounds. Written by mkgxu.py out of XGxA. -/
import Derived.Test.YtmmhbjbaallkfaaGxA
namespace Go.Proofs.Ytmmhbjbaallkfaa.Gx
open Go
set_option linter.unusedSimpArgs false
set_option linter.unusedVariables false

/-- What is from n on, and not in U, is as it was; U grows by new blocks alone. -/
structure Kp (U : World → Nat → Prop) (n : Nat) (W W' : World) : Prop where
  at' : ∀ i : Nat, n ≤ i → i < W.heap.size → ¬ U W i → W'.heap[i]? = W.heap[i]?
  own : ∀ i : Nat, U W' i → U W i ∨ W.heap.size ≤ i
theorem Kp.upd {U : World → Nat → Prop} {n l : Nat} {W A B : World} {o : Obj} (h : Kp U n W A) (hu : IsUpd A l o B) (hl : l < n) (hU : ∀ i, U B i → U A i) : Kp U n W B :=
  ⟨fun i h1 h2 h3 => (hu.old i (by omega)).trans (h.at' i h1 h2 h3), fun i hi => h.own i (hU i hi)⟩

/-- The contract of an iterator with boxes of its own. 'U': what belongs to who ranges. -/
def IterU {α : Type} (P : Program) (g : FuncId) (lb : Array Value) (enc : α → Array Value) (bnd : Bool) (Nxt : List α → α → Prop) (Fin : List α → Prop) (Inv : World → Prop) : Prop :=
  Entr P g ∧ ∀ (l : Nat) (J Jx : List α → World → Prop) (U : World → Nat → Prop) (W : World), Abid W.heap.size J → Abid W.heap.size Jx → (∀ pre W', J pre W' → Inv W') → (∀ pre W', J pre W' → W.heap.size ≤ W'.heap.size) →
    (bnd = true → ∃ B, ∀ pre W', J pre W' → pre.length ≤ B) →
    (∀ A B, Stb W.heap.size A B → ∀ i, U B i → U A i) → (∀ pre W', J pre W' → ∀ i, U W' i → i < W'.heap.size) →
    (∀ pre x W1, J pre W1 → Nxt pre x → YW P l (enc x) W1 fun b W' => match b with | true => J (pre ++ [x]) W' ∧ Its W1 W' ∧ Kp U W.heap.size W1 W' | false => Jx (pre ++ [x]) W') → J [] W →
    CW P g (#[.func (.yield l) #[] #[]] ++ lb) W fun _ W' => (∃ xs, Fin xs ∧ J xs W') ∨ (∃ pre, Jx pre W')

section
variable {P : Program} {tb : Tab}

/-- A range over a function, outside of every other one. -/
theorem range_noneU (hT : tb.Ok P) (hm : P.follows .mixedOrders = true) {α : Type} {N : Nat} {an : An} {g : Operand} {ps : Array Tmp} {assign body : Code} {f : Fr} {ds : List Nat} {w : World} {Kn Kr : List Nat → World → Prop} {Kx : Nat → List Nat → World → Prop}
    {gf : FuncId} {lb : Array Value} (hg : ev f g = .func (.func gf) #[] lb) {enc : α → Array Value} {bnd : Bool} {Nxt : List α → α → Prop} {Fin : List α → Prop} {Inv : World → Prop} (spec : IterU P gf lb enc bnd Nxt Fin Inv)
    (hok1 : okC tb N assign .nil = true) (hok2 : okC tb N body an = true) (hps : ps.toList.all (fun p => Nat.blt p N) = true) (henc : ∀ x, (enc x).size = ps.size)
    (U : World → Nat → Prop) (hU : ∀ W W', Stb w.heap.size W W' → ∀ i, U W' i → U W i) (I : List α → World → Prop) (Ix : Code → List α → World → Prop) (hI : Abid w.heap.size I) (hIx : ∀ c, Abid w.heap.size (Ix c)) (hInv : ∀ pre W, I pre W → Inv W)
    (hbnd : bnd = true → ∃ B, ∀ pre W, I pre W → pre.length ≤ B) (hU1 : ∀ pre W, I pre W → ∀ i, U W i → i < W.heap.size) (h0 : I [] w)
    (hbody : ∀ pre x W, I pre W → Nxt pre x → w.heap.size + 1 < W.heap.size → BodyP P tb N (w.heap.size + 1) w.heap.size w.heap.size an ps assign body f (fun W' => I (pre ++ [x]) W' ∧ Its W W' ∧ Kp U (w.heap.size + 2) W W') (fun c => Ix c (pre ++ [x])) (enc x).toList W)
    (hdone : ∀ xs W, Fin xs → I xs W → W.heap[w.heap.size]? = some (.deferred (some [])) → Kn (w.heap.size :: ds) W)
    (hstop : ∀ c pre W, Ix c pre W → W.heap[w.heap.size]? = some (.deferred (some [])) → jumpQ Kr Kx (w.heap.size :: ds) W c) :
    RangeP P tb N none an g ps assign body f ds w Kn Kr Kx := by
  intro a hR
  refine wpIn_rangeFunc ?_
  intro fn _
  obtain ⟨rec, hrec⟩ : ∃ rec : Loop, rec = { state := .ready, pending := none, fn, tmps := a.tmps, params := ps, assign, body, defers := w.heap.size } := ⟨_, rfl⟩
  obtain ⟨W1, hW1⟩ : ∃ W1, (w.alloc (.deferred (some []))).alloc (.loop rec) = W1 := ⟨_, rfl⟩
  have e1 : IsAlloc w (.deferred (some [])) w.heap.size (w.alloc (.deferred (some []))) := isAlloc_push w _ w.drawn
  have e2 : IsAlloc (w.alloc (.deferred (some []))) (.loop rec) (w.heap.size + 1) W1 := by
    have := isAlloc_push (w.alloc (.deferred (some []))) (.loop rec) (w.alloc (.deferred (some []))).drawn
    rw [e1.size] at this
    rw [← hW1]; exact this
  have hL1 : W1.heap[w.heap.size + 1]? = some (.loop rec) := e2.new
  have hK1 : W1.heap[w.heap.size]? = some (.deferred (some [])) := by rw [e2.old _ (by rw [e1.size]; omega)]; exact e1.new
  have hS1 : Stb w.heap.size w W1 := (Stb.alloc e1 (Nat.le_refl _)).trans (Stb.alloc e2 (by rw [e1.size]; omega))
  have hsz1 : W1.heap.size = w.heap.size + 2 := by rw [e2.size, e1.size]
  have hev : a.eval g = .func (.func gf) #[] lb := by rw [hR.eval]; exact hg
  have hpsN : ∀ p ∈ ps.toList, p < N := fun p hp => by have := List.all_eq_true.1 hps p hp; rw [Nat.blt_eq] at this; exact this
  refine ⟨w.heap.size + 1, [{ target := .collected w.heap.size, args := #[] }], W1, { target := .fn (.func gf) lb, args := #[.func (.yield (w.heap.size + 1)) #[] #[]] }, W1, gf,
    #[.func (.yield (w.heap.size + 1)) #[] #[]] ++ lb, W1, ?_, ?_, fun f' _ => trivial, ?_, fz_depth none, ?_⟩
  · rw [← hW1, hrec]; exact run_enterLoop_outer _ _ _ _ _
  · simp only [resolve]
    rw [hev]
    simp [Deferred.ofValue, Act.eval]
  · simp only [invoke]
    exact spec.1 _ _
  · refine fz_callsIn.2 ?_
    have hc := spec.2 (w.heap.size + 1)
      (fun pre W => I pre W ∧ W.heap[w.heap.size + 1]? = some (.loop rec) ∧ W.heap[w.heap.size]? = some (.deferred (some [])))
      (fun pre W => ∃ c, Ix c pre W ∧ W.heap[w.heap.size + 1]? = some (.loop { rec with state := .done, pending := some c }) ∧ W.heap[w.heap.size]? = some (.deferred (some [])))
      U W1
      (fun s A B hs hS => ⟨hI s A B hs.1 (hS.mono (by omega)), (hS.low _ (by omega)).trans hs.2.1, (hS.low _ (by omega)).trans hs.2.2⟩)
      (fun s A B hs hS => by obtain ⟨c, hc, h1, h2⟩ := hs; exact ⟨c, hIx c s A B hc (hS.mono (by omega)), (hS.low _ (by omega)).trans h1, (hS.low _ (by omega)).trans h2⟩)
      (fun pre W h => hInv pre W h.1)
      (fun pre W h => by have : w.heap.size + 1 < W.heap.size := (Array.getElem?_eq_some_iff.1 h.2.1).1; omega)
      (fun hb => by obtain ⟨B, hB⟩ := hbnd hb; exact ⟨B, fun pre W h => hB pre W h.1⟩)
      (fun A B hS => hU A B (hS.mono (by omega)))
      (fun pre W h => hU1 pre W h.1)
      (fun pre x W h hx => by
        have hlt : w.heap.size + 1 < W.heap.size := (Array.getElem?_eq_some_iff.1 h.2.1).1
        refine (round_of hT hm (l := w.heap.size + 1) (D := w.heap.size) (n₀ := w.heap.size) hR.size hR.val hpsN hok1 hok2 (henc x) (by omega) hrec h.2.1 hI hIx (E := fun W' => Its W W' ∧ Kp U (w.heap.size + 2) W W') (fun A B o hE hu hl => by obtain ⟨rc, hl⟩ := hl; exact ⟨hE.1.trans (Its.upd hu hl (by simp)), hE.2.upd hu (by omega) (hU _ _ (Stb.upd hu hl rfl (by omega)))⟩) (hbody pre x W h.1 hx hlt)).mono ?_
        rintro b W' ⟨hD, hb⟩
        cases b with
        | true => exact ⟨⟨hb.2.1, hb.1, (hD (by omega)).trans h.2.2⟩, hb.2.2.1, by rw [hsz1]; exact hb.2.2.2⟩
        | false => obtain ⟨c, h1, h2⟩ := hb; exact ⟨c, h2, h1, (hD (by omega)).trans h.2.2⟩)
      ⟨hI _ _ _ h0 hS1, hL1, hK1⟩
    refine hc.2.mono ?_
    rintro e W2 ⟨v, rfl, h⟩
    have hds : ∀ (a' : Act), a' = { a with defers := [{ target := .collected w.heap.size, args := #[] }] ++ a.defers } → Rel N a' f (w.heap.size :: ds) := fun a' e => by
      subst e
      exact ⟨hR.size, hR.val, by rw [hR.defers]; rfl⟩
    rcases h with ⟨xs, hF, hi, hl, hk⟩ | ⟨pre, c, hi, hl, hk⟩
    · obtain ⟨w4, o4, hr4, hu⟩ : ∃ w4 o4, (Instr.endLoop (w.heap.size + 1)).run P W2 = .ok rec.pending w4 ∧ IsUpd W2 (w.heap.size + 1) o4 w4 :=
        ⟨_, _, run_endLoop (P := P) hl (by rw [hrec]; simp), isUpd_putObj hl _⟩
      have hp : rec.pending = none := by rw [hrec]
      rw [hp] at hr4
      refine ⟨none, w4, hr4, ?_⟩
      exact ⟨f, w.heap.size :: ds, hds _ rfl, rfl, hdone xs _ hF (hI _ _ _ hi (Stb.upd hu hl rfl (by omega))) ((hu.old _ (by omega)).trans hk)⟩
    · have hu := isUpd_putObj hl (.loop { rec with state := .exhausted, pending := some c })
      refine ⟨some c, _, by have := run_endLoop (P := P) hl (by simp); exact this, ?_⟩
      have hj := hstop c pre _ (hIx c _ _ _ hi (Stb.upd hu hl rfl (by omega))) ((hu.old _ (by omega)).trans hk)
      unfold jumpQ at hj
      split at hj
      · exact wpIn_ret ⟨f, w.heap.size :: ds, hds _ rfl, rfl, hj⟩
      · exact wpIn_exit ⟨f, w.heap.size :: ds, hds _ rfl, rfl, hj⟩
      · exact hj.elim

/-- A range over a function in a round of another one. -/
theorem range_someU (hT : tb.Ok P) (hm : P.follows .mixedOrders = true) {α : Type} {N l₀ : Nat} {an : An} {g : Operand} {ps : Array Tmp} {assign body : Code} {f : Fr} {ds : List Nat} {w : World} {Kn Kr : List Nat → World → Prop} {Kx : Nat → List Nat → World → Prop}
    {gf : FuncId} {lb : Array Value} (hg : ev f g = .func (.func gf) #[] lb) {enc : α → Array Value} {bnd : Bool} {Nxt : List α → α → Prop} {Fin : List α → Prop} {Inv : World → Prop} (spec : IterU P gf lb enc bnd Nxt Fin Inv)
    (hok1 : okC tb N assign .nil = true) (hok2 : okC tb N body an = true) (hps : ps.toList.all (fun p => Nat.blt p N) = true) (henc : ∀ x, (enc x).size = ps.size)
    (hl₀ : ∃ rc : Loop, w.heap[l₀]? = some (.loop rc))
    (U : World → Nat → Prop) (hU : ∀ W W', Stb w.heap.size W W' → ∀ i, U W' i → U W i) (I : List α → World → Prop) (Ix : Code → List α → World → Prop) (hI : Abid w.heap.size I) (hIx : ∀ c, Abid w.heap.size (Ix c)) (hInv : ∀ pre W, I pre W → Inv W)
    (hbnd : bnd = true → ∃ B, ∀ pre W, I pre W → pre.length ≤ B) (hU1 : ∀ pre W, I pre W → ∀ i, U W i → i < W.heap.size) (h0 : I [] w)
    (hbody : ∀ pre x W, I pre W → Nxt pre x → w.heap.size < W.heap.size → BodyP P tb N w.heap.size w.heap.size w.heap.size an ps assign body f (fun W' => I (pre ++ [x]) W' ∧ Its W W' ∧ Kp U (w.heap.size + 1) W W') (fun c => Ix c (pre ++ [x])) (enc x).toList W)
    (hdone : ∀ xs W, Fin xs → I xs W → Kn ds W)
    (hstop : ∀ c pre W, Ix c pre W → jumpQ Kr Kx ds W c) :
    RangeP P tb N (some l₀) an g ps assign body f ds w Kn Kr Kx := by
  intro a hR
  obtain ⟨rc, hrc⟩ := hl₀
  refine wpIn_rangeFunc ?_
  intro fn _
  obtain ⟨rec, hrec⟩ : ∃ rec : Loop, rec = { state := .ready, pending := none, fn, tmps := a.tmps, params := ps, assign, body, defers := rc.defers } := ⟨_, rfl⟩
  obtain ⟨W1, hW1⟩ : ∃ W1, w.alloc (.loop rec) = W1 := ⟨_, rfl⟩
  have e1 : IsAlloc w (.loop rec) w.heap.size W1 := by rw [← hW1]; exact isAlloc_push w _ w.drawn
  have hS1 : Stb w.heap.size w W1 := Stb.alloc e1 (Nat.le_refl _)
  have hsz1 : W1.heap.size = w.heap.size + 1 := e1.size
  have hev : a.eval g = .func (.func gf) #[] lb := by rw [hR.eval]; exact hg
  have hpsN : ∀ p ∈ ps.toList, p < N := fun p hp => by have := List.all_eq_true.1 hps p hp; rw [Nat.blt_eq] at this; exact this
  refine ⟨w.heap.size, [], W1, { target := .fn (.func gf) lb, args := #[.func (.yield w.heap.size) #[] #[]] }, W1, gf,
    #[.func (.yield w.heap.size) #[] #[]] ++ lb, W1, ?_, ?_, fun f' _ => trivial, ?_, fz_depth (some l₀), ?_⟩
  · rw [← hW1, hrec]; exact run_enterLoop_inner hrc _ _ _ _ _
  · simp only [resolve]
    rw [hev]
    simp [Deferred.ofValue, Act.eval]
  · simp only [invoke]
    exact spec.1 _ _
  · refine fz_callsIn.2 ?_
    have hc := spec.2 w.heap.size
      (fun pre W => I pre W ∧ W.heap[w.heap.size]? = some (.loop rec))
      (fun pre W => ∃ c, Ix c pre W ∧ W.heap[w.heap.size]? = some (.loop { rec with state := .done, pending := some c }))
      U W1
      (fun s A B hs hS => ⟨hI s A B hs.1 (hS.mono (by omega)), (hS.low _ (by omega)).trans hs.2⟩)
      (fun s A B hs hS => by obtain ⟨c, hc, h1⟩ := hs; exact ⟨c, hIx c s A B hc (hS.mono (by omega)), (hS.low _ (by omega)).trans h1⟩)
      (fun pre W h => hInv pre W h.1)
      (fun pre W h => by have : w.heap.size < W.heap.size := (Array.getElem?_eq_some_iff.1 h.2).1; omega)
      (fun hb => by obtain ⟨B, hB⟩ := hbnd hb; exact ⟨B, fun pre W h => hB pre W h.1⟩)
      (fun A B hS => hU A B (hS.mono (by omega)))
      (fun pre W h => hU1 pre W h.1)
      (fun pre x W h hx => by
        have hlt : w.heap.size < W.heap.size := (Array.getElem?_eq_some_iff.1 h.2).1
        refine (round_of hT hm (l := w.heap.size) (D := w.heap.size) (n₀ := w.heap.size) hR.size hR.val hpsN hok1 hok2 (henc x) (by omega) hrec h.2 hI hIx (E := fun W' => Its W W' ∧ Kp U (w.heap.size + 1) W W') (fun A B o hE hu hl => by obtain ⟨rc, hl⟩ := hl; exact ⟨hE.1.trans (Its.upd hu hl (by simp)), hE.2.upd hu (by omega) (hU _ _ (Stb.upd hu hl rfl (by omega)))⟩) (hbody pre x W h.1 hx hlt)).mono ?_
        rintro b W' ⟨hD, hb⟩
        cases b with
        | true => exact ⟨⟨hb.2.1, hb.1⟩, hb.2.2.1, by rw [hsz1]; exact hb.2.2.2⟩
        | false => obtain ⟨c, h1, h2⟩ := hb; exact ⟨c, h2, h1⟩)
      ⟨hI _ _ _ h0 hS1, e1.new⟩
    refine hc.2.mono ?_
    rintro e W2 ⟨v, rfl, h⟩
    have hds : ∀ (a' : Act), a' = { a with defers := [] ++ a.defers } → Rel N a' f ds := fun a' e => by
      subst e
      exact ⟨hR.size, hR.val, hR.defers⟩
    rcases h with ⟨xs, hF, hi, hl⟩ | ⟨pre, c, hi, hl⟩
    · obtain ⟨w4, o4, hr4, hu⟩ : ∃ w4 o4, (Instr.endLoop w.heap.size).run P W2 = .ok rec.pending w4 ∧ IsUpd W2 w.heap.size o4 w4 :=
        ⟨_, _, run_endLoop (P := P) hl (by rw [hrec]; simp), isUpd_putObj hl _⟩
      have hp : rec.pending = none := by rw [hrec]
      rw [hp] at hr4
      refine ⟨none, w4, hr4, ?_⟩
      exact ⟨f, ds, hds _ rfl, rfl, hdone xs _ hF (hI _ _ _ hi (Stb.upd hu hl rfl (by omega)))⟩
    · have hu := isUpd_putObj hl (.loop { rec with state := .exhausted, pending := some c })
      refine ⟨some c, _, by have := run_endLoop (P := P) hl (by simp); exact this, ?_⟩
      have hj := hstop c pre _ (hIx c _ _ _ hi (Stb.upd hu hl rfl (by omega)))
      unfold jumpQ at hj
      split at hj
      · exact wpIn_ret ⟨f, ds, hds _ rfl, rfl, hj⟩
      · exact wpIn_exit ⟨f, ds, hds _ rfl, rfl, hj⟩
      · exact hj.elim
end
end Go.Proofs.Ytmmhbjbaallkfaa.Gx
