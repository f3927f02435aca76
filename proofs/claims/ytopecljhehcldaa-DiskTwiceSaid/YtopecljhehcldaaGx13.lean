/- The framework, part 13: the contract of a function out of its code; a range over a function. -/
import Derived.Test.YtopecljhehcldaaGx12
import Derived.RangeFuncNested
namespace Go.Proofs.Ytopecljhehcldaa.Gx
open Go
set_option linter.unusedSimpArgs false

/-! ### The results -/
def resP (tb : Tab) (f : Fr) (w : World) : List ResultVar → (List Value → Prop) → Prop
  | [], K => K []
  | .tmp t :: l, K => resP tb f w l fun vs => K (f t :: vs)
  | .cell a T :: l, K => LoadP tb w T (f a) fun v => resP tb f w l fun vs => K (v :: vs)

def tupV : List Value → Value
  | [v] => v
  | vs => .tuple vs.toArray

def marksP (w : World) : List Nat → (World → Prop) → Prop
  | [], K => K w
  | D :: ds, K => w.heap[D]? = some (.deferred (some [])) ∧ ∀ w', IsUpd w D (.deferred none) w' → marksP w' ds K

def retQ (tb : Tab) (rs : List ResultVar) (R : Value → World → Prop) : Post
  | .normal, f, ds, w => marksP w ds fun w' => resP tb f w' rs fun vs => R (tupV vs) w'
  | .ret, f, ds, w => marksP w ds fun w' => resP tb f w' rs fun vs => R (tupV vs) w'
  | _, _, _, _ => False

def argFr : Nat → List Value → Fr
  | _, [] => fun _ => undef
  | i, v :: l => put (argFr (i + 1) l) (some i) v

theorem argFr_get : ∀ (l : List Value) (i t : Nat), argFr i l t = if t < i then undef else l.getD (t - i) undef
  | [], i, t => by simp [argFr]
  | v :: l, i, t => by
    simp only [argFr, put]
    split
    · rename_i h
      have := Nat.eq_of_beq_eq_true h
      subst this
      simp
    · rename_i h
      have hne : t ≠ i := fun e => by subst e; rw [show Nat.beq t t = true from Nat.beq_refl t] at h; cases h
      rw [argFr_get l (i + 1) t]
      by_cases hlt : t < i
      · rw [if_pos (by omega), if_pos hlt]
      · rw [if_neg (by omega), if_neg hlt, show t - i = (t - (i + 1)) + 1 by omega]
        simp

section
variable {P : Program} {tb : Tab}

def resF (tmps : Array Value) : ResultVar → Sem Value
  | .tmp t => pure (tmps.getD t undef)
  | .cell a t => do loadVar t (← asAddr (tmps.getD a undef))

theorem resP_run (hT : tb.Ok P) {tmps : Array Value} {f : Fr} (hv : ∀ t, tmps.getD t undef = f t) {w : World} : ∀ (rs : List ResultVar) (K : List Value → Prop), resP tb f w rs K →
    ∃ vs, K vs ∧ (rs.mapM (resF tmps)).run P w = .ok vs w
  | [], K, h => ⟨[], h, by simp⟩
  | .tmp t :: l, K, h => by
    obtain ⟨vs, hK, hr⟩ := resP_run hT hv l _ h
    refine ⟨_, hK, ?_⟩
    have h0 : (resF tmps (.tmp t)).run P w = .ok (f t) w := by simp only [resF, Sem.run_pure, hv]
    simp only [List.mapM_cons, Sem.run_bind, Sem.run_pure, Result.andThen_ok, hr, h0]
  | .cell b T :: l, K, h => by
    simp only [resP] at h
    unfold LoadP at h
    split at h
    case h_2 => exact h.elim
    rename_i ti b' o hti hp
    obtain ⟨x, hx, h⟩ := h
    obtain ⟨vs, hK, hr⟩ := resP_run hT hv l _ h
    refine ⟨_, hK, ?_⟩
    have h1 := loadVar_of (P := P) (hT _ _ hti) hx
    have h0 : (resF tmps (.cell b T)).run P w = .ok (ti.sh.enc x) w := by simp only [resF, hv, hp, asAddr, Sem.run_bind, Sem.run_pure, Result.andThen_ok, h1]
    simp only [List.mapM_cons, Sem.run_bind, Sem.run_pure, Result.andThen_ok, hr, h0]

theorem results_run (hT : tb.Ok P) {tmps : Array Value} {f : Fr} (hv : ∀ t, tmps.getD t undef = f t) {w : World} {fn : Func} {K : Value → Prop} (h : resP tb f w fn.results.toList fun vs => K (tupV vs)) :
    ∃ v, K v ∧ (results fn tmps).run P w = .ok v w := by
  obtain ⟨vs, hK, hr⟩ := resP_run hT hv fn.results.toList _ h
  refine ⟨_, hK, ?_⟩
  have e : results fn tmps = (do let vs ← fn.results.mapM (resF tmps); pure (if h : vs.size = 1 then vs[0] else .tuple vs)) := by
    unfold results
    congr 2
  rw [e, Array.mapM_eq_mapM_toList]
  simp only [Sem.run_bind, Sem.run_map, hr, Result.andThen_ok, Sem.run_pure]
  match vs with
  | [] => rfl
  | [v] => rfl
  | v :: u :: l => rfl

theorem isUpd_putObj {w : World} {r : Nat} {o : Obj} (h : w.heap[r]? = some o) (o' : Obj) : IsUpd w r o' (w.putObj r o') := isUpd_set h o' w.drawn

theorem leaves_of (hT : tb.Ok P) {fn : Func} {f : Fr} {R : Value → World → Prop} (tmps : Array Value) (hv : ∀ t, tmps.getD t undef = f t) :
    ∀ (ds : List Nat) (w : World), marksP w ds (fun w' => resP tb f w' fn.results.toList fun vs => R (tupV vs) w') →
      LeavesInM Fence.wide 0 P fn tmps (fun e w' => ∃ v, e = .returned v ∧ R v w') (ds.map mark) .returning w
  | [], w, h => by
    obtain ⟨v, hK, hr⟩ := results_run (P := P) hT hv (K := fun v => R v w) h
    exact ⟨v, hr, v, rfl, hK⟩
  | D :: ds, w, h => by
    obtain ⟨hD, h⟩ := h
    refine ⟨by simp, .inl ⟨D, _, rfl, run_takeDeferred hD, ?_⟩⟩
    exact leaves_of hT tmps hv ds _ (h _ (isUpd_putObj hD _))

theorem call_of (hT : tb.Ok P) (hm : P.follows .mixedOrders = true) {f : FuncId} {fn : Func} {c : Code} {args : Array Value} {w : World} {R : Value → World → Prop}
    (hE : Entr P f) (hf : P.funcs[f]? = some fn) (hb : fn.body = some c) (an : An) (hok : okC tb fn.ntmps c an = true) (hsz : args.size ≤ fn.ntmps)
    (h : ex P tb fn.ntmps none c an (retQ tb fn.results.toList R) (argFr 0 args.toList) [] w) : CW P f args w R := by
  refine ⟨hE, callsIn_of_wp_marks hf hb trivial ?_⟩
  have hR : Rel fn.ntmps { tmps := args ++ Array.replicate (fn.ntmps - args.size) undef, defers := [] } (argFr 0 args.toList) [] := by
    refine ⟨by simp; omega, fun t => ?_, rfl⟩
    rw [argFr_get]
    simp only [Nat.not_lt_zero, if_false, Nat.sub_zero]
    rw [Array.getD_eq_getD_getElem?, Array.getElem?_append]
    split
    · rename_i ht; simp [ht]
    · rename_i ht
      have : args.toList.getD t undef = undef := by simp [List.getD, Nat.not_lt.1 ht]
      rw [this, Array.getElem?_replicate]
      split <;> rfl
  have := ex_sound hT hm c an _ _ _ w hok h _ hR
  refine wpIn_mono this ?_
  rintro e a' w' ⟨f', ds', hR', _, hQ⟩
  cases e with
  | normal => simp only [bodyPostM, hR'.defers]; exact leaves_of hT a'.tmps hR'.val ds' w' hQ
  | ret => simp only [bodyPostM, hR'.defers]; exact leaves_of hT a'.tmps hR'.val ds' w' hQ
  | exit _ => exact hQ.elim
  | goto _ => exact hQ.elim
  | panic _ => exact hQ.elim
  | outgrown => exact hQ.elim

theorem entr_of {f : FuncId} {fn : Func} (hf : P.funcs[f]? = some fn) (hb : fn.body.isNone = false) (hn : (fn.name == "runtime.NumGoroutine") = false) : Entr P f := by
  intro args w
  simp only [callFunc, Sem.run_bind, run_program, Result.andThen_ok, hf, hn, hb, Bool.false_eq_true, if_false, Sem.run_pure]

end

/-! ### A range over a function -/
def Obj.keep : Obj → Bool
  | .cells .. => true
  | .map .. => true
  | _ => false

/-- What was there below n₀ is there; rows and maps are as they were. -/
structure Stb (n₀ : Nat) (W W' : World) : Prop where
  size : W.heap.size ≤ W'.heap.size
  low : ∀ i : Nat, i < n₀ → W'.heap[i]? = W.heap[i]?
  keep : ∀ (i : Nat) o, W.heap[i]? = some o → Gx.Obj.keep o = true → W'.heap[i]? = some o
  rest : Rest W W'

theorem Stb.refl (n₀ : Nat) (W : World) : Stb n₀ W W := ⟨Nat.le_refl _, fun _ _ => rfl, fun _ _ h _ => h, Rest.refl _⟩
theorem Stb.trans {n₀ : Nat} {A B C : World} (h : Stb n₀ A B) (k : Stb n₀ B C) : Stb n₀ A C :=
  ⟨Nat.le_trans h.size k.size, fun i hi => (k.low i hi).trans (h.low i hi), fun i o ho hk => k.keep i o (h.keep i o ho hk) hk, h.rest.trans k.rest⟩
theorem Stb.mono {m n : Nat} {A B : World} (h : Stb n A B) (hm : m ≤ n) : Stb m A B := ⟨h.size, fun i hi => h.low i (Nat.lt_of_lt_of_le hi hm), h.keep, h.rest⟩
theorem Stb.alloc {n₀ : Nat} {W W' : World} {o : Obj} {b : Nat} (h : IsAlloc W o b W') (hn : n₀ ≤ W.heap.size) : Stb n₀ W W' :=
  ⟨by rw [h.size]; omega, fun i hi => h.old i (by omega), fun i o ho _ => by
    have : i < W.heap.size := (Array.getElem?_eq_some_iff.1 ho).1
    rw [h.old i this]; exact ho, h.rest⟩
theorem Stb.upd {n₀ : Nat} {W W' : World} {o o' : Obj} {b : Nat} (h : IsUpd W b o' W') (hb : W.heap[b]? = some o) (hk : Gx.Obj.keep o = false) (hn : n₀ ≤ b) : Stb n₀ W W' :=
  ⟨by rw [h.size]; exact Nat.le_refl _, fun i hi => h.old i (by omega), fun i o2 ho hk2 => by
    by_cases e : i = b
    · subst e; rw [hb] at ho; cases ho; rw [hk] at hk2; cases hk2
    · rw [h.old i e]; exact ho, h.rest⟩
theorem Stb.drawn (n₀ : Nat) (W : World) (d : Nat) : Stb n₀ W { W with drawn := d } := ⟨Nat.le_refl _, fun _ _ => rfl, fun _ _ h _ => h, ⟨rfl, rfl, rfl⟩⟩

/-- The iterators over maps are as they were. -/
def Its (W W' : World) : Prop := ∀ (i : Nat) m s q t, W.heap[i]? = some (.mapIter m s q t) → W'.heap[i]? = some (.mapIter m s q t)
theorem Its.refl (W : World) : Its W W := fun _ _ _ _ _ h => h
theorem Its.trans {A B C : World} (h : Its A B) (k : Its B C) : Its A C := fun i m s q t e => k i m s q t (h i m s q t e)
theorem Its.upd {W W' : World} {o o' : Obj} {b : Nat} (h : IsUpd W b o' W') (hb : W.heap[b]? = some o) (ho : ∀ m s q t, o ≠ .mapIter m s q t) : Its W W' := fun i m s q t e => by
  by_cases hi : i = b
  · subst hi; rw [hb] at e; exact absurd (Option.some.inj e) (ho _ _ _ _)
  · rw [h.old i hi]; exact e

def Abid {β : Type} (n₀ : Nat) (I : β → World → Prop) : Prop := ∀ s W W', I s W → Stb n₀ W W' → I s W'

/-- The contract of an iterator: 'Nxt pre x': x may come behind pre; 'Fin xs': xs is all; 'Inv': what must hold of memory whenever it goes on. -/
def Iter {α : Type} (P : Program) (g : FuncId) (lb : Array Value) (enc : α → Array Value) (bnd : Bool) (Nxt : List α → α → Prop) (Fin : List α → Prop) (Inv : World → Prop) : Prop :=
  Entr P g ∧ ∀ (l : Nat) (J Jx : List α → World → Prop) (W : World), Abid W.heap.size J → Abid W.heap.size Jx → (∀ pre W', J pre W' → Inv W') → (∀ pre W', J pre W' → W.heap.size ≤ W'.heap.size) →
    (bnd = true → ∃ B, ∀ pre W', J pre W' → pre.length ≤ B) →
    (∀ pre x W1, J pre W1 → Nxt pre x → YW P l (enc x) W1 fun b W' => match b with | true => J (pre ++ [x]) W' ∧ Its W1 W' | false => Jx (pre ++ [x]) W') → J [] W →
    CW P g (#[.func (.yield l) #[] #[]] ++ lb) W fun _ W' => (∃ xs, Fin xs ∧ J xs W') ∨ (∃ pre, Jx pre W')

def roundQ (l D : Nat) (W0 : World) (Jn : World → Prop) (Jx : Code → World → Prop) : Post
  | .normal, _, _, w => (w.heap[l]? = W0.heap[l]? ∧ w.heap[D]? = W0.heap[D]?) ∧ Jn w
  | .ret, _, _, w => (w.heap[l]? = W0.heap[l]? ∧ w.heap[D]? = W0.heap[D]?) ∧ Jx .ret w
  | .exit id, _, _, w => (w.heap[l]? = W0.heap[l]? ∧ w.heap[D]? = W0.heap[D]?) ∧ Jx (.exit id) w
  | _, _, _, _ => False

def jumpQ (Kr : List Nat → World → Prop) (Kx : Nat → List Nat → World → Prop) (ds : List Nat) (w : World) : Code → Prop
  | .ret => Kr ds w
  | .exit id => Kx id ds w
  | _ => False

def putAll (f : Fr) : List Tmp → List Value → Fr
  | t :: ts, v :: vs => putAll (put f (some t) v) ts vs
  | _, _ => f


section
variable {P : Program} {tb : Tab}

theorem foldl_setIfInBounds {N : Nat} : ∀ (ps : List Tmp) (vs : List Value) (tmps : Array Value) (f : Fr), tmps.size = N → (∀ t, tmps.getD t undef = f t) → (∀ p ∈ ps, p < N) →
    ((ps.zip vs).foldl (fun (t : Array Value) (q : Tmp × Value) => t.setIfInBounds q.1 q.2) tmps).size = N ∧
      ∀ t, ((ps.zip vs).foldl (fun (t : Array Value) (q : Tmp × Value) => t.setIfInBounds q.1 q.2) tmps).getD t undef = putAll f ps vs t
  | [], vs, tmps, f, hs, hv, _ => by cases vs <;> exact ⟨hs, hv⟩
  | p :: ps, [], tmps, f, hs, hv, _ => ⟨hs, hv⟩
  | p :: ps, v :: vs, tmps, f, hs, hv, hp => by
    have hR : Rel N ({ tmps, defers := [] } : Act) f [] := ⟨hs, hv, rfl⟩
    have h1 := hR.put (d := some p) (fun e he => by cases he; exact hp p (by simp)) v
    exact foldl_setIfInBounds ps vs (tmps.setIfInBounds p v) (put f (some p) v) h1.size h1.val (fun q hq => hp q (by simp [hq]))

theorem abid_kept {n₀ l : Nat} {W W' : World} (h : Stb n₀ W W') (hl : l < n₀) : W'.heap[l]? = W.heap[l]? := h.low l hl

/-- What the law of a range asks of the body of a round. -/
def BodyP (P : Program) (tb : Tab) (N l D n₀ : Nat) (an : An) (ps : Array Tmp) (assign body : Code) (f : Fr) (Jn : World → Prop) (Jx : Code → World → Prop) (args : List Value) (W : World) : Prop :=
  ex P tb N (some l) assign .nil (thenQ (fun f' ds' w' => ds' = [] ∧ (w'.heap[l]? = W.heap[l]? ∧ w'.heap[D]? = W.heap[D]?) ∧
    ∀ w'', Stb n₀ w' w'' → Its w' w'' → (∃ rc : Loop, w''.heap[l]? = some (.loop rc)) → ex P tb N (some l) body an (roundQ l D w'' Jn Jx) f' [] w'') (fun _ _ _ _ => False)) (putAll f ps.toList args) [] W

theorem round_of (hT : tb.Ok P) (hm : P.follows .mixedOrders = true) {α : Type} {N l D n₀ : Nat} {an : An} {ps : Array Tmp} {assign body : Code} {f : Fr} {I : List α → World → Prop} {Ix : Code → List α → World → Prop} {pre : List α} {x : α} {args : Array Value} {W : World}
    {fn : FuncId} {tmps : Array Value} (hs : tmps.size = N) (hv : ∀ t, tmps.getD t undef = f t) (hps : ∀ p ∈ ps.toList, p < N) (hok1 : okC tb N assign .nil = true) (hok2 : okC tb N body an = true) (hsz : args.size = ps.size)
    (hn : n₀ ≤ l) {Dr : Nat} {rec : Loop} (hrec : rec = { state := .ready, pending := none, fn, tmps, params := ps, assign, body, defers := Dr }) (hl : W.heap[l]? = some (.loop rec))
    (hI : Abid n₀ I) (hIx : ∀ c, Abid n₀ (Ix c)) {E : World → Prop} (hE : ∀ A B o, E A → IsUpd A l o B → (∃ rc : Loop, A.heap[l]? = some (.loop rc)) → E B) (hB : BodyP P tb N l D n₀ an ps assign body f (fun W' => I (pre ++ [x]) W' ∧ E W') (fun c => Ix c (pre ++ [x])) args.toList W) :
    YW P l args W fun b W' => (D ≠ l → W'.heap[D]? = W.heap[D]?) ∧ match b with
      | true => W'.heap[l]? = some (.loop rec) ∧ I (pre ++ [x]) W' ∧ E W'
      | false => ∃ c, W'.heap[l]? = some (.loop { rec with state := .done, pending := some c }) ∧ Ix c (pre ++ [x]) W' := by
  have hy := run_yield (P := P) (args := args) hl (by rw [hrec]; exact hsz)
  rw [hrec] at hy
  refine ⟨fn, _, assign, body, hy, ?_⟩
  refine roundIn_of_wpIn (F := Fence.wide) trivial ?_
  obtain ⟨hs', hv'⟩ := foldl_setIfInBounds ps.toList args.toList tmps f hs hv hps
  have hzip : (ps.zip args).foldl (fun tmps (x : Tmp × Value) => tmps.setIfInBounds x.1 x.2) tmps = (ps.toList.zip args.toList).foldl (fun (t : Array Value) (q : Tmp × Value) => t.setIfInBounds q.1 q.2) tmps := by
    rw [← Array.foldl_toList, Array.toList_zip]
  have hR : Rel N ({ tmps := (ps.zip args).foldl (fun tmps (x : Tmp × Value) => tmps.setIfInBounds x.1 x.2) tmps, defers := [] } : Act) (putAll f ps.toList args.toList) [] := by
    rw [hzip]; exact ⟨hs', hv', rfl⟩
  have h1 := ex_sound (r := some l) hT hm assign .nil _ _ _ W hok1 hB _ hR
  refine wpIn_mono (F := fz (some l)) h1 ?_
  rintro e a₁ w₁ ⟨f₁, ds₁, hR₁, _, hQ₁⟩
  cases e with
  | normal =>
    obtain ⟨rfl, ⟨hkl, hkD⟩, hQ₁⟩ := hQ₁
    have hl₁ : w₁.heap[l]? = some (.loop rec) := hkl.trans hl
    have hst : rec.state = .ready := by rw [hrec]
    refine ⟨_, run_beginRound hl₁ hst, ?_⟩
    have hu := isUpd_putObj hl₁ (.loop { rec with state := .busy })
    have hb := hQ₁ _ (Stb.upd hu hl₁ rfl hn) (Its.upd hu hl₁ (by simp)) ⟨_, hu.new⟩
    have h2 := ex_sound (r := some l) hT hm body an _ f₁ [] _ hok2 hb _ hR₁
    refine wpIn_mono (F := fz (some l)) h2 ?_
    rintro e a₂ w₂ ⟨f₂, ds₂, hR₂, _, hQ₂⟩
    have hDw : D ≠ l → (w₁.putObj l (.loop { rec with state := .busy })).heap[D]? = W.heap[D]? := fun hlD => (hu.old D hlD).trans hkD
    have fin : ∀ (jump : Option Code), (w₂.heap[l]? = (w₁.putObj l (.loop { rec with state := .busy })).heap[l]? ∧ w₂.heap[D]? = (w₁.putObj l (.loop { rec with state := .busy })).heap[D]?) →
        ∃ w₃, (Instr.endRound l jump).run P w₂ = .ok (.bool jump.isNone) w₃ ∧ w₃.heap[l]? = some (.loop { rec with state := if jump.isNone then .ready else .done, pending := jump }) ∧ (D ≠ l → w₃.heap[D]? = W.heap[D]?) ∧ Stb n₀ w₂ w₃ ∧ (E w₂ → E w₃) := fun jump hk => by
      have hl₂ : w₂.heap[l]? = some (.loop { rec with state := .busy }) := hk.1.trans hu.new
      have hu₂ := isUpd_putObj hl₂ (.loop { rec with state := if jump.isNone then .ready else .done, pending := jump })
      exact ⟨_, run_endRound jump hl₂, hu₂.new, fun hlD => (hu₂.old D hlD).trans (hk.2.trans (hDw hlD)), Stb.upd hu₂ hl₂ rfl hn, fun h => hE _ _ _ h hu₂ ⟨_, hl₂⟩⟩
    cases e with
    | normal =>
      obtain ⟨hk, hI₂, hE₂⟩ := hQ₂
      obtain ⟨w₃, hr, hl₃, hD₃, hS, hEE⟩ := fin none hk
      refine ⟨_, w₃, hr, true, rfl, hD₃, ?_, hI _ _ _ hI₂ hS, hEE hE₂⟩
      rw [hl₃]
      simp [hrec]
    | ret =>
      obtain ⟨hk, hI₂⟩ := hQ₂
      obtain ⟨w₃, hr, hl₃, hD₃, hS, _⟩ := fin (some .ret) hk
      exact ⟨_, w₃, hr, false, rfl, hD₃, _, hl₃, hIx _ _ _ _ hI₂ hS⟩
    | exit id =>
      obtain ⟨hk, hI₂⟩ := hQ₂
      obtain ⟨w₃, hr, hl₃, hD₃, hS, _⟩ := fin (some (.exit id)) hk
      exact ⟨_, w₃, hr, false, rfl, hD₃, _, hl₃, hIx _ _ _ _ hI₂ hS⟩
    | goto _ => exact hQ₂.elim
    | panic _ => exact hQ₂.elim
    | outgrown => exact hQ₂.elim
  | exit _ => exact hQ₁.elim
  | goto _ => exact hQ₁.elim
  | ret => exact hQ₁.elim
  | panic _ => exact hQ₁.elim
  | outgrown => exact hQ₁.elim

/-- A range over a function, outside of every other one. -/
theorem range_none (hT : tb.Ok P) (hm : P.follows .mixedOrders = true) {α : Type} {N : Nat} {an : An} {g : Operand} {ps : Array Tmp} {assign body : Code} {f : Fr} {ds : List Nat} {w : World} {Kn Kr : List Nat → World → Prop} {Kx : Nat → List Nat → World → Prop}
    {gf : FuncId} {lb : Array Value} (hg : ev f g = .func (.func gf) #[] lb) {enc : α → Array Value} {bnd : Bool} {Nxt : List α → α → Prop} {Fin : List α → Prop} {Inv : World → Prop} (spec : Iter P gf lb enc bnd Nxt Fin Inv)
    (hok1 : okC tb N assign .nil = true) (hok2 : okC tb N body an = true) (hps : ps.toList.all (fun p => Nat.blt p N) = true) (henc : ∀ x, (enc x).size = ps.size)
    (I : List α → World → Prop) (Ix : Code → List α → World → Prop) (hI : Abid w.heap.size I) (hIx : ∀ c, Abid w.heap.size (Ix c)) (hInv : ∀ pre W, I pre W → Inv W)
    (hbnd : bnd = true → ∃ B, ∀ pre W, I pre W → pre.length ≤ B) (h0 : I [] w)
    (hbody : ∀ pre x W, I pre W → Nxt pre x → w.heap.size + 1 < W.heap.size → BodyP P tb N (w.heap.size + 1) w.heap.size w.heap.size an ps assign body f (fun W' => I (pre ++ [x]) W' ∧ Its W W') (fun c => Ix c (pre ++ [x])) (enc x).toList W)
    (hdone : ∀ xs W, Fin xs → I xs W → W.heap[w.heap.size]? = some (.deferred (some [])) → Kn (w.heap.size :: ds) W)
    (hstop : ∀ c pre W, Ix c pre W → W.heap[w.heap.size]? = some (.deferred (some [])) → jumpQ Kr Kx (w.heap.size :: ds) W c) :
    RangeP P tb N none an g ps assign body f ds w Kn Kr Kx := by
  intro a hR
  refine wpIn_rangeFunc ?_
  intro fn _
  obtain ⟨rec, hrec⟩ : ∃ rec : Loop, rec = { state := .ready, pending := none, fn, tmps := a.tmps, params := ps, assign, body, defers := w.heap.size } := ⟨_, rfl⟩
  obtain ⟨W1, hW1⟩ : ∃ W1, (w.alloc (.deferred (some []))).alloc (.loop rec) = W1 := ⟨_, rfl⟩
  have e1 : IsAlloc w (.deferred (some [])) w.heap.size (w.alloc (.deferred (some []))) := isAlloc_push w _ w.drawn
  have e2 : IsAlloc (w.alloc (.deferred (some []))) (.loop rec) (w.heap.size + 1) W1 := by
    have := isAlloc_push (w.alloc (.deferred (some []))) (.loop rec) (w.alloc (.deferred (some []))).drawn
    rw [e1.size] at this
    rw [← hW1]; exact this
  have hL1 : W1.heap[w.heap.size + 1]? = some (.loop rec) := e2.new
  have hK1 : W1.heap[w.heap.size]? = some (.deferred (some [])) := by rw [e2.old _ (by rw [e1.size]; omega)]; exact e1.new
  have hS1 : Stb w.heap.size w W1 := (Stb.alloc e1 (Nat.le_refl _)).trans (Stb.alloc e2 (by rw [e1.size]; omega))
  have hsz1 : W1.heap.size = w.heap.size + 2 := by rw [e2.size, e1.size]
  have hev : a.eval g = .func (.func gf) #[] lb := by rw [hR.eval]; exact hg
  have hpsN : ∀ p ∈ ps.toList, p < N := fun p hp => by have := List.all_eq_true.1 hps p hp; rw [Nat.blt_eq] at this; exact this
  refine ⟨w.heap.size + 1, [{ target := .collected w.heap.size, args := #[] }], W1, { target := .fn (.func gf) lb, args := #[.func (.yield (w.heap.size + 1)) #[] #[]] }, W1, gf,
    #[.func (.yield (w.heap.size + 1)) #[] #[]] ++ lb, W1, ?_, ?_, fun f' _ => trivial, ?_, fz_depth none, ?_⟩
  · rw [← hW1, hrec]; exact run_enterLoop_outer _ _ _ _ _
  · simp only [resolve]
    rw [hev]
    simp [Deferred.ofValue, Act.eval]
  · simp only [invoke]
    exact spec.1 _ _
  · refine fz_callsIn.2 ?_
    have hc := spec.2 (w.heap.size + 1)
      (fun pre W => I pre W ∧ W.heap[w.heap.size + 1]? = some (.loop rec) ∧ W.heap[w.heap.size]? = some (.deferred (some [])))
      (fun pre W => ∃ c, Ix c pre W ∧ W.heap[w.heap.size + 1]? = some (.loop { rec with state := .done, pending := some c }) ∧ W.heap[w.heap.size]? = some (.deferred (some [])))
      W1
      (fun s A B hs hS => ⟨hI s A B hs.1 (hS.mono (by omega)), (hS.low _ (by omega)).trans hs.2.1, (hS.low _ (by omega)).trans hs.2.2⟩)
      (fun s A B hs hS => by obtain ⟨c, hc, h1, h2⟩ := hs; exact ⟨c, hIx c s A B hc (hS.mono (by omega)), (hS.low _ (by omega)).trans h1, (hS.low _ (by omega)).trans h2⟩)
      (fun pre W h => hInv pre W h.1)
      (fun pre W h => by have : w.heap.size + 1 < W.heap.size := (Array.getElem?_eq_some_iff.1 h.2.1).1; omega)
      (fun hb => by obtain ⟨B, hB⟩ := hbnd hb; exact ⟨B, fun pre W h => hB pre W h.1⟩)
      (fun pre x W h hx => by
        have hlt : w.heap.size + 1 < W.heap.size := (Array.getElem?_eq_some_iff.1 h.2.1).1
        refine (round_of hT hm (l := w.heap.size + 1) (D := w.heap.size) (n₀ := w.heap.size) hR.size hR.val hpsN hok1 hok2 (henc x) (by omega) hrec h.2.1 hI hIx (E := Its W) (fun A B o hE hu hl => by obtain ⟨rc, hl⟩ := hl; exact hE.trans (Its.upd hu hl (by simp))) (hbody pre x W h.1 hx hlt)).mono ?_
        rintro b W' ⟨hD, hb⟩
        cases b with
        | true => exact ⟨⟨hb.2.1, hb.1, (hD (by omega)).trans h.2.2⟩, hb.2.2⟩
        | false => obtain ⟨c, h1, h2⟩ := hb; exact ⟨c, h2, h1, (hD (by omega)).trans h.2.2⟩)
      ⟨hI _ _ _ h0 hS1, hL1, hK1⟩
    refine hc.2.mono ?_
    rintro e W2 ⟨v, rfl, h⟩
    have hds : ∀ (a' : Act), a' = { a with defers := [{ target := .collected w.heap.size, args := #[] }] ++ a.defers } → Rel N a' f (w.heap.size :: ds) := fun a' e => by
      subst e
      exact ⟨hR.size, hR.val, by rw [hR.defers]; rfl⟩
    rcases h with ⟨xs, hF, hi, hl, hk⟩ | ⟨pre, c, hi, hl, hk⟩
    · obtain ⟨w4, o4, hr4, hu⟩ : ∃ w4 o4, (Instr.endLoop (w.heap.size + 1)).run P W2 = .ok rec.pending w4 ∧ IsUpd W2 (w.heap.size + 1) o4 w4 :=
        ⟨_, _, run_endLoop (P := P) hl (by rw [hrec]; simp), isUpd_putObj hl _⟩
      have hp : rec.pending = none := by rw [hrec]
      rw [hp] at hr4
      refine ⟨none, w4, hr4, ?_⟩
      exact ⟨f, w.heap.size :: ds, hds _ rfl, rfl, hdone xs _ hF (hI _ _ _ hi (Stb.upd hu hl rfl (by omega))) ((hu.old _ (by omega)).trans hk)⟩
    · have hu := isUpd_putObj hl (.loop { rec with state := .exhausted, pending := some c })
      refine ⟨some c, _, by have := run_endLoop (P := P) hl (by simp); exact this, ?_⟩
      have hj := hstop c pre _ (hIx c _ _ _ hi (Stb.upd hu hl rfl (by omega))) ((hu.old _ (by omega)).trans hk)
      unfold jumpQ at hj
      split at hj
      · exact wpIn_ret ⟨f, w.heap.size :: ds, hds _ rfl, rfl, hj⟩
      · exact wpIn_exit ⟨f, w.heap.size :: ds, hds _ rfl, rfl, hj⟩
      · exact hj.elim

/-- A range over a function in a round of another one. -/
theorem range_some (hT : tb.Ok P) (hm : P.follows .mixedOrders = true) {α : Type} {N l₀ : Nat} {an : An} {g : Operand} {ps : Array Tmp} {assign body : Code} {f : Fr} {ds : List Nat} {w : World} {Kn Kr : List Nat → World → Prop} {Kx : Nat → List Nat → World → Prop}
    {gf : FuncId} {lb : Array Value} (hg : ev f g = .func (.func gf) #[] lb) {enc : α → Array Value} {bnd : Bool} {Nxt : List α → α → Prop} {Fin : List α → Prop} {Inv : World → Prop} (spec : Iter P gf lb enc bnd Nxt Fin Inv)
    (hok1 : okC tb N assign .nil = true) (hok2 : okC tb N body an = true) (hps : ps.toList.all (fun p => Nat.blt p N) = true) (henc : ∀ x, (enc x).size = ps.size)
    (hl₀ : ∃ rc : Loop, w.heap[l₀]? = some (.loop rc))
    (I : List α → World → Prop) (Ix : Code → List α → World → Prop) (hI : Abid w.heap.size I) (hIx : ∀ c, Abid w.heap.size (Ix c)) (hInv : ∀ pre W, I pre W → Inv W)
    (hbnd : bnd = true → ∃ B, ∀ pre W, I pre W → pre.length ≤ B) (h0 : I [] w)
    (hbody : ∀ pre x W, I pre W → Nxt pre x → w.heap.size < W.heap.size → BodyP P tb N w.heap.size w.heap.size w.heap.size an ps assign body f (fun W' => I (pre ++ [x]) W' ∧ Its W W') (fun c => Ix c (pre ++ [x])) (enc x).toList W)
    (hdone : ∀ xs W, Fin xs → I xs W → Kn ds W)
    (hstop : ∀ c pre W, Ix c pre W → jumpQ Kr Kx ds W c) :
    RangeP P tb N (some l₀) an g ps assign body f ds w Kn Kr Kx := by
  intro a hR
  obtain ⟨rc, hrc⟩ := hl₀
  refine wpIn_rangeFunc ?_
  intro fn _
  obtain ⟨rec, hrec⟩ : ∃ rec : Loop, rec = { state := .ready, pending := none, fn, tmps := a.tmps, params := ps, assign, body, defers := rc.defers } := ⟨_, rfl⟩
  obtain ⟨W1, hW1⟩ : ∃ W1, w.alloc (.loop rec) = W1 := ⟨_, rfl⟩
  have e1 : IsAlloc w (.loop rec) w.heap.size W1 := by rw [← hW1]; exact isAlloc_push w _ w.drawn
  have hS1 : Stb w.heap.size w W1 := Stb.alloc e1 (Nat.le_refl _)
  have hsz1 : W1.heap.size = w.heap.size + 1 := e1.size
  have hev : a.eval g = .func (.func gf) #[] lb := by rw [hR.eval]; exact hg
  have hpsN : ∀ p ∈ ps.toList, p < N := fun p hp => by have := List.all_eq_true.1 hps p hp; rw [Nat.blt_eq] at this; exact this
  refine ⟨w.heap.size, [], W1, { target := .fn (.func gf) lb, args := #[.func (.yield w.heap.size) #[] #[]] }, W1, gf,
    #[.func (.yield w.heap.size) #[] #[]] ++ lb, W1, ?_, ?_, fun f' _ => trivial, ?_, fz_depth (some l₀), ?_⟩
  · rw [← hW1, hrec]; exact run_enterLoop_inner hrc _ _ _ _ _
  · simp only [resolve]
    rw [hev]
    simp [Deferred.ofValue, Act.eval]
  · simp only [invoke]
    exact spec.1 _ _
  · refine fz_callsIn.2 ?_
    have hc := spec.2 w.heap.size
      (fun pre W => I pre W ∧ W.heap[w.heap.size]? = some (.loop rec))
      (fun pre W => ∃ c, Ix c pre W ∧ W.heap[w.heap.size]? = some (.loop { rec with state := .done, pending := some c }))
      W1
      (fun s A B hs hS => ⟨hI s A B hs.1 (hS.mono (by omega)), (hS.low _ (by omega)).trans hs.2⟩)
      (fun s A B hs hS => by obtain ⟨c, hc, h1⟩ := hs; exact ⟨c, hIx c s A B hc (hS.mono (by omega)), (hS.low _ (by omega)).trans h1⟩)
      (fun pre W h => hInv pre W h.1)
      (fun pre W h => by have : w.heap.size < W.heap.size := (Array.getElem?_eq_some_iff.1 h.2).1; omega)
      (fun hb => by obtain ⟨B, hB⟩ := hbnd hb; exact ⟨B, fun pre W h => hB pre W h.1⟩)
      (fun pre x W h hx => by
        have hlt : w.heap.size < W.heap.size := (Array.getElem?_eq_some_iff.1 h.2).1
        refine (round_of hT hm (l := w.heap.size) (D := w.heap.size) (n₀ := w.heap.size) hR.size hR.val hpsN hok1 hok2 (henc x) (by omega) hrec h.2 hI hIx (E := Its W) (fun A B o hE hu hl => by obtain ⟨rc, hl⟩ := hl; exact hE.trans (Its.upd hu hl (by simp))) (hbody pre x W h.1 hx hlt)).mono ?_
        rintro b W' ⟨hD, hb⟩
        cases b with
        | true => exact ⟨⟨hb.2.1, hb.1⟩, hb.2.2⟩
        | false => obtain ⟨c, h1, h2⟩ := hb; exact ⟨c, h2, h1⟩)
      ⟨hI _ _ _ h0 hS1, e1.new⟩
    refine hc.2.mono ?_
    rintro e W2 ⟨v, rfl, h⟩
    have hds : ∀ (a' : Act), a' = { a with defers := [] ++ a.defers } → Rel N a' f ds := fun a' e => by
      subst e
      exact ⟨hR.size, hR.val, hR.defers⟩
    rcases h with ⟨xs, hF, hi, hl⟩ | ⟨pre, c, hi, hl⟩
    · obtain ⟨w4, o4, hr4, hu⟩ : ∃ w4 o4, (Instr.endLoop w.heap.size).run P W2 = .ok rec.pending w4 ∧ IsUpd W2 w.heap.size o4 w4 :=
        ⟨_, _, run_endLoop (P := P) hl (by rw [hrec]; simp), isUpd_putObj hl _⟩
      have hp : rec.pending = none := by rw [hrec]
      rw [hp] at hr4
      refine ⟨none, w4, hr4, ?_⟩
      exact ⟨f, ds, hds _ rfl, rfl, hdone xs _ hF (hI _ _ _ hi (Stb.upd hu hl rfl (by omega)))⟩
    · have hu := isUpd_putObj hl (.loop { rec with state := .exhausted, pending := some c })
      refine ⟨some c, _, by have := run_endLoop (P := P) hl (by simp); exact this, ?_⟩
      have hj := hstop c pre _ (hIx c _ _ _ hi (Stb.upd hu hl rfl (by omega)))
      unfold jumpQ at hj
      split at hj
      · exact wpIn_ret ⟨f, ds, hds _ rfl, rfl, hj⟩
      · exact wpIn_exit ⟨f, ds, hds _ rfl, rfl, hj⟩
      · exact hj.elim
end
end Go.Proofs.Ytopecljhehcldaa.Gx
