/- The framework, part 11: regions whose order is drawn, concluded. -/
import Derived.Test.YtopecljhehcldaaGx10
import Derived.ControlIn
namespace Go.Proofs.Ytopecljhehcldaa.Gx
open Go
set_option linter.unusedSimpArgs false

/-! ### By a plan that was reckoned before -/
inductive Pl where
  | fin
  | non
  | st (i : Nat) (p : Pl)
  | ac (i : Nat) (keep : List Nat) (p q : Pl)

def inL (t : Nat) : List Nat → Bool
  | [] => false
  | k :: l => match Nat.beq t k with
    | true => true
    | false => inL t l

theorem inL_iff {t : Nat} : ∀ {l : List Nat}, inL t l = true ↔ t ∈ l
  | [] => by simp [inL]
  | k :: l => by
    simp only [inL, List.mem_cons]
    split
    · rename_i e; simp [Nat.eq_of_beq_eq_true e]
    · rename_i e
      have : t ≠ k := fun h => by subst h; rw [show Nat.beq t t = true from Nat.beq_refl t] at e; cases e
      simp [this, inL_iff]

def pendK (keep : List Nat) (w : World) : Pend → Prop → Prop
  | [], A => A
  | (i, F) :: rest, A => match inL i keep with
    | true => F w ∧ pendK keep w rest A
    | false => pendK keep w rest A

def exq (P : Program) (tb : Tab) (ops : Array Oper) : Pl → Pend → Fr → World → (Fr → World → Prop) → Prop
  | .fin, _, f, w, K => K f w
  | .non, _, _, _, _ => True
  | .st i p, pend, f, w, K => match nth ops.toList i with
    | some o => match wantB ops f o with
      | true => match o.op with
        | .load T a => LoadP tb w T (ev f a) fun v => spl (srcB ops.toList i) v fun v => exq P tb ops p ((i, loadF tb T (ev f a) v) :: pend) (put f o.dst v) w K
        | op => pux P tb op (ev f) fun v => spl (srcB ops.toList i) v fun v => exq P tb ops p pend (put f o.dst v) w K
      | false => exq P tb ops p pend (put f o.dst undef) w K
    | none => False
  | .ac i keep p q, pend, f, w, K => match q with
    | .non => match nth ops.toList i with
      | some o => match wantB ops f o with
        | true => acx P tb o (ev f) w fun v w' => spl (srcB ops.toList i) v fun v => pendK keep w' pend (exq P tb ops p pend (put f o.dst v) w' K)
        | false => pendK keep w pend (exq P tb ops p pend (put f o.dst undef) w K)
      | none => False
    | q => (match nth ops.toList i with
      | some o => match wantB ops f o with
        | true => acx P tb o (ev f) w fun v w' => spl (srcB ops.toList i) v fun v => pendK keep w' pend (exq P tb ops p pend (put f o.dst v) w' K)
        | false => pendK keep w pend (exq P tb ops p pend (put f o.dst undef) w K)
      | none => False) ∧ exq P tb ops q pend f w K

def Pl.isNon : Pl → Bool
  | .non => true
  | _ => false

def planOk (tb : Tab) (ops : Array Oper) : Pl → Nat → Array Bool → List Nat → List Nat → Bool
  | .fin, _, listed, _, _ => (Region.ready .any ops listed).isEmpty
  | .non, _, _, _, rs => rs.isEmpty
  | .st i p, n, listed, ld, _ => match n with
    | 0 => false
    | n + 1 => decide ((Region.ready .any ops listed).find? (stillB tb ops) = some i) && Region.free .any ops listed i && !p.isNon &&
        planOk tb ops p n (listed.setIfInBounds i true) (i :: ld) (Region.ready .any ops (listed.setIfInBounds i true))
  | .ac i keep p q, n, listed, ld, rs => match n, rs with
    | n + 1, r :: rs => decide ((Region.ready .any ops listed).find? (stillB tb ops) = none) && Nat.beq r i && (ld.all fun j => !needB tb ops (listed.setIfInBounds i true) j || inL j keep) && !p.isNon &&
        planOk tb ops p n (listed.setIfInBounds i true) ld (Region.ready .any ops (listed.setIfInBounds i true)) && planOk tb ops q (n + 1) listed ld rs
    | _, _ => false

section
variable {P : Program} {tb : Tab} {ops : Array Oper} {r : Option Nat} {Q : Act → World → Prop}

theorem pendK_out {keep : List Nat} {listed : Array Bool} {w : World} {A : Prop} : ∀ {pend : Pend}, (∀ q ∈ pend, needB tb ops listed q.1 = true → inL q.1 keep = true) → pendK keep w pend A → InvP tb ops listed pend w ∧ A
  | [], _, h => ⟨fun q hq => by simp at hq, h⟩
  | (i, F) :: rest, hk, h => by
    unfold pendK at h
    split at h
    · obtain ⟨h1, h2⟩ := pendK_out (listed := listed) (fun q hq => hk q (List.mem_cons_of_mem _ hq)) h.2
      refine ⟨fun q hq hn => ?_, h2⟩
      rcases List.mem_cons.1 hq with rfl | hq
      · exact h.1
      · exact h1 q hq hn
    · rename_i hi
      obtain ⟨h1, h2⟩ := pendK_out (listed := listed) (fun q hq => hk q (List.mem_cons_of_mem _ hq)) h
      refine ⟨fun q hq hn => ?_, h2⟩
      rcases List.mem_cons.1 hq with rfl | hq
      · have := hk (i, F) (List.mem_cons_self ..) hn
        rw [hi] at this; cases this
      · exact h1 q hq hn

/-- What is to be shown of one that acts. -/
def ActQ (P : Program) (tb : Tab) (ops : Array Oper) (keep : List Nat) (p : Pl) (pend : Pend) (f : Fr) (w : World) (K : Fr → World → Prop) (i : Nat) : Prop :=
  match nth ops.toList i with
  | some o => match wantB ops f o with
    | true => acx P tb o (ev f) w fun v w' => spl (srcB ops.toList i) v fun v => pendK keep w' pend (exq P tb ops p pend (put f o.dst v) w' K)
    | false => pendK keep w pend (exq P tb ops p pend (put f o.dst undef) w K)
  | none => False

theorem exq_ac {i : Nat} {keep : List Nat} {p q : Pl} {pend : Pend} {f : Fr} {w : World} {K : Fr → World → Prop} (h : exq P tb ops (.ac i keep p q) pend f w K) :
    ActQ P tb ops keep p pend f w K i ∧ exq P tb ops q pend f w K := by
  cases q with
  | non => exact ⟨h, trivial⟩
  | fin => exact h
  | st _ _ => exact h
  | ac _ _ _ _ => exact h

theorem exq_sound (hT : tb.Ok P) {N : Nat} (hd : dstOk N ops.toList = true) (hns : Region.noSelect ops = true) (hnd : noDefer ops = true) (hb : beforeIn ops = true) (hlt : edgesBack ops = true)
    {ds : List Nat} {K : Fr → World → Prop} {f₀ : Fr} (hQ : ∀ f a w, Rel N a f ds → AgreeOff (dsts ops.toList) f₀ f → K f w → Q a w) :
    ∀ (pl : Pl) (n : Nat) (listed : Array Bool) (ld rs : List Nat) (pend : Pend) (f : Fr) (w : World) (a : Act), planOk tb ops pl n listed ld rs = true → exq P tb ops pl pend f w K → Rel N a f ds → AgreeOff (dsts ops.toList) f₀ f →
      HeadInv .any ops ops.size listed → InvP tb ops listed pend w → (∀ q ∈ pend, q.1 ∈ ld) →
      (pl.isNon = false → rs = Region.ready .any ops listed → wpH P tb ops r Q pend n listed a w) ∧
      ((∃ i k p q, pl = .ac i k p q) ∨ pl = .non → (∀ i ∈ rs, i ∈ Region.ready .any ops listed) → ∀ m, n = m + 1 → ∀ i ∈ rs, wpOpIn (fz r) 0 P ops (Q0 Q) i (wpH P tb ops r Q pend m (listed.setIfInBounds i true)) a w)
  | .fin, n, listed, ld, rs, pend, f, w, a, hp, h, hR, hA, hH, hI, _ => by
    refine ⟨fun _ hrs => ?_, fun hc => by rcases hc with ⟨_, _, _, _, h⟩ | h <;> cases h⟩
    simp only [planOk, List.isEmpty_iff] at hp
    cases n with
    | zero => exact ⟨hI, hp, hQ f a w hR hA h⟩
    | succ n => exact ⟨hI, fun _ => hQ f a w hR hA h, fun i hi => by rw [hp] at hi; cases hi⟩
  | .non, n, listed, ld, rs, pend, f, w, a, hp, h, hR, hA, hH, hI, _ => by
    refine ⟨fun h => by simp [Pl.isNon] at h, fun _ _ m _ i hi => ?_⟩
    simp only [planOk, List.isEmpty_iff] at hp
    rw [hp] at hi; cases hi
  | .st i p, n, listed, ld, rs, pend, f, w, a, hp, h, hR, hA, hH, hI, hld => by
    refine ⟨fun _ hrs => ?_, fun hc => by rcases hc with ⟨_, _, _, _, h⟩ | h <;> cases h⟩
    cases n with
    | zero => simp [planOk] at hp
    | succ n =>
      simp only [planOk, Bool.and_eq_true, decide_eq_true_eq, Bool.not_eq_true'] at hp
      obtain ⟨⟨⟨hfind, hfree⟩, hnon⟩, hp⟩ := hp
      have hst : stillB tb ops i = true := List.find?_some hfind
      have hir : i ∈ Region.ready .any ops listed := List.mem_of_find?_eq_some hfind
      simp only [exq] at h
      split at h
      case h_2 => exact h.elim
      rename_i o ho
      rw [nth_eq, Array.getElem?_toList] at ho
      have hmem : o ∈ ops.toList := Array.mem_toList_iff.2 (Array.mem_of_getElem? ho)
      have hdst := dstOk.of hd hmem
      have hin : ∀ e, o.dst = some e → e ∈ dsts ops.toList := fun e he => List.mem_filterMap.2 ⟨o, hmem, he⟩
      have hlti : i < ops.size := (Array.getElem?_eq_some_iff.1 ho).1
      have hH' := hH.set hir hlti
      have hwant := wantB_eq hd hR o
      have hfs := Region.free_spec ho hfree
      have fin : ∀ (v : Value) (pend' : Pend), (∀ q ∈ pend, q ∈ pend') → (∀ q ∈ pend', q.1 ∈ i :: ld) → exq P tb ops p pend' (put f o.dst v) w K →
          (∀ listed' w', HeadInv .any ops ops.size listed' → i ∈ Region.ready .any ops listed' → InvP tb ops listed' pend' w' → YieldsV P ops o v a w') → InvP tb ops listed pend' w →
          wpH P tb ops r Q pend (n + 1) listed a w := fun v pend' hs hl' hx hy hI' =>
        wpH_first hns (noDefer_spec hnd) hs ho hst n listed a w hH hfs hir (fun l' a' w' a1 a2 a3 a4 => a4 w' (hy l' w' a1 a2 a3)) hI'
          ((exq_sound hT hd hns hnd hb hlt hQ p n _ (i :: ld) _ pend' _ w _ hp hx (hR.put hdst v) (hA.trans (AgreeOff.put hin v)) hH' (fun q hq hn => hI' q hq (by rw [needB_set hst] at hn; exact hn)) hl').1 hnon rfl)
      split at h
      · rename_i hwt
        rw [hwt] at hwant
        split at h
        · rename_i T p' hop
          unfold LoadP at h
          split at h
          case h_2 => exact h.elim
          rename_i ti b off hti hpt
          obtain ⟨x, hx, h⟩ := h
          have h := h.out
          refine fin _ _ (fun q hq => List.mem_cons_of_mem _ hq) (fun q hq => ?_) h (fun listed' w' a1 a2 a3 => .inl ⟨hwant, ?_⟩) (fun q hq hn => ?_)
          · rcases List.mem_cons.1 hq with rfl | hq
            · exact List.mem_cons_self ..
            · exact List.mem_cons_of_mem _ (hld q hq)
          · have hF := a3 (i, _) (List.mem_cons_self ..) (needB_of hb (edgesBack_spec hlt) a1 hlti (mem_ready.1 a2).1)
            have hF' : LdF w' ti b off (ti.sh.enc x) := by simpa only [loadF, hti, hpt] using hF
            have := loadVar_of (P := P) (hT _ _ hti) hF'
            rw [hR.eval]
            simp [execOp, hop, Instr.loadAt, hpt, Instr.sureAddr, this]
          · rcases List.mem_cons.1 hq with rfl | hq
            · simpa only [loadF, hti, hpt] using hx
            · exact hI q hq hn
        · rename_i op hno
          obtain ⟨v, hv, hY⟩ := pux_sound hT (ty := o.type) h
          refine fin v pend (fun q hq => hq) (fun q hq => List.mem_cons_of_mem _ (hld q hq)) hv.out (fun listed' w' _ _ _ => .inl ⟨hwant, ?_⟩) hI
          rw [hR.eval]
          exact hY w' o.dst o.pos o.after o.guard
      · rename_i hwf
        rw [hwf] at hwant
        exact fin undef pend (fun q hq => hq) (fun q hq => List.mem_cons_of_mem _ (hld q hq)) h (fun listed' w' _ _ _ => .inr ⟨hwant, rfl⟩) hI
  | .ac i keep p q, n, listed, ld, rs, pend, f, w, a, hp, h, hR, hA, hH, hI, hld => by
    cases n with
    | zero => simp [planOk] at hp
    | succ n =>
      cases rs with
      | nil => simp [planOk] at hp
      | cons r0 rs =>
        simp only [planOk, Bool.and_eq_true, decide_eq_true_eq, Bool.not_eq_true'] at hp
        obtain ⟨⟨⟨⟨⟨hfind, hri⟩, hkeep⟩, hnon⟩, hp1⟩, hp2⟩ := hp
        have hri := Nat.eq_of_beq_eq_true hri
        subst hri
        obtain ⟨hact, hq⟩ := exq_ac h
        have hB : (∀ i ∈ r0 :: rs, i ∈ Region.ready .any ops listed) → ∀ i ∈ r0 :: rs, wpOpIn (fz r) 0 P ops (Q0 Q) i (wpH P tb ops r Q pend n (listed.setIfInBounds i true)) a w := by
          intro hsub i hi
          have hcase : i = r0 ∨ i ∈ rs := List.mem_cons.1 hi
          by_cases hir0 : i = r0
          · subst hir0
            unfold ActQ at hact
            split at hact
            case h_2 => exact hact.elim
            rename_i o ho
            rw [nth_eq, Array.getElem?_toList] at ho
            have hmem : o ∈ ops.toList := Array.mem_toList_iff.2 (Array.mem_of_getElem? ho)
            have hdst := dstOk.of hd hmem
            have hin : ∀ e, o.dst = some e → e ∈ dsts ops.toList := fun e he => List.mem_filterMap.2 ⟨o, hmem, he⟩
            have hH' := hH.set (hsub i hi) (Array.getElem?_eq_some_iff.1 ho).1
            have hwant := wantB_eq hd hR o
            have hkp : ∀ q ∈ pend, needB tb ops (listed.setIfInBounds i true) q.1 = true → inL q.1 keep = true := fun q hq hn => by
              have := List.all_eq_true.1 hkeep q.1 (hld q hq)
              rw [hn] at this
              simpa using this
            unfold wpOpIn
            simp only [ho]
            rw [hwant]
            split at hact
            · rename_i hwt
              rw [hwt]
              simp only [if_true]
              refine acx_sound hT hR.eval hact fun v w' hv => ?_
              obtain ⟨hI', hx⟩ := pendK_out hkp hv.out
              exact (exq_sound hT hd hns hnd hb hlt hQ p n _ ld _ pend _ w' _ hp1 hx (hR.put hdst v) (hA.trans (AgreeOff.put hin v)) hH' hI' hld).1 hnon rfl
            · rename_i hwf
              rw [hwf]
              simp only [Bool.false_eq_true, if_false]
              obtain ⟨hI', hx⟩ := pendK_out hkp hact
              exact ⟨fun f _ => fz_fn r f, (exq_sound hT hd hns hnd hb hlt hQ p n _ ld _ pend _ w _ hp1 hx (hR.put hdst undef) (hA.trans (AgreeOff.put hin undef)) hH' hI' hld).1 hnon rfl⟩
          · have hi' : i ∈ rs := hcase.resolve_left hir0
            have ih := (exq_sound hT hd hns hnd hb hlt hQ q (n + 1) listed ld rs pend f w a hp2 hq hR hA hH hI hld).2
            refine ih ?_ (fun i hi => hsub i (List.mem_cons_of_mem _ hi)) n rfl i hi'
            cases q with
            | non => exact .inr rfl
            | ac i k p q => exact .inl ⟨i, k, p, q, rfl⟩
            | fin =>
              simp only [planOk, List.isEmpty_iff] at hp2
              have := hsub i hi
              rw [hp2] at this; cases this
            | st j p' =>
              simp only [planOk, Bool.and_eq_true, decide_eq_true_eq] at hp2
              rw [hp2.1.1.1] at hfind
              cases hfind
        refine ⟨fun _ hrs => ⟨hI, fun h0 => (by rw [← hrs] at h0; cases h0), fun i hi => ?_⟩, fun _ hsub m hm i hi => ?_⟩
        · rw [← hrs] at hi
          exact hB (fun i hi => by rw [← hrs]; exact hi) i hi
        · cases hm
          exact hB hsub i hi

theorem wpAnyIn_weak {Q : Act → World → Prop} {Q' : Exit → Act → World → Prop} (hQ : ∀ a w, Q a w → Q' .normal a w) : ∀ (n : Nat) (listed : Array Bool) (a : Act) (w : World),
    wpAnyIn (fz r) 0 P .any ops (Q0 Q) n listed a w → wpAnyIn (fz r) 0 P .any ops Q' n listed a w
  | 0, _, _, _, h => ⟨h.1, hQ _ _ h.2⟩
  | n + 1, listed, a, w, h => ⟨fun h0 => hQ _ _ (h.1 h0), fun i hi => by
      have h1 := h.2 i hi
      have h2 : wpOpIn (fz r) 0 P ops (Q0 Q) i (wpAnyIn (fz r) 0 P .any ops Q' n (listed.setIfInBounds i true)) a w := wpOpIn_mono (fun a w h => wpAnyIn_weak hQ n _ a w h) h1
      unfold wpOpIn at h2 ⊢
      split
      · rename_i ho; simp only [ho] at h2; exact h2
      · rename_i o ho
        simp only [ho] at h2
        split
        · rename_i hw
          simp only [hw, if_true] at h2
          refine ⟨h2.1, ?_⟩
          have h3 := h2.2
          generalize (o.semAt (fz r).round a.eval).run P w = res at *
          cases res with
          | ok x w' =>
            cases x <;> simp only [Oper.uponIn] at h3 ⊢ <;> first
              | exact h3
              | exact ⟨h3.1, h3.2.mono fun e w'' he => by cases e <;> first | exact he | exact he.elim | exact (by obtain ⟨_, _, he⟩ := he; exact he.elim)⟩
          | halt x w' => cases x <;> simp only [Oper.uponIn] at h3 ⊢ <;> first | exact h3 | exact h3.elim
        · rename_i hw
          simp only [hw] at h2
          exact h2⟩
end
end Go.Proofs.Ytopecljhehcldaa.Gx
