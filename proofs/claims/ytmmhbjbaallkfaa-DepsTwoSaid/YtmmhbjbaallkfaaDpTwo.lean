/- gimmallaw15.DepsTwo returns true for all arguments, and leaves what was there as it was. No condition beyond the statement. -/
import Derived.Test.YtmmhbjbaallkfaaRows
import Derived.WalkKit
import Derived.ProofKit
import Derived.OpenShut
import Derived.ShutString
import Derived.Below
import Derived.Carry
import Derived.Test.YtmmhbjbaallkfaaGxC
import Derived.Test.YtmmhbjbaallkfaaDepG
namespace Go.Proofs.Ytmmhbjbaallkfaa.depsTwo
open Go.ChangeShapes Go.WideShapes Go.ChangeAt Go.RowKit
open Go.ChangeMaps (open_string shut_string)
set_option linter.unusedVariables false

theorem own : ownKnob Try.prog.godebug = none := by kernel_rfl

set_option maxRecDepth 100000 in
theorem lifted (os : Os) (started : os.Started) (H : Type) (enc : TypeId × Value → H) :
    ReturnsInHanded {} Try.checked os 5 .any (Rows.depsTwoSpec.pre6 enc Try.prog Try.f5 Rows.depsTwoRow.domain false) (Rows.depsTwoSpec.post enc Try.prog Try.f5 false true false false) := by
  refine returnsInHanded_of_change (C := Try.checked) own started (by kernel_rfl) Try.func5
    (ChangeSpec.witness6 (enc := enc) (C := Try.checked) false ⟨#[], #[.slice none 0 0, .int .i64 0, .int .i64 0], []⟩ 8 (by kernel_rfl) (by kernel_rfl) (by kernel_rfl) (by kernel_rfl)) ?_
  intro W base args ds gs before hval0 hW hcnd _
  have hval : ∀ (j : Nat) t v, Try.f5.params[j]? = some t → args[j]? = some v → Value.okWide Try.prog W .any base t v := hval0
  have hW' := hW
  have hlt := hW.lt
  obtain ⟨p, q, hA0, hV, rfl, hfz, hnd⟩ := hW
  have hA : DataW.TrodAll enc Try.prog W 0 (fun _ => true) true Try.f5.params.toList args.toList ds p := hA0
  have hpar : Try.f5.params = #[22, 3, 3] := rfl
  rw [hpar] at hA hval
  obtain ⟨v0, vs0, d0, ds0, p0, q0, hargs, rfl, rfl, h0, r0⟩ := trodAll_cons hA
  obtain ⟨v1, vs1, d1, ds1, p1, q1, rfl, rfl, rfl, h1, r1⟩ := trodAll_cons r0
  obtain ⟨v2, vs2, d2, ds2, p2, q2, rfl, rfl, rfl, h2, r2⟩ := trodAll_cons r1
  obtain ⟨rfl, rfl, rfl⟩ := trodAll_nil r2
  obtain rfl : args = #[v0, v1, v2] := by cases args; simp_all
  obtain ⟨rfl, rfl⟩ := trodVars_none hV
  clear hA0 hval0
  obtain ⟨x0, e0⟩ := Gx.open_arg (d := 12) (ty := (.sl (.pair (.int .i64) (.pair (.int .i64) (.pair (.int .i64) (.pair .bool (.pair (.sl (.pair (.int .i64) (.int .i64))) (.sl (.pair (.int .i64) (.int .i64)))))))))) (by kernel_rfl) h0
  obtain ⟨c0, g0⟩ : ∃ c, v0.cells.toList = [c] := List.length_eq_one_iff.1 (Gx.rep_len e0)
  have f0 : v0 = c0 := Gx.val_of_cells (hval 0 22 v0 rfl rfl) (fun fs n e => by rw [Try.underlying22]; exact ⟨by simp, by simp⟩) g0
  rw [g0] at e0
  obtain ⟨x1, e1⟩ := Gx.open_arg (d := 12) (ty := (.int .i64)) (by kernel_rfl) h1
  obtain ⟨c1, g1⟩ : ∃ c, v1.cells.toList = [c] := List.length_eq_one_iff.1 (Gx.rep_len e1)
  have f1 : v1 = c1 := Gx.val_of_cells (hval 1 3 v1 rfl rfl) (fun fs n e => by rw [Try.underlying3]; exact ⟨by simp, by simp⟩) g1
  rw [g1] at e1
  obtain ⟨x2, e2⟩ := Gx.open_arg (d := 12) (ty := (.int .i64)) (by kernel_rfl) h2
  obtain ⟨c2, g2⟩ : ∃ c, v2.cells.toList = [c] := List.length_eq_one_iff.1 (Gx.rep_len e2)
  have f2 : v2 = c2 := Gx.val_of_cells (hval 2 3 v2 rfl rfl) (fun fs n e => by rw [Try.underlying3]; exact ⟨by simp, by simp⟩) g2
  rw [g2] at e2
  have call : Calls Try.prog 5 #[v0, v1, v2] W fun e w' => e = .returned (.bool true) ∧ Below W.heap.size W w' := by
    rw [f0, f1, f2]
    refine (Gx.depsTwo W e0 e1 e2).calls.mono ?_
    rintro e w' ⟨v, rfl, rfl, hx⟩
    exact ⟨rfl, hx.below⟩
  refine call.mono fun e W' ⟨he, hg⟩ => ?_
  subst he
  have b2 : ∀ sp : Nat → Bool, (∀ x ∈ p2, sp x.block = true) → DataW.Trod enc Try.prog W' 0 sp true 3 v2 d2 p2 := fun sp hsp => Gx.trod_keep (by kernel_rfl) (by kernel_rfl) (by decide +kernel) h2 hg (fun x hx => hlt x (by simp [hx])) hsp
  have b1 : ∀ sp : Nat → Bool, (∀ x ∈ p1, sp x.block = true) → DataW.Trod enc Try.prog W' 0 sp true 3 v1 d1 p1 := fun sp hsp => Gx.trod_keep (by kernel_rfl) (by kernel_rfl) (by decide +kernel) h1 hg (fun x hx => hlt x (by simp [hx])) hsp
  have b0 : ∀ sp : Nat → Bool, (∀ x ∈ p0, sp x.block = true) → DataW.Trod enc Try.prog W' 0 sp true 22 v0 d0 p0 := fun sp hsp => Gx.trod_keep (by kernel_rfl) (by kernel_rfl) (by decide +kernel) h0 hg (fun x hx => hlt x (by simp [hx])) hsp
  exact ⟨_, rfl, Gx.post_of_below (pa := (p0 ++ (p1 ++ (p2 ++ [])))) (pv := []) hW' hg (fun _ _ _ => (trodAll_cons_mk (shut_bool Try.underlying4 _) trodAll_mk0)) (fun sp hsp => by rw [hpar]; exact (trodAll_cons_mk (b0 sp fun x hx => hsp x (by simp [hx])) (trodAll_cons_mk (b1 sp fun x hx => hsp x (by simp [hx])) (trodAll_cons_mk (b2 sp fun x hx => hsp x (by simp [hx])) trodAll_mk0)))) (fun _ _ => rfl) (by simp)
    (ok_one (by kernel_rfl) rfl (okWide_bool_mk Try.underlying4 _))⟩

theorem over : Rows.depsTwoRow.holds Try.pinned (OpenSpec.ofChange Rows.depsTwoSpec) :=
  OpenClaim.holds_of_wide 5 Try.f5 rfl rfl rfl rfl rfl rfl rfl ⟨rfl, rfl, rfl, rfl, rfl⟩ rfl rfl rfl rfl rfl (by kernel_rfl) Try.func5 (by kernel_rfl)
    (of_decide_eq_true (by kernel_rfl)) (by unfold Func.isWrapper; first | (rw [if_pos (by decide +kernel)]; kernel_rfl) | (rw [if_neg (by decide +kernel)]; exact ⟨rfl, rfl⟩))
    (fun os started H enc _ => lifted os started H enc)

/-- The statement. -/
theorem proved : Rows.DepsTwoSaid :=
  over
#print axioms proved
end Go.Proofs.Ytmmhbjbaallkfaa.depsTwo
