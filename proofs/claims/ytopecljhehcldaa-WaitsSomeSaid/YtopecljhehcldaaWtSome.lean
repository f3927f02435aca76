/- gimmallaw19.WaitsSome returns true for all arguments, and leaves what was there as it was. No condition beyond the statement. -/
import Derived.Test.YtopecljhehcldaaRows
import Derived.WalkKit
import Derived.ProofKit
import Derived.OpenShut
import Derived.ShutString
import Derived.Below
import Derived.Carry
import Derived.Test.YtopecljhehcldaaGxC
import Derived.Test.YtopecljhehcldaaWaitE
namespace Go.Proofs.Ytopecljhehcldaa.waitsSome
open Go.ChangeShapes Go.WideShapes Go.ChangeAt Go.RowKit
open Go.ChangeMaps (open_string shut_string)
set_option linter.unusedVariables false

theorem own : ownKnob Try.prog.godebug = none := by kernel_rfl

set_option maxRecDepth 100000 in
theorem lifted (os : Os) (started : os.Started) (H : Type) (enc : TypeId × Value → H) :
    ReturnsInHanded {} Try.checked os 13 .any (Rows.waitsSomeSpec.pre6 enc Try.prog Try.f13 Rows.waitsSomeRow.domain false) (Rows.waitsSomeSpec.post enc Try.prog Try.f13 false true false false) := by
  refine returnsInHanded_of_change (C := Try.checked) own started (by kernel_rfl) Try.func13
    (ChangeSpec.witness6 (enc := enc) (C := Try.checked) false ⟨#[], #[.slice none 0 0], []⟩ 8 (by kernel_rfl) (by kernel_rfl) (by kernel_rfl) (by kernel_rfl)) ?_
  intro W base args ds gs before hval0 hW hcnd _
  have hval : ∀ (j : Nat) t v, Try.f13.params[j]? = some t → args[j]? = some v → Value.okWide Try.prog W .any base t v := hval0
  have hW' := hW
  have hlt := hW.lt
  obtain ⟨p, q, hA0, hV, rfl, hfz, hnd⟩ := hW
  have hA : DataW.TrodAll enc Try.prog W 0 (fun _ => true) true Try.f13.params.toList args.toList ds p := hA0
  have hpar : Try.f13.params = #[91] := rfl
  rw [hpar] at hA hval
  obtain ⟨v0, vs0, d0, ds0, p0, q0, hargs, rfl, rfl, h0, r0⟩ := trodAll_cons hA
  obtain ⟨rfl, rfl, rfl⟩ := trodAll_nil r0
  obtain rfl : args = #[v0] := by cases args; simp_all
  obtain ⟨rfl, rfl⟩ := trodVars_none hV
  clear hA0 hval0
  obtain ⟨x0, e0⟩ := Gx.open_arg (d := 12) (ty := (.sl (.pair (.int .u8) (.pair (.int .u8) (.sl (.int .u8)))))) (by kernel_rfl) h0
  obtain ⟨c0, g0⟩ : ∃ c, v0.cells.toList = [c] := List.length_eq_one_iff.1 (Gx.rep_len e0)
  have f0 : v0 = c0 := Gx.val_of_cells (hval 0 91 v0 rfl rfl) (fun fs n e => by rw [Try.underlying91]; exact ⟨by simp, by simp⟩) g0
  rw [g0] at e0
  have call : Calls Try.prog 13 #[v0] W fun e w' => e = .returned (.bool true) ∧ Below W.heap.size W w' := by
    rw [f0]
    refine (Gx.waitsSome W e0).calls.mono ?_
    rintro e w' ⟨v, rfl, rfl, hx⟩
    exact ⟨rfl, hx.below⟩
  refine call.mono fun e W' ⟨he, hg⟩ => ?_
  subst he
  have b0 : ∀ sp : Nat → Bool, (∀ x ∈ p0, sp x.block = true) → DataW.Trod enc Try.prog W' 0 sp true 91 v0 d0 p0 := fun sp hsp => Gx.trod_keep (by kernel_rfl) (by kernel_rfl) (by decide +kernel) h0 hg (fun x hx => hlt x (by simp [hx])) hsp
  exact ⟨_, rfl, Gx.post_of_below (pa := (p0 ++ [])) (pv := []) hW' hg (fun _ _ _ => (trodAll_cons_mk (shut_bool Try.underlying4 _) trodAll_mk0)) (fun sp hsp => by rw [hpar]; exact (trodAll_cons_mk (b0 sp fun x hx => hsp x (by simp [hx])) trodAll_mk0)) (fun _ _ => rfl) (by simp)
    (ok_one (by kernel_rfl) rfl (okWide_bool_mk Try.underlying4 _))⟩

theorem over : Rows.waitsSomeRow.holds Try.pinned (OpenSpec.ofChange Rows.waitsSomeSpec) :=
  OpenClaim.holds_of_wide 13 Try.f13 rfl rfl rfl rfl rfl rfl rfl ⟨rfl, rfl, rfl, rfl, rfl⟩ rfl rfl rfl rfl rfl (by kernel_rfl) Try.func13 (by kernel_rfl)
    (of_decide_eq_true (by kernel_rfl)) (by unfold Func.isWrapper; first | (rw [if_pos (by decide +kernel)]; kernel_rfl) | (rw [if_neg (by decide +kernel)]; exact ⟨rfl, rfl⟩))
    (fun os started H enc _ => lifted os started H enc)

/-- The statement. -/
theorem proved : Rows.WaitsSomeSaid :=
  over
#print axioms proved
end Go.Proofs.Ytopecljhehcldaa.waitsSome
