/- gimmallaw15.DepsAdd returns true for all arguments, and leaves what was there as it was. No condition beyond the statement. -/
import Derived.Test.YtmmhbjbaallkfaaRows
import Derived.WalkKit
import Derived.ProofKit
import Derived.OpenShut
import Derived.ShutString
import Derived.Below
import Derived.Carry
import Derived.SizedLaws
import Derived.Test.YtmmhbjbaallkfaaGxC
import Derived.Test.YtmmhbjbaallkfaaDepH
namespace Go.Proofs.Ytmmhbjbaallkfaa.depsAdd
open Go.ChangeShapes Go.WideShapes Go.ChangeAt Go.RowKit
open Go.ChangeMaps (open_string shut_string)
set_option linter.unusedVariables false

theorem own : ownKnob Try.prog.godebug = none := by kernel_rfl

set_option maxRecDepth 100000 in
theorem lifted (os : Os) (started : os.Started) (H : Type) (enc : TypeId × Value → H) :
    ReturnsInHanded {} Try.checked os 6 .any (Rows.depsAddSpec.pre6 enc Try.prog Try.f6 Rows.depsAddRow.domain false) (Rows.depsAddSpec.post enc Try.prog Try.f6 false true false false) := by
  refine returnsInHanded_of_change_sized (C := Try.checked) own started (by kernel_rfl) Try.func6
    (ChangeSpec.witness6 (enc := enc) (C := Try.checked) false ⟨#[], #[.slice none 0 0, .agg #[.int .i64 0, .int .i64 0, .int .i64 0, .bool false, .slice none 0 0, .slice none 0 0]], []⟩ 8 (by kernel_rfl) (by kernel_rfl) (by kernel_rfl) (by kernel_rfl)) ?_
  intro W base args ds gs before hval0 hW hcnd hsz _
  have hval : ∀ (j : Nat) t v, Try.f6.params[j]? = some t → args[j]? = some v → Value.okWide Try.prog W .any base t v := hval0
  have hW' := hW
  have hlt := hW.lt
  obtain ⟨p, q, hA0, hV, rfl, hfz, hnd⟩ := hW
  have hA : DataW.TrodAll enc Try.prog W 0 (fun _ => true) true Try.f6.params.toList args.toList ds p := hA0
  have hpar : Try.f6.params = #[22, 27] := rfl
  rw [hpar] at hA hval
  obtain ⟨v0, vs0, d0, ds0, p0, q0, hargs, rfl, rfl, h0, r0⟩ := trodAll_cons hA
  obtain ⟨v1, vs1, d1, ds1, p1, q1, rfl, rfl, rfl, h1, r1⟩ := trodAll_cons r0
  obtain ⟨rfl, rfl, rfl⟩ := trodAll_nil r1
  obtain rfl : args = #[v0, v1] := by cases args; simp_all
  obtain ⟨rfl, rfl⟩ := trodVars_none hV
  clear hA0 hval0
  obtain ⟨x0, e0⟩ := Gx.open_arg (d := 12) (ty := (.sl (.pair (.int .i64) (.pair (.int .i64) (.pair (.int .i64) (.pair .bool (.pair (.sl (.pair (.int .i64) (.int .i64))) (.sl (.pair (.int .i64) (.int .i64)))))))))) (by kernel_rfl) h0
  obtain ⟨c0, g0⟩ : ∃ c, v0.cells.toList = [c] := List.length_eq_one_iff.1 (Gx.rep_len e0)
  have f0 : v0 = c0 := Gx.val_of_cells (hval 0 22 v0 rfl rfl) (fun fs n e => by rw [Try.underlying22]; exact ⟨by simp, by simp⟩) g0
  rw [g0] at e0
  obtain ⟨x1, e1⟩ := Gx.open_arg (d := 12) (ty := (.pair (.int .i64) (.pair (.int .i64) (.pair (.int .i64) (.pair .bool (.pair (.sl (.pair (.int .i64) (.int .i64))) (.sl (.pair (.int .i64) (.int .i64))))))))) (by kernel_rfl) h1
  have f1 : v1 = .agg v1.cells := Gx.val_agg (hval 1 27 v1 rfl rfl) (.inl ⟨_, Try.underlying27⟩)
  have r_0 : ∀ s : Gx.Sl, c0 = Gx.slV s → s.n * Try.prog.bytesOf 27 ≤ 140737488351232 := fun s hs => Gx.arg_reach (B := 140737488351232) Try.underlying22 h0 (by rw [g0, hs]) fun elems spare hd => sized_slice hsz (j := 0) (t := 22) (e := 27) rfl (by rw [hd]; rfl) Try.underlying22
  have by_0 : Try.prog.bytesOf 27 = 80 := by kernel_rfl
  rw [by_0] at r_0
  have call : Calls Try.prog 6 #[v0, v1] W fun e w' => e = .returned (.bool true) ∧ Below W.heap.size W w' := by
    rw [f0, f1]
    refine (Gx.depsAdd W e0 e1 r_0).calls.mono ?_
    rintro e w' ⟨v, rfl, rfl, hx⟩
    exact ⟨rfl, hx.below⟩
  refine call.mono fun e W' ⟨he, hg⟩ => ?_
  subst he
  have b1 : ∀ sp : Nat → Bool, (∀ x ∈ p1, sp x.block = true) → DataW.Trod enc Try.prog W' 0 sp true 27 v1 d1 p1 := fun sp hsp => Gx.trod_keep (by kernel_rfl) (by kernel_rfl) (by decide +kernel) h1 hg (fun x hx => hlt x (by simp [hx])) hsp
  have b0 : ∀ sp : Nat → Bool, (∀ x ∈ p0, sp x.block = true) → DataW.Trod enc Try.prog W' 0 sp true 22 v0 d0 p0 := fun sp hsp => Gx.trod_keep (by kernel_rfl) (by kernel_rfl) (by decide +kernel) h0 hg (fun x hx => hlt x (by simp [hx])) hsp
  exact ⟨_, rfl, Gx.post_of_below (pa := (p0 ++ (p1 ++ []))) (pv := []) hW' hg (fun _ _ _ => (trodAll_cons_mk (shut_bool Try.underlying4 _) trodAll_mk0)) (fun sp hsp => by rw [hpar]; exact (trodAll_cons_mk (b0 sp fun x hx => hsp x (by simp [hx])) (trodAll_cons_mk (b1 sp fun x hx => hsp x (by simp [hx])) trodAll_mk0))) (fun _ _ => rfl) (by simp)
    (ok_one (by kernel_rfl) rfl (okWide_bool_mk Try.underlying4 _))⟩

theorem over : Rows.depsAddRow.holds Try.pinned (OpenSpec.ofChange Rows.depsAddSpec) :=
  OpenClaim.holds_of_wide 6 Try.f6 rfl rfl rfl rfl rfl rfl rfl ⟨rfl, rfl, rfl, rfl, rfl⟩ rfl rfl rfl rfl rfl (by kernel_rfl) Try.func6 (by kernel_rfl)
    (of_decide_eq_true (by kernel_rfl)) (by unfold Func.isWrapper; first | (rw [if_pos (by decide +kernel)]; kernel_rfl) | (rw [if_neg (by decide +kernel)]; exact ⟨rfl, rfl⟩))
    (fun os started H enc _ => lifted os started H enc)

/-- The statement. -/
theorem proved : Rows.DepsAddSaid :=
  over
#print axioms proved
end Go.Proofs.Ytmmhbjbaallkfaa.depsAdd
