/- Package disk: New. -/
import Derived.Test.YtopecljhehcldaaDiskE
namespace Go.Proofs.Ytopecljhehcldaa.Gx
open Go
set_option linter.unusedSimpArgs false
set_option linter.unusedVariables false

theorem zc_same {z : Array Value} {v : Value} (h : ∀ x ∈ z.toList, x = v) (n : Nat) : zc z n = List.replicate (n * z.size) v := by
  refine List.eq_replicate_iff.2 ⟨zc_len z n, fun x hx => ?_⟩
  unfold zc Builtin.zeroCells at hx
  rw [Array.mem_toList_iff, Array.mem_map] at hx
  obtain ⟨i, hi, rfl⟩ := hx
  rw [Array.mem_range] at hi
  have h0 : 0 < z.size := by
    rcases Nat.eq_zero_or_pos z.size with h0 | h0
    · rw [h0, Nat.mul_zero] at hi; omega
    · exact h0
  have hm := Nat.mod_lt i h0
  rw [getElem!_pos z _ hm]
  exact h _ (by simp)
theorem sec0_flat : ∀ n : Nat, (List.replicate n sec0).flatMap secL = List.replicate (n * 8) (.int .u64 0)
  | 0 => rfl
  | n + 1 => by
    rw [List.replicate_succ, List.flatMap_cons, sec0_flat n, show (n + 1) * 8 = 8 + n * 8 by omega, ← List.replicate_append_replicate]
    rfl

theorem c36no {n : Int} (h : n < 1 ∨ 4096 < n) (w : World) : CW Try.prog 36 #[iv n] w fun v w' => v = .pointer none ∧ w = w' := by
  refine F36_ok n w _ (IfB.dec (fun _ => ⟨rfl, rfl⟩) fun h1 => IfB.yes (decide_eq_true (by omega)) ⟨rfl, rfl⟩)

theorem c36 {n : Nat} (h : 1 ≤ n ∧ n ≤ 4096) (w : World) : CW Try.prog 36 #[iv n] w fun v w' => ∃ b s r, v = .pointer (some ⟨b, 0, none⟩) ∧ Dk w' b s r (List.replicate n sec0) [] 0 0 ∧ Ext w w' ∧ ∀ i, inDk b s r i → w.heap.size ≤ i := by
  refine F36_ok n w _ (IfB.no (decide_eq_false (by omega)) (IfB.no (decide_eq_false (by omega)) ⟨⟨by omega, by omega, by omega, by omega⟩, ?_⟩))
  intro b1 w2 h2 b3 w4 h4 b5 w6 h6
  have e2 : Ext w w2 := h2.ch _
  have e4 : Ext w2 w4 := h4.ch _
  have e6 : Ext w4 w6 := h6.ch _
  have p2 := h2.here; have p4 := h4.here; have p6 := h6.here
  have z2 := h2.size; have z4 := h4.size
  rw [Int.toNat_natCast] at h2 h6
  have hz := zc_same (z := (secL sec0).toArray) (v := .int .u64 0) (by intro x hx; simp [secL] at hx; exact hx) n
  have hz' : zc (secL sec0).toArray n = (List.replicate n sec0).flatMap secL := by rw [sec0_flat]; exact hz
  have h2' := h2
  rw [show (zc #[.int .u64 0, .int .u64 0, .int .u64 0, .int .u64 0, .int .u64 0, .int .u64 0, .int .u64 0, .int .u64 0] n) = (List.replicate n sec0).flatMap secL from hz'] at h2'
  refine ⟨b5, ⟨some ⟨b1, 0, none⟩, n, n⟩, b3, rfl, ⟨⟨_, h6.new⟩, ((OwS.new h2' (by rw [secs_len, List.length_replicate])).ext e4).ext e6, by rw [List.length_replicate]; exact h, (Mp.new h4).ext e6, ?_, by simp⟩, (e2.trans e4).trans e6, ?_⟩
  · simp [blk]; omega
  · rintro i (rfl | rfl | hi)
    · omega
    · omega
    · simp [blk] at hi; omega
end Go.Proofs.Ytopecljhehcldaa.Gx
