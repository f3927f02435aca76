/- Sorting of ints: bits.Len, the random turns. -/
import Derived.Test.YtopecljhehcldaaSrtG
namespace Go.Proofs.Ytopecljhehcldaa.Gx
open Go
set_option linter.unusedSimpArgs false
set_option linter.unusedVariables false

theorem tab_all : ((List.range 256).all fun i => match GxFSby0[i]? with | some y => decide (i < 2 ^ y.toNat) && (decide (i = 0) || decide (2 ^ (y.toNat - 1) ≤ i)) && decide (y.toNat ≤ 8) && (decide (i = 0) || decide (1 ≤ y.toNat)) | none => false) = true := by kernel_rfl
theorem tab_get {i : Nat} (hi : i < 256) : ∃ y, GxFSby0[i]? = some y ∧ i < 2 ^ y.toNat ∧ (0 < i → 2 ^ (y.toNat - 1) ≤ i ∧ 1 ≤ y.toNat) ∧ y.toNat ≤ 8 := by
  have h := List.all_eq_true.1 tab_all i (List.mem_range.2 hi)
  cases hy : GxFSby0[i]? with
  | none => rw [hy] at h; cases h
  | some y =>
    rw [hy] at h
    simp only [Bool.and_eq_true, Bool.or_eq_true, decide_eq_true_eq] at h
    exact ⟨y, rfl, h.1.1.1, fun h0 => ⟨by omega, by omega⟩, h.1.2⟩

theorem wu8 {i : Nat} (h : i < 256) : IntKind.u8.wrap (i : Int) = (i : Int) := by
  unfold IntKind.wrap; simp [IntKind.signed, IntKind.bits]; omega

/-- How many bits: L with x < 2 ^ L, and 2 ^ (L - 1) <= x. -/
def LenIs (x L : Nat) : Prop := x < 2 ^ L ∧ (0 < x → 2 ^ (L - 1) ≤ x ∧ 1 ≤ L) ∧ L ≤ 24
theorem LenIs.shift {x L k : Nat} (h : LenIs (x / 2 ^ k) L) (h0 : 0 < x / 2 ^ k) (hL : L + k ≤ 24) : LenIs x (k + L) := by
  obtain ⟨h1, h2, h3⟩ := h
  obtain ⟨h4, h5⟩ := h2 h0
  have hp : 0 < 2 ^ k := Nat.pow_pos (by decide)
  refine ⟨?_, fun _ => ⟨?_, by omega⟩, by omega⟩
  · rw [Nat.pow_add, Nat.mul_comm]; exact (Nat.div_lt_iff_lt_mul hp).1 h1
  · rw [show k + L - 1 = (L - 1) + k by omega, Nat.pow_add]
    exact (Nat.le_div_iff_mul_le hp).1 h4

theorem fdv {x k : Nat} {n : Int} (hk : min (Int.toNat n) IntKind.u64.bits = k) : (x : Int).fdiv ((2 : Int) ^ min (Int.toNat n) IntKind.u64.bits) = ((x / 2 ^ k : Nat) : Int) := by
  rw [hk, Int.fdiv_eq_ediv_of_nonneg _ (Int.pow_nonneg (by decide))]
  simp

theorem c135 {x : Nat} (hx : x ≤ 1000000) (w : World) : CW Try.prog 135 #[.int .u64 x] w fun v w' => ∃ L : Nat, v = iv L ∧ LenIs x L ∧ w = w' := by
  refine F135_ok _ _ _ (IfB.no (decide_eq_false (by omega)) (IfB.dec (fun h1 => ⟨by decide, ?_⟩) (fun h1 => IfB.dec (fun h2 => ?_) (fun h2 => ?_))))
  · rw [fdv (n := (16 : Int)) (k := 16) rfl]
    refine IfB.no (decide_eq_false (by omega)) ?_
    unfold F135k3
    rw [fdv (n := (16 : Int)) (k := 16) rfl, wu8 (by omega)]
    obtain ⟨y, hy, h3, h4, h5⟩ := tab_get (i := x / 2 ^ 16) (by omega)
    refine ⟨y, by omega, by rw [Int.toNat_natCast]; exact hy, 16 + y.toNat, ?_, LenIs.shift ⟨h3, h4, by omega⟩ (by omega) (by omega), rfl⟩
    rw [wrap_of (n := ((y.toNat : Nat) : Int)) (by omega) (by omega), wrap_of (n := (0 : Int) + 16) (by omega) (by omega), wrap_of (by omega) (by omega)]; rfl
  · unfold F135k4
    rw [fdv (n := (8 : Int)) (k := 8) rfl, wu8 (by omega)]
    obtain ⟨y, hy, h3, h4, h5⟩ := tab_get (i := x / 2 ^ 8) (by omega)
    refine ⟨by decide, y, by omega, by rw [Int.toNat_natCast]; exact hy, 8 + y.toNat, ?_, LenIs.shift ⟨h3, h4, by omega⟩ (by omega) (by omega), rfl⟩
    rw [wrap_of (n := ((y.toNat : Nat) : Int)) (by omega) (by omega), wrap_of (n := (0 : Int) + 8) (by omega) (by omega), wrap_of (by omega) (by omega)]; rfl
  · unfold F135k1
    rw [wu8 (by omega)]
    obtain ⟨y, hy, h3, h4, h5⟩ := tab_get (i := x) (by omega)
    refine ⟨y, by omega, by rw [Int.toNat_natCast]; exact hy, y.toNat, ?_, ⟨h3, h4, by omega⟩, rfl⟩
    rw [wrap_of (n := ((y.toNat : Nat) : Int)) (by omega) (by omega), wrap_of (by omega) (by omega)]; simp

theorem c121 {x : Nat} (hx : x ≤ 1000000) (w : World) : CW Try.prog 121 #[.int .u64 x] w fun v w' => ∃ L : Nat, v = iv L ∧ LenIs x L ∧ w = w' := by
  refine F121_ok _ _ _ ((c135 hx w).use ?_)
  rintro _ _ ⟨L, rfl, hL, rfl⟩
  exact ⟨_, rfl, L, rfl, hL, rfl⟩

theorem wu64 {i : Nat} (h : i < 2 ^ 64) : IntKind.u64.wrap (i : Int) = (i : Int) := by
  unfold IntKind.wrap; simp [IntKind.signed, IntKind.bits]; omega

theorem c137 {x : Nat} (hx : x ≤ 1000000) (w : World) : CW Try.prog 137 #[iv x] w fun v w' => ∃ L : Nat, v = .int .u64 ((2 ^ L : Nat) : Int) ∧ LenIs x L ∧ w = w' := by
  refine F137_ok _ _ _ ?_
  unfold F137
  rw [wu64 (by omega)]
  refine (c121 hx w).use ?_
  rintro _ _ ⟨L, rfl, hL, rfl⟩
  refine ⟨_, rfl, by omega, L, ?_, hL, rfl⟩
  have h24 := hL.2.2
  rw [Int.toNat_natCast, show min L IntKind.u64.bits = L from Nat.min_eq_left (by show L ≤ 64; omega), Int.one_mul]
  have : 2 ^ L < 2 ^ 64 := Nat.pow_lt_pow_right (by decide) (by omega)
  rw [← wu64 this]; simp

theorem c138 {b1 : Nat} {w : World} (h : Ct .u64 b1 w) : CW Try.prog 138 #[.pointer (some ⟨b1, 0, none⟩)] w fun v w' => ∃ n, v = .int .u64 n ∧ Ct .u64 b1 w' ∧ Ch (fun q => q = b1) w w' := by
  obtain ⟨T, n, hn⟩ := h
  refine F138_ok _ w _ ⟨b1, 0, rfl, n, by rw [cell_of (w := w.drew) hn]; rfl, b1, 0, rfl, n, by rw [cell_of (w := w.drew) hn]; rfl, by decide, b1, 0, rfl, rfl, store_one (w := w.drew) hn (by simp) rfl fun w9 h9 => ?_⟩
  have hn9 := h9.new
  refine ⟨b1, 0, rfl, _, by rw [cell_of (w := w9.drew) hn9]; rfl, b1, 0, rfl, _, by rw [cell_of (w := w9.drew) hn9]; rfl, by decide, b1, 0, rfl, rfl, store_one (w := w9.drew) hn9 (by simp) rfl fun w18 h18 => ?_⟩
  have hn18 := h18.new
  refine ⟨b1, 0, rfl, _, by rw [cell_of (w := w18.drew) hn18]; rfl, b1, 0, rfl, _, by rw [cell_of (w := w18.drew) hn18]; rfl, by decide, b1, 0, rfl, rfl, store_one (w := w18.drew) hn18 (by simp) rfl fun w27 h27 => ?_⟩
  have hn27 := h27.new
  exact ⟨b1, 0, rfl, _, by rw [cell_of hn27]; rfl, _, rfl, ⟨T, _, hn27⟩, ((CB.drew (CB.drew (CB.drew (Ch.refl _ w) |>.trans h9.ch) |>.trans h18.ch)).trans h27.ch)⟩

theorem and_le {n : Int} {m : Nat} (hm : m < 2 ^ 64) : ∃ k : Nat, bitsI BinOp.and IntKind.u64 n (m : Int) = (k : Int) ∧ k ≤ m := by
  refine ⟨(BitVec.ofInt 64 n &&& BitVec.ofInt 64 (m : Int)).toNat, ?_, ?_⟩
  · show IntKind.u64.wrap _ = _
    exact wu64 (BitVec.isLt _)
  · rw [BitVec.toNat_and]
    refine Nat.le_trans Nat.and_le_right ?_
    rw [BitVec.ofInt_natCast, BitVec.toNat_ofNat, Nat.mod_eq_of_lt hm]
    exact Nat.le_refl _
end Go.Proofs.Ytopecljhehcldaa.Gx
