/- Package disk's reference: a device as three lists; New, Sync, Crash, There, Write. -/
import Derived.Test.YtopecljhehcldaaDiskN
namespace Go.Proofs.Ytopecljhehcldaa.Gx
open Go
set_option linter.unusedSimpArgs false
set_option linter.unusedVariables false

/-- The document's device: what lasts, what is read, what is dirty. -/
structure Rf (w : World) (b : Nat) (s0 s1 s2 : Sl) (la rd : List Sec) (dt : List Bool) : Prop where
  box : ∃ T, w.heap[b]? = some (.cells #[slV s0, slV s1, slV s2] T (0, 0))
  a0 : OwS w s0 8 (la.flatMap secL)
  a1 : OwS w s1 8 (rd.flatMap secL)
  a2 : OwS w s2 1 (dt.map Value.bool)
  l1 : rd.length = la.length
  l2 : dt.length = la.length
  n0 : b ∉ blk s0
  n1 : b ∉ blk s1
  n2 : b ∉ blk s2
  d01 : ∀ i ∈ blk s0, i ∉ blk s1
  d02 : ∀ i ∈ blk s0, i ∉ blk s2
  d12 : ∀ i ∈ blk s1, i ∉ blk s2
def inRf (b : Nat) (s0 s1 s2 : Sl) (i : Nat) : Prop := i = b ∨ i ∈ blk s0 ∨ i ∈ blk s1 ∨ i ∈ blk s2
section
variable {w : World} {b : Nat} {s0 s1 s2 : Sl} {la rd : List Sec} {dt : List Bool}
theorem Rf.ch {F : Nat → Prop} {w' : World} (h : Rf w b s0 s1 s2 la rd dt) (hc : Ch F w w') (hF : ∀ i, inRf b s0 s1 s2 i → ¬ F i) : Rf w' b s0 s1 s2 la rd dt := by
  obtain ⟨T, hT⟩ := h.box
  exact ⟨⟨T, hc.at hT (hF _ (.inl rfl))⟩, h.a0.ch hc fun i hi => hF i (.inr (.inl hi)), h.a1.ch hc fun i hi => hF i (.inr (.inr (.inl hi))), h.a2.ch hc fun i hi => hF i (.inr (.inr (.inr hi))), h.l1, h.l2, h.n0, h.n1, h.n2, h.d01, h.d02, h.d12⟩
theorem Rf.ext {w' : World} (h : Rf w b s0 s1 s2 la rd dt) (hc : Ext w w') : Rf w' b s0 s1 s2 la rd dt := h.ch hc fun _ _ => id
theorem Rf.lt (h : Rf w b s0 s1 s2 la rd dt) {i : Nat} (hi : inRf b s0 s1 s2 i) : i < w.heap.size := by
  rcases hi with rfl | hi | hi | hi
  · obtain ⟨T, hT⟩ := h.box; exact heap_lt hT
  · exact h.a0.lt i hi
  · exact h.a1.lt i hi
  · exact h.a2.lt i hi
theorem Rf.k0 (h : Rf w b s0 s1 s2 la rd dt) : w.cell? ⟨b, 0 + 0, none⟩ = some (slV s0) := by obtain ⟨T, hT⟩ := h.box; rw [cell_of hT]; rfl
theorem Rf.k1 (h : Rf w b s0 s1 s2 la rd dt) : w.cell? ⟨b, 0 + 1, none⟩ = some (slV s1) := by obtain ⟨T, hT⟩ := h.box; rw [cell_of hT]; rfl
theorem Rf.k2 (h : Rf w b s0 s1 s2 la rd dt) : w.cell? ⟨b, 0 + 2, none⟩ = some (slV s2) := by obtain ⟨T, hT⟩ := h.box; rw [cell_of hT]; rfl
theorem ows_n {t : Sl} {l : List Sec} (h : OwS w t 8 (l.flatMap secL)) : t.n = l.length := by have := h.len; rw [secs_len] at this; omega
theorem ows_sec {t : Sl} {l : List Sec} (h : OwS w t 8 (l.flatMap secL)) {i : Nat} {x : Sec} (hx : l[i]? = some x) : ∃ a, t.p = some ⟨a, 0, none⟩ ∧ CellsAt w a (0 + i * 8) (secL x) := by
  obtain ⟨a, ha, hc⟩ := h.elem (i := i) (by rw [ows_n h]; exact (List.getElem?_eq_some_iff.1 hx).1) (flat_elem hx)
  exact ⟨a, ha, by rw [Nat.zero_add]; exact hc⟩
theorem ows_bool {t : Sl} {l : List Bool} (h : OwS w t 1 (l.map Value.bool)) {i : Nat} {x : Bool} (hx : l[i]? = some x) : ∃ a, t.p = some ⟨a, 0, none⟩ ∧ w.cell? ⟨a, 0 + i, none⟩ = some (.bool x) := by
  obtain ⟨a, ha, hc⟩ := h.elem1 (i := i) (v := .bool x) (by rw [List.getElem?_map, hx]; rfl)
  exact ⟨a, ha, by rw [Nat.zero_add]; exact hc⟩
theorem Rf.n (h : Rf w b s0 s1 s2 la rd dt) : s0.n = la.length ∧ s1.n = la.length ∧ s2.n = la.length := by
  refine ⟨ows_n h.a0, by rw [ows_n h.a1, h.l1], ?_⟩
  have := h.a2.len1
  rw [List.length_map] at this
  rw [this, h.l2]

theorem Rf.st0 (h : Rf w b s0 s1 s2 la rd dt) {a i : Nat} (ha : s0.p = some ⟨a, 0, none⟩) (hi : i < la.length) (x : Sec) {K : World → Prop} (hK : ∀ w', Rf w' b s0 s1 s2 (la.set i x) rd dt → Ch (inRf b s0 s1 s2) w w' → K w') : StoreP w a (0 + i * 8) (secL x) K := by
  have hb : blk s0 = [a] := by simp [blk, ha]
  rw [Nat.zero_add]
  refine h.a0.store ha (by show _ + 8 ≤ _; rw [h.n.1]; omega) (secL_one x) fun w' ho hc => hK w' ?_ (hc.mono fun j _ e => .inr (.inl (by rw [hb, e]; simp)))
  have e8 : (secL x).length = 8 := rfl
  rw [e8, ← flat_set hi] at ho
  have na : ∀ j, j ∉ blk s0 → ¬ j = a := fun j hj e => hj (by rw [hb, e]; simp)
  obtain ⟨T, hT⟩ := h.box
  exact ⟨⟨T, hc.at hT (na _ h.n0)⟩, ho, h.a1.ch hc fun j hj => na _ fun h' => h.d01 j h' hj, h.a2.ch hc fun j hj => na _ fun h' => h.d02 j h' hj, by rw [List.length_set]; exact h.l1, by rw [List.length_set]; exact h.l2, h.n0, h.n1, h.n2, h.d01, h.d02, h.d12⟩
theorem Rf.st1 (h : Rf w b s0 s1 s2 la rd dt) {a i : Nat} (ha : s1.p = some ⟨a, 0, none⟩) (hi : i < la.length) (x : Sec) {K : World → Prop} (hK : ∀ w', Rf w' b s0 s1 s2 la (rd.set i x) dt → Ch (inRf b s0 s1 s2) w w' → K w') : StoreP w a (0 + i * 8) (secL x) K := by
  have hb : blk s1 = [a] := by simp [blk, ha]
  rw [Nat.zero_add]
  refine h.a1.store ha (by show _ + 8 ≤ _; rw [h.n.2.1]; omega) (secL_one x) fun w' ho hc => hK w' ?_ (hc.mono fun j _ e => .inr (.inr (.inl (by rw [hb, e]; simp))))
  have e8 : (secL x).length = 8 := rfl
  rw [e8, ← flat_set (by rw [h.l1]; exact hi)] at ho
  have na : ∀ j, j ∉ blk s1 → ¬ j = a := fun j hj e => hj (by rw [hb, e]; simp)
  obtain ⟨T, hT⟩ := h.box
  exact ⟨⟨T, hc.at hT (na _ h.n1)⟩, h.a0.ch hc fun j hj => na _ fun h' => h.d01 j hj h', ho, h.a2.ch hc fun j hj => na _ fun h' => h.d12 j h' hj, by rw [List.length_set]; exact h.l1, h.l2, h.n0, h.n1, h.n2, h.d01, h.d02, h.d12⟩
theorem Rf.st2 (h : Rf w b s0 s1 s2 la rd dt) {a i : Nat} (ha : s2.p = some ⟨a, 0, none⟩) (hi : i < la.length) (x : Bool) {K : World → Prop} (hK : ∀ w', Rf w' b s0 s1 s2 la rd (dt.set i x) → Ch (inRf b s0 s1 s2) w w' → K w') : StoreP w a (0 + i) [.bool x] K := by
  have hb : blk s2 = [a] := by simp [blk, ha]
  rw [Nat.zero_add]
  refine h.a2.store ha (by show _ + 1 ≤ _; rw [h.n.2.2]; omega) (by intro v hv; simp at hv; subst hv; rfl) fun w' ho hc => hK w' ?_ (hc.mono fun j _ e => .inr (.inr (.inr (by rw [hb, e]; simp))))
  have e8 : ([Value.bool x]).length = 1 := rfl
  have he : (dt.map Value.bool).take i ++ [Value.bool x] ++ (dt.map Value.bool).drop (i + 1) = (dt.set i x).map Value.bool := by
    rw [List.map_set, List.set_eq_take_append_cons_drop, if_pos (by rw [List.length_map, h.l2]; exact hi)]
    simp
  rw [e8, he] at ho
  have na : ∀ j, j ∉ blk s2 → ¬ j = a := fun j hj e => hj (by rw [hb, e]; simp)
  obtain ⟨T, hT⟩ := h.box
  exact ⟨⟨T, hc.at hT (na _ h.n2)⟩, h.a0.ch hc fun j hj => na _ fun h' => h.d02 j hj h', h.a1.ch hc fun j hj => na _ fun h' => h.d12 j hj h', ho, h.l1, by rw [List.length_set]; exact h.l2, h.n0, h.n1, h.n2, h.d01, h.d02, h.d12⟩

/-! ### New -/
theorem Rf.mk0 {n b0 b1 b2 : Nat} {w' : World} {T : TypeId} (h0 : OwS w ⟨some ⟨b0, 0, none⟩, n, n⟩ 8 ((List.replicate n sec0).flatMap secL)) (h1 : OwS w ⟨some ⟨b1, 0, none⟩, n, n⟩ 8 ((List.replicate n sec0).flatMap secL)) (h2 : OwS w ⟨some ⟨b2, 0, none⟩, n, n⟩ 1 ((List.replicate n false).map Value.bool))
    (d01 : b0 ≠ b1) (d02 : b0 ≠ b2) (d12 : b1 ≠ b2) (ha : IsAlloc w (.cells #[.slice (some ⟨b0, 0, none⟩) n n, .slice (some ⟨b1, 0, none⟩) n n, .slice (some ⟨b2, 0, none⟩) n n] T (0, 0)) b w') :
    Rf w' b ⟨some ⟨b0, 0, none⟩, n, n⟩ ⟨some ⟨b1, 0, none⟩, n, n⟩ ⟨some ⟨b2, 0, none⟩, n, n⟩ (List.replicate n sec0) (List.replicate n sec0) (List.replicate n false) := by
  have e : Ext w w' := ha.ch _
  have hh := ha.here
  have q0 := h0.lt b0 (by simp [blk])
  have q1 := h1.lt b1 (by simp [blk])
  have q2 := h2.lt b2 (by simp [blk])
  exact ⟨⟨T, ha.new⟩, h0.ext e, h1.ext e, h2.ext e, by simp, by simp, by simp [blk]; omega, by simp [blk]; omega, by simp [blk]; omega, by simp [blk]; exact d01, by simp [blk]; exact d02, by simp [blk]; exact d12⟩

theorem z0 (n : Nat) : zc #[.int .u64 0, .int .u64 0, .int .u64 0, .int .u64 0, .int .u64 0, .int .u64 0, .int .u64 0, .int .u64 0] n = (List.replicate n sec0).flatMap secL := by
  rw [sec0_flat]; exact zc_same (z := (secL sec0).toArray) (v := .int .u64 0) (by intro x hx; simp [secL] at hx; exact hx) n
theorem zb (n : Nat) : zc #[.bool false] n = (List.replicate n false).map Value.bool := by
  rw [zc_same (z := #[.bool false]) (v := .bool false) (by intro x hx; simpa using hx) n, List.map_replicate]
  simp

theorem newSec {n b0 : Nat} {w' : World} {T : TypeId} (h : IsAlloc w (.cells { toList := zc #[.int .u64 0, .int .u64 0, .int .u64 0, .int .u64 0, .int .u64 0, .int .u64 0, .int .u64 0, .int .u64 0] n } T (0, 0)) b0 w') :
    OwS w' ⟨some ⟨b0, 0, none⟩, n, n⟩ 8 ((List.replicate n sec0).flatMap secL) := by
  rw [z0] at h
  exact OwS.new h (by rw [secs_len, List.length_replicate])
theorem newBl {n b0 : Nat} {w' : World} {T : TypeId} (h : IsAlloc w (.cells { toList := zc #[.bool false] n } T (0, 0)) b0 w') :
    OwS w' ⟨some ⟨b0, 0, none⟩, n, n⟩ 1 ((List.replicate n false).map Value.bool) := by
  rw [zb] at h
  exact OwS.new h (by rw [List.length_map, List.length_replicate, Nat.mul_one])

theorem c48 {n : Nat} (hn : n ≤ 4096) (w : World) : CW Try.prog 48 #[iv n] w fun v w' => ∃ b s0 s1 s2, v = .pointer (some ⟨b, 0, none⟩) ∧ Rf w' b s0 s1 s2 (List.replicate n sec0) (List.replicate n sec0) (List.replicate n false) ∧ Ext w w' ∧ ∀ i, inRf b s0 s1 s2 i → w.heap.size ≤ i := by
  have z : w.drew.heap.size = w.heap.size := rfl
  have ed := extDrew w
  have h64 : (0 : Int) ≤ (n : Int) ∧ (n : Int) ≤ (n : Int) ∧ (n : Int) ≤ 281474976710656 ∧ ((64 : Nat) : Int) * (n : Int) ≤ 281474976710656 := ⟨by omega, by omega, by omega, by omega⟩
  have h1 : (0 : Int) ≤ (n : Int) ∧ (n : Int) ≤ (n : Int) ∧ (n : Int) ≤ 281474976710656 ∧ ((1 : Nat) : Int) * (n : Int) ≤ 281474976710656 := ⟨by omega, by omega, by omega, by omega⟩
  have fin : ∀ {b0 b1 b2 b : Nat} {w' w'' : World} {T : TypeId}, OwS w' ⟨some ⟨b0, 0, none⟩, n, n⟩ 8 ((List.replicate n sec0).flatMap secL) → OwS w' ⟨some ⟨b1, 0, none⟩, n, n⟩ 8 ((List.replicate n sec0).flatMap secL) → OwS w' ⟨some ⟨b2, 0, none⟩, n, n⟩ 1 ((List.replicate n false).map Value.bool) →
      b0 ≠ b1 → b0 ≠ b2 → b1 ≠ b2 → w.heap.size ≤ b0 → w.heap.size ≤ b1 → w.heap.size ≤ b2 → Ext w w' → IsAlloc w' (.cells #[.slice (some ⟨b0, 0, none⟩) n n, .slice (some ⟨b1, 0, none⟩) n n, .slice (some ⟨b2, 0, none⟩) n n] T (0, 0)) b w'' →
      ∃ b' s0 s1 s2, Value.pointer (some ⟨b, 0, none⟩) = .pointer (some ⟨b', 0, none⟩) ∧ Rf w'' b' s0 s1 s2 (List.replicate n sec0) (List.replicate n sec0) (List.replicate n false) ∧ Ext w w'' ∧ ∀ i, inRf b' s0 s1 s2 i → w.heap.size ≤ i := by
    intro b0 b1 b2 b w' w'' T h0 h1 h2 d01 d02 d12 g0 g1 g2 e ha
    refine ⟨b, _, _, _, rfl, Rf.mk0 h0 h1 h2 d01 d02 d12 ha, e.trans (ha.ch _), ?_⟩
    have := ha.here
    have := e.size
    rintro i (rfl | hi | hi | hi)
    · omega
    · simp [blk] at hi; omega
    · simp [blk] at hi; omega
    · simp [blk] at hi; omega
  refine F48_ok n w _ ⟨?_, ?_, h1, ?_⟩
  · refine ⟨h64, fun b1 w2 a1 => ⟨⟨h64, fun b3 w4 a3 => ⟨h1, fun b5 w6 a5 b7 w8 a7 => ?_⟩⟩, h1, fun b9 w10 a9 => ⟨h64, fun b11 w12 a11 b13 w14 a13 => ?_⟩⟩⟩
    · rw [Int.toNat_natCast] at a1 a3 a5 a7
      have q0 := a1.here; have q1 := a3.here; have q2 := a5.here; have z1 := a1.size; have z2 := a3.size
      have x0 : Ext w.drew _ := a1.ch _
      have x1 := (a3.ch (fun _ => False))
      have x2 := (a5.ch (fun _ => False))
      exact fin (((newSec a1).ext x1).ext x2) ((newSec a3).ext x2) (newBl a5) (by omega) (by omega) (by omega) (by omega) (by omega) (by omega) (((ed.trans x0).trans x1).trans x2) a7
    · rw [Int.toNat_natCast] at a1 a9 a11 a13
      have q0 := a1.here; have q1 := a9.here; have q2 := a11.here; have z1 := a1.size; have z2 := a9.size
      have x0 : Ext w.drew _ := a1.ch _
      have x1 := (a9.ch (fun _ => False))
      have x2 := (a11.ch (fun _ => False))
      exact fin (((newSec a1).ext x1).ext x2) (newSec a11) ((newBl a9).ext x2) (by omega) (by omega) (by omega) (by omega) (by omega) (by omega) (((ed.trans x0).trans x1).trans x2) a13
  · refine ⟨h64, fun b15 w16 a15 => ⟨⟨h64, fun b17 w18 a17 => ⟨h1, fun b19 w20 a19 b21 w22 a21 => ?_⟩⟩, h1, fun b23 w24 a23 => ⟨h64, fun b25 w26 a25 b27 w28 a27 => ?_⟩⟩⟩
    · rw [Int.toNat_natCast] at a15 a17 a19 a21
      have q0 := a15.here; have q1 := a17.here; have q2 := a19.here; have z1 := a15.size; have z2 := a17.size
      have x0 : Ext w.drew _ := a15.ch _
      have x1 := (a17.ch (fun _ => False))
      have x2 := (a19.ch (fun _ => False))
      exact fin ((newSec a17).ext x2) (((newSec a15).ext x1).ext x2) (newBl a19) (by omega) (by omega) (by omega) (by omega) (by omega) (by omega) (((ed.trans x0).trans x1).trans x2) a21
    · rw [Int.toNat_natCast] at a15 a23 a25 a27
      have q0 := a15.here; have q1 := a23.here; have q2 := a25.here; have z1 := a15.size; have z2 := a23.size
      have x0 : Ext w.drew _ := a15.ch _
      have x1 := (a23.ch (fun _ => False))
      have x2 := (a25.ch (fun _ => False))
      exact fin (newSec a25) (((newSec a15).ext x1).ext x2) ((newBl a23).ext x2) (by omega) (by omega) (by omega) (by omega) (by omega) (by omega) (((ed.trans x0).trans x1).trans x2) a27
  · refine fun b29 w30 a29 => ⟨⟨h64, fun b31 w32 a31 => ⟨h64, fun b33 w34 a33 b35 w36 a35 => ?_⟩⟩, h64, fun b37 w38 a37 => ⟨h64, fun b39 w40 a39 b41 w42 a41 => ?_⟩⟩
    · rw [Int.toNat_natCast] at a29 a31 a33 a35
      have q0 := a29.here; have q1 := a31.here; have q2 := a33.here; have z1 := a29.size; have z2 := a31.size
      have x0 : Ext w.drew _ := a29.ch _
      have x1 := (a31.ch (fun _ => False))
      have x2 := (a33.ch (fun _ => False))
      exact fin ((newSec a31).ext x2) (newSec a33) (((newBl a29).ext x1).ext x2) (by omega) (by omega) (by omega) (by omega) (by omega) (by omega) (((ed.trans x0).trans x1).trans x2) a35
    · rw [Int.toNat_natCast] at a29 a37 a39 a41
      have q0 := a29.here; have q1 := a37.here; have q2 := a39.here; have z1 := a29.size; have z2 := a37.size
      have x0 : Ext w.drew _ := a29.ch _
      have x1 := (a37.ch (fun _ => False))
      have x2 := (a39.ch (fun _ => False))
      exact fin (newSec a39) ((newSec a37).ext x2) (((newBl a29).ext x1).ext x2) (by omega) (by omega) (by omega) (by omega) (by omega) (by omega) (((ed.trans x0).trans x1).trans x2) a41
end
end Go.Proofs.Ytopecljhehcldaa.Gx
