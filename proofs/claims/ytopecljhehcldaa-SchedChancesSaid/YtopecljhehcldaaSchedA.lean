/- The chances of a seed: what package sched computes, and the law on them. -/
import Derived.Test.YtopecljhehcldaaGxL
import Derived.Test.YtopecljhehcldaaGxFA
namespace Go.Proofs.Ytopecljhehcldaa.Gx
open Go
set_option linter.unusedVariables false
set_option linter.unusedSimpArgs false

def nxt (s : Int) : Int := IntKind.u64.wrap (IntKind.u64.wrap (s * (6364136223846793005 : Int)) + (1442695040888963407 : Int))
def drw (s : Int) : Int := IntKind.i64.wrap (s.fdiv ((2 : Int) ^ min (Int.toNat (33 : Int)) IntKind.u64.bits))
def itr (seed : Int) : Nat → Int
  | 0 => seed
  | n + 1 => nxt (itr seed n)
def chn (seed : Int) (k : Nat) : List Int := (List.range k).map fun i => drw (itr seed (i + 1))
theorem chn_len (seed : Int) (k : Nat) : (chn seed k).length = k := by simp [chn]
theorem chn_succ (seed : Int) (k : Nat) : chn seed (k + 1) = chn seed k ++ [drw (itr seed (k + 1))] := by simp [chn, List.range_succ]
def ivs (l : List Int) : List Value := l.map fun n => .int .i64 n

/-- The iterator never ends by itself. -/
theorem iter95 (seed : Int) (b : Nat) : Iter Try.prog 95 #[.pointer (some ⟨b, 0, none⟩)] (fun x : Int => #[.int .i64 x]) true (fun pre x => x = drw (itr seed (pre.length + 1))) (fun _ => False)
    (fun w => w.cell? ⟨b, 0, none⟩ = some (.int .u64 seed)) := by
  refine ⟨en95, fun l J Jx W hJ hJx hInv hB hstep h0 => ?_⟩
  obtain ⟨B, hB⟩ := hB rfl
  refine F95_ok l b W _ ⟨seed, hInv _ _ h0, fun n s w => ∃ pre : List Int, s = itr seed pre.length ∧ J pre w ∧ n + pre.length = B, ⟨B, [], rfl, h0, rfl⟩, ?_⟩
  rintro n s w1 g ⟨pre, rfl, hj, hn⟩
  refine ⟨by decide, (hstep pre _ w1 hj rfl).mono ?_⟩
  intro b' w2 h
  cases b' with
  | true =>
    have := hB _ _ h
    simp only [List.length_append, List.length_singleton] at this
    exact ⟨rfl, n - 1, by omega, pre ++ [_], by simp [itr, nxt], h, by simp; omega⟩
  | false => exact .inr ⟨_, h⟩

theorem c62 (s : Int) (w : World) : CW Try.prog 62 #[.int .u64 s] w fun v w' => ∃ b, v = .func (.func 95) #[] #[.pointer (some ⟨b, 0, none⟩)] ∧ IsAlloc w (.cells #[.int .u64 s] 22 (0, 0)) b w' :=
  F62_ok s w _ fun b w' h => ⟨b, rfl, h⟩

theorem c17 (s : Int) (w : World) : CW Try.prog 17 #[.int .u64 s] w fun v w' => v = .int .u64 (nxt s) ∧ w' = w := F17_ok s w _ ⟨rfl, rfl⟩

def cnt16 (n : Int) : Nat := (if (1000 : Int) < n then (1000 : Int) else n).toNat
theorem cnt16_le (n : Int) : cnt16 n ≤ 1000 := by unfold cnt16; split <;> omega

theorem c16 (seed n : Int) (w : World) : CW Try.prog 16 #[.int .u64 seed, .int .i64 n] w fun v w' => ∃ s : Sl, v = .slice s.p s.n s.c ∧ OwnS w' s 3 1 (ivs (chn seed (cnt16 n))) w.heap.size ∧ Ext w w' := by
  refine F16_ok _ _ _ _ ?_
  intro b1 w2 h2 b3 w4 h4
  refine (c62 seed w4).use ?_
  rintro v w6 ⟨b5, rfl, h6⟩
  refine ⟨(95, #[.pointer (some ⟨b5, 0, none⟩)]), rfl, fun g => ?_⟩
  have e6 : Ext w w6 := ((h2.ch _).trans (h4.ch _)).trans (h6.ch _)
  have hb1 : w6.heap[b1]? = some (.cells #[.int .i64 n] 3 (0, 0)) := h6.at (h4.at h2.new)
  have hb3 : w6.heap[b3]? = some (.cells #[.slice none 0 0] 24 (0, 0)) := h6.at h4.new
  have hb5 : w6.heap[b5]? = some (.cells #[.int .u64 seed] 22 (0, 0)) := h6.new
  have n13 : b1 ≠ b3 := by rw [h2.here, h4.here, h2.size]; omega
  have n15 : b1 ≠ b5 := by rw [h2.here, h6.here, h4.size, h2.size]; omega
  have n35 : b3 ≠ b5 := by rw [h4.here, h6.here, h4.size]; omega
  have wb3 : w.heap.size < b3 := by rw [h4.here, h2.size]; omega
  have l1 := heap_lt hb1
  have l3 := heap_lt hb3
  have l5 := heap_lt hb5
  have ws : w.heap.size = b1 := h2.here.symm
  have lw : w.heap.size ≤ w6.heap.size := e6.size
  -- what holds as long as the loop goes on
  let G : List Int → World → Prop := fun pre W => pre.length ≤ cnt16 n ∧ pre = chn seed pre.length ∧ W.heap[b1]? = some (.cells #[.int .i64 n] 3 (0, 0)) ∧ W.heap[b5]? = some (.cells #[.int .u64 seed] 22 (0, 0)) ∧
    ∃ s : Sl, W.heap[b3]? = some (.cells #[.slice s.p s.n s.c] 24 (0, 0)) ∧ OwnS W s 3 1 (ivs pre) (w6.heap.size + 2) ∧ Ch (fun i => w.heap.size ≤ i) w W
  let Gx : Code → List Int → World → Prop := fun c pre W => c = .exit 0 ∧ ∃ s : Sl, W.heap[b3]? = some (.cells #[.slice s.p s.n s.c] 24 (0, 0)) ∧ OwnS W s 3 1 (ivs (chn seed (cnt16 n))) (w6.heap.size + 2) ∧ Ch (fun i => w.heap.size ≤ i) w W
  refine range_none tbOk mixed (gf := 95) (lb := #[.pointer (some ⟨b5, 0, none⟩)]) rfl (iter95 seed b5) R16_0ok1 R16_0ok2 R16_0okp (fun _ => rfl) G Gx ?_ ?_ ?_ ?_ ?_ ?_ ?_ ?_
  · rintro pre A B ⟨h1, h2, h3, h4, s, h5, h6, h7⟩ hS
    exact ⟨h1, h2, hS.keep _ _ h3 rfl, hS.keep _ _ h4 rfl, s, hS.keep _ _ h5 rfl, h6.mono fun _ _ _ ho => hS.keep _ _ ho rfl, h7.then (.ofStb hS) fun i _ hi => Nat.le_trans lw hi⟩
  · rintro c pre A B ⟨h1, s, h5, h6, h7⟩ hS
    exact ⟨h1, s, hS.keep _ _ h5 rfl, h6.mono fun _ _ _ ho => hS.keep _ _ ho rfl, h7.then (.ofStb hS) fun i _ hi => Nat.le_trans lw hi⟩
  · rintro pre W ⟨_, _, _, h4, _⟩
    rw [cell_of h4]; rfl
  · exact fun _ => ⟨1000, fun pre W h => Nat.le_trans h.1 (cnt16_le n)⟩
  · exact ⟨Nat.zero_le _, rfl, hb1, hb5, ⟨none, 0, 0⟩, hb3, .inl ⟨rfl, rfl⟩, e6.mono fun _ _ h => h.elim⟩
  · rintro pre x W ⟨hle, hpre, H1, H5, s, H3, Ho, Hc⟩ hx hW
    refine F16b0_ok b1 ⟨none, 0, 0⟩ b3 (95, #[.pointer (some ⟨b5, 0, none⟩)]) x _ _ _ _ _ W ?_
    refine ⟨rfl, ⟨rfl, rfl⟩, fun W9 hS hL => ?_⟩
    have K1 := hS.keep _ _ H1 rfl
    have K5 := hS.keep _ _ H5 rfl
    have K3 := hS.keep _ _ H3 rfl
    have Ko : OwnS W9 s 3 1 (ivs pre) (w6.heap.size + 2) := Ho.mono fun _ _ _ ho => hS.keep _ _ ho rfl
    have Kc : Ch (fun i => w.heap.size ≤ i) w W9 := Hc.then (.ofStb hS) fun i _ hi => Nat.le_trans lw hi
    have hsn : s.n = pre.length := by have := Ko.lenOne; simpa [ivs] using this
    refine ⟨s, by rw [cell_of K3]; rfl, n, by rw [cell_of K1]; rfl, IfB.dec (fun hd => ?_) (fun hd => ?_)⟩
    · refine ⟨⟨rfl, rfl⟩, rfl, s, K3, ?_, Kc⟩
      have : pre.length = cnt16 n := by
        have : (cnt16 n) ≤ pre.length := by unfold cnt16; rw [← hsn]; omega
        omega
      rw [← this, ← hpre]; exact Ko
    · refine ⟨s, by rw [cell_of K3]; rfl, by decide, ?_⟩
      intro b26 w27 h27
      have hlt : pre.length + 1 ≤ cnt16 n := by unfold cnt16; rw [← hsn]; omega
      have hcn := cnt16_le n
      have hS6 : w6.heap.size + 2 ≤ W9.heap.size := by have := hS.size; omega
      refine ⟨[.int .i64 x], ⟨rfl, cellsAt_of h27.new fun i v hv => by simpa using hv⟩, ?_⟩
      have Ko' : OwnS w27 s 3 1 (ivs pre) (w6.heap.size + 2) := Ko.ext (h27.ch _)
      refine Ko'.append (by rw [h27.size]; omega) rfl rfl rfl (by simp; rfl) ⟨by rw [hsn]; omega, by rw [hsn]; dsimp only; omega⟩ ?_
      intro s' w30 ho' hn' hch
      have hne : ∀ i, i < w6.heap.size + 2 → ¬ (∃ o, s.p = some o ∧ o.block = i ∧ w6.heap.size + 2 ≤ i) := fun i hi ⟨o, _, _, h⟩ => by omega
      have k3 := hch.at (h27.at K3) (hne _ (by omega))
      refine ⟨rfl, store_one k3 (by simp) rfl fun w31 h31 => ?_⟩
      have c31 : Ch (fun i => i = b3 ∨ w6.heap.size + 2 ≤ i) W9 w31 := by
        refine ((h27.ch _).trans (hch.mono fun i _ hi => ?_)).trans (h31.ch.mono fun i _ hi => .inl hi)
        obtain ⟨o, _, _, h⟩ := hi; exact .inr h
      have hx' : pre ++ [x] = chn seed (pre.length + 1) := by rw [chn_succ, ← hpre, hx]
      refine ⟨⟨c31.old _ (by omega) (by omega), c31.old _ (by omega) (by omega)⟩, by simp; exact hlt, ?_, c31.at K1 (by omega), c31.at K5 (by omega), s', h31.new, ?_, ?_⟩
      · rw [List.length_append, List.length_singleton]; exact hx'
      · refine (show ivs (pre ++ [x]) = ivs pre ++ [.int .i64 x] by simp [ivs]) ▸ ho'.mono fun b hb arr ho => h31.at ho (by omega)
      · refine Kc.then c31 fun i hi h => ?_
        rcases h with rfl | h <;> omega
  · intro xs W h _ _; exact h.elim
  · rintro c pre W ⟨rfl, s, h3, h6, h7⟩ hD
    refine ⟨s, by rw [cell_of h3]; rfl, marks_one hD fun w' hu => ?_⟩
    have hD3 : b3 ≠ w6.heap.size := by omega
    refine ⟨s, rfl, ?_, ?_⟩
    · refine (h6.mono fun b _ arr ho => hu.at ho ?_).low (by omega)
      rintro rfl; rw [hD] at ho; cases ho
    · refine ⟨h7.rest.trans hu.rest, Nat.le_trans h7.size (by rw [hu.size]; exact Nat.le_refl _), fun i hi _ => ?_⟩
      rw [hu.old i (by omega)]; exact h7.old i hi (by omega)

theorem wrap_u64_range (n : Int) : 0 ≤ IntKind.u64.wrap n ∧ IntKind.u64.wrap n < 18446744073709551616 := by rw [IntKind.wrap_u64]; omega
theorem nxt_range (s : Int) : 0 ≤ nxt s ∧ nxt s < 18446744073709551616 := wrap_u64_range _

theorem drw_law {s : Int} (h : 0 ≤ s ∧ s < 18446744073709551616) : IntKind.i64.wrap (IntKind.u64.wrap (s.tdiv (8589934592 : Int))) = drw s := by
  unfold drw
  have e : ((2 : Int) ^ min (Int.toNat (33 : Int)) IntKind.u64.bits) = 8589934592 := by decide
  rw [e, Int.tdiv_eq_ediv_of_nonneg h.1, Int.fdiv_eq_ediv_of_nonneg _ (by decide)]
  congr 1
  rw [IntKind.wrap_u64]
  omega

theorem ivs_get (l : List Int) (i : Nat) : (ivs l)[i]? = (l[i]?).map fun n => .int .i64 n := by simp [ivs]
theorem ivs_len (l : List Int) : (ivs l).length = l.length := by simp [ivs]
theorem chn_get {seed : Int} {k i : Nat} (h : i < k) : (chn seed k)[i]? = some (drw (itr seed (i + 1))) := by simp [chn, h]

theorem c15 (w : World) : CW Try.prog 15 #[] w fun v w' => v = .bool true ∧ Ext w w' := by
  refine F15_ok _ _ ((c16 0 1 w).use ?_)
  rintro v w' ⟨s, rfl, ho, hx⟩
  have hc : cnt16 1 = 1 := by decide
  rw [hc] at ho
  have hn : s.n = 1 := by rw [ho.lenOne, ivs_len, chn_len]
  refine ⟨s, rfl, IfB.yes (by rw [hn]; rfl) ?_⟩
  obtain ⟨b, hp, hcell⟩ := ho.addr (i := 0) (by rw [ivs_len, chn_len]; decide)
  refine ⟨b, 0, hp, ⟨by decide, by rw [hn]; decide⟩, drw (itr 0 1), ?_, IfB.yes (by decide) ⟨rfl, hx⟩⟩
  rw [show ((0 : Nat) + Int.toNat (0 : Int)) = 0 + 0 from rfl, hcell, ivs_get, chn_get (by decide)]; rfl

theorem c3 (seed n : Int) (w : World) (hs : 0 ≤ seed ∧ seed < 18446744073709551616) (hn : -9223372036854775808 ≤ n ∧ n ≤ 9223372036854775807) : CW Try.prog 3 #[.int .u64 seed, .int .i64 n] w fun v w' => v = .bool true ∧ Ext w w' := by
  refine F3_ok _ _ _ _ ((c15 w).use ?_)
  rintro v w2 ⟨rfl, hx2⟩
  refine ⟨true, rfl, ?_⟩
  refine (c16 seed n w2).use ?_
  rintro v w5 ⟨s, rfl, ho, hx5⟩
  have hx : Ext w w5 := hx2.trans hx5
  have hsn : s.n = cnt16 n := by rw [ho.lenOne, ivs_len, chn_len]
  have hcl := cnt16_le n
  refine ⟨s, rfl, fun k x w' => ∃ i : Nat, i ≤ cnt16 n ∧ x = (itr seed i, (i : Int)) ∧ w' = w5 ∧ k + i = cnt16 n, ⟨cnt16 n, 0, by omega, rfl, rfl, rfl⟩, ?_⟩
  rintro k x w' g ⟨i, hi, rfl, rfl, hk⟩
  refine IfB.dec (fun hlt => ?_) (fun hge => ?_)
  · dsimp only at hlt
    rw [hsn] at hlt
    have hlt' : i < cnt16 n := by omega
    refine (c17 (itr seed i) w').use ?_
    rintro v w15 ⟨rfl, rfl⟩
    obtain ⟨b, hp, hcell⟩ := ho.addr (i := i) (by rw [ivs_len, chn_len]; exact hlt')
    refine ⟨nxt (itr seed i), rfl, b, 0, hp, ⟨by dsimp only; omega, by dsimp only; rw [hsn]; omega⟩, drw (itr seed (i + 1)), ?_, by decide, IfB.no ?_ ?_⟩
    · dsimp only
      rw [Int.toNat_natCast, hcell, ivs_get, chn_get hlt']; rfl
    · rw [drw_law (nxt_range _)]; simp [itr]
    · refine ⟨rfl, k - 1, by omega, i + 1, hlt', ?_, rfl, by omega⟩
      dsimp only [itr]
      rw [Prod.mk.injEq]
      refine ⟨rfl, ?_⟩
      rw [IntKind.wrap_i64]; omega
  · dsimp only at hge
    have hi' : i = cnt16 n := by rw [hsn] at hge; omega
    refine IfB.dec (fun h1 => ?_) (fun h1 => IfB.intro (fun _ => ⟨rfl, hx⟩) fun hne => IfB.dec (fun h2 => ?_) (fun h2 => ?_))
    · have : cnt16 n = 0 := by unfold cnt16; split <;> omega
      exact ⟨by rw [hsn, this]; rfl, hx⟩
    · have : cnt16 n = 1000 := by unfold cnt16; rw [if_pos h2]; rfl
      exact ⟨by rw [hsn, this]; rfl, hx⟩
    · exfalso
      have : ((cnt16 n : Nat) : Int) = n := by unfold cnt16; rw [if_neg h2]; omega
      rw [hsn, this] at hne
      simp at hne
end Go.Proofs.Ytopecljhehcldaa.Gx

