/- Package disk: DiskPlays: whatever is written, synced, lost and copied, all that a device tells is the document's. -/
import Derived.Test.YtopecljhehcldaaDiskQ
import Derived.Test.YtopecljhehcldaaGxFI
import Derived.Test.YtopecljhehcldaaGxC
namespace Go.Proofs.Ytopecljhehcldaa.Gx
open Go
set_option linter.unusedSimpArgs false
set_option linter.unusedVariables false

/-! ### No device -/
theorem c38nil (w : World) : CW Try.prog 38 #[.pointer none] w fun v w' => v = .tuple #[] ∧ w = w' := F38_ok _ w _ (IfB.yes rfl ⟨rfl, rfl⟩)
theorem c39nil (x : Nat × Array Value) (w : World) : CW Try.prog 39 #[.pointer none, .func (.func x.1) #[] x.2] w fun v w' => v = .tuple #[] ∧ w = w' := F39_ok _ x w _ (IfB.no rfl ⟨rfl, rfl⟩)
theorem c42nil (w : World) : CW Try.prog 42 #[.pointer none] w fun v w' => v = slV ⟨none, 0, 0⟩ ∧ w = w' := F42_ok _ w _ (IfB.yes rfl ⟨rfl, rfl⟩)
theorem c46nil (w : World) : CW Try.prog 46 #[.pointer none] w fun v w' => v = iv 0 ∧ w = w' := F46_ok _ w _ (IfB.yes rfl ⟨rfl, rfl⟩)
theorem c47nil (w : World) : CW Try.prog 47 #[.pointer none] w fun v w' => v = iv 0 ∧ w = w' := F47_ok _ w _ (IfB.yes rfl ⟨rfl, rfl⟩)
theorem c43nil (w : World) : CW Try.prog 43 #[.pointer none] w fun v w' => v = .pointer none ∧ w = w' := F43_ok _ w _ (IfB.yes rfl ⟨rfl, rfl⟩)
theorem c37nil (i : Int) (x : Sec) (w : World) : CW Try.prog 37 #[.pointer none, iv i, secV x] w fun v w' => v = iv 3 ∧ Ext w w' := by
  refine F37_ok _ i x w _ ?_
  intro b1 w2 h2
  refine (c76nil i w2).use ?_
  rintro _ _ ⟨rfl, rfl⟩
  exact ⟨_, rfl, IfB.yes rfl ⟨rfl, h2.ch _⟩⟩
theorem c41nil (i : Int) (w : World) : CW Try.prog 41 #[.pointer none, iv i] w fun v w' => v = .tuple #[secV sec0, iv 3] ∧ Ext w w' := by
  refine F41_ok _ i w _ ?_
  intro b1 w2 h2
  refine (c76nil i w2).use ?_
  rintro _ _ ⟨rfl, rfl⟩
  exact ⟨_, rfl, IfB.yes rfl ⟨rfl, store_all (vs := secL sec0) h2.new rfl (secL_one _) fun w6 h6 => ⟨sec0, sec_at h6.new, rfl, Ext.fresh h2 h6⟩⟩⟩

abbrev opL (x : tyOp.den) (tk : Sl) : List Value := Value.int .u8 x.1 :: Value.int .i64 x.2.1 :: (secL (secOf x.2.2.1) ++ [slV tk])
theorem op_all {A : Nat → Prop} {w : World} {l : List tyOp.den} {t : Sl} (h : rep A w (.sl tyOp) l [slV t]) {k : Nat} {x : tyOp.den} (hx : l[k]? = some x) :
    ∃ b o tk, t.p = some ⟨b, o, none⟩ ∧ CellsAt w b (o + k * 11) (opL x tk) ∧ rep A w (.sl .bool) x.2.2.2 [slV tk] := by
  obtain ⟨s, b, o, c, hs, hn, hp, hA, hc, c1, d1, rfl, ⟨rfl, hu⟩, c2, d2, rfl, ⟨rfl, hi⟩, c3, d3, rfl, h3, h4⟩ := rep_get h (by decide) hx
  have := slEq hs; subst this
  have e3 := rep_arr8 h3
  subst e3
  obtain ⟨tk, rfl, h5⟩ := h4
  exact ⟨b, o, tk, hp, hc, tk, rfl, h5⟩

/-- What holds of a device and the document's, as they play. -/
def DkP (lo : Nat) (w0 : World) (n : Nat) (b' : Nat) (s0 s1 s2 : Sl) (x : Option Addr × Int × Int) (W : World) : Prop :=
  (∃ b s r ls f la rd dt, x.1 = some ⟨b, 0, none⟩ ∧ Dk W b s r ls f x.2.1 x.2.2 ∧ Rf W b' s0 s1 s2 la rd dt ∧ DkR ls f la rd dt ∧ ls.length = n ∧ (∀ i, inDk b s r i → lo ≤ i ∧ ¬ inRf b' s0 s1 s2 i)) ∧ Ch (fun i => lo ≤ i) w0 W
theorem DkP.ext {lo : Nat} {w0 : World} {n : Nat} {b' : Nat} {s0 s1 s2 : Sl} {x : Option Addr × Int × Int} {W W' : World} (h : DkP lo w0 n b' s0 s1 s2 x W) (e : Ext W W') : DkP lo w0 n b' s0 s1 s2 x W' := by
  obtain ⟨⟨b, s, r, ls, f, la, rd, dt, h1, h2, h3, h4⟩, hC⟩ := h
  exact ⟨⟨b, s, r, ls, f, la, rd, dt, h1, h2.ext e, h3.ext e, h4⟩, hC.then e fun _ _ h => h.elim⟩

theorem diskPlays (w : World) {n : Int} {c0 : Value} (h0 : rep (fun _ => True) w (.int .i64) n [c0]) {l : List tyOp.den} {c1 : Value} (h1 : rep (fun _ => True) w (.sl tyOp) l [c1]) :
    CW Try.prog 12 #[c0, c1] w fun v w' => v = .bool true ∧ Ext w w' := by
  obtain ⟨e0, hi⟩ := h0
  obtain ⟨tl, e1, hln, _, _, _, _⟩ := id h1
  simp only [List.cons.injEq, and_true] at e0 e1
  subst e0 e1
  refine F12_ok n tl w _ ((c35 w).use ?_)
  rintro _ w2 ⟨rfl, e2⟩
  refine ⟨true, rfl, IfB.no rfl ⟨fun t W => W = w2 ∧ (t = false → ¬ (200 < n ∧ n ≤ 4096)), IfB.dec (fun h => ⟨rfl, rfl, fun h' => ?_⟩) (fun h => ⟨rfl, rfl, fun _ => by omega⟩), ?_⟩⟩
  · have := of_decide_eq_false h'; omega
  rintro t5 w6 g ⟨rfl, ht5⟩
  unfold F12j1
  refine IfB.intro (fun _ => ⟨rfl, e2⟩) fun ht => ?_
  have hn := ht5 ht
  by_cases hno : n < 1 ∨ 4096 < n
  · refine (c36no hno w6).use ?_
    rintro _ _ ⟨rfl, rfl⟩
    refine ⟨none, rfl, fun t W => t = true ∧ W = w6, IfB.dec (fun h => ⟨rfl, rfl, rfl⟩) (fun h => ⟨rfl, decide_eq_true (by omega), rfl⟩), ?_⟩
    rintro _ w7 g ⟨rfl, rfl⟩
    unfold F12j2
    refine IfB.yes rfl ?_
    unfold F12k3
    refine (c38nil w7).use ?_
    rintro _ _ ⟨rfl, rfl⟩
    refine ⟨(), rfl, (c40 ⟨none, 0, 0⟩ w7).use ?_⟩
    rintro _ w21 ⟨bn, bl, T1, T2, rfl, _, _, _, _, _, e21⟩
    refine ⟨(79, _), rfl, (c39nil (79, _) w21).use ?_⟩
    rintro _ _ ⟨rfl, rfl⟩
    refine ⟨(), rfl, (c41nil 0 w21).use ?_⟩
    rintro _ w27 ⟨rfl, e27⟩
    refine ⟨(sec0, 3), rfl, boxSec (x := sec0) rfl fun b29 w31 _ _ _ e31 => IfB.yes rfl ((c45nil w31).use ?_)⟩
    rintro _ _ ⟨rfl, rfl⟩
    refine ⟨0, rfl, IfB.yes rfl (IfB.yes rfl ((c37nil 0 sec0 w31).use ?_))⟩
    rintro _ w36 ⟨rfl, e36⟩
    refine ⟨3, rfl, IfB.yes rfl ((c42nil w36).use ?_)⟩
    rintro _ _ ⟨rfl, rfl⟩
    refine ⟨⟨none, 0, 0⟩, rfl, IfB.yes rfl ((c46nil w36).use ?_)⟩
    rintro _ _ ⟨rfl, rfl⟩
    refine ⟨0, rfl, IfB.yes rfl ((c47nil w36).use ?_)⟩
    rintro _ _ ⟨rfl, rfl⟩
    refine ⟨0, rfl, IfB.yes rfl ((c43nil w36).use ?_)⟩
    rintro _ _ ⟨rfl, rfl⟩
    exact ⟨none, rfl, rfl, (((e2.trans e21).trans e27).trans e31).trans e36⟩
  · obtain ⟨m, rfl⟩ := Int.eq_ofNat_of_zero_le (show 0 ≤ n by omega)
    have hm : 1 ≤ m ∧ m ≤ 4096 := by omega
    refine stNew hm w6 fun w10 b s r hD e10 hb => ?_
    refine ⟨fun t W => t = false ∧ W = w10, IfB.no (decide_eq_false (by omega)) ⟨rfl, decide_eq_false (by omega), rfl⟩, ?_⟩
    rintro _ w11 g ⟨rfl, rfl⟩
    unfold F12j2
    refine IfB.no rfl (IfB.no rfl ((c48 hm.2 w11).use ?_))
    rintro _ w51 ⟨b', s0, s1, s2, rfl, hF, e51, hf⟩
    have x10 : Ext w w11 := e2.trans e10
    have x51 := x10.trans e51
    have z2 := e2.size; have z10 := e10.size; have z51 := e51.size
    have inF : ∀ i, inRf b' s0 s1 s2 i → w.heap.size ≤ i ∧ i < w51.heap.size := fun i hi => by have := hf i hi; have := hF.lt hi; omega
    refine ⟨_, rfl, fun k x W => ∃ j : Nat, x.2.2.2 = (j : Int) ∧ k + j = 60 ∧ DkP w.heap.size w51 m b' s0 s1 s2 (x.1, x.2.1, x.2.2.1) W, ⟨60, 0, rfl, rfl, ⟨b, s, r, _, _, _, _, _, rfl, hD.ext e51, hF, DkR.new m, by simp, fun i hi => ⟨by have := hb i hi; omega, fun h => by have := hD.lt hi; have := hf i h; omega⟩⟩, Ch.refl _ _⟩, ?_⟩
    rintro k ⟨p, wr, sy, _⟩ W g ⟨j, rfl, hj, hP⟩
    dsimp only at hP
    have fin : ∀ {W' : World} {x : Option Addr × Int × Int}, DkP w.heap.size w51 m b' s0 s1 s2 x W' → Ext w W' := fun h => x51.then h.2 fun i hi h => by omega
    unfold F12j3
    refine IfB.dec (fun hlt => IfB.dec (fun h60 => ?_) fun _ => ⟨rfl, fin hP⟩) fun _ => ⟨rfl, fin hP⟩
    dsimp only at hlt h60
    have hjl : j < l.length := by omega
    have hx := List.getElem?_eq_getElem hjl
    generalize l[j] = o at hx
    have xW := fin hP
    obtain ⟨a, ao, tk, hp, hc, hk⟩ := op_all (rep_ext xW (rep_old (by decide) h1)) hx
    obtain ⟨kd, oi, os, ok⟩ := o
    change Int at oi
    change Int at kd
    dsimp only at hc hk
    obtain ⟨⟨b, s, r, ls, f, la, rd, dt, hpp, hA0, hB0, hR, hL, hI⟩, hC0⟩ := id hP
    dsimp only at hpp hA0
    subst hpp
    have hla : la.length = m := by rw [hR.la, hL]
    unfold F12k4
    refine ⟨a, ao, hp, ⟨by dsimp only; omega, hlt⟩, (kd, oi, (secOf os).1, (secOf os).2.1, (secOf os).2.2.1, (secOf os).2.2.2.1, (secOf os).2.2.2.2.1, (secOf os).2.2.2.2.2.1, (secOf os).2.2.2.2.2.2.1, (secOf os).2.2.2.2.2.2.2, tk), ?_, fun b63 w64 a63 => ⟨rfl, store_all (vs := opL (kd, oi, os, ok) tk) a63.new rfl ?_ fun w65 u65 => ?_⟩⟩
    · dsimp only
      rw [Int.toNat_natCast]
      exact hc
    · intro v hv
      simp only [opL, List.mem_cons, List.mem_append, List.mem_singleton] at hv
      rcases hv with rfl | rfl | hv | hv
      · rfl
      · rfl
      · exact secL_one _ v hv
      · simp at hv; subst hv; rfl
    generalize hS : secOf os = S at *
    have e65 : Ext W w65 := Ext.fresh a63 u65
    have p63 := a63.here
    have N65 := u65.new
    have q0 : w65.cell? ⟨b63, 0 + 0, none⟩ = some (.int .u8 kd) := by rw [cell_of N65]; rfl
    have q1 : w65.cell? ⟨b63, 0 + 1, none⟩ = some (.int .i64 oi) := by rw [cell_of N65]; rfl
    have q2 : CellsAt w65 b63 (0 + 2) (secL S) := by
      have h11 : CellsAt w65 b63 0 ([Value.int .u8 kd, Value.int .i64 oi] ++ (secL S ++ [slV tk])) := cellsAt_of N65 fun i v hv => by
        rw [← hS] at hv
        rw [Nat.zero_add, List.getElem?_toArray]
        exact hv
      exact h11.right.left
    have q10 : w65.cell? ⟨b63, 0 + 10, none⟩ = some (slV tk) := by rw [cell_of N65]; rfl
    have hA := hA0.ext e65
    have hB := hB0.ext e65
    have hC := hC0.then e65 fun _ _ h => h.elim
    have x65 : Ext w w65 := xW.trans e65
    have nA : ¬ inDk b s r b63 := fun h => by have := hA0.lt h; omega
    have nB : ¬ inRf b' s0 s1 s2 b63 := fun h => by have := hB0.lt h; omega
    refine ⟨fun x W => DkP w.heap.size w51 m b' s0 s1 s2 x W, ⟨kd, q0, by decide, IfB.intro (fun _ => ?_) fun _ => IfB.intro (fun _ => ?_) fun _ => ?_⟩, ?_⟩
    · -- sync
      refine stSync hA fun w69 ls2 hl2 hg2 hA2 hC2 => (c49 (hB.ch hC2 fun i hi h => (hI i h).2 hi) (by omega)).use ?_
      rintro _ w72 ⟨rfl, hB2, hC3⟩
      exact ⟨(), rfl, rfl, ⟨b, s, r, ls2, [], rd, rd, _, rfl, hA2.ch hC3 fun i hi h => (hI i hi).2 h, hB2, hR.sync hl2 hg2, by omega, hI⟩, (hC.then hC2 fun i _ h => (hI i h).1).then hC3 fun i _ h => (inF i h).1⟩
    · -- crash
      refine ⟨tk, q10, IfB.dec (fun _ => ⟨rfl, x65⟩) fun h300 => ⟨tk, q10, ?_⟩⟩
      have hk65 := rep_ext e65 hk
      have htk : 0 < tk.n → ∀ i ∈ blk tk, i < w.heap.size := by
        obtain ⟨s', hs', _, _, _, h4, _⟩ := hk
        have := slEq hs'; subst this
        exact h4
      refine stCrash hA (rd_bools hk65) (fun h0 i hi => ⟨by have := htk h0 i hi; have := x65.size; omega, fun h => by have := htk h0 i hi; have := hI i h; omega⟩) fun w80 xs hp hs hnd hrg hA2 hC2 => ?_
      have q10' : w80.cell? ⟨b63, 0 + 10, none⟩ = some (slV tk) := cell_ch q10 hC2 nA
      refine ⟨tk, q10', (c50 (hB.ch hC2 fun i hi h => (hI i h).2 hi) (by omega) ((rd_bools hk65).ch0 hC2 fun h0 i hi h => (by have := htk h0 i hi; have := hI i h; omega)) fun h0 i hi h => (by have := htk h0 i hi; have := inF i h; omega)).use ?_⟩
      rintro _ w84 ⟨rfl, hB2, hC3⟩
      exact ⟨(), rfl, rfl, ⟨b, s, r, _, [], _, _, _, rfl, hA2.ch hC3 fun i hi h => (hI i hi).2 h, hB2, hR.crash hp hs hnd, by rw [lsAt_len]; exact hL, hI⟩, (hC.then hC2 fun i _ h => (hI i h).1).then hC3 fun i _ h => (inF i h).1⟩
    · unfold F12k2
      refine IfB.intro (fun _ => ?_) fun _ => ?_
      · -- copy
        refine stCopy hA fun w87 b2 s2' r2 hA2 e87 hb2 => stWrite (hA.ext e87) 0 (99, 98, 0, 0, 0, 0, 0, 0) fun w90 f' wr' _ hO hC2 => stSync hO fun w93 ls3 _ _ _ hC3 => ?_
        have z87 := e87.size; have z65 := e65.size
        have dis : ∀ i, inDk b2 s2' r2 i → ¬ inDk b s r i := fun i hi h => by have := hb2 i hi; have := hA0.lt h; omega
        refine ⟨rfl, ⟨b2, s2', r2, ls, f, la, rd, dt, rfl, (hA2.ch hC2 dis).ch hC3 dis, ((hB.ext e87).ch hC2 fun i hi h => (hI i h).2 hi).ch hC3 fun i hi h => (hI i h).2 hi, hR, hL, fun i hi => ⟨by have := hb2 i hi; have := xW.size; omega, fun h => by have := hb2 i hi; have := hB0.lt h; omega⟩⟩, ?_⟩
        exact ((hC.then e87 fun _ _ h => h.elim).then hC2 fun i _ h => (hI i h).1).then hC3 fun i _ h => (hI i h).1
      · refine ⟨oi, q1, S, q2, (c37 hA oi S).use ?_⟩
        intro v98 w98 hv
        by_cases hin : 0 ≤ oi ∧ oi < (ls.length : Int)
        · rw [if_pos hin] at hv
          obtain ⟨rfl, ⟨f', hf', hA2⟩, hC2'⟩ := hv
          have hC2 : Ch (inDk b s r) w65 w98 := hC2'.mono fun i _ h => h.elim .inl fun h => .inr (.inl h)
          have hB2 := hB.ch hC2 fun i hi h => (hI i h).2 hi
          obtain ⟨io, rfl⟩ := Int.eq_ofNat_of_zero_le hin.1
          have hio : io < ls.length := by have := hin.2; omega
          refine ⟨0, rfl, (io : Int), cell_ch q1 hC2 nA, (c51 hB2 (io : Int)).use ?_⟩
          rintro _ _ ⟨rfl, rfl⟩
          refine ⟨_, rfl, IfB.no (by rw [hla, ← hL]; simpa using hin.2) (IfB.no rfl ⟨(io : Int), cell_ch q1 hC2 nA, S, q2.ch hC2 nA, (c52 hB2 (i := io) (by rw [hR.la]; exact hio) S).use ?_⟩)⟩
          rintro _ w120 ⟨rfl, hB3, hC3⟩
          have hA3 := hA2.ch hC3 fun i hi h => (hI i hi).2 h
          exact ⟨(), rfl, rfl, ⟨b, s, r, ls, f', la, _, _, rfl, hA3, hB3, hR.write hio hf' hA2.rng, hL, hI⟩, (hC.then hC2 fun i _ h => (hI i h).1).then hC3 fun i _ h => (inF i h).1⟩
        · rw [if_neg hin] at hv
          obtain ⟨rfl, e98⟩ := hv
          refine ⟨3, rfl, oi, cell_ch q1 e98 id, (c51 (hB.ext e98) oi).use ?_⟩
          rintro _ _ ⟨rfl, rfl⟩
          refine ⟨_, rfl, IfB.yes (by rw [hla, ← hL, decide_eq_false hin]; rfl) ?_⟩
          unfold F12k1
          refine ⟨oi, cell_ch q1 e98 id, (c41 (hA.ext e98) oi).use ?_⟩
          rintro _ w106 ⟨rfl, e106⟩
          rw [if_neg hin, if_neg hin]
          refine ⟨(sec0, 3), rfl, boxSec (x := sec0) rfl fun b108 w110 _ _ _ e110 => IfB.no rfl (IfB.no rfl ⟨oi, cell_ch (cell_ch (cell_ch q1 e98 id) e106 id) e110 id, (c44 (((hA.ext e98).ext e106).ext e110) oi).use ?_⟩)⟩
          rintro _ w113 ⟨rfl, e113⟩
          have hz : (if 0 ≤ oi then (ls[oi.toNat]?).getD sec0 else sec0) = sec0 := by
            by_cases h0 : 0 ≤ oi
            · rw [if_pos h0, List.getElem?_eq_none (by omega)]; rfl
            · rw [if_neg h0]
          rw [hz]
          have eall : Ext W w113 := (((e65.trans e98).trans e106).trans e110).trans e113
          exact ⟨sec0, rfl, true, eqSecY sec0, IfB.no rfl ⟨rfl, k - 1, by omega, j + 1, wp1 (by omega), by omega, hP.ext eall⟩⟩
    · rintro ⟨p2, wr2, sy2⟩ w123 g ⟨⟨b, s, r, ls, f, la, rd, dt, hpp, hA, hB, hR, hL, hI⟩, hC⟩
      dsimp only at hpp hA
      subst hpp
      unfold F12j4
      refine (c53 hA hB hR).use ?_
      rintro _ w127 ⟨rfl, e127⟩
      refine ⟨true, rfl, IfB.no rfl ((c46 (hA.ext e127)).use ?_)⟩
      rintro _ _ ⟨rfl, rfl⟩
      refine ⟨wr2, rfl, IfB.no (by simp) ((c47 (hA.ext e127)).use ?_)⟩
      rintro _ _ ⟨rfl, rfl⟩
      exact ⟨sy2, rfl, IfB.no (by simp) ⟨rfl, k - 1, by omega, j + 1, wp1 (by omega), by omega, ⟨b, s, r, ls, f, la, rd, dt, rfl, hA.ext e127, hB.ext e127, hR, hL, hI⟩, hC.then e127 fun _ _ h => h.elim⟩⟩
end Go.Proofs.Ytopecljhehcldaa.Gx
