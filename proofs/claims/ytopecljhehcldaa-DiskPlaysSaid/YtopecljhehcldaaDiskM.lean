/- Package disk: DiskWhole: a crash that keeps all is a sync for what is read; one that keeps nothing goes back to the last sync. -/
import Derived.Test.YtopecljhehcldaaDiskL
import Derived.Test.YtopecljhehcldaaGxFG
namespace Go.Proofs.Ytopecljhehcldaa.Gx
open Go
set_option linter.unusedSimpArgs false
set_option linter.unusedVariables false

/-- Two devices apart, behind some steps. -/
def Dk2 (lo : Nat) (w0 : World) (b : Nat) (s : Sl) (r : Nat) (b' : Nat) (s' : Sl) (r' : Nat) (P : List Sec → List (Int × Sec) → List Sec → List (Int × Sec) → Prop) (W : World) : Prop :=
  (∃ ls f wr sy ls' f' wr' sy', Dk W b s r ls f wr sy ∧ Dk W b' s' r' ls' f' wr' sy' ∧ ls.length = 16 ∧ ls'.length = 16 ∧ P ls f ls' f') ∧ Ch (fun i => lo ≤ i) w0 W

theorem rdD_nil (ls : List Sec) (k : Nat) : rdD ls [] (k : Int) = (ls[k]?).getD sec0 := by
  unfold rdD; rw [getM_nil]; dsimp only; rw [Int.toNat_natCast]

theorem lsAt_all {f : List (Int × Sec)} {ans : Nat → Bool} {xs : List Int} {ls : List Sec} (hp : xs.Perm (f.map (·.1))) (hx : ∀ k ∈ xs, 0 ≤ k ∧ k < (ls.length : Int)) (h : ∀ j, j < xs.length → ans j = true) {i : Nat} (hi : i < ls.length) : (lsAt f ans xs ls xs.length)[i]? = some (rdD ls f i) := by
  rw [lsAt_true h hx _ (Nat.le_refl _), List.take_length]
  unfold rdD
  by_cases hm : (i : Int) ∈ xs
  · rw [if_pos hm]
    cases hg : getM f (i : Int) with
    | none => exact absurd hg ((xs_few hp _).1 hm)
    | some v => rfl
  · rw [if_neg hm]
    have : getM f (i : Int) = none := Classical.byContradiction fun h => hm ((xs_few hp _).2 h)
    rw [this, Int.toNat_natCast, List.getElem?_eq_getElem hi]; rfl

theorem diskWhole (w : World) {l : List tyOp.den} {c0 : Value} (h0 : rep (fun _ => True) w (.sl tyOp) l [c0]) {m : List tyOp.den} {c1 : Value} (h1 : rep (fun _ => True) w (.sl tyOp) m [c1]) :
    CW Try.prog 10 #[c0, c1] w fun v w' => v = .bool true ∧ Ext w w' := by
  obtain ⟨tl, e0, hln, _, _, _, _⟩ := id h0
  obtain ⟨tm, e1, hmn, _, _, _, _⟩ := id h1
  simp only [List.cons.injEq, and_true] at e0 e1
  subst e0 e1
  refine F10_ok tl tm w _ ((c35 w).use ?_)
  rintro _ w2 ⟨rfl, e2⟩
  refine ⟨true, rfl, IfB.no rfl (stNew (n := 16) (by omega) w2 fun w5 b s r hD e5 hb => stNew (n := 16) (by omega) w5 fun w8 b' s' r' hD' e8 hb' => ?_)⟩
  have z2 := e2.size
  have z5 := e5.size
  have z8 := e8.size
  have in1 : ∀ i, inDk b s r i → w.heap.size ≤ i ∧ i < w8.heap.size := fun i hi => by have := hb i hi; have := hD.lt hi; omega
  have in2 : ∀ i, inDk b' s' r' i → w.heap.size ≤ i ∧ i < w8.heap.size := fun i hi => by have := hb' i hi; have := hD'.lt hi; omega
  have dis : ∀ i, inDk b s r i → ¬ inDk b' s' r' i := fun i hi hi' => by have := hD.lt hi; have := hb' i hi'; omega
  have x8 : Ext w w8 := (e2.trans e5).trans e8
  refine ⟨fun _ => Dk2 w.heap.size w8 b s r b' s' r' fun ls f ls' f' => ls = ls' ∧ ∀ k, getM f k = getM f' k, ⟨fun n x W => ∃ j : Nat, x = (j : Int) ∧ n + j = 40 ∧ Dk2 w.heap.size w8 b s r b' s' r' (fun ls f ls' f' => ls = ls' ∧ ∀ k, getM f k = getM f' k) W, ⟨40, 0, rfl, rfl, ⟨_, _, _, _, _, _, _, _, hD.ext e8, hD', by simp, by simp, rfl, fun _ => rfl⟩, Ch.refl _ _⟩, ?_⟩, ?_⟩
  · rintro n _ W g ⟨j, rfl, hj, hN⟩
    obtain ⟨⟨ls, f, wr, sy, ls', f', wr', sy', hA, hB, hL, hL', hP1, hP2⟩, hC⟩ := id hN
    unfold F10j1
    refine IfB.dec (fun hlt => IfB.dec (fun h40 => ?_) fun _ => ⟨rfl, hN⟩) fun _ => ⟨rfl, hN⟩
    have hjl : j < l.length := by omega
    have xW : Ext w W := x8.then hC fun k hk h => by omega
    have hx := List.getElem?_eq_getElem hjl
    refine stWriteAt hA (rep_ext xW h0) hx fun W1 f1 wr1 hf1 hA1 hC1 => ?_
    have hB1 := hB.ch hC1 fun i hi hi' => dis i hi' hi
    have hC' := hC.then hC1 fun k _ hk => (in1 k hk).1
    have xW1 : Ext w W1 := x8.then hC' fun k hk h => by omega
    refine stWriteAt hB1 (rep_ext xW1 h0) hx fun W2 f2 wr2 hf2 hB2 hC2 => ⟨rfl, n - 1, by omega, j + 1, wp1 (by omega), by omega, ⟨_, _, _, _, _, _, _, _, hA1.ch hC2 fun i hi hi' => dis i hi hi', hB2, hL, hL', hP1, fun k => ?_⟩, hC'.then hC2 fun k _ hk => (in2 k hk).1⟩
    rw [hf1, hf2, hP1, hP2]
  · rintro _ w38 g ⟨⟨ls, f, wr, sy, ls', f', wr', sy', hA, hB, hL, hL', hP1, hP2⟩, hC⟩
    refine stSync hA fun w42 ls2 hl2 hg2 hA2 hC2 => ?_
    have hB2 := hB.ch hC2 fun i hi hi' => dis i hi' hi
    have hC42 := hC.then hC2 fun k _ hk => (in1 k hk).1
    have hP : ∀ i : Nat, i < 16 → ls2[i]? = some (rdD ls' f' i) := fun i hi => by
      rw [hg2 i (by omega)]
      unfold rdD
      rw [hP2, hP1]
    refine ⟨fun n x W => ∃ j : Nat, x.2 = (j : Int) ∧ n + j = 16 ∧ OwS W x.1 1 (List.replicate j (.bool true)) ∧ (∀ i ∈ blk x.1, w8.heap.size ≤ i) ∧ Dk2 w.heap.size w8 b s r b' s' r' (fun ls f ls' f' => ∀ i : Nat, i < 16 → ls[i]? = some (rdD ls' f' i)) W, ⟨16, 0, rfl, rfl, .nil _ _, by simp [blk], ⟨_, _, _, _, _, _, _, _, hA2, hB2, by omega, hL', hP⟩, hC42⟩, ?_⟩
    rintro n ⟨t, _⟩ W g ⟨j, rfl, hj, ho, hbt, hN⟩
    obtain ⟨⟨ls, f, wr, sy, ls', f', wr', sy', hA, hB, hL, hL', hP⟩, hC⟩ := id hN
    have htn : t.n = j := by have := ho.len1; rw [List.length_replicate] at this; exact this
    dsimp only at ho hbt
    unfold F10j3
    refine IfB.dec (fun hlt => ⟨by decide, fun b51 w52 a52 => ?_⟩) fun hge => ?_
    · have e52 : Ext W w52 := a52.ch _
      refine (ho.ext e52).lit (new := [.bool true]) a52.new rfl (by intro x hx; simp at hx; subst hx; rfl) rfl rfl (by omega) (by decide) fun t' w' ho' hn' hc' hb' => ⟨rfl, n - 1, by dsimp only at hlt; omega, j + 1, wp1 (by dsimp only at hlt; omega), by dsimp only at hlt; omega, ?_, ?_, ?_, ?_⟩
      · rw [List.replicate_succ']; exact ho'
      · intro i hi
        rcases hb' i hi with h | h
        · exact hbt i h
        · have := hC.size; have := e52.size; omega
      · have hch : Ch (fun i => i ∈ blk t) W w' := (e52.mono fun _ _ h => h.elim).trans hc'
        exact ⟨_, _, _, _, _, _, _, _, hA.ch hch fun i hi hi' => (by have := hbt i hi'; have := in1 i hi; omega), hB.ch hch fun i hi hi' => (by have := hbt i hi'; have := in2 i hi; omega), hL, hL', hP⟩
      · exact (hC.then e52 fun _ _ h => h.elim).then hc' fun i _ hi => by have := hbt i hi; omega
    · have hj16 : j = 16 := by dsimp only at hge; omega
      subst hj16
      have hr : Rd W t 1 ((List.replicate 16 true).map Value.bool) := by
        rw [List.map_replicate]; exact ho.rd
      refine stCrash hB hr (fun _ i hi => ⟨ho.lt i hi, fun h => by have := hbt i hi; have := in2 i h; omega⟩) fun w61 xs hp hs hnd hrg hB1 hC1 => ?_
      have hx16 : xs.length ≤ 16 := by
        have : xs.length ≤ ((List.range 16).map fun k : Nat => (k : Int)).length := nodup_len hnd fun x hx => by
          have := hrg x hx
          rw [List.mem_map]
          exact ⟨x.toNat, by rw [List.mem_range]; omega, by omega⟩
        simpa using this
      have hA1 := hA.ch hC1 fun i hi hi' => dis i hi hi'
      have hC61 := hC.then hC1 fun k _ hk => (in2 k hk).1
      have hlast : ∀ i : Nat, i < 16 → ls[i]? = (lsAt f' (ansL (List.replicate 16 true)) xs ls' xs.length)[i]? := fun i hi => by
        rw [hP i hi, lsAt_all hp hrg (fun q hq => ?_) (by omega)]
        unfold ansL
        rw [List.getElem?_replicate, if_pos (by omega)]; rfl
      generalize hlb : lsAt f' (ansL (List.replicate 16 true)) xs ls' xs.length = lb at hB1 hlast
      have hlbn : lb.length = 16 := by rw [← hlb, lsAt_len]; exact hL'
      let Q : List Sec → List (Int × Sec) → List Sec → List (Int × Sec) → Prop := fun ls f ls' f' => f' = [] ∧ ∀ i : Nat, i < 16 → ls[i]? = ls'[i]?
      refine ⟨fun _ => Dk2 w.heap.size w8 b s r b' s' r' Q, ⟨fun n x W => ∃ j : Nat, x = (j : Int) ∧ n + j = 40 ∧ Dk2 w.heap.size w8 b s r b' s' r' Q W, ⟨40, 0, rfl, rfl, ⟨_, _, _, _, _, _, _, _, hA1, hB1, hL, hlbn, rfl, hlast⟩, hC61⟩, ?_⟩, ?_⟩
      · rintro n _ W g ⟨j, rfl, hj, hN⟩
        obtain ⟨⟨ls, f, wr, sy, ls', f', wr', sy', hA, hB, hL, hL', hP1, hP2⟩, hC⟩ := id hN
        unfold F10j4
        refine IfB.dec (fun hlt => IfB.dec (fun h40 => ?_) fun _ => ⟨rfl, hN⟩) fun _ => ⟨rfl, hN⟩
        have hjl : j < m.length := by omega
        have xW : Ext w W := x8.then hC fun k hk h => by omega
        exact stWriteAt hA (rep_ext xW h1) (List.getElem?_eq_getElem hjl) fun W1 f1 wr1 hf1 hA1 hC1 => ⟨rfl, n - 1, by omega, j + 1, wp1 (by omega), by omega, ⟨_, _, _, _, _, _, _, _, hA1, hB.ch hC1 fun i hi hi' => dis i hi' hi, hL, hL', hP1, hP2⟩, hC.then hC1 fun k _ hk => (in1 k hk).1⟩
      · rintro _ w82 g ⟨⟨ls, f, wr, sy, ls', f', wr', sy', hA, hB, hL, hL', rfl, hP2⟩, hC⟩
        unfold F10j5
        refine stCrash0 hA fun w89 hA2 hC2 => ?_
        have hB2 := hB.ch hC2 fun i hi hi' => dis i hi' hi
        have hC89 := hC.then hC2 fun k _ hk => (in1 k hk).1
        refine ⟨fun n x W => ∃ j : Nat, x = (j : Int) ∧ n + j = 16 ∧ Ext w89 W, ⟨16, 0, rfl, rfl, Ch.refl _ _⟩, ?_⟩
        rintro n _ W g ⟨j, rfl, hj, e⟩
        unfold F10j6
        refine IfB.dec (fun hlt => ?_) fun _ => ⟨rfl, (x8.then hC89 fun k hk h => by omega).trans e⟩
        unfold F10k1
        refine stRead (hA2.ext e) (by omega) fun w99 e99 => boxSec (x := rdD ls [] j) rfl fun b101 w103 p101 q101 _ e103 => stRead (((hB2.ext e).ext e99).ext e103) (by omega) fun w105 e105 => boxSec (x := rdD ls' [] j) rfl fun b107 w109 p107 q107 _ e109 => ?_
        refine ⟨_, (q101.ch e105 id).ch e109 id, _, q107, _, eqSec _ _, IfB.no ?_ ⟨rfl, n - 1, by omega, j + 1, wp1 (by omega), by omega, (((e.trans e99).trans e103).trans e105).trans e109⟩⟩
        rw [Bool.not_eq_false', secI_eq, rdD_nil, rdD_nil, hP2 j (by omega)]
end Go.Proofs.Ytopecljhehcldaa.Gx
