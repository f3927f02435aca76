/- Package disk: a copy; DiskTwice: a crash behind a crash turns nothing. -/
import Derived.Test.YtopecljhehcldaaDiskM
import Derived.Test.YtopecljhehcldaaGxFH
import Derived.Test.YtopecljhehcldaaGxMC
namespace Go.Proofs.Ytopecljhehcldaa.Gx
open Go
set_option linter.unusedSimpArgs false
set_option linter.unusedVariables false

theorem secs_one (ls : List Sec) : One (ls.flatMap secL) := by
  intro v hv
  obtain ⟨x, _, hx⟩ := List.mem_flatMap.1 hv
  exact secL_one x v hx
theorem F82_eq (t0 : Sl) (w : World) (R : Value → World → Prop) : F82 t0 w R = CloneF tt67 67 8 t0 w R := rfl
section
variable {w : World} {b : Nat} {s : Sl} {r : Nat} {ls : List Sec} {f : List (Int × Sec)} {wr sy : Int}
theorem c82 {t : Sl} (ht : OwS w t 8 (ls.flatMap secL)) (hl : ls.length ≤ 4096) : CW Try.prog 82 #[slV t] w fun v w' => ∃ t', v = slV t' ∧ OwS w' t' 8 (ls.flatMap secL) ∧ Ext w w' ∧ ∀ i ∈ blk t', w.heap.size ≤ i := by
  refine F82_ok t w _ ?_
  rw [F82_eq]
  have hn : t.n = ls.length := by have := ht.len; rw [secs_len] at this; omega
  refine CloneF_of ht.rd rfl rfl (secs_one _) ⟨by omega, ?_⟩ (fun s' w' h1 h2 h3 h4 => ⟨s', rfl, h1, h3, h4⟩) fun hp => ?_
  · show (2 * t.n + 1024) * 64 ≤ _
    omega
  · rcases Nat.eq_zero_or_pos t.n with h | h
    · exact h
    · obtain ⟨a, ha⟩ := ht.ptr h
      rw [ha] at hp; cases hp

/-- A copy is a device of its own. -/
theorem c43 (h : Dk w b s r ls f wr sy) : CW Try.prog 43 #[.pointer (some ⟨b, 0, none⟩)] w fun v w' => ∃ b' s' r', v = .pointer (some ⟨b', 0, none⟩) ∧ Dk w' b' s' r' ls f wr sy ∧ Ext w w' ∧ ∀ i, inDk b' s' r' i → w.heap.size ≤ i := by
  have ed := extDrew w
  have H := h.ext ed
  refine F43_ok _ w _ (IfB.no rfl ⟨b, 0, rfl, s, H.c0, b, 0, rfl, some r, H.c1, b, 0, rfl, wr, H.c2, b, 0, rfl, sy, H.c3, (c82 H.arr H.len.2).use ?_⟩)
  rintro _ w14 ⟨t', rfl, ho, e14, hb⟩
  have H14 := H.ext e14
  refine ⟨t', rfl, H14.c3, H14.c2, H14.c1, (c83 H14.map).use ?_⟩
  rintro _ w17 ⟨r', rfl, hm, e17, hr'⟩
  have H17 := H14.ext e17
  refine ⟨some r', rfl, H17.c3, H17.c2, fun b19 w20 a20 => ?_⟩
  have e20 : Ext w17 w20 := a20.ch _
  have p20 := a20.here
  have ho17 := ho.ext e17
  have z14 := e14.size; have z17 := e17.size
  refine ⟨b19, t', r', rfl, ⟨⟨_, a20.new⟩, ho17.ext e20, h.len, hm.ext e20, fun hi => ?_, h.rng⟩, ((ed.trans e14).trans e17).trans e20, ?_⟩
  · have := ho17.lt _ hi; omega
  · have z0 : w.drew.heap.size = w.heap.size := rfl
    rintro i (rfl | rfl | hi)
    · omega
    · omega
    · have := hb i hi; omega

theorem stCopy (h : Dk w b s r ls f wr sy) {K : Option Addr → World → Prop} (hK : ∀ w' b' s' r', Dk w' b' s' r' ls f wr sy → Ext w w' → (∀ i, inDk b' s' r' i → w.heap.size ≤ i) → K (some ⟨b', 0, none⟩) w') :
    CX Try.prog 43 #[.pointer (some ⟨b, 0, none⟩)] w fun v w' => ∃ p : Option Addr, v = .pointer p ∧ K p w' := by
  refine (c43 h).use ?_
  rintro _ w' ⟨b', s', r', rfl, hD, e, hb⟩
  exact ⟨_, rfl, hK w' b' s' r' hD e hb⟩
theorem stLasting (h : Dk w b s r ls f wr sy) {i : Nat} {x : Sec} (hi : ls[i]? = some x) {K : Sec → World → Prop} (hK : ∀ w', Ext w w' → K x w') :
    CX Try.prog 44 #[.pointer (some ⟨b, 0, none⟩), iv i] w fun v w' => ∃ x : Sec, v = secV x ∧ K x w' := by
  refine (c44 h i).use ?_
  rintro _ w' ⟨rfl, e⟩
  rw [if_pos (by omega), Int.toNat_natCast, hi]
  exact ⟨x, rfl, hK w' e⟩
theorem stDirty0 (h : Dk w b s r ls [] wr sy) {K : Bool → World → Prop} (hK : ∀ w', Ext w w' → K true w') :
    CX Try.prog 42 #[.pointer (some ⟨b, 0, none⟩)] w fun v w' => ∃ s : Sl, v = slV s ∧ K ((s.n : Int) == 0) w' := by
  refine (c42 h).use ?_
  rintro _ w' ⟨t, ys, rfl, hpy, _, ho, e, _⟩
  have : t.n = 0 := by
    have := ho.len1
    rw [List.length_map] at this
    rw [this, hpy.length_eq]; rfl
  refine ⟨t, rfl, ?_⟩
  rw [this]
  exact hK w' e
end

theorem diskTwice (w : World) {l : List tyOp.den} {c0 : Value} (h0 : rep (fun _ => True) w (.sl tyOp) l [c0]) {keep : List Bool} {c1 : Value} (h1 : rep (fun _ => True) w (.sl .bool) keep [c1]) {other : List Bool} {c2 : Value} (h2 : rep (fun _ => True) w (.sl .bool) other [c2]) :
    CW Try.prog 11 #[c0, c1, c2] w fun v w' => v = .bool true ∧ Ext w w' := by
  obtain ⟨tl, e0, hln, _, _, _, _⟩ := id h0
  obtain ⟨tk, e1, hkn, _, _, _, _⟩ := id h1
  obtain ⟨to, e2, hon, _, _, _, _⟩ := id h2
  simp only [List.cons.injEq, and_true] at e0 e1 e2
  subst e0 e1 e2
  refine F11_ok tl tk to w _ ((c35 w).use ?_)
  rintro _ w2 ⟨rfl, e2⟩
  refine ⟨true, rfl, IfB.no rfl ⟨fun _ W => W = w2, IfB.intro (fun _ => ⟨rfl, rfl⟩) (fun _ => ⟨rfl, rfl⟩), ?_⟩⟩
  rintro t w6 g rfl
  unfold F11j1
  refine IfB.intro (fun _ => ⟨rfl, e2⟩) fun _ => stNew (n := 16) (by omega) w6 fun w10 b s r hD e10 hb => ?_
  have x10 : Ext w w10 := e2.trans e10
  have z2 := e2.size
  have z10 := e10.size
  have in1 : ∀ i, inDk b s r i → w.heap.size ≤ i ∧ i < w10.heap.size := fun i hi => by have := hb i hi; have := hD.lt hi; omega
  let N : World → Prop := fun W => (∃ ls f wr sy, Dk W b s r ls f wr sy ∧ ls.length = 16) ∧ Ch (fun i => w.heap.size ≤ i) w10 W
  refine ⟨fun _ => N, ⟨fun n x W => ∃ j : Nat, x = (j : Int) ∧ n + j = 40 ∧ N W, ⟨40, 0, rfl, rfl, ⟨_, _, _, _, hD, by simp⟩, Ch.refl _ _⟩, ?_⟩, ?_⟩
  · rintro n _ W g ⟨j, rfl, hj, hN⟩
    obtain ⟨⟨ls, f, wr, sy, hA, hL⟩, hC⟩ := id hN
    unfold F11j2
    refine IfB.dec (fun hlt => IfB.dec (fun h40 => ?_) fun _ => ⟨rfl, hN⟩) fun _ => ⟨rfl, hN⟩
    have hjl : j < l.length := by omega
    have xW : Ext w W := x10.then hC fun k hk h => by omega
    exact stWriteAt hA (rep_ext xW h0) (List.getElem?_eq_getElem hjl) fun W1 f1 wr1 hf1 hA1 hC1 => ⟨rfl, n - 1, by omega, j + 1, wp1 (by omega), by omega, ⟨_, _, _, _, hA1, hL⟩, hC.then hC1 fun k _ hk => (in1 k hk).1⟩
  · rintro _ w31 g ⟨⟨ls, f, wr, sy, hA, hL⟩, hC⟩
    unfold F11j3
    have x31 : Ext w w31 := x10.then hC fun k hk h => by omega
    refine stCrash hA (rd_bools (rep_ext x31 h1)) (fun hn i hi => ?_) fun w38 xs hp hs hnd hrg hA1 hC1 => ?_
    · have := rep_blk_lt h1 (by decide) hn i hi
      exact ⟨by have := x31.size; omega, fun h => by have := in1 i h; omega⟩
    have hC38 := hC.then hC1 fun k _ hk => (in1 k hk).1
    generalize hlb : lsAt f (ansL keep) xs ls xs.length = lb at hA1
    have hlbn : lb.length = 16 := by rw [← hlb, lsAt_len]; exact hL
    refine stCopy hA1 fun w41 b' s' r' hB e41 hb' => ?_
    have hA2 := hA1.ext e41
    have hC41 := hC38.then e41 fun _ _ h => h.elim
    have z38 := hC38.size
    have dis : ∀ i, inDk b s r i → ¬ inDk b' s' r' i := fun i hi hi' => by have := in1 i hi; have := hb' i hi'; omega
    have x41 : Ext w w41 := x10.then hC41 fun k hk h => by omega
    refine stCrash hB (rd_bools (rep_ext x41 h2)) (fun hn i hi => ?_) fun w47 ys hp' hs' hnd' hrg' hB1 hC2 => ?_
    · have := rep_blk_lt h2 (by decide) hn i hi
      exact ⟨by have := x41.size; omega, fun h => by have := hb' i h; omega⟩
    have : ys = [] := by
      have := hp'.length_eq
      exact List.eq_nil_of_length_eq_zero this
    subst this
    have hB1 : Dk w47 b' s' r' lb [] wr sy := hB1
    have hA3 := hA2.ch hC2 dis
    have hC47 := hC41.then hC2 fun k _ hk => (by have := hb' k hk; omega : w.heap.size ≤ k)
    refine ⟨fun n x W => ∃ j : Nat, x = (j : Int) ∧ n + j = 16 ∧ Ext w47 W, ⟨16, 0, rfl, rfl, Ch.refl _ _⟩, ?_⟩
    rintro n _ W g ⟨j, rfl, hj, e⟩
    unfold F11j4
    refine IfB.dec (fun hlt => ?_) fun _ => stDirty0 (K := fun b W => Value.bool b = Value.bool true ∧ Ext w W) (hB1.ext e) fun w83 e83 => ⟨rfl, (x10.then hC47 fun k hk h => by omega).trans (e.trans e83)⟩
    have hx : lb[j]? = some lb[j] := List.getElem?_eq_getElem (by omega)
    have hrd : rdD lb [] (j : Int) = lb[j] := by rw [rdD_nil, hx]; rfl
    unfold F11k2
    refine stRead (hA3.ext e) (by omega) fun w57 e57 => boxSec (x := rdD lb [] j) rfl fun b59 w61 p59 q59 _ e61 => stRead (((hB1.ext e).ext e57).ext e61) (by omega) fun w63 e63 => boxSec (x := rdD lb [] j) rfl fun b65 w67 p65 q65 _ e67 => ?_
    have ed := extDrew w67
    have e67' : Ext W w67 := ((e57.trans e61).trans e63).trans e67
    have q59' := ((q59.ch e63 id).ch e67 id).ch ed id
    refine ⟨fun t W' => t = false ∧ Ext W W', IfB.no rfl (IfB.no rfl ?_), ?_⟩
    · unfold F11k1
      refine ⟨_, q59', _, q65.ch ed id, true, eqSecY _, IfB.no rfl ⟨_, q59', stLasting (((hA3.ext e).ext e67').ext ed) hx fun w74 e74 => ⟨q59'.ch e74 id, true, ?_, rfl, rfl, (e67'.trans ed).trans e74⟩⟩⟩
      have := eqSecY lb[j]
      rw [← hrd] at this ⊢
      exact this
    · rintro _ w78 g ⟨rfl, e78⟩
      exact IfB.no rfl ⟨rfl, n - 1, by omega, j + 1, wp1 (by omega), by omega, e.trans e78⟩
end Go.Proofs.Ytopecljhehcldaa.Gx
