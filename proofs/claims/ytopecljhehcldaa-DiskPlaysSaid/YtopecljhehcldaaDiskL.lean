/- Package disk: DiskLasts: what was synced, and not written since, lasts whatever is chosen. -/
import Derived.Test.YtopecljhehcldaaDiskK
import Derived.Test.YtopecljhehcldaaGxFF
import Derived.Test.YtopecljhehcldaaGxC
namespace Go.Proofs.Ytopecljhehcldaa.Gx
open Go
set_option linter.unusedSimpArgs false
set_option linter.unusedVariables false

/-- A new device behind some steps. -/
def DkN (w0 : World) (b : Nat) (s : Sl) (r : Nat) (P : List Sec → List (Int × Sec) → Prop) (W : World) : Prop :=
  (∃ ls f wr sy, Dk W b s r ls f wr sy ∧ ls.length = 16 ∧ P ls f) ∧ Ch (fun i => w0.heap.size ≤ i) w0 W

theorem lsAt_not {f : List (Int × Sec)} {ans : Nat → Bool} {xs : List Int} {ls : List Sec} (hx : ∀ k ∈ xs, 0 ≤ k ∧ k < (ls.length : Int)) (hn : xs.Nodup) {i : Nat} (hi : (i : Int) ∉ xs) : (lsAt f ans xs ls xs.length)[i]? = ls[i]? := by
  rw [lsAt_get hx hn _ (Nat.le_refl _), if_neg]
  rintro ⟨m, h1, h2, _⟩
  exact hi (List.mem_of_getElem? h2)

theorem diskLasts (w : World) {l : List tyOp.den} {c0 : Value} (h0 : rep (fun _ => True) w (.sl tyOp) l [c0]) {i : Int} {c1 : Value} (h1 : rep (fun _ => True) w (.int .u8) i [c1]) {x : List Int} {cs : Array Value} (h2 : rep (fun _ => True) w (.arr 8 (.int .u64)) x cs.toList)
    {m : List tyOp.den} {c3 : Value} (h3 : rep (fun _ => True) w (.sl tyOp) m [c3]) {keep : List Bool} {c4 : Value} (h4 : rep (fun _ => True) w (.sl .bool) keep [c4]) :
    CW Try.prog 9 #[c0, c1, .agg cs, c3, c4] w fun v w' => v = .bool true ∧ Ext w w' := by
  obtain ⟨tl, e0, hln, _, _, _, _⟩ := id h0
  obtain ⟨tm, e3, hmn, _, _, _, _⟩ := id h3
  obtain ⟨tk, e4, hkn, hkc, _, hkA, _⟩ := id h4
  simp only [List.cons.injEq, and_true] at e0 e3 e4
  subst e0 e3 e4
  obtain ⟨e1, hi⟩ := h1
  simp only [List.cons.injEq, and_true] at e1
  subst e1
  have hcs := rep_arr8 h2
  have hcs' : cs = (secL (secOf x)).toArray := by rw [← hcs]
  subst hcs'
  generalize secOf x = sx
  have hi0 : 0 ≤ i ∧ i ≤ 255 := u8_range hi
  have hrb := rd_bools h4
  refine F9_ok tl i sx tm tk w _ ?_
  intro b1 w2 a2
  have e2 : Ext w w2 := a2.ch _
  refine (c35 w2).use ?_
  rintro _ w4 ⟨rfl, e4⟩
  refine ⟨true, rfl, IfB.no rfl (stNew (n := 16) (by omega) w4 fun w7 b s r hD e7 hb => ?_)⟩
  have C7 : CellsAt w7 b1 0 (secL sx) := ((sec_at a2.new).ch e4 id).ch e7 id
  have x7 : Ext w w7 := (e2.trans e4).trans e7
  have y7 : Ext w2 w7 := e4.trans e7
  have z4 := e4.size
  have z2 := a2.size
  have p2 := a2.here
  have hin : ∀ i, inDk b s r i → w2.heap.size ≤ i := fun i hi => by have := hb i hi; omega
  have nb1 : ¬ inDk b s r b1 := fun h => by have := hin _ h; omega
  refine ⟨fun _ => DkN w2 b s r fun _ _ => True, ⟨fun n x W => ∃ j : Nat, x = (j : Int) ∧ n + j = 40 ∧ DkN w2 b s r (fun _ _ => True) W, ⟨40, 0, rfl, rfl, ⟨_, _, _, _, hD, by simp, trivial⟩, y7.mono fun _ _ h => h.elim⟩, ?_⟩, ?_⟩
  · rintro n _ W g ⟨j, rfl, hj, hN⟩
    obtain ⟨⟨ls, f, wr, sy, hD, hL, _⟩, hC⟩ := id hN
    unfold F9j1
    refine IfB.dec (fun hlt => IfB.dec (fun h40 => ?_) fun _ => ⟨rfl, hN⟩) fun _ => ⟨rfl, hN⟩
    have hjl : j < l.length := by omega
    have xW : Ext w W := e2.then hC fun k hk h => by omega
    unfold F9k1
    refine stWriteAt hD (rep_ext xW h0) (List.getElem?_eq_getElem hjl) fun W' f' wr' _ hD' hC' => ⟨rfl, n - 1, by omega, j + 1, wp1 (by omega), by omega, ⟨_, _, _, _, hD', hL, trivial⟩, hC.then hC' fun k _ hk => hin k hk⟩
  · rintro _ w28 g ⟨⟨ls, f, wr, sy, hD, hL, _⟩, hC⟩
    unfold F9j2
    have C28 : CellsAt w28 b1 0 (secL sx) := (sec_at a2.new).ch hC fun h => by omega
    have hat : IntKind.i64.wrap (i.tmod (16 : Int)) = ((i.toNat % 16 : Nat) : Int) := by
      obtain ⟨n, rfl⟩ := Int.eq_ofNat_of_zero_le hi0.1
      rw [Int.toNat_natCast]
      show IntKind.i64.wrap (((n % 16 : Nat)) : Int) = _
      rw [wrap_of (by omega) (by omega)]
    rw [hat]
    generalize hat' : i.toNat % 16 = at'
    have ha16 : at' < 16 := by omega
    refine ⟨by decide, sx, C28, stWrite hD _ _ fun w33 f1 wr1 hf1 hD1 hC1 => stSync hD1 fun w36 ls2 hl2 hg2 hD2 hC2 => ?_⟩
    have hx2 : ls2[at']? = some sx := by
      rw [hg2 at' (by omega)]
      unfold rdD
      rw [hf1, if_pos ⟨rfl, by omega, by omega⟩]
    have hC36 : Ch (fun i => w2.heap.size ≤ i) w2 w36 := (hC.then hC1 fun k _ hk => hin k hk).then hC2 fun k _ hk => hin k hk
    refine ⟨fun _ => DkN w2 b s r fun ls f => ls[at']? = some sx ∧ getM f (at' : Int) = none, ⟨fun n x W => ∃ j : Nat, x = (j : Int) ∧ n + j = 40 ∧ DkN w2 b s r (fun ls f => ls[at']? = some sx ∧ getM f (at' : Int) = none) W, ⟨40, 0, rfl, rfl, ⟨_, _, _, _, hD2, by omega, hx2, rfl⟩, hC36⟩, ?_⟩, ?_⟩
    · rintro n _ W g ⟨j, rfl, hj, hN⟩
      obtain ⟨⟨ls3, f3, wr3, sy3, hD3, hL3, hP1, hP2⟩, hC3⟩ := id hN
      unfold F9j3
      refine IfB.dec (fun hlt => IfB.dec (fun h40 => ?_) fun _ => ⟨rfl, hN⟩) fun _ => ⟨rfl, hN⟩
      have hjl : j < m.length := by omega
      have xW : Ext w W := e2.then hC3 fun k hk h => by omega
      have hx := List.getElem?_eq_getElem hjl
      obtain ⟨hn, a, o, tk', hp, _, q0, q1, q2, _⟩ := op_get (rep_ext xW h3) hx
      refine ⟨a, o, hp, ⟨by omega, by omega⟩, m[j].2.1, by rw [Int.toNat_natCast]; exact q1, IfB.intro (fun hne => ?_) fun _ => ⟨rfl, n - 1, by omega, j + 1, wp1 (by omega), by omega, hN⟩⟩
      rw [hat, hat'] at hne
      have hne : m[j].2.1 ≠ (at' : Int) := by simpa using hne
      unfold F9k1
      refine stWriteAt hD3 (rep_ext xW h3) hx fun W' f' wr' hf' hD' hC' => ⟨rfl, n - 1, by omega, j + 1, wp1 (by omega), by omega, ⟨_, _, _, _, hD', hL3, hP1, ?_⟩, hC3.then hC' fun k _ hk => hin k hk⟩
      rw [hf', if_neg (fun h => hne h.1)]; exact hP2
    · rintro _ w61 g ⟨⟨ls3, f3, wr3, sy3, hD3, hL3, hP1, hP2⟩, hC3⟩
      unfold F9j4
      have xW : Ext w w61 := e2.then hC3 fun k hk h => by omega
      refine stCrash hD3 (rd_bools (rep_ext xW h4)) (fun hn0 k hk => ?_) fun w68 xs hp hs hnd hrg hD4 hC4 => ?_
      · obtain ⟨a, o, c, hz, _⟩ : ∃ a o c, tk = ⟨some ⟨a, o, none⟩, tk.n, tk.c⟩ ∧ w.cell? ⟨a, o, none⟩ = some c := by
          obtain ⟨v, hv⟩ : ∃ v, (keep.map Value.bool)[0]? = some v := ⟨_, List.getElem?_eq_getElem (by rw [List.length_map]; omega)⟩
          obtain ⟨a, o, ha, hc⟩ := hrb.elem1 hv
          exact ⟨a, o, v, by rw [← ha], by simpa using hc⟩
        rename_i hcell
        have hlt : a < w.heap.size := by
          unfold World.cell? at hcell
          split at hcell
          · rename_i ho; exact heap_lt ho
          · cases hcell
        rw [hz] at hk
        simp [blk] at hk
        subst hk
        refine ⟨by have := xW.size; omega, fun h => ?_⟩
        have := hin _ h; have := e2.size; omega
      · rw [hat, hat']
        refine stRead hD4 (by rw [lsAt_len]; omega) fun w71 e71 => ?_
        have hr : rdD (lsAt f3 (ansL keep) xs ls3 xs.length) [] (at' : Int) = sx := by
          unfold rdD
          rw [getM_nil]
          dsimp only
          rw [Int.toNat_natCast, lsAt_not hrg hnd (fun h => (xs_few hp _).1 h hP2), hP1]; rfl
        have hC71 : Ch (fun i => w2.heap.size ≤ i) w2 w71 := (hC3.then hC4 fun k _ hk => hin k hk).then e71 fun _ _ h => h.elim
        rw [hr]
        refine boxSec (x := sx) rfl fun b73 w75 p75 c75 _ e75 => ?_
        have D75 := (hD4.ext e71).ext e75
        have hC75 := hC71.then e75 fun _ _ h => h.elim
        have C75 : CellsAt w75 b1 0 (secL sx) := (sec_at a2.new).ch hC75 fun h => by omega
        refine IfB.yes rfl ⟨sx, c75, sx, C75, true, eqSecY sx, IfB.yes rfl ((c42 D75).use ?_)⟩
        rintro _ w80 ⟨t, ys, rfl, hpy, _, ho, e80, _⟩
        have : t.n = 0 := by
          have := ho.len1
          rw [List.length_map] at this
          rw [this, hpy.length_eq]; rfl
        refine ⟨t, rfl, ?_, e2.then (hC75.then e80 fun _ _ h => h.elim) fun k hk h => by omega⟩
        rw [show t.2 = t.n from rfl, this]; rfl
end Go.Proofs.Ytopecljhehcldaa.Gx
