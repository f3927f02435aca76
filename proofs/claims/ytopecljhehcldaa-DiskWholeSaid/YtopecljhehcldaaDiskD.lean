/- Package disk: Read, Write. -/
import Derived.Test.YtopecljhehcldaaDiskC
namespace Go.Proofs.Ytopecljhehcldaa.Gx
open Go
set_option linter.unusedSimpArgs false
set_option linter.unusedVariables false

/-- What is read. -/
def rdD (ls : List Sec) (f : List (Int × Sec)) (i : Int) : Sec := match getM f i with
  | some v => v
  | none => (ls[i.toNat]?).getD sec0
section
variable {w : World} {b : Nat} {s : Sl} {r : Nat} {ls : List Sec} {f : List (Int × Sec)} {wr sy : Int}

theorem sec_at {w : World} {b : Nat} {T : TypeId} {x : Sec} (h : w.heap[b]? = some (.cells (secL x).toArray T (0, 0))) : CellsAt w b 0 (secL x) := cellsAt_of h fun i v hv => by simpa [secL] using hv

theorem c41 (h : Dk w b s r ls f wr sy) (i : Int) : CW Try.prog 41 #[.pointer (some ⟨b, 0, none⟩), iv i] w fun v w' => v = .tuple #[secV (if 0 ≤ i ∧ i < (ls.length : Int) then rdD ls f i else sec0), iv (if 0 ≤ i ∧ i < (ls.length : Int) then 0 else 3)] ∧ Ext w w' := by
  refine F41_ok _ i w _ ?_
  intro b1 w2 h2
  have e2 : Ext w w2 := h2.ch _
  have p2 := h2.here
  refine (c76 (h.ext e2) i).use ?_
  rintro _ _ ⟨rfl, rfl⟩
  refine ⟨_, rfl, IfB.intro (fun hn => ⟨rfl, store_all (vs := secL sec0) h2.new rfl (secL_one _) fun w6 h6 => ⟨sec0, sec_at h6.new, ?_, Ext.fresh h2 h6⟩⟩) fun hn => ?_⟩
  · have hn : ¬ (0 ≤ i ∧ i < (ls.length : Int)) := by simpa only [Bool.not_eq_true', decide_eq_false_iff_not] using hn
    rw [if_neg hn, if_neg hn]; rfl
  · have hn : 0 ≤ i ∧ i < (ls.length : Int) := by simpa only [Bool.not_eq_false', decide_eq_true_eq] using hn
    rw [if_pos hn, if_pos hn]
    have H2 := h.ext e2
    have fin : ∀ {w15 w16 : World} {b14 : Nat} {o o' : Obj} (x : Sec), IsAlloc w2 o b14 w15 → IsUpd w15 b14 o' w16 → ∀ w18 T, IsUpd w16 b1 (.cells (secL x).toArray T (0, 0)) w18 → Ext w w18 := fun x h15 h16 w18 T h18 => by
      have := h15.here; have := h2.size
      exact ((e2.trans (Ext.fresh h15 h16)).then h18.ch fun j hj e => by omega)
    refine ⟨b, 0, rfl, some r, H2.c1, H2.map.get ?_⟩
    unfold rdD
    cases hg : getM f i with
    | some v =>
      refine ⟨v, rfl, fun b14 w15 h15 => ⟨rfl, store_all (vs := secL v) h15.new rfl (secL_one _) fun w16 h16 => IfB.yes rfl ⟨v, sec_at h16.new, rfl, ?_⟩⟩⟩
      have q1 := h15.here; have q2 := h2.size
      have hb1 := ((h16.old b1 (by omega)).trans (h15.old b1 (by omega))).trans h2.new
      exact store_all (vs := secL v) hb1 rfl (secL_one _) fun w18 h18 => ⟨v, sec_at h18.new, rfl, fin v h15 h16 w18 _ h18⟩
    | none =>
      have hi : i.toNat < ls.length := by omega
      have hx : ls[i.toNat]? = some ls[i.toNat] := List.getElem?_eq_getElem hi
      generalize ls[i.toNat] = x at hx
      have hsn := h.n
      refine ⟨sec0, rfl, fun b14 w15 h15 => ⟨rfl, store_all (vs := secL sec0) h15.new rfl (secL_one _) fun w16 h16 => IfB.no rfl ?_⟩⟩
      have q1 := h15.here; have q2 := h2.size
      have hb1 := ((h16.old b1 (by omega)).trans (h15.old b1 (by omega))).trans h2.new
      have H16 := H2.ext (Ext.fresh h15 h16)
      obtain ⟨a, ha, hc⟩ := H16.sec hx
      refine ⟨b, 0, rfl, s, H16.c0, a, 0, ha, ⟨hn.1, by show i < (s.n : Int); omega⟩, x, by rw [Nat.zero_add]; exact hc, rfl, store_all (vs := secL x) hb1 rfl (secL_one _) fun w18 h18 => ⟨x, sec_at h18.new, ?_, fin x h15 h16 w18 _ h18⟩⟩
      rw [hx]; rfl
end
end Go.Proofs.Ytopecljhehcldaa.Gx
