/- Package disk: Sync, Crash; Keeps. -/
import Derived.Test.YtopecljhehcldaaDiskG
import Derived.Test.YtopecljhehcldaaGxR
namespace Go.Proofs.Ytopecljhehcldaa.Gx
open Go
set_option linter.unusedSimpArgs false
set_option linter.unusedVariables false

theorem c38 {w : World} {b : Nat} {s : Sl} {r : Nat} {ls : List Sec} {f : List (Int × Sec)} {wr sy : Int} (h : Dk w b s r ls f wr sy) :
    CW Try.prog 38 #[.pointer (some ⟨b, 0, none⟩)] w fun v w' => v = .tuple #[] ∧ ∃ xs : List Int, xs.Perm (f.map (·.1)) ∧ xs.Pairwise (· ≤ ·) ∧ Dk w' b s r (lsAt f (fun _ => true) xs ls xs.length) [] wr (IntKind.i64.wrap (sy + 1)) ∧ Ch (inDk b s r) w w' := by
  obtain ⟨hrb, hrs⟩ := h.rb
  refine F38_ok _ w _ (IfB.no rfl ((c77 (gk := 78) (cap := #[]) (ans := fun _ => true) (FK := fun _ => False) (S := fun _ _ => True) h trivial (fun _ _ _ _ _ => trivial) (fun _ _ => id) (fun _ h => h.elim) fun j i W _ _ => ?_).use ?_))
  · exact F78_ok i W _ ⟨rfl, trivial, Ch.refl _ _⟩
  · rintro _ w2 ⟨rfl, xs, hp, hs, hD, _, hC⟩
    obtain ⟨T, hT⟩ := hD.box
    refine ⟨(), rfl, b, 0, rfl, sy, hD.c3, b, 0, rfl, rfl, store_one hT (by simp) rfl fun w9 h9 => ⟨rfl, xs, hp, hs, ?_, (hC.mono fun i _ h => h.elim id False.elim).then h9.ch fun i _ e => .inl e⟩⟩
    exact hD.keep ⟨T, h9.new⟩ (hD.map.ch h9.ch hrb) (by simp) fun i hi => h9.old i fun e => h.self (e ▸ hi)

/-- How a list of answers is read. -/
def ansL (l : List Bool) (j : Nat) : Bool := (l[j]?).getD false
theorem c79 {w : World} {bn bl : Nat} {t : Sl} {l : List Bool} {j : Nat} {T1 T2 : TypeId} (hn : w.heap[bn]? = some (.cells #[iv j] T1 (0, 0))) (hl : w.heap[bl]? = some (.cells #[slV t] T2 (0, 0))) (hne : bn ≠ bl) (hr : Rd w t 1 (l.map Value.bool)) (hnb : 0 < t.n → bn ∉ blk t) (hj : j ≤ 100000000) (i : Int) :
    CW Try.prog 79 #[iv i, .pointer (some ⟨bn, 0, none⟩), .pointer (some ⟨bl, 0, none⟩)] w fun v w' => v = .bool (ansL l j) ∧ w'.heap[bn]? = some (.cells #[iv ((j + 1 : Nat) : Int)] T1 (0, 0)) ∧ Ch (fun i => i = bn) w w' := by
  have htn : t.n = l.length := by have := hr.len1; rw [List.length_map] at this; exact this
  refine F79_ok i bn bl w _ ⟨(j : Int), by rw [cell_of hn]; rfl, rfl, store_one hn (by simp) rfl fun w2 h2 => ?_⟩
  have hw : IntKind.i64.wrap ((j : Int) + (1 : Int)) = ((j + 1 : Nat) : Int) := wp1 (by omega)
  rw [hw] at h2
  have hl2 := h2.ch.at hl (fun e => hne e.symm)
  have hr2 := hr.ch0 h2.ch fun h0 q hq (e : q = bn) => hnb h0 (e ▸ hq)
  have hN := h2.new
  refine ⟨((j + 1 : Nat) : Int), by rw [cell_of hN]; rfl, t, by rw [cell_of hl2]; rfl, IfB.dec (fun hle => ?_) (fun hgt => ⟨?_, hN, h2.ch⟩)⟩
  · have hj' : j < l.length := by omega
    have hv : (l.map Value.bool)[j]? = some (.bool l[j]) := by rw [List.getElem?_map, List.getElem?_eq_getElem hj']; rfl
    obtain ⟨a, o, ha, hc⟩ := hr2.elem1 hv
    refine ⟨t, by rw [cell_of hl2]; rfl, ((j + 1 : Nat) : Int), by rw [cell_of hN]; rfl, a, o, ha, ?_⟩
    rw [wm1 (by omega) (by omega), Nat.add_sub_cancel]
    exact ⟨⟨by omega, by show (j : Int) < (t.n : Int); omega⟩, l[j], by rw [Int.toNat_natCast]; exact hc, by unfold ansL; rw [List.getElem?_eq_getElem hj']; rfl, hN, h2.ch⟩
  · unfold ansL; rw [List.getElem?_eq_none (by omega)]; rfl
theorem c40 (t : Sl) (w : World) : CW Try.prog 40 #[slV t] w fun v w' => ∃ bn bl T1 T2, v = .func (.func 79) #[] #[.pointer (some ⟨bn, 0, none⟩), .pointer (some ⟨bl, 0, none⟩)] ∧ w'.heap[bn]? = some (.cells #[iv ((0 : Nat) : Int)] T1 (0, 0)) ∧ w'.heap[bl]? = some (.cells #[slV t] T2 (0, 0)) ∧ bn ≠ bl ∧ w.heap.size ≤ bn ∧ w.heap.size ≤ bl ∧ Ext w w' := by
  refine F40_ok t w _ ?_
  intro b1 w2 h2 b3 w4 h4
  have e2 : Ext w w2 := h2.ch _
  have e4 : Ext w2 w4 := h4.ch _
  have p2 := h2.here; have p4 := h4.here; have z2 := h2.size
  refine ⟨rfl, store_one h4.new (by simp) rfl fun w5 h5 => ⟨b3, b1, _, _, rfl, h5.new, (h5.old b1 (by omega)).trans (e4.at h2.new), by omega, by omega, by omega, (e2.trans e4).then h5.ch fun i hi e => by omega⟩⟩

theorem c39 {w : World} {b : Nat} {s : Sl} {r : Nat} {ls : List Sec} {f : List (Int × Sec)} {wr sy : Int} {bn bl : Nat} {t : Sl} {l : List Bool} {T1 T2 : TypeId} (h : Dk w b s r ls f wr sy) (hn : w.heap[bn]? = some (.cells #[iv ((0 : Nat) : Int)] T1 (0, 0))) (hl : w.heap[bl]? = some (.cells #[slV t] T2 (0, 0))) (hne : bn ≠ bl) (hr : Rd w t 1 (l.map Value.bool)) (hnb : 0 < t.n → bn ∉ blk t)
    (d1 : ¬ inDk b s r bn) (d2 : ¬ inDk b s r bl) (d3 : 0 < t.n → ∀ i ∈ blk t, ¬ inDk b s r i) :
    CW Try.prog 39 #[.pointer (some ⟨b, 0, none⟩), .func (.func 79) #[] #[.pointer (some ⟨bn, 0, none⟩), .pointer (some ⟨bl, 0, none⟩)]] w fun v w' => v = .tuple #[] ∧ ∃ xs : List Int, xs.Perm (f.map (·.1)) ∧ xs.Pairwise (· ≤ ·) ∧ Dk w' b s r (lsAt f (ansL l) xs ls xs.length) [] wr sy ∧ Ch (fun i => inDk b s r i ∨ i = bn) w w' := by
  refine F39_ok _ (79, _) w _ (IfB.yes rfl ((c77 (gk := 79) (ans := ansL l) (FK := fun i => i = bn) (S := fun j W => W.heap[bn]? = some (.cells #[iv ((j : Nat) : Int)] T1 (0, 0)) ∧ W.heap[bl]? = some (.cells #[slV t] T2 (0, 0)) ∧ Rd W t 1 (l.map Value.bool)) h ⟨hn, hl, hr⟩ ?_ ?_ ?_ ?_).use ?_))
  · rintro j W W' ⟨k1, k2, k3⟩ hc
    exact ⟨hc.at k1 d1, hc.at k2 d2, k3.ch0 hc d3⟩
  · rintro i hi rfl; exact d1 hi
  · rintro i rfl; exact heap_lt hn
  · rintro j i W hj ⟨k1, k2, k3⟩
    refine (c79 k1 k2 hne k3 hnb (by omega) i).mono fun v W' ⟨e1, e2, e3⟩ => ⟨e1, ⟨e2, e3.at k2 (fun e => hne e.symm), k3.ch0 e3 fun h0 q hq (e : q = bn) => hnb h0 (e ▸ hq)⟩, e3⟩
  · rintro _ w2 ⟨rfl, xs, hp, hs, hD, _, hC⟩
    exact ⟨(), rfl, rfl, xs, hp, hs, hD, hC⟩
end Go.Proofs.Ytopecljhehcldaa.Gx
