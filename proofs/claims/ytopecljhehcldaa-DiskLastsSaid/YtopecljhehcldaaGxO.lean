/- The framework, part O: slices.overlaps, which the model has of its own. -/
import Derived.Test.YtopecljhehcldaaGxV
import Derived.Lib.Overlaps
namespace Go.Proofs.Ytopecljhehcldaa.Gx
open Go

/-- Two slices of other blocks don't overlap; the first one is plain memory. -/
theorem ov_of {P : Program} {tb : Tab} (hT : tb.Ok P) {f : FuncId} {fn : Func} (hf : P.funcs[f]? = some fn) (hname : (fn.name == "runtime.NumGoroutine") = false) (hb : fn.body.isNone = true) (hn : Extern.findNext fn = none)
    (he : Extern.find fn = some (Extern.SlicesOverlaps.overlaps fn.params fn.resultTypes)) {t r e : TypeId} (hpar : fn.params = #[t, t]) (hres : fn.resultTypes = #[r]) {ti te : TI} (h1 : tb t = some ti) (hk : ti.kd = .slice e) (h3 : tb e = some te)
    {w : World} {s q : Sl} {b : Nat} {arr : Array Value} {T : TypeId} (hs : s.p = some ⟨b, 0, none⟩) (hb1 : w.heap[b]? = some (.cells arr T (0, 0)))
    {b2 o2 : Nat} {arr2 : Array Value} {T2 : TypeId} {z : Nat × Nat} (hq : q.p = some ⟨b2, o2, none⟩) (hb2 : w.heap[b2]? = some (.cells arr2 T2 z)) (h2 : arr2.size ≠ 0) (hne : b ≠ b2)
    {R : Value → World → Prop} (hR : R (.bool false) w) : CX P f #[slV s, slV q] w R := by
  refine .inr ⟨_, w, ?_, hR⟩
  obtain ⟨d, hd, hkd⟩ := (hT _ _ h1).desc
  rw [hk] at hkd
  have := kd_slice hkd; subst this
  rw [run_callFunc_extern hf hname hb hn he, hpar, hres]
  have := Go.Lib.run_overlaps_apart (P := P) w t r e hd te.size (fun w => run_sizeOf_of (hT _ _ h3) w) ⟨b, 0, none⟩ ⟨b2, o2, none⟩ s.n s.c q.n q.c hne T T2 arr.size arr2.size (by simp [World.shape?, hb1]) (by simp [World.shape?, hb2]) h2
    (by simp [World.frozen?, hb1]) (by simp [World.frozen?, hb1])
  rw [show slV s = .slice (some ⟨b, 0, none⟩) s.n s.c from by rw [← hs], show slV q = .slice (some ⟨b2, o2, none⟩) q.n q.c from by rw [← hq], this]
  rfl

/-- The same, of a literal and what a slice owns. -/
theorem ovW {P : Program} {tb : Tab} (hT : tb.Ok P) {f : FuncId} {fn : Func} (hf : P.funcs[f]? = some fn) (hname : (fn.name == "runtime.NumGoroutine") = false) (hb : fn.body.isNone = true) (hn : Extern.findNext fn = none)
    (he : Extern.find fn = some (Extern.SlicesOverlaps.overlaps fn.params fn.resultTypes)) {t r e : TypeId} (hpar : fn.params = #[t, t]) (hres : fn.resultTypes = #[r]) {ti te : TI} (h1 : tb t = some ti) (hk : ti.kd = .slice e) (h3 : tb e = some te)
    {w : World} {s t0 : Sl} {b : Nat} {arr : Array Value} {T : TypeId} (hs : s.p = some ⟨b, 0, none⟩) (hb1 : w.heap[b]? = some (.cells arr T (0, 0)))
    {sz : Nat} {cs : List Value} (ho : OwS w t0 sz cs) (hsz : 0 < sz) (hd : b ∉ blk t0)
    (q : Sl) (R : Value → World → Prop) (hc : 0 < t0.c) (hq : ∃ b o, q.p = some ⟨b, o, none⟩ ∧ b ∈ blk t0) (hR : R (.bool false) w) : CX P f #[slV s, slV q] w R := by
  obtain ⟨b2, o2, hq, hb2⟩ := hq
  rcases ho with ⟨rfl, _⟩ | ⟨b', arr', T', hp, hh, hs', _⟩
  · simp [blk] at hb2
  · have e : b2 = b' := by simpa [blk, hp] using hb2
    subst e
    refine ov_of hT hf hname hb hn he hpar hres h1 hk h3 hs hb1 hq hh ?_ (fun e => hd (e ▸ hb2)) hR
    rw [hs']
    exact Nat.ne_of_gt (Nat.mul_pos hc hsz)
end Go.Proofs.Ytopecljhehcldaa.Gx
