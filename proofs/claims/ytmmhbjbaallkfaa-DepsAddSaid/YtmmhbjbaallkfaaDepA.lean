/- Packages units and deps: conflicts of nodes, what a node directly depends on; Backward of nodes. -/
import Derived.Test.YtmmhbjbaallkfaaKeyC
import Derived.Test.YtmmhbjbaallkfaaGxNQ
import Derived.Test.YtmmhbjbaallkfaaGxJ
import Derived.Test.YtmmhbjbaallkfaaIntK
import Derived.Test.YtmmhbjbaallkfaaGxN
namespace Go.Proofs.Ytmmhbjbaallkfaa.Gx
open Go
set_option linter.unusedSimpArgs false
set_option linter.unusedVariables false

/-! ### Nodes -/
abbrev NdV := Int × Int × Int × Bool × Sl × Sl
abbrev nC (x : NdV) : List Value := [.int .i64 x.1, .int .i64 x.2.1, .int .i64 x.2.2.1, .bool x.2.2.2.1, .slice x.2.2.2.2.1.1 x.2.2.2.2.1.2 x.2.2.2.2.1.3, .slice x.2.2.2.2.2.1 x.2.2.2.2.2.2 x.2.2.2.2.2.3]
abbrev ndV (x : NdV) : Value := .agg #[.int .i64 x.1, .int .i64 x.2.1, .int .i64 x.2.2.1, .bool x.2.2.2.1, .slice x.2.2.2.2.1.1 x.2.2.2.2.1.2 x.2.2.2.2.1.3, .slice x.2.2.2.2.2.1 x.2.2.2.2.2.2 x.2.2.2.2.2.3]
theorem nC_len (x : NdV) : (nC x).length = 6 := rfl
theorem nC_one (x : NdV) : One (nC x) := by intro v hv; simp at hv; rcases hv with rfl | rfl | rfl | rfl | rfl | rfl <;> rfl
/-- A node, with the spans that its slices have. -/
structure Nd where
  v : NdV
  rs : List Spn
  ws : List Spn
abbrev nL (x : Nd) : List Value := nC x.v
theorem nL_len (x : Nd) : (nL x).length = 6 := rfl
theorem nL_one (x : Nd) : One (nL x) := nC_one x.v
structure NdOk (w : World) (n : Nd) : Prop where
  rs : Rd w n.v.2.2.2.2.1 2 (n.rs.flatMap sv)
  ws : Rd w n.v.2.2.2.2.2 2 (n.ws.flatMap sv)
  rl : n.rs.length ≤ 1000000
  wl : n.ws.length ≤ 1000000
theorem NdOk.ext {w w' : World} {n : Nd} (h : NdOk w n) (e : Ext w w') : NdOk w' n := ⟨h.rs.ext e, h.ws.ext e, h.rl, h.wl⟩
theorem Ch.stbE {n : Nat} {w W W' : World} (e : Ext w W) (hS : Stb n W W') (hn : w.heap.size ≤ n) : Ext w W' := e.then (.ofStb hS) fun i hi h => by omega
theorem Ch.chN {F : Nat → Prop} {w W W' : World} (e : Ext w W) (hC : Ch F W W') (hF : ∀ i, F i → w.heap.size ≤ i) : Ext w W' := e.then hC fun i hi h => by have := hF i h; omega

/-- A node in a box of its own. -/
theorem boxNd {w : World} {x : NdV} {z : Array Value} {T : TypeId} (hz : z.size = 6) {K : Nat → World → Prop} (hK : ∀ b w', w.heap.size = b → w'.heap.size = b + 1 → w'.heap[b]? = some (.cells (nC x).toArray T (0, 0)) → Ext w w' → (∀ n, n ≤ w.heap.size → Stb n w w') → K b w') :
    AllocP w (.cells z T) fun b w2 => #[Value.int .i64 x.1, .int .i64 x.2.1, .int .i64 x.2.2.1, .bool x.2.2.2.1, .slice x.2.2.2.2.1.1 x.2.2.2.2.1.2 x.2.2.2.2.1.3, .slice x.2.2.2.2.2.1 x.2.2.2.2.2.2 x.2.2.2.2.2.3].size = 6 ∧ StoreP w2 b 0 (nC x) (K b) :=
  boxCells (vs := nC x) rfl (nC_one x) hz hK

/-! ### Conflicts -/
def mtP (xs ys : List Spn) : Prop := ∃ k, hasS xs k ∧ hasS ys k
def cnfP (a b : Nd) : Prop := a.v.1 ≠ b.v.1 ∧ (mtP a.ws b.rs ∨ mtP a.ws b.ws ∨ mtP a.rs b.ws)
def dirP (a b : Nd) : Prop := a.v.1 = b.v.1 ∨ cnfP a b

theorem c42 {w : World} {a b : Nd} (ha : NdOk w a) (hb : NdOk w b) :
    CW Try.prog 42 #[ndV a.v, ndV b.v] w fun v w' => ∃ r, v = .bool r ∧ (r = true ↔ cnfP a b) ∧ Ext w w' := by
  refine F42_ok a.v b.v w _ fun b1 w2 h2 b3 w4 h4 => ?_
  have e4 : Ext w w4 := (h2.ch _).trans (h4.ch _)
  have H1 := h4.at h2.new
  have H3 := h4.new
  have q1 : ∀ {W : World} (o : Nat), Ext w4 W → W.cell? ⟨b1, 0 + o, none⟩ = (nC a.v)[o]? := fun o e => by rw [cell_of (e.at H1), Nat.zero_add]; exact List.getElem?_toArray ..
  have q3 : ∀ {W : World} (o : Nat), Ext w4 W → W.cell? ⟨b3, 0 + o, none⟩ = (nC b.v)[o]? := fun o e => by rw [cell_of (e.at H3), Nat.zero_add]; exact List.getElem?_toArray ..
  refine ⟨_, q1 0 (Ch.refl _ _), _, q3 0 (Ch.refl _ _), IfB.intro (fun hne => ?_) fun he => ?_⟩
  · have hne : a.v.1 ≠ b.v.1 := by simpa using hne
    refine ⟨_, q1 5 (Ch.refl _ _), _, q3 4 (Ch.refl _ _), (c60 (ha.ws.ext e4) (hb.rs.ext e4) ha.wl hb.rl).use ?_⟩
    rintro _ w10 ⟨r1, rfl, hr1, e10⟩
    refine ⟨r1, rfl, IfB.intro (fun h => ⟨true, rfl, ?_, e4.trans e10⟩) fun h => ?_⟩
    · exact ⟨fun _ => ⟨hne, .inl (hr1.1 h)⟩, fun _ => rfl⟩
    have n1 : ¬ mtP a.ws b.rs := fun h' => by rw [hr1.2 h'] at h; cases h
    have e410 := e4.trans e10
    refine ⟨_, q1 5 e10, _, q3 5 e10, (c60 (ha.ws.ext e410) (hb.ws.ext e410) ha.wl hb.wl).use ?_⟩
    rintro _ w15 ⟨r2, rfl, hr2, e15⟩
    refine ⟨r2, rfl, IfB.intro (fun h => ⟨true, rfl, ?_, e410.trans e15⟩) fun h => ?_⟩
    · exact ⟨fun _ => ⟨hne, .inr (.inl (hr2.1 h))⟩, fun _ => rfl⟩
    have n2 : ¬ mtP a.ws b.ws := fun h' => by rw [hr2.2 h'] at h; cases h
    have e415 := e410.trans e15
    refine ⟨_, q1 4 (e10.trans e15), _, q3 5 (e10.trans e15), (c60 (ha.rs.ext e415) (hb.ws.ext e415) ha.rl hb.wl).use ?_⟩
    rintro _ w20 ⟨r3, rfl, hr3, e20⟩
    refine ⟨r3, rfl, r3, rfl, ?_, e415.trans e20⟩
    rw [hr3]
    exact ⟨fun h => ⟨hne, .inr (.inr h)⟩, fun h => by
      rcases h.2 with h | h | h
      · exact absurd h n1
      · exact absurd h n2
      · exact h⟩
  · have he : a.v.1 = b.v.1 := by simpa using he
    exact ⟨false, rfl, ⟨fun h => (by cases h), fun h => absurd he h.1⟩, e4⟩

theorem c38 {w : World} {a b : Nd} (ha : NdOk w a) (hb : NdOk w b) :
    CW Try.prog 38 #[ndV a.v, ndV b.v] w fun v w' => ∃ r, v = .bool r ∧ (r = true ↔ dirP a b) ∧ Ext w w' := by
  refine F38_ok a.v b.v w _ fun b1 w2 h2 b3 w4 h4 => ?_
  have e4 : Ext w w4 := (h2.ch _).trans (h4.ch _)
  have H1 := h4.at h2.new
  have H3 := h4.new
  refine ⟨a.v.1, by rw [cell_of H1]; rfl, b.v.1, by rw [cell_of H3]; rfl, IfB.intro (fun he => ?_) fun hne => ?_⟩
  · have he : a.v.1 = b.v.1 := by simpa using he
    exact ⟨true, rfl, ⟨fun _ => .inl he, fun _ => rfl⟩, e4⟩
  · have hne : a.v.1 ≠ b.v.1 := by simpa using hne
    refine ⟨a.v, cellsAt_of H1 fun i v hv => by simpa using hv, b.v, cellsAt_of H3 fun i v hv => by simpa using hv, (c42 (ha.ext e4) (hb.ext e4)).use ?_⟩
    rintro _ w10 ⟨r, rfl, hr, e10⟩
    exact ⟨r, rfl, r, rfl, hr.trans ⟨.inr, fun h => h.resolve_left hne⟩, e4.trans e10⟩

/-! ### Histories -/
structure Hst (w : World) (t : Sl) (hs : List Nd) : Prop where
  rd : Rd w t 6 (hs.flatMap nL)
  ok : ∀ n ∈ hs, NdOk w n
  len : hs.length ≤ 1000000
  cap : t.n ≤ t.c
theorem Hst.ext {w w' : World} {t : Sl} {hs : List Nd} (h : Hst w t hs) (e : Ext w w') : Hst w' t hs := ⟨h.rd.ext e, fun n hn => (h.ok n hn).ext e, h.len, h.cap⟩
theorem Hst.n {w : World} {t : Sl} {hs : List Nd} (h : Hst w t hs) : t.n = hs.length := rdN nL_len (by omega) h.rd
theorem Hst.at {w : World} {t : Sl} {hs : List Nd} (h : Hst w t hs) {i : Nat} {x : Nd} (hx : hs[i]? = some x) : ∃ b o, t.p = some ⟨b, o, none⟩ ∧ CellsAt w b (o + i * 6) (nC x.v) :=
  h.rd.elem (i := i) (by have := h.n; have := (List.getElem?_eq_some_iff.1 hx).1; omega) (by omega) (flatGet nL_len hx)
theorem Hst.get {w : World} {t : Sl} {hs : List Nd} (h : Hst w t hs) {i : Nat} {x : Nd} (hx : hs[i]? = some x) : NdOk w x := h.ok x (List.mem_of_getElem? hx)
theorem Hst.cut {w : World} {t : Sl} {hs : List Nd} (h : Hst w t hs) {k : Nat} (hk : k ≤ hs.length) : Hst w ⟨t.p, k, t.c⟩ (hs.take k) := by
  refine ⟨?_, fun n hn => h.ok n (List.mem_of_mem_take hn), by rw [List.length_take]; have := h.len; omega, by have := h.cap; have := h.n; dsimp only; omega⟩
  have := h.rd.cut (k := k) (by have := h.n; omega)
  rw [flatTake nL_len] at this
  exact this

/-- Directly: k is ahead of i. -/
def EdP (hs : List Nd) (i k : Nat) : Prop := k < i ∧ ∃ a b, hs[i]? = some a ∧ hs[k]? = some b ∧ dirP a b

theorem c16 {w : World} {t : Sl} {hs : List Nd} (h : Hst w t hs) (i k : Int) :
    CW Try.prog 16 #[slV t, iv i, iv k] w fun v w' => ∃ r, v = .bool r ∧ (r = true ↔ 0 ≤ i ∧ 0 ≤ k ∧ EdP hs i.toNat k.toNat) ∧ Ext w w' := by
  have hn := h.n
  have ed := extDrew w
  refine F16_ok t i k w _ (IfB.dec (fun h0 => IfB.dec (fun h1 => IfB.dec (fun h2 => ?_) fun h2 => ?_) fun h1 => ?_) fun h0 => ?_)
  · have h2' : i < (t.n : Int) := h2
    have hi : i.toNat < hs.length := by omega
    have hk : k.toNat < hs.length := by omega
    have ha : hs[i.toNat]? = some hs[i.toNat] := List.getElem?_eq_getElem hi
    have hb : hs[k.toNat]? = some hs[k.toNat] := List.getElem?_eq_getElem hk
    generalize hs[i.toNat] = a at ha
    generalize hs[k.toNat] = b at hb
    have hD := h.ext ed
    obtain ⟨b1, o1, hp1, hc1⟩ := hD.at ha
    obtain ⟨b2, o2, hp2, hc2⟩ := hD.at hb
    refine ⟨b1, o1, hp1, ⟨by omega, h2⟩, a.v, hc1, b2, o2, hp2, ⟨by omega, by show k < (t.n : Int); omega⟩, b.v, hc2, (c38 (hD.get ha) (hD.get hb)).use ?_⟩
    rintro _ w8 ⟨r, rfl, hr, e8⟩
    refine ⟨r, rfl, r, rfl, ?_, ed.trans e8⟩
    rw [hr]
    constructor
    · exact fun hd => ⟨by omega, by omega, by omega, a, b, ha, hb, hd⟩
    · rintro ⟨_, _, _, a', b', ha', hb', hd⟩
      rw [ha] at ha'; rw [hb] at hb'
      cases ha'; cases hb'; exact hd
  · have h2' : ¬ i < (t.n : Int) := h2
    refine ⟨false, rfl, ⟨fun h => by (cases h), fun ⟨_, _, _, a, b, ha, _⟩ => ?_⟩, ed⟩
    have := (List.getElem?_eq_some_iff.1 ha).1
    omega
  · exact ⟨false, rfl, ⟨fun h => by (cases h), fun ⟨_, _, h3, _⟩ => by omega⟩, ed⟩
  · exact ⟨false, rfl, ⟨fun h => by (cases h), fun ⟨_, h3, _⟩ => by omega⟩, ed⟩

/-! ### Backward -/
abbrev bkA (x : Int × NdV) : Array Value := #[iv x.1, ndV x.2]
structure InvB (b : Nat) (t : Sl) (vs : List NdV) (W : World) : Prop where
  box : ∃ T, W.heap[b]? = some (.cells #[slV t] T (0, 0))
  rd : Rd W t 6 (vs.flatMap nC)
theorem InvB.stb {n b : Nat} {t : Sl} {vs : List NdV} {W W' : World} (h : InvB b t vs W) (hS : Stb n W W') : InvB b t vs W' := by
  obtain ⟨⟨T, h1⟩, h2⟩ := h
  exact ⟨⟨T, hS.keep _ _ h1 rfl⟩, rd_stb h2 hS⟩
theorem itB (b : Nat) (t : Sl) (vs : List NdV) (hl : vs.length ≤ 1000000) :
    Iter Try.prog 70 #[.pointer (some ⟨b, 0, none⟩)] bkA false (fun pre x => ∃ i : Nat, pre.length + i + 1 = vs.length ∧ x.1 = (i : Int) ∧ vs[i]? = some x.2) (fun xs => xs.length = vs.length) (InvB b t vs) := by
  refine ⟨en70, fun l J Jx W hJ hJx hInv hSz _ hstep h0 => ?_⟩
  have hI0 := hInv _ _ h0
  have hn := rdN nC_len (by omega) hI0.rd
  obtain ⟨T1, hT1⟩ := hI0.box
  refine F70_ok l b W _ ⟨t, by rw [cell_of hT1]; rfl, fun n x w6 => ∃ pre : List (Int × NdV), pre.length ≤ vs.length ∧ n + pre.length = vs.length ∧ x = (vs.length : Int) - 1 - (pre.length : Int) ∧ J pre w6, ⟨vs.length, [], Nat.zero_le _, rfl, ?_, h0⟩, ?_⟩
  · rw [wrap_of (by omega) (by omega), hn]; simp
  rintro n _ w6 g ⟨pre, hp, hnp, rfl, hj⟩
  have hI := hInv _ _ hj
  obtain ⟨T2, hT2⟩ := hI.box
  unfold F70j1
  refine IfB.dec (fun hge => ?_) fun hlt => ?_
  · obtain ⟨i, hi⟩ : ∃ i : Nat, pre.length + i + 1 = vs.length := ⟨vs.length - 1 - pre.length, by omega⟩
    have hx : vs[i]? = some vs[i] := List.getElem?_eq_getElem (by omega)
    generalize vs[i] = x at hx
    have hie : (vs.length : Int) - 1 - (pre.length : Int) = (i : Int) := by omega
    rw [hie]
    obtain ⟨a, o, ha, hc⟩ := hI.rd.elem (i := i) (by omega) (by omega) (flatGet nC_len hx)
    refine ⟨t, by rw [cell_of hT2]; rfl, a, o, ha, (⟨by omega, by omega⟩ : (0 : Int) ≤ (i : Int) ∧ (i : Int) < (t.n : Int)), x, by rw [Int.toNat_natCast]; exact hc, (hstep pre ((i : Int), x) w6 hj ⟨i, hi, rfl, hx⟩).mono fun r w14 hr => ?_⟩
    cases r with
    | false => exact IfB.yes rfl (.inr ⟨_, hr⟩)
    | true =>
      refine IfB.no rfl ⟨rfl, n - 1, by omega, pre ++ [((i : Int), x)], by simp; omega, by simp; omega, ?_, hr.1⟩
      rw [wrap_of (by omega) (by omega)]
      simp
      omega
  · exact .inl ⟨pre, by omega, hj⟩

theorem c56 (t : Sl) (w : World) : CW Try.prog 56 #[slV t] w fun v w' => ∃ b T, v = .func (.func 70) #[] #[.pointer (some ⟨b, 0, none⟩)] ∧ IsAlloc w (.cells #[slV t] T (0, 0)) b w' :=
  F56_ok t w _ fun b w' a => ⟨b, _, rfl, a⟩

def encB (b : Bool) : Value := .bool b
theorem c55 {w : World} {b r : Nat} {f : List (Int × Bool)} (k : Int) (hb : ∃ T, w.heap[b]? = some (.cells #[.map (some r)] T (0, 0))) (hM : Mp encB w r f) :
    CW Try.prog 55 #[iv k, .pointer (some ⟨b, 0, none⟩)] w fun v w' => v = .tuple #[] ∧ ∃ f', (∀ k', getM f' k' = if k = k' then some true else getM f k') ∧ Mp encB w' r f' ∧ Ch (fun i => i = r) w w' := by
  obtain ⟨T, hT⟩ := hb
  refine F55_ok k b w _ ⟨some r, by rw [cell_of hT]; rfl, Mp.set (enc := encB) (v := true) hM fun f' w' h1 h2 h3 => ⟨rfl, f', h1, h2, h3⟩⟩
end Go.Proofs.Ytmmhbjbaallkfaa.Gx
