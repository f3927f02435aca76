/- Package pages: its pairs one by one: Scan, Len, Collect; Equal, Same, Copy, Of. -/
import Derived.Test.YtopecljhehcldaaPagesE
import Derived.Test.YtopecljhehcldaaGxE
namespace Go.Proofs.Ytopecljhehcldaa.Gx
open Go
set_option linter.unusedSimpArgs false
set_option linter.unusedVariables false

theorem St.stb {n : Nat} {w w' : World} {b : Nat} {s : Sl} {ps : List Pg} (h : St w b s ps) (hS : Stb n w w') : St w' b s ps := by
  obtain ⟨T, hT⟩ := h.box
  exact ⟨⟨T, hS.keep _ _ hT rfl⟩, h.arr.stb hS, fun x hx => (h.pg x hx).stb hS, h.nd, h.sep, h.self⟩

def flatS (ps : List Pg) : List Pr := ps.flatMap (·.2)
theorem flatS_eq {ps : List Pg} {P : List (List Pr)} (hP : ps.map (·.2) = P) : flatS ps = P.flatten := by rw [← hP]; rfl

/-- The pairs of a store, as memory has them. -/
def InvI (b1 b : Nat) (s : Sl) (ps : List Pg) (W : World) : Prop := (∃ T, W.heap[b1]? = some (.cells #[.pointer (some ⟨b, 0, none⟩)] T (0, 0))) ∧ St W b s ps
theorem InvI.stb {n b1 b : Nat} {s : Sl} {ps : List Pg} {w w' : World} (h : InvI b1 b s ps w) (hS : Stb n w w') : InvI b1 b s ps w' := by
  obtain ⟨⟨T, hT⟩, h⟩ := h
  exact ⟨⟨T, hS.keep _ _ hT rfl⟩, h.stb hS⟩
theorem InvI.ch {F : Nat → Prop} {b1 b : Nat} {s : Sl} {ps : List Pg} {w w' : World} (h : InvI b1 b s ps w) (hc : Ch F w w') (h1 : ¬ F b1) (hF : ∀ i, inSt b s ps i → ¬ F i) : InvI b1 b s ps w' := by
  obtain ⟨⟨T, hT⟩, h⟩ := h
  exact ⟨⟨T, hc.at hT h1⟩, h.ch hc hF⟩

abbrev prA (x : Pr) : Array Value := #[.agg #[.int .i64 x.1, .int .i64 x.2]]

theorem it96 (b1 b : Nat) (s : Sl) (ps : List Pg) (hl : (flatS ps).length ≤ 1000000) (hpl : ps.length ≤ 1000000) : Iter Try.prog 96 #[.pointer (some ⟨b1, 0, none⟩)] prA false (fun pre x => ∃ post, pre ++ x :: post = flatS ps) (fun xs => xs = flatS ps) (InvI b1 b s ps) := by
  refine ⟨en96, fun l J Jx W hJ hJx hInv hSz _ hstep h0 => ?_⟩
  obtain ⟨⟨T, hT⟩, hS⟩ := hInv _ _ h0
  have hcell : W.cell? ⟨b1, 0, none⟩ = some (.pointer (some ⟨b, 0, none⟩)) := by rw [cell_of hT]; rfl
  have hsn : s.n = ps.length := hS.n
  refine F96_ok l b1 W _ ⟨some ⟨b, 0, none⟩, hcell, IfB.no rfl ⟨_, hcell, b, 0, rfl, s, hS.cell, ?_⟩⟩
  refine ⟨fun n x w5 => ∃ i : Nat, i ≤ ps.length ∧ n + i = ps.length ∧ x = (i : Int) ∧ W.heap.size ≤ w5.heap.size ∧ J (flatS (ps.take i)) w5, ⟨ps.length, 0, Nat.zero_le _, rfl, rfl, Nat.le_refl _, h0⟩, ?_⟩
  rintro n _ w5 g ⟨i, hi, hni, rfl, hw5, hj⟩
  unfold F96j1
  refine IfB.dec (fun hlt => ?_) (fun hge => ?_)
  · have hi' : i < ps.length := by
      have : (i : Int) < (s.n : Int) := hlt
      omega
    have hx : ps[i]? = some ps[i] := List.getElem?_eq_getElem hi'
    generalize ps[i] = y at hx
    obtain ⟨_, hS5⟩ := hInv _ _ hj
    obtain ⟨a, ha, hc, hox, hxn⟩ := hS5.page hx
    have hyl : y.2.length ≤ (flatS ps).length := by
      have : y.2.Sublist (flatS ps) := by
        rw [flatS_eq rfl]
        exact List.sublist_flatten_of_mem (List.mem_map_of_mem (List.mem_of_getElem? hx))
      exact this.length_le
    refine ⟨a, 0, ha, (⟨by omega, by omega⟩ : (0 : Int) ≤ (i : Int) ∧ (i : Int) < (s.n : Int)), y.1, by rw [Int.toNat_natCast, Nat.zero_add]; exact hc, ?_⟩
    refine ⟨fun m x w20 => ∃ j : Nat, j ≤ y.2.length ∧ m + j = y.2.length ∧ x = (j : Int) ∧ W.heap.size ≤ w20.heap.size ∧ J (flatS (ps.take i) ++ y.2.take j) w20, ⟨y.2.length, 0, Nat.zero_le _, rfl, rfl, hw5, by simpa using hj⟩, ?_⟩
    rintro m _ w20 g ⟨j, hj1, hmj, rfl, hw20, hJ20⟩
    unfold F96j2
    refine IfB.dec (fun hlt2 => ?_) (fun hge2 => ?_)
    · have hj' : j < y.2.length := by
        have : (j : Int) < (y.1.n : Int) := hlt2
        omega
      have hz : y.2[j]? = some y.2[j] := List.getElem?_eq_getElem hj'
      generalize y.2[j] = z at hz
      obtain ⟨_, hS20⟩ := hInv _ _ hJ20
      obtain ⟨_, _, _, hoy, _⟩ := hS20.page hx
      obtain ⟨a2, ha2, hc2⟩ := pageE hoy hz
      refine ⟨a2, 0, ha2, (⟨by omega, by omega⟩ : (0 : Int) ≤ (j : Int) ∧ (j : Int) < (y.1.n : Int)), z, by rw [Int.toNat_natCast, Nat.zero_add]; exact hc2, ?_⟩
      intro b26 w27 h27
      refine ⟨rfl, store_all h27.new rfl (by intro v hv; simp at hv; rcases hv with rfl | rfl <;> rfl) fun w28 h28 => ⟨z, cellsAt_of h28.new fun q v hv => by simpa using hv, ?_⟩⟩
      have hJ28 := hJ _ _ _ hJ20 (Stb.fresh h27 h28 hw20)
      refine (hstep _ z w28 hJ28 ?_).mono fun t w31 ht => ?_
      · refine ⟨y.2.drop (j + 1) ++ flatS (ps.drop (i + 1)), ?_⟩
        have h1 : flatS ps = flatS (ps.take i) ++ (y.2 ++ flatS (ps.drop (i + 1))) := by
          conv => lhs; rw [← List.take_append_drop i ps, List.drop_eq_getElem_cons hi']
          have : ps[i] = y := by rw [List.getElem?_eq_getElem hi'] at hx; exact Option.some.inj hx
          rw [this]; simp [flatS]
        have h2 : y.2 = y.2.take j ++ z :: y.2.drop (j + 1) := by
          conv => lhs; rw [← List.take_append_drop j y.2, List.drop_eq_getElem_cons hj']
          have : y.2[j] = z := by rw [List.getElem?_eq_getElem hj'] at hz; exact Option.some.inj hz
          rw [this]
        rw [h1]
        conv => rhs; rw [h2]
        simp
      · cases t with
        | false => exact IfB.yes rfl (.inr ⟨_, ht⟩)
        | true =>
          refine IfB.no rfl ⟨rfl, m - 1, by omega, j + 1, hj', by omega, ?_, ?_, ?_⟩
          · rw [wrap_of (by omega) (by omega)]; rfl
          · exact hSz _ _ ht
          · rw [take_succ_get hz, ← List.append_assoc]; exact ht
    · have hj' : j = y.2.length := by
        have : ¬ (j : Int) < (y.1.n : Int) := hge2
        omega
      subst hj'
      refine ⟨rfl, n - 1, by omega, i + 1, hi', by omega, ?_, hw20, ?_⟩
      · rw [wrap_of (by omega) (by omega)]; rfl
      · rw [List.take_length] at hJ20
        rw [take_succ_get hx]; simpa [flatS] using hJ20
  · have hi' : i = ps.length := by
      have : ¬ (i : Int) < (s.n : Int) := hge
      omega
    subst hi'
    rw [List.take_length] at hj
    exact .inl ⟨_, rfl, hj⟩

/-! ### A store, or none, as a source of pairs -/
abbrev Src := Option (Nat × Sl × List Pg)
def Src.ptr : Src → Option Addr
  | none => none
  | some (b, _, _) => some ⟨b, 0, none⟩
def Src.fl : Src → List Pr
  | none => []
  | some (_, _, ps) => flatS ps
def Src.mem (src : Src) (W : World) : Prop := match src with
  | none => True
  | some (b, s, ps) => St W b s ps ∧ ps.length ≤ 1000000
def Src.has (src : Src) (i : Nat) : Prop := match src with
  | none => False
  | some (b, s, ps) => inSt b s ps i
theorem Src.lt {src : Src} {W : World} (h : src.mem W) {i : Nat} (hi : src.has i) : i < W.heap.size := by
  match src, h, hi with
  | some (b, s, ps), h, hi => exact h.1.lt hi
theorem Src.ch {src : Src} {F : Nat → Prop} {W W' : World} (h : src.mem W) (hc : Ch F W W') (hF : ∀ i, src.has i → ¬ F i) : src.mem W' := by
  match src, h, hF with
  | none, _, _ => trivial
  | some (b, s, ps), h, hF => exact ⟨h.1.ch hc hF, h.2⟩
theorem Src.ext {src : Src} {W W' : World} (h : src.mem W) (hc : Ext W W') : src.mem W' := Src.ch h hc fun _ _ => id
theorem Src.stb {src : Src} {n : Nat} {W W' : World} (h : src.mem W) (hc : Stb n W W') : src.mem W' := by
  match src, h with
  | none, _ => trivial
  | some (b, s, ps), h => exact ⟨h.1.stb hc, h.2⟩

def InvJ (b1 : Nat) (src : Src) (W : World) : Prop := (∃ T, W.heap[b1]? = some (.cells #[.pointer src.ptr] T (0, 0))) ∧ src.mem W
theorem InvJ.stb {n b1 : Nat} {src : Src} {W W' : World} (h : InvJ b1 src W) (hS : Stb n W W') : InvJ b1 src W' := by
  obtain ⟨⟨T, hT⟩, h⟩ := h
  exact ⟨⟨T, hS.keep _ _ hT rfl⟩, Src.stb h hS⟩
theorem InvJ.ch {F : Nat → Prop} {b1 : Nat} {src : Src} {W W' : World} (h : InvJ b1 src W) (hc : Ch F W W') (h1 : ¬ F b1) (hF : ∀ i, src.has i → ¬ F i) : InvJ b1 src W' := by
  obtain ⟨⟨T, hT⟩, h⟩ := h
  exact ⟨⟨T, hc.at hT h1⟩, Src.ch h hc hF⟩

theorem itJ (b1 : Nat) (src : Src) (hl : src.fl.length ≤ 1000000) (hpl : ∀ b s ps, src = some (b, s, ps) → ps.length ≤ 1000000) : Iter Try.prog 96 #[.pointer (some ⟨b1, 0, none⟩)] prA false (fun pre x => ∃ post, pre ++ x :: post = src.fl) (fun xs => xs = src.fl) (InvJ b1 src) := by
  match src, hl, hpl with
  | some (b, s, ps), hl, hpl =>
    obtain ⟨h1, h2⟩ := it96 b1 b s ps hl (hpl _ _ _ rfl)
    refine ⟨h1, fun l J Jx W hJ hJx hInv => h2 l J Jx W hJ hJx fun pre W' h => ?_⟩
    obtain ⟨hb, hm⟩ := hInv pre W' h
    exact ⟨hb, hm.1⟩
  | none, _, _ =>
    refine ⟨en96, fun l J Jx W hJ hJx hInv hSz _ hstep h0 => ?_⟩
    obtain ⟨⟨T, hT⟩, _⟩ := hInv _ _ h0
    exact F96_ok l b1 W _ ⟨none, by rw [cell_of hT]; rfl, IfB.yes rfl (.inl ⟨[], rfl, h0⟩)⟩

theorem c65 (p : Option Addr) (w : World) : CW Try.prog 65 #[.pointer p] w fun v w' => ∃ b T, v = .func (.func 96) #[] #[.pointer (some ⟨b, 0, none⟩)] ∧ IsAlloc w (.cells #[.pointer p] T (0, 0)) b w' :=
  F65_ok p w _ fun b w' h => ⟨b, _, rfl, h⟩

theorem prA_size (x : Pr) : (prA x).size = 1 := rfl
theorem prV_one (x : Pr) : One [.int .i64 x.1, .int .i64 x.2] := by intro v hv; simp at hv; rcases hv with rfl | rfl <;> rfl

/-- All pairs of a source, in a new slice. -/
theorem c97 {w : World} {b1 : Nat} {src : Src} (hI : InvJ b1 src w) (hl : src.fl.length ≤ 1000) :
    CW Try.prog 97 #[.slice none 0 0, .func (.func 96) #[] #[.pointer (some ⟨b1, 0, none⟩)]] w fun v w' => ∃ t, v = slV t ∧ OwS w' t 2 (prs src.fl) ∧ Ext w w' ∧ ∀ j ∈ blk t, w.heap.size ≤ j := by
  have hpl : ∀ b s ps, src = some (b, s, ps) → ps.length ≤ 1000000 := fun b s ps e => by subst e; exact hI.2.2
  have hb1 : b1 < w.heap.size := by obtain ⟨⟨T, hT⟩, _⟩ := hI; exact heap_lt hT
  have hin : ∀ i, src.has i → i < w.heap.size := fun i hi => Src.lt hI.2 hi
  refine F97_ok ⟨none, 0, 0⟩ (96, #[.pointer (some ⟨b1, 0, none⟩)]) w _ ?_
  intro b2 w2 h2 g
  have e2 : Ext w w2 := h2.ch _
  have hs2 := h2.size
  have hh2 := h2.here
  let G : List Pr → World → Prop := fun pre W => (∃ post, pre ++ post = src.fl) ∧ InvJ b1 src W ∧ ∃ t : Sl, (∃ T, W.heap[b2]? = some (.cells #[slV t] T (0, 0))) ∧ OwS W t 2 (prs pre) ∧ (∀ j ∈ blk t, w2.heap.size + 2 ≤ j) ∧ Ch (fun i => w.heap.size ≤ i) w W
  refine range_none tbOk mixed (gf := 96) (lb := #[.pointer (some ⟨b1, 0, none⟩)]) rfl (itJ b1 src (by omega) hpl) R97_0ok1 R97_0ok2 R97_0okp prA_size G (fun _ _ _ => False) ?_ (fun _ _ _ _ h => h.elim) ?_ (fun h => by cases h) ?_ ?_ ?_ (fun _ _ _ h => h.elim)
  · rintro pre W W' ⟨h1, h3, t, ⟨T, h4⟩, h5, h6, h7⟩ hS
    exact ⟨h1, h3.stb hS, t, ⟨T, hS.keep _ _ h4 rfl⟩, h5.stb hS, h6, h7.then (.ofStb hS) fun i _ hi => by omega⟩
  · rintro pre W ⟨_, h3, _⟩; exact h3
  · exact ⟨⟨_, rfl⟩, hI.ch (h2.ch (fun _ => False)) id fun _ _ => id, ⟨none, 0, 0⟩, ⟨_, h2.new⟩, .nil _ _, by simp [blk], e2.mono fun _ _ h => h.elim⟩
  · rintro pre x W ⟨⟨post, hpost⟩, hJ, t, ⟨T, hb⟩, ho, hbl, hC⟩ ⟨post', hx⟩ hW
    refine F97b0_ok b2 ⟨none, 0, 0⟩ (96, #[.pointer (some ⟨b1, 0, none⟩)]) x _ _ _ _ _ W ?_
    intro c1 v2 k2
    refine ⟨rfl, store_all k2.new rfl (prV_one x) fun v3 k3 => ?_⟩
    have eW : Ext W v3 := Ext.fresh k2 k3
    have kh := k2.here
    refine ⟨rfl, ⟨eW.old _ (by omega) id, eW.old _ (by omega) id⟩, fun w12 hS hL => ?_⟩
    have H := hS.keep _ _ (eW.at hb) rfl
    have ho12 := (ho.ext eW).stb hS
    have hJ12 := (hJ.ch eW id fun _ _ => id).stb hS
    have hC12 : Ch (fun i => w.heap.size ≤ i) w w12 := (hC.then eW fun _ _ h => h.elim).then (.ofStb hS) fun i _ hi => by omega
    have hc1 := hS.keep _ _ k3.new rfl
    have hs12 := hS.size
    have hsv := eW.size
    refine ⟨t, by rw [cell_of H]; rfl, x, cellsAt_of hc1 fun i v hv => by simpa using hv, by decide, fun b20 w21 h21 => ?_⟩
    refine ⟨prV x, ⟨rfl, cellsAt_of h21.new fun i v hv => by simpa [prV] using hv⟩, ?_⟩
    have e21 : Ext w12 w21 := h21.ch _
    have htn : t.n = pre.length := by have := ho.len; rw [prs_len] at this; omega
    have hprel : pre.length + 1 ≤ 1000 := by
      have := congrArg List.length hx; simp at this; omega
    refine (ho12.ext e21).append (cnt := 1) rfl rfl rfl (prV_one x) ⟨by omega, by dsimp only; omega⟩ ?_
    intro s' w24 ho' hn' hc' hb' _
    have hne : ∀ i, i < w2.heap.size → ¬ i ∈ blk t := fun i hi h => by have := hbl i h; omega
    have H24 := hc'.at (e21.at H) (hne _ (by omega))
    refine ⟨rfl, store_one H24 (by simp) rfl fun w25 h25 => ?_⟩
    have hc25 : Ch (fun i => i = b2 ∨ i ∈ blk t) w12 w25 := (((e21.mono fun _ _ h => h.elim).then hc' fun i _ h => .inr h).then h25.ch fun i _ h => .inl h)
    have hSi : w2.heap.size + 2 ≤ w12.heap.size := by omega
    have hb2' : ∀ j ∈ blk s', w2.heap.size + 2 ≤ j := fun j hj => by
      rcases hb' j hj with h | h
      · exact hbl j h
      · have := e21.size; omega
    refine ⟨⟨hc25.old _ (by omega) ?_, hc25.old _ (by omega) ?_⟩, ⟨post', by simpa using hx⟩, hJ12.ch hc25 ?_ ?_, s', ⟨_, h25.new⟩, ?_, hb2', ?_⟩
    · rintro (h | h)
      · omega
      · have := hbl _ h; omega
    · rintro (h | h)
      · omega
      · have := hbl _ h; omega
    · rintro (h | h)
      · omega
      · have := hbl _ h; omega
    · rintro i hi (h | h)
      · have := hin i hi; omega
      · have := hbl _ h; have := hin i hi; omega
    · have := ho'.ch h25.ch fun j hj e => by have := hb2' j hj; omega
      rw [prs_append]; exact this
    · exact hC12.then hc25 fun i hi h => by
        rcases h with h | h
        · omega
        · have := hbl _ h; omega
  · rintro xs W rfl ⟨_, hJ, t, ⟨T, hb⟩, ho, hbl, hC⟩ hD
    refine ⟨t, by rw [cell_of hb]; rfl, marks_one hD fun w' hu => ⟨t, rfl, ?_, ?_, fun j hj => by have := hbl j hj; omega⟩⟩
    · refine ho.ch hu.ch fun j hj e => ?_
      have := hbl j hj; omega
    · exact ⟨hC.rest.trans hu.rest, by rw [hu.size]; exact hC.size, fun i hi _ => by rw [hu.old i (by omega)]; exact hC.old i hi (by omega)⟩

theorem c67 {w : World} {b1 : Nat} {src : Src} (hI : InvJ b1 src w) (hl : src.fl.length ≤ 1000) :
    CW Try.prog 67 #[.func (.func 96) #[] #[.pointer (some ⟨b1, 0, none⟩)]] w fun v w' => ∃ t, v = slV t ∧ OwS w' t 2 (prs src.fl) ∧ Ext w w' ∧ ∀ j ∈ blk t, w.heap.size ≤ j := by
  refine F67_ok (96, #[.pointer (some ⟨b1, 0, none⟩)]) w _ ((c97 hI hl).use ?_)
  rintro _ w' ⟨t, rfl, h⟩
  exact ⟨t, rfl, t, rfl, h⟩

/-! ### Scan -/
def scanS (l : List Pr) (lo hi : Int) : List Pr := (l.takeWhile (le1 hi)).filter fun x => decide (lo ≤ x.1)

theorem scanS_stop {pre post : List Pr} {x : Pr} {lo hi : Int} (h1 : ∀ y ∈ pre, y.1 ≤ hi) (h2 : hi < x.1) : scanS (pre ++ x :: post) lo hi = pre.filter fun x => decide (lo ≤ x.1) := by
  unfold scanS
  rw [takeWhile_app (p := le1 hi) fun y hy => decide_eq_true (h1 y hy), List.takeWhile_cons_of_neg, List.append_nil]
  simp [le1]; omega
theorem scanS_all {l : List Pr} {lo hi : Int} (h1 : ∀ y ∈ l, y.1 ≤ hi) : scanS l lo hi = l.filter fun x => decide (lo ≤ x.1) := by
  unfold scanS
  rw [takeWhile_all (p := le1 hi) fun y hy => decide_eq_true (h1 y hy)]

theorem c23 {w : World} {src : Src} (hm : src.mem w) (hl : src.fl.length ≤ 1000) (lo hi : Int) :
    CW Try.prog 23 #[.pointer src.ptr, .int .i64 lo, .int .i64 hi] w fun v w' => ∃ t, v = slV t ∧ OwS w' t 2 (prs (scanS src.fl lo hi)) ∧ Ext w w' ∧ ∀ j ∈ blk t, w.heap.size ≤ j := by
  have hin : ∀ i, src.has i → i < w.heap.size := fun i hi => Src.lt hm hi
  refine F23_ok _ _ _ _ _ ?_
  intro c1 w2 h2 c3 w4 h4 c5 w6 h6
  refine (c65 _ w6).use ?_
  rintro _ w8 ⟨b1, T1, rfl, h8⟩
  refine ⟨(96, #[.pointer (some ⟨b1, 0, none⟩)]), rfl, fun g => ?_⟩
  have e8 : Ext w w8 := (((h2.ch _).trans (h4.ch _)).trans (h6.ch _)).trans (h8.ch _)
  have H1 := h8.at (h6.at (h4.at h2.new))
  have H3 := h8.at (h6.at h4.new)
  have H5 := h8.at h6.new
  have s2 := h2.size; have s4 := h4.size; have s6 := h6.size; have s8 := h8.size
  have p2 := h2.here; have p4 := h4.here; have p6 := h6.here; have p8 := h8.here
  have hJ8 : InvJ b1 src w8 := ⟨⟨_, h8.new⟩, Src.ext hm e8⟩
  have hpl : ∀ b s ps, src = some (b, s, ps) → ps.length ≤ 1000000 := fun b s ps e => by subst e; exact hm.2
  let H : List Pr → World → Prop := fun l W => ∃ t : Sl, (∃ T, W.heap[c5]? = some (.cells #[slV t] T (0, 0))) ∧ OwS W t 2 (prs l) ∧ (∀ j ∈ blk t, w8.heap.size + 2 ≤ j) ∧ Ch (fun i => w.heap.size ≤ i) w W
  have hH : ∀ l n W W', H l W → Stb n W W' → w8.heap.size ≤ n → H l W' := by
    rintro l n W W' ⟨t, ⟨T, h4⟩, h5, h6, h7⟩ hS hn
    exact ⟨t, ⟨T, hS.keep _ _ h4 rfl⟩, h5.stb hS, h6, h7.then (.ofStb hS) fun i _ hi => by omega⟩
  let G : List Pr → World → Prop := fun pre W => (∃ post, pre ++ post = src.fl) ∧ (∀ y ∈ pre, y.1 ≤ hi) ∧ InvJ b1 src W ∧ (∃ T, W.heap[c1]? = some (.cells #[.int .i64 lo] T (0, 0))) ∧ (∃ T, W.heap[c3]? = some (.cells #[.int .i64 hi] T (0, 0))) ∧ H (pre.filter fun x => decide (lo ≤ x.1)) W
  let Gx : Code → List Pr → World → Prop := fun c pre W => c = .exit 0 ∧ H (scanS src.fl lo hi) W
  have fin : ∀ l W, H l W → W.heap[w8.heap.size]? = some (.deferred (some [])) → ∃ s13 : Sl, W.cell? ⟨c5, 0, none⟩ = some (.slice s13.1 s13.2 s13.3) ∧ marksP W [w8.heap.size] fun w14 => ∃ t, slV s13 = slV t ∧ OwS w14 t 2 (prs l) ∧ Ext w w14 ∧ ∀ j ∈ blk t, w.heap.size ≤ j := by
    rintro l W ⟨t, ⟨T, hb⟩, ho, hbl, hC⟩ hD
    refine ⟨t, by rw [cell_of hb]; rfl, marks_one hD fun w' hu => ⟨t, rfl, ?_, ?_, fun j hj => by have := hbl j hj; omega⟩⟩
    · exact ho.ch hu.ch fun j hj e => by have := hbl j hj; omega
    · exact ⟨hC.rest.trans hu.rest, by rw [hu.size]; exact hC.size, fun i hi _ => by rw [hu.old i (by omega)]; exact hC.old i hi (by omega)⟩
  refine range_none tbOk mixed (gf := 96) (lb := #[.pointer (some ⟨b1, 0, none⟩)]) rfl (itJ b1 src (by omega) hpl) R23_0ok1 R23_0ok2 R23_0okp prA_size G Gx ?_ ?_ ?_ (fun h => by cases h) ?_ ?_ ?_ ?_
  · rintro pre W W' ⟨h1, h2, h3, ⟨T, h4⟩, ⟨T', h5⟩, h6⟩ hS
    exact ⟨h1, h2, h3.stb hS, ⟨T, hS.keep _ _ h4 rfl⟩, ⟨T', hS.keep _ _ h5 rfl⟩, hH _ _ _ _ h6 hS (Nat.le_refl _)⟩
  · rintro c pre W W' ⟨h1, h6⟩ hS
    exact ⟨h1, hH _ _ _ _ h6 hS (Nat.le_refl _)⟩
  · rintro pre W ⟨_, _, h3, _⟩; exact h3
  · exact ⟨⟨_, rfl⟩, by simp, hJ8, ⟨_, H1⟩, ⟨_, H3⟩, ⟨none, 0, 0⟩, ⟨_, H5⟩, .nil _ _, by simp [blk], e8.mono fun _ _ h => h.elim⟩
  · rintro pre x W ⟨⟨post, hpost⟩, hle, hJ, ⟨T1', hc1⟩, ⟨T3', hc3⟩, t, ⟨T, hb⟩, ho, hbl, hC⟩ ⟨post', hx⟩ hW
    refine F23b0_ok c1 c3 ⟨none, 0, 0⟩ c5 (96, #[.pointer (some ⟨b1, 0, none⟩)]) x _ _ _ _ _ W ?_
    intro v1 v2 k2
    refine ⟨rfl, store_all k2.new rfl (prV_one x) fun v3 k3 => ?_⟩
    have eW : Ext W v3 := Ext.fresh k2 k3
    have kh := k2.here
    refine ⟨rfl, ⟨eW.old _ (by omega) id, eW.old _ (by omega) id⟩, fun w12 hS hL => ?_⟩
    have B5 := hS.keep _ _ (eW.at hb) rfl
    have B1 := hS.keep _ _ (eW.at hc1) rfl
    have B3 := hS.keep _ _ (eW.at hc3) rfl
    have ho12 := (ho.ext eW).stb hS
    have hJ12 := (hJ.ch eW id fun _ _ => id).stb hS
    have hC12 : Ch (fun i => w.heap.size ≤ i) w w12 := (hC.then eW fun _ _ h => h.elim).then (.ofStb hS) fun i _ hi => by omega
    have hv1 := hS.keep _ _ k3.new rfl
    have hs12 := hS.size
    have hsv := eW.size
    refine ⟨x.1, by rw [cell_of hv1]; rfl, hi, by rw [cell_of B3]; rfl, IfB.dec (fun hgt => ?_) (fun hngt => ?_)⟩
    · refine ⟨⟨rfl, rfl⟩, rfl, t, ⟨_, B5⟩, ?_, hbl, hC12⟩
      rw [← hx, scanS_stop hle hgt]; exact ho12
    · refine ⟨x.1, by rw [cell_of hv1]; rfl, lo, by rw [cell_of B1]; rfl, IfB.dec (fun hlo => ?_) (fun hlo => ?_)⟩
      · refine ⟨t, by rw [cell_of B5]; rfl, x, cellsAt_of hv1 fun i v hv => by simpa using hv, by decide, fun b20 w21 h21 => ?_⟩
        refine ⟨prV x, ⟨rfl, cellsAt_of h21.new fun i v hv => by simpa [prV] using hv⟩, ?_⟩
        have e21 : Ext w12 w21 := h21.ch _
        have hfl : (pre.filter fun x => decide (lo ≤ x.1)).length ≤ pre.length := List.length_filter_le _ _
        have htn : t.n = (pre.filter fun x => decide (lo ≤ x.1)).length := by have := ho.len; rw [prs_len] at this; omega
        have hprel : pre.length + 1 ≤ 1000 := by
          have := congrArg List.length hx; simp at this; omega
        refine (ho12.ext e21).append (cnt := 1) rfl rfl rfl (prV_one x) ⟨by omega, by dsimp only; omega⟩ ?_
        intro s' w24 ho' hn' hc' hb' _
        have hne : ∀ i, i < w8.heap.size + 2 → ¬ i ∈ blk t := fun i hi h => by have := hbl i h; omega
        have H24 := hc'.at (e21.at B5) (hne _ (by omega))
        refine ⟨rfl, store_one H24 (by simp) rfl fun w25 h25 => ?_⟩
        have hc25 : Ch (fun i => i = c5 ∨ i ∈ blk t) w12 w25 := (((e21.mono fun _ _ h => h.elim).then hc' fun i _ h => .inr h).then h25.ch fun i _ h => .inl h)
        have hb2' : ∀ j ∈ blk s', w8.heap.size + 2 ≤ j := fun j hj => by
          rcases hb' j hj with h | h
          · exact hbl j h
          · have := e21.size; omega
        have far : ∀ i, i < w8.heap.size + 2 → i ≠ c5 → ¬ (i = c5 ∨ i ∈ blk t) := fun i hi hne' h => h.elim hne' (hne i hi)
        refine ⟨⟨hc25.old _ (by omega) (far _ (by omega) (by omega)), hc25.old _ (by omega) (far _ (by omega) (by omega))⟩, ⟨post', by simpa using hx⟩, ?_, hJ12.ch hc25 (far _ (by omega) (by omega)) (fun i hi => far _ (by have := hin i hi; omega) (by have := hin i hi; omega)), ⟨_, hc25.at B1 (far _ (by omega) (by omega))⟩, ⟨_, hc25.at B3 (far _ (by omega) (by omega))⟩, s', ⟨_, h25.new⟩, ?_, hb2', ?_⟩
        · intro y hy
          rcases List.mem_append.1 hy with hy | hy
          · exact hle y hy
          · simp at hy; subst hy; omega
        · have := ho'.ch h25.ch fun j hj e => by have := hb2' j hj; omega
          rw [List.filter_append, List.filter_cons_of_pos (by simpa using hlo), prs_append]; exact this
        · exact hC12.then hc25 fun i hi h => by
            rcases h with h | h
            · omega
            · have := hbl _ h; omega
      · refine ⟨⟨rfl, rfl⟩, ⟨post', by simpa using hx⟩, ?_, hJ12, ⟨_, B1⟩, ⟨_, B3⟩, t, ⟨_, B5⟩, ?_, hbl, hC12⟩
        · intro y hy
          rcases List.mem_append.1 hy with hy | hy
          · exact hle y hy
          · simp at hy; subst hy; omega
        · rw [List.filter_append, List.filter_cons_of_neg (by simpa using hlo)]; simpa using ho12
  · rintro xs W rfl ⟨_, hle, _, _, _, h6⟩ hD
    have := fin _ _ h6 hD
    rw [← scanS_all hle] at this
    exact this
  · rintro c pre W ⟨rfl, h6⟩ hD
    exact fin _ _ h6 hD

/-! ### Len -/
theorem c31 {w : World} {src : Src} (hm : src.mem w) (hl : src.fl.length ≤ 1000) :
    CW Try.prog 31 #[.pointer src.ptr] w fun v w' => v = .int .i64 src.fl.length ∧ Ext w w' := by
  have hin : ∀ i, src.has i → i < w.heap.size := fun i hi => Src.lt hm hi
  refine F31_ok _ _ _ ?_
  intro c1 w2 h2
  refine ⟨rfl, store_all h2.new rfl (by intro v hv; simp at hv; subst hv; rfl) fun w3 h3 => ?_⟩
  have e3 : Ext w w3 := Ext.fresh h2 h3
  refine (c65 _ w3).use ?_
  rintro _ w8 ⟨b1, T1, rfl, h8⟩
  refine ⟨(96, #[.pointer (some ⟨b1, 0, none⟩)]), rfl, fun g => ?_⟩
  have e8 : Ext w w8 := e3.trans (h8.ch _)
  have H1 := h8.at h3.new
  have s2 := h2.size; have s3 := h3.size; have s8 := h8.size
  have p2 := h2.here; have p8 := h8.here
  have hJ8 : InvJ b1 src w8 := ⟨⟨_, h8.new⟩, Src.ext hm e8⟩
  have hpl : ∀ b s ps, src = some (b, s, ps) → ps.length ≤ 1000000 := fun b s ps e => by subst e; exact hm.2
  let G : List Pr → World → Prop := fun pre W => (∃ post, pre ++ post = src.fl) ∧ InvJ b1 src W ∧ (∃ T, W.heap[c1]? = some (.cells #[.int .i64 pre.length] T (0, 0))) ∧ Ch (fun i => w.heap.size ≤ i) w W
  refine range_none tbOk mixed (gf := 96) (lb := #[.pointer (some ⟨b1, 0, none⟩)]) rfl (itJ b1 src (by omega) hpl) R31_0ok1 R31_0ok2 R31_0okp prA_size G (fun _ _ _ => False) ?_ (fun _ _ _ _ h => h.elim) ?_ (fun h => by cases h) ?_ ?_ ?_ (fun _ _ _ h => h.elim)
  · rintro pre W W' ⟨h1, h3, ⟨T, h4⟩, h7⟩ hS
    exact ⟨h1, h3.stb hS, ⟨T, hS.keep _ _ h4 rfl⟩, h7.then (.ofStb hS) fun i _ hi => by omega⟩
  · rintro pre W ⟨_, h3, _⟩; exact h3
  · exact ⟨⟨_, rfl⟩, hJ8, ⟨_, H1⟩, e8.mono fun _ _ h => h.elim⟩
  · rintro pre x W ⟨⟨post, hpost⟩, hJ, ⟨T, hb⟩, hC⟩ ⟨post', hx⟩ hW
    refine F31b0_ok 0 c1 (96, #[.pointer (some ⟨b1, 0, none⟩)]) (.agg #[.int .i64 x.1, .int .i64 x.2]) _ _ _ _ _ W ?_
    refine ⟨rfl, ⟨rfl, rfl⟩, fun w9 hS hL => ?_⟩
    have B1 := hS.keep _ _ hb rfl
    have hs := hS.size
    have hprel : pre.length + 1 ≤ 1000 := by
      have := congrArg List.length hx; simp at this; omega
    refine ⟨_, by rw [cell_of B1]; rfl, rfl, store_one B1 (by simp) rfl fun w16 h16 => ?_⟩
    refine ⟨⟨h16.old _ (by omega), h16.old _ (by omega)⟩, ⟨post', by simpa using hx⟩, (hJ.stb hS).ch h16.ch (by omega) (fun i hi e => by have := hin i hi; omega), ⟨T, ?_⟩, ?_⟩
    · rw [h16.new, wrap_of (by omega) (by omega)]; simp
    · have hC9 : Ch (fun i => w.heap.size ≤ i) w w9 := hC.then (.ofStb hS) fun i _ hi => by omega
      exact hC9.then h16.ch fun i hi e => by omega
  · rintro xs W rfl ⟨_, hJ, ⟨T, hb⟩, hC⟩ hD
    refine ⟨_, by rw [cell_of hb]; rfl, marks_one hD fun w' hu => ⟨rfl, ?_⟩⟩
    exact ⟨hC.rest.trans hu.rest, by rw [hu.size]; exact hC.size, fun i hi _ => by rw [hu.old i (by omega)]; exact hC.old i hi (by omega)⟩

/-! ### Equal, Same -/
theorem eqPair (x y : Pr) : EqAt Try.prog 37 (.agg #[.int .i64 x.1, .int .i64 x.2]) (.agg #[.int .i64 y.1, .int .i64 y.2]) (x == y) := by
  have h := eqAt_struct tbOk (d := 2) (by decide) (t := 37) (xs := #[.int .i64 x.1, .int .i64 x.2]) (ys := #[.int .i64 y.1, .int .i64 y.2]) (b := (x.1 == y.1) && ((x.2 == y.2) && true)) (by kernel_rfl) (by kernel_rfl)
  have e : (x == y) = ((x.1 == y.1) && ((x.2 == y.2) && true)) := by rw [Bool.and_true]; rfl
  rw [e]; exact h

theorem c66 {w : World} {t u : Sl} {xs ys : List Pr} (ht : Rd w t 2 (prs xs)) (hu : Rd w u 2 (prs ys)) (hl : xs.length ≤ 1000000) :
    CW Try.prog 66 #[slV t, slV u] w fun v w' => v = .bool (xs == ys) ∧ Ext w w' := by
  have htn : t.n = xs.length := by have := ht.1; rw [prs_len] at this; omega
  have hun : u.n = ys.length := by have := hu.1; rw [prs_len] at this; omega
  refine F66_ok t u w _ (IfB.intro (fun hne => ?_) (fun heq => ?_))
  · have : xs.length ≠ ys.length := by
      have : (t.n : Int) ≠ (u.n : Int) := by simpa using hne
      omega
    have e : (xs == ys) = false := by
      rw [beq_eq_false_iff_ne]; intro e; exact this (by rw [e])
    rw [e]
    exact ⟨rfl, Ch.refl _ _⟩
  have hlen : xs.length = ys.length := by
    have : (t.n : Int) = (u.n : Int) := by simpa using heq
    omega
  refine ⟨fun n x w5 => ∃ i : Nat, i ≤ xs.length ∧ n + i = xs.length ∧ x = (i : Int) ∧ Ext w w5 ∧ xs.take i = ys.take i, ⟨xs.length, 0, Nat.zero_le _, rfl, rfl, Ch.refl _ _, rfl⟩, ?_⟩
  rintro n _ w5 g ⟨i, hi, hni, rfl, e5, htk⟩
  unfold F66j1
  refine IfB.dec (fun hlt => ?_) (fun hge => ?_)
  · have hi' : i < xs.length := by omega
    have hi2 : i < ys.length := by omega
    have hx : xs[i]? = some xs[i] := List.getElem?_eq_getElem hi'
    have hy : ys[i]? = some ys[i] := List.getElem?_eq_getElem hi2
    have ed := e5.trans (extDrew w5)
    obtain ⟨a, o, ha, hca⟩ := (ht.ext ed).elem (by omega) (by decide) (prs_elem hx)
    obtain ⟨a', o', ha', hca'⟩ := (hu.ext ed).elem (i := i) (by omega) (by decide) (prs_elem hy)
    refine ⟨a, o, ha, (⟨by omega, by omega⟩ : (0 : Int) ≤ (i : Int) ∧ (i : Int) < (t.n : Int)), xs[i], by rw [Int.toNat_natCast]; exact hca, a', o', ha', (⟨by omega, by omega⟩ : (0 : Int) ≤ (i : Int) ∧ (i : Int) < (u.n : Int)), ys[i], by rw [Int.toNat_natCast]; exact hca', _, eqPair _ _, ?_⟩
    refine IfB.intro (fun hb => ?_) (fun hb => ?_)
    · have e : (xs == ys) = false := by
        rw [beq_eq_false_iff_ne]; rintro rfl; simp at hb
      rw [e]
      exact ⟨rfl, ed⟩
    · have he : xs[i] = ys[i] := by simpa using hb
      refine ⟨rfl, n - 1, by omega, i + 1, hi', by omega, by rw [wrap_of (by omega) (by omega)]; rfl, ed, ?_⟩
      rw [take_succ_get hx, take_succ_get hy, htk, he]
  · have hi' : i = xs.length := by omega
    subst hi'
    have e : xs = ys := by rw [List.take_length, hlen, List.take_length] at htk; exact htk
    subst e
    exact ⟨by simp, e5⟩

theorem c25 {w : World} {src src' : Src} (hm : src.mem w) (hm' : src'.mem w) (hl : src.fl.length ≤ 1000) (hl' : src'.fl.length ≤ 1000) :
    CW Try.prog 25 #[.pointer src.ptr, .pointer src'.ptr] w fun v w' => v = .bool (src.fl == src'.fl) ∧ Ext w w' := by
  refine F25_ok _ _ _ _ ((c65 _ w).use ?_)
  rintro _ w2 ⟨b1, T1, rfl, h2⟩
  have e2 : Ext w w2 := h2.ch _
  refine ⟨(96, _), rfl, (c67 (src := src) ⟨⟨_, h2.new⟩, Src.ext hm e2⟩ hl).use ?_⟩
  rintro _ w5 ⟨t, rfl, ho, e5, hb⟩
  refine ⟨t, rfl, (c65 _ w5).use ?_⟩
  rintro _ w8 ⟨b2, T2, rfl, h8⟩
  have e8 : Ext w5 w8 := h8.ch _
  refine ⟨(96, _), rfl, (c67 (src := src') ⟨⟨_, h8.new⟩, Src.ext hm' ((e2.trans e5).trans e8)⟩ hl').use ?_⟩
  rintro _ w11 ⟨u, rfl, ho', e11, hb'⟩
  refine ⟨u, rfl, (c66 ((ho.ext (e8.trans e11)).rd) ho'.rd (by omega)).use ?_⟩
  rintro _ w14 ⟨rfl, e14⟩
  exact ⟨_, rfl, rfl, (((e2.trans e5).trans e8).trans e11).trans e14⟩

/-! ### Copy -/
theorem c34nil (w : World) : CW Try.prog 34 #[.pointer none] w fun r w' => r = .pointer none ∧ w = w' := F34_ok _ _ _ (IfB.yes rfl ⟨rfl, rfl⟩)

theorem c34 {w : World} {b : Nat} {P : List (List Pr)} {s : Sl} {ps : List Pg} (hS : St w b s ps) (hP : ps.map (·.2) = P) (hI : Inv P) :
    CW Try.prog 34 #[.pointer (some ⟨b, 0, none⟩)] w fun r w' => ∃ b', r = .pointer (some ⟨b', 0, none⟩) ∧ StA (fun i => w.heap.size ≤ i) w' b' P ∧ Ext w w' := by
  have hlen : ps.length = P.length := by rw [← hP, List.length_map]
  have hsn : s.n = ps.length := hS.n
  have hpl := hI.plen
  refine F34_ok _ _ _ (IfB.no rfl ?_)
  intro b1 w2 h2
  have e2 : Ext w w2 := h2.ch _
  have hh := h2.here
  refine ⟨b, 0, rfl, s, (hS.ext e2).cell, ?_⟩
  refine ⟨fun n x w5 => ∃ i s' ps', i ≤ ps.length ∧ n + i = ps.length ∧ x = (i : Int) ∧ St w5 b1 s' ps' ∧ ps'.map (·.2) = P.take i ∧ (∀ j, inSt b1 s' ps' j → w.heap.size ≤ j) ∧ Ext w w5, ⟨ps.length, 0, ⟨none, 0, 0⟩, [], Nat.zero_le _, rfl, rfl, ⟨⟨_, h2.new⟩, .nil _ _, by simp, by simp, by simp, by simp [blk]⟩, by simp, ?_, e2⟩, ?_⟩
  · rintro j (rfl | h | ⟨x, hx, h⟩)
    · omega
    · simp [blk] at h
    · simp at hx
  rintro n _ w5 g ⟨i, s', ps', hi, hni, rfl, hS5, hP5, hA5, e5⟩
  unfold F34j1
  refine IfB.dec (fun hlt => ?_) (fun hge => ?_)
  · have hi' : i < ps.length := by
      have : (i : Int) < (s.n : Int) := hlt
      omega
    have hx : ps[i]? = some ps[i] := List.getElem?_eq_getElem hi'
    generalize ps[i] = y at hx
    obtain ⟨a, ha, hc, hox, hxn⟩ := (hS.ext e5).page hx
    have hym : y.2 ∈ P := by rw [← hP]; exact List.mem_map_of_mem (List.mem_of_getElem? hx)
    have hyl : P[i]? = some y.2 := by rw [← hP, List.getElem?_map, hx]; rfl
    have h8 := hI.few _ hym
    have ed := extDrew w5
    have hS6 := hS5.ext ed
    have hn' : ps'.length = i := by have := congrArg List.length hP5; simp at this; omega
    refine ⟨a, 0, ha, (⟨by omega, by omega⟩ : (0 : Int) ≤ (i : Int) ∧ (i : Int) < (s.n : Int)), y.1, by rw [Int.toNat_natCast, Nat.zero_add]; exact hc, b1, 0, rfl, s', hS6.cell, (c74 (hox.ext ed).rd (by omega)).use ?_⟩
    rintro _ w20 ⟨t', rfl, ho', e20, hb', hn2⟩
    have hS20 := hS6.ext e20
    refine ⟨t', rfl, hS20.cell, by decide, fun b22 w23 h23 => ?_⟩
    have e23 : Ext w20 w23 := h23.ch _
    have hS23 := hS20.ext e23
    refine ⟨hS23.cell, [slV t'], ⟨rfl, cellsAt_of h23.new fun j v hv => by simpa using hv⟩, ?_⟩
    have sz5 : w5.drew.heap.size = w5.heap.size := rfl
    have ho23 := ho'.ext e23
    have hsn5 := hS5.n
    refine hS23.arr.append (cnt := 1) rfl rfl rfl (by intro v hv; simp at hv; subst hv; rfl) ⟨by omega, by dsimp only; omega⟩ ?_
    intro s2 w26 hs2 hn26 hc26 hb26 _
    have hfr : ∀ j, inSt b1 s' ps' j → ∀ q ∈ blk t', q ≠ j := fun j hj q hq e => by have := hS5.lt hj; have := hb' q hq; omega
    refine ⟨b1, 0, rfl, rfl, ?_⟩
    have hlist : ps'.map hV ++ [slV t'] = (ps' ++ [(t', y.2)]).map hV := by simp
    rw [hlist] at hs2
    have hmem : ∀ z ∈ ps' ++ [(t', y.2)], z = (t', y.2) ∨ z ∈ ps' := fun z hz => by simp at hz; exact hz.symm
    refine stSet (w := w23) (s := s') (by obtain ⟨T, hT⟩ := hS23.box; exact ⟨T, _, hT⟩) hS23.self ?_ ?_ ?_ hs2 hc26 hb26 ?_
    · intro z hz
      rcases hmem z hz with rfl | hz
      · exact ho23
      · exact hS23.pg z hz
    · rw [List.pairwise_append]
      refine ⟨hS23.nd, by simp, fun z hz z' hz' => ?_⟩
      simp at hz'; subst hz'
      exact fun j hj hj2 => hfr j (.inr (.inr ⟨z, hz, hj⟩)) j hj2 rfl
    · intro z hz j hj
      rcases hmem z hz with rfl | hz
      · exact ⟨hfr _ (.inl rfl) j hj, fun e => hfr _ (.inr (.inl e)) j hj rfl⟩
      · exact hS23.sep z hz j hj
    · intro w29 hS29 hc29
      have hsz := ((e5.trans ed).trans e20).size
      have hsz2 := (((e5.trans ed).trans e20).trans e23).size
      refine ⟨rfl, n - 1, by omega, i + 1, s2, ps' ++ [(t', y.2)], hi', by omega, by rw [wrap_of (by omega) (by omega)]; rfl, hS29, ?_, ?_, ?_⟩
      · rw [take_succ_get hyl, List.map_append, hP5]; rfl
      · rintro j (rfl | h | ⟨z, hz, h⟩)
        · exact hA5 _ (.inl rfl)
        · rcases hb26 j h with h | h
          · exact hA5 j (.inr (.inl h))
          · omega
        · rcases hmem z hz with rfl | hz
          · have := hb' j h; have := e5.size; omega
          · exact hA5 j (.inr (.inr ⟨z, hz, h⟩))
      · refine ((((e5.trans ed).trans e20).trans e23).then hc26 fun j hj h => ?_).then hc29 fun j hj h => ?_
        · have := hA5 j (.inr (.inl h)); omega
        · have := hA5 j (.inl h); omega
  · have hi' : i = ps.length := by
      have : ¬ (i : Int) < (s.n : Int) := hge
      omega
    rw [List.take_of_length_le (by omega)] at hP5
    exact ⟨b1, rfl, ⟨s', ps', hS5, hP5, hA5⟩, e5⟩

/-! ### Of -/
def putL (P : List (List Pr)) (l : List Pr) : List (List Pr) := l.foldl (fun P x => if 0 ≤ x.1 ∧ x.1 ≤ 999 then putP P x.1 x.2 else P) P
theorem putL_inv : ∀ {l : List Pr} {P : List (List Pr)}, Inv P → Inv (putL P l)
  | [], _, h => h
  | x :: l, P, h => by
    show Inv (putL (if 0 ≤ x.1 ∧ x.1 ≤ 999 then putP P x.1 x.2 else P) l)
    split
    · rename_i hk; exact putL_inv (putP_inv h hk)
    · exact putL_inv h
theorem putL_snoc (P : List (List Pr)) (l : List Pr) (x : Pr) : putL P (l ++ [x]) = if 0 ≤ x.1 ∧ x.1 ≤ 999 then putP (putL P l) x.1 x.2 else putL P l := by
  unfold putL; rw [List.foldl_append]; rfl

theorem c19 {w : World} {t : Sl} {xs : List Pr} (ht : Rd w t 2 (prs xs)) (hl : xs.length ≤ 1000000) :
    CW Try.prog 19 #[slV t] w fun r w' => ∃ b', r = .pointer (some ⟨b', 0, none⟩) ∧ StA (fun i => w.heap.size ≤ i) w' b' (putL [] xs) ∧ Ext w w' := by
  have htn : t.n = xs.length := by have := ht.1; rw [prs_len] at this; omega
  refine F19_ok t w _ ?_
  intro b1 w2 h2
  have e2 : Ext w w2 := h2.ch _
  have hh := h2.here
  refine ⟨fun n x w5 => ∃ i : Nat, i ≤ xs.length ∧ n + i = xs.length ∧ x = (i : Int) ∧ StA (fun i => w.heap.size ≤ i) w5 b1 (putL [] (xs.take i)) ∧ Ext w w5, ⟨xs.length, 0, Nat.zero_le _, rfl, rfl, ⟨⟨none, 0, 0⟩, [], ⟨⟨_, h2.new⟩, .nil _ _, by simp, by simp, by simp, by simp [blk]⟩, rfl, ?_⟩, e2⟩, ?_⟩
  · rintro j (rfl | h | ⟨x, hx, h⟩)
    · omega
    · simp [blk] at h
    · simp at hx
  rintro n _ w5 g ⟨i, hi, hni, rfl, hS5, e5⟩
  unfold F19j1
  refine IfB.dec (fun hlt => ?_) (fun hge => ?_)
  · have hi' : i < xs.length := by omega
    have hx : xs[i]? = some xs[i] := List.getElem?_eq_getElem hi'
    generalize xs[i] = x at hx
    obtain ⟨a, o, ha, hca⟩ := (ht.ext e5).elem (i := i) (by omega) (by decide) (prs_elem hx)
    refine ⟨a, o, ha, (⟨by omega, by omega⟩ : (0 : Int) ≤ (i : Int) ∧ (i : Int) < (t.n : Int)), x, by rw [Int.toNat_natCast]; exact hca, fun b13 w14 h14 => ⟨rfl, store_all h14.new rfl (prV_one x) fun w15 h15 => ?_⟩⟩
    have e15 : Ext w5 w15 := Ext.fresh h14 h15
    refine ⟨x.1, by rw [cell_of h15.new]; rfl, x.2, by rw [cell_of h15.new]; rfl, (c28 (hS5.ext e15) (putL_inv Inv.nil) x.1 x.2).use ?_⟩
    rintro _ w19 ⟨rfl, hS19, hc19⟩
    have hsz := (e5.trans e15).size
    refine ⟨_, rfl, rfl, n - 1, by omega, i + 1, hi', by omega, by rw [wrap_of (by omega) (by omega)]; rfl, ?_, ?_⟩
    · rw [take_succ_get hx, putL_snoc]
      exact hS19.mono fun j _ hj => hj.elim id fun h => by omega
    · exact (e5.trans e15).then hc19 fun j hj h => by omega
  · have hi' : i = xs.length := by omega
    rw [hi', List.take_length] at hS5
    exact ⟨b1, rfl, hS5, e5⟩
end Go.Proofs.Ytopecljhehcldaa.Gx
