/- Package pages: what a store is in memory, and what its functions do to the pages. -/
import Derived.Test.YtopecljhehcldaaGxU
import Derived.Test.YtopecljhehcldaaGxFB
namespace Go.Proofs.Ytopecljhehcldaa.Gx
open Go
set_option linter.unusedSimpArgs false
set_option linter.unusedVariables false

abbrev Pr := Int × Int
def prV (x : Pr) : List Value := [.int .i64 x.1, .int .i64 x.2]
def prs (l : List Pr) : List Value := l.flatMap prV
theorem prs_nil : prs [] = [] := rfl
theorem prs_cons (x : Pr) (l : List Pr) : prs (x :: l) = prV x ++ prs l := rfl
theorem prs_append (l m : List Pr) : prs (l ++ m) = prs l ++ prs m := by simp [prs]
theorem prs_len (l : List Pr) : (prs l).length = l.length * 2 := by
  induction l with
  | nil => rfl
  | cons x l ih => rw [prs_cons, List.length_append, ih]; simp [prV]; omega
theorem prs_take : ∀ (l : List Pr) (i : Nat), (prs l).take (i * 2) = prs (l.take i)
  | [], i => by simp [prs]
  | x :: l, 0 => by simp [prs]
  | x :: l, i + 1 => by
    rw [prs_cons, List.take_succ_cons, prs_cons, ← prs_take l i, show (i + 1) * 2 = i * 2 + 1 + 1 by omega]
    simp [prV]
theorem prs_drop : ∀ (l : List Pr) (i : Nat), (prs l).drop (i * 2) = prs (l.drop i)
  | [], i => by simp [prs]
  | x :: l, 0 => by simp [prs]
  | x :: l, i + 1 => by
    rw [prs_cons, List.drop_succ_cons, ← prs_drop l i, show (i + 1) * 2 = i * 2 + 1 + 1 by omega]
    simp [prV]
theorem prs_elem {l : List Pr} {i : Nat} {x : Pr} (h : l[i]? = some x) : ((prs l).drop (i * 2)).take 2 = prV x := by
  obtain ⟨hi, rfl⟩ := List.getElem?_eq_some_iff.1 h
  rw [prs_drop, List.drop_eq_getElem_cons hi, prs_cons]; rfl
theorem prs_one (l : List Pr) : One (prs l) := by
  intro x hx
  simp only [prs, List.mem_flatMap, prV] at hx
  obtain ⟨y, _, hx⟩ := hx
  rcases List.mem_cons.1 hx with rfl | hx
  · rfl
  · rcases List.mem_cons.1 hx with rfl | hx
    · rfl
    · cases hx
theorem slVs_one (hs : List Sl) : One (hs.map slV) := by
  intro x hx
  obtain ⟨s, _, rfl⟩ := List.mem_map.1 hx
  rfl

/-! ### A store in memory -/
abbrev Pg := Sl × List Pr
abbrev hV (x : Pg) : Value := slV x.1
def Dis (x y : Pg) : Prop := ∀ i ∈ blk x.1, i ∉ blk y.1
theorem Dis.symm {x y : Pg} (h : Dis x y) : Dis y x := fun i hi hx => h i hx hi

structure St (w : World) (b : Nat) (s : Sl) (ps : List Pg) : Prop where
  box : ∃ T, w.heap[b]? = some (.cells #[slV s] T (0, 0))
  arr : OwS w s 1 (ps.map hV)
  pg : ∀ x ∈ ps, OwS w x.1 2 (prs x.2)
  nd : ps.Pairwise Dis
  sep : ∀ x ∈ ps, ∀ i ∈ blk x.1, i ≠ b ∧ i ∉ blk s
  self : b ∉ blk s

/-- The blocks of a store. -/
def inSt (b : Nat) (s : Sl) (ps : List Pg) (i : Nat) : Prop := i = b ∨ i ∈ blk s ∨ ∃ x ∈ ps, i ∈ blk x.1

theorem St.lt {w : World} {b : Nat} {s : Sl} {ps : List Pg} (h : St w b s ps) {i : Nat} (hi : inSt b s ps i) : i < w.heap.size := by
  rcases hi with rfl | hi | ⟨x, hx, hi⟩
  · obtain ⟨T, hT⟩ := h.box; exact heap_lt hT
  · exact h.arr.lt i hi
  · exact (h.pg x hx).lt i hi

theorem St.ch {F : Nat → Prop} {w w' : World} {b : Nat} {s : Sl} {ps : List Pg} (h : St w b s ps) (hc : Ch F w w') (hF : ∀ i, inSt b s ps i → ¬ F i) : St w' b s ps := by
  obtain ⟨T, hT⟩ := h.box
  exact ⟨⟨T, hc.at hT (hF _ (.inl rfl))⟩, h.arr.ch hc fun i hi => hF i (.inr (.inl hi)), fun x hx => (h.pg x hx).ch hc fun i hi => hF i (.inr (.inr ⟨x, hx, hi⟩)), h.nd, h.sep, h.self⟩

theorem St.ext {w w' : World} {b : Nat} {s : Sl} {ps : List Pg} (h : St w b s ps) (hc : Ext w w') : St w' b s ps := h.ch hc fun _ _ => id

theorem St.cell {w : World} {b : Nat} {s : Sl} {ps : List Pg} (h : St w b s ps) : w.cell? ⟨b, 0, none⟩ = some (slV s) := by
  obtain ⟨T, hT⟩ := h.box
  rw [cell_of hT]; rfl

theorem St.n {w : World} {b : Nat} {s : Sl} {ps : List Pg} (h : St w b s ps) : s.n = ps.length := by
  rw [h.arr.len1, List.length_map]

/-- A page's slice stands where it should. -/
theorem St.page {w : World} {b : Nat} {s : Sl} {ps : List Pg} (h : St w b s ps) {i : Nat} {x : Pg} (hx : ps[i]? = some x) :
    ∃ a, s.p = some ⟨a, 0, none⟩ ∧ w.cell? ⟨a, i, none⟩ = some (hV x) ∧ OwS w x.1 2 (prs x.2) ∧ x.1.n = x.2.length := by
  obtain ⟨a, ha, hc⟩ := h.arr.elem1 (i := i) (v := hV x) (by rw [List.getElem?_map, hx]; rfl)
  have ho := h.pg x (List.mem_of_getElem? hx)
  exact ⟨a, ha, hc, ho, by have := ho.len; rw [prs_len] at this; omega⟩

theorem pageE {w : World} {t : Sl} {p : List Pr} (h : OwS w t 2 (prs p)) {i : Nat} {x : Pr} (hx : p[i]? = some x) : ∃ b, t.p = some ⟨b, 0, none⟩ ∧ CellsAt w b (i * 2) [.int .i64 x.1, .int .i64 x.2] := by
  have hi : i < t.n := by
    have := h.len; rw [prs_len] at this
    have := (List.getElem?_eq_some_iff.1 hx).1
    omega
  exact h.elem hi (prs_elem hx)

/-- A store of which a page's place is open. -/
structure StH (w : World) (b : Nat) (s : Sl) (L : List Pg) (c : Value) (R : List Pg) : Prop where
  box : ∃ T, w.heap[b]? = some (.cells #[slV s] T (0, 0))
  arr : OwS w s 1 (L.map hV ++ c :: R.map hV)
  pg : ∀ x ∈ L ++ R, OwS w x.1 2 (prs x.2)
  nd : (L ++ R).Pairwise Dis
  sep : ∀ x ∈ L ++ R, ∀ i ∈ blk x.1, i ≠ b ∧ i ∉ blk s
  self : b ∉ blk s

def FreeOf (b : Nat) (s : Sl) (ps : List Pg) (t : Sl) : Prop := ∀ i ∈ blk t, ¬ inSt b s ps i

theorem St.hole {w : World} {b : Nat} {s : Sl} {L R : List Pg} {x : Pg} (h : St w b s (L ++ x :: R)) : StH w b s L (hV x) R ∧ OwS w x.1 2 (prs x.2) ∧ FreeOf b s (L ++ R) x.1 := by
  have hsub : ∀ y ∈ L ++ R, y ∈ L ++ x :: R := fun y hy => by
    rcases List.mem_append.1 hy with hy | hy
    · exact List.mem_append_left _ hy
    · exact List.mem_append_right _ (List.mem_cons_of_mem _ hy)
  have hmem : x ∈ L ++ x :: R := List.mem_append_right _ (List.mem_cons_self ..)
  have hnd := h.nd
  rw [List.pairwise_append, List.pairwise_cons] at hnd
  obtain ⟨n1, ⟨n2, n3⟩, n4⟩ := hnd
  refine ⟨⟨h.box, by simpa using h.arr, fun y hy => h.pg y (hsub y hy), ?_, fun y hy => h.sep y (hsub y hy), h.self⟩, h.pg x hmem, ?_⟩
  · rw [List.pairwise_append]
    exact ⟨n1, n3, fun y hy z hz => n4 y hy z (List.mem_cons_of_mem _ hz)⟩
  · rintro i hi (rfl | hs | ⟨y, hy, hiy⟩)
    · exact (h.sep x hmem _ hi).1 rfl
    · exact (h.sep x hmem _ hi).2 hs
    · rcases List.mem_append.1 hy with hy | hy
      · exact n4 y hy x (List.mem_cons_self ..) i hiy hi
      · exact n2 y hy i hi hiy

theorem StH.fill {w : World} {b : Nat} {s : Sl} {L R : List Pg} {x : Pg} (h : StH w b s L (hV x) R) (ho : OwS w x.1 2 (prs x.2)) (hf : FreeOf b s (L ++ R) x.1) : St w b s (L ++ x :: R) := by
  have hmem : ∀ y ∈ L ++ x :: R, y = x ∨ y ∈ L ++ R := fun y hy => by
    rcases List.mem_append.1 hy with hy | hy
    · exact .inr (List.mem_append_left _ hy)
    · rcases List.mem_cons.1 hy with rfl | hy
      · exact .inl rfl
      · exact .inr (List.mem_append_right _ hy)
  have hnd := h.nd
  rw [List.pairwise_append] at hnd
  obtain ⟨n1, n2, n3⟩ := hnd
  refine ⟨h.box, by simpa using h.arr, fun y hy => ?_, ?_, fun y hy i hi => ?_, h.self⟩
  · rcases hmem y hy with rfl | hy
    · exact ho
    · exact h.pg y hy
  · rw [List.pairwise_append, List.pairwise_cons]
    refine ⟨n1, ⟨fun y hy i hi hiy => hf i hi (.inr (.inr ⟨y, List.mem_append_right _ hy, hiy⟩)), n2⟩, fun y hy z hz => ?_⟩
    rcases List.mem_cons.1 hz with rfl | hz
    · exact fun i hi hiz => hf i hiz (.inr (.inr ⟨y, List.mem_append_left _ hy, hi⟩))
    · exact n3 y hy z hz
  · rcases hmem y hy with rfl | hy
    · exact ⟨fun e => hf i hi (.inl e), fun e => hf i hi (.inr (.inl e))⟩
    · exact h.sep y hy i hi

theorem StH.ch {F : Nat → Prop} {w w' : World} {b : Nat} {s : Sl} {L R : List Pg} {c : Value} (h : StH w b s L c R) (hc : Ch F w w') (hF : ∀ i, inSt b s (L ++ R) i → ¬ F i) : StH w' b s L c R := by
  obtain ⟨T, hT⟩ := h.box
  exact ⟨⟨T, hc.at hT (hF _ (.inl rfl))⟩, h.arr.ch hc fun i hi => hF i (.inr (.inl hi)), fun x hx => (h.pg x hx).ch hc fun i hi => hF i (.inr (.inr ⟨x, hx, hi⟩)), h.nd, h.sep, h.self⟩
theorem StH.ext {w w' : World} {b : Nat} {s : Sl} {L R : List Pg} {c : Value} (h : StH w b s L c R) (hc : Ext w w') : StH w' b s L c R := h.ch hc fun _ _ => id

theorem StH.lt {w : World} {b : Nat} {s : Sl} {L R : List Pg} {c : Value} (h : StH w b s L c R) {i : Nat} (hi : inSt b s (L ++ R) i) : i < w.heap.size := by
  rcases hi with rfl | hi | ⟨x, hx, hi⟩
  · obtain ⟨T, hT⟩ := h.box; exact heap_lt hT
  · exact h.arr.lt i hi
  · exact (h.pg x hx).lt i hi

theorem StH.cell {w : World} {b : Nat} {s : Sl} {L R : List Pg} {c : Value} (h : StH w b s L c R) : w.cell? ⟨b, 0, none⟩ = some (slV s) := by
  obtain ⟨T, hT⟩ := h.box
  rw [cell_of hT]; rfl

theorem StH.n {w : World} {b : Nat} {s : Sl} {L R : List Pg} {c : Value} (h : StH w b s L c R) : s.n = L.length + R.length + 1 := by
  rw [h.arr.len1]; simp; omega

theorem StH.ptr {w : World} {b : Nat} {s : Sl} {L R : List Pg} {c : Value} (h : StH w b s L c R) : ∃ a, s.p = some ⟨a, 0, none⟩ := h.arr.ptr (by rw [h.n]; omega)

/-- A page's slice is put in its place. -/
theorem StH.store {w : World} {b a : Nat} {s : Sl} {L R : List Pg} {c v : Value} {K : World → Prop} (h : StH w b s L c R) (hp : s.p = some ⟨a, 0, none⟩) (h1 : v.oneCell' = true)
    (hK : ∀ w', StH w' b s L v R → Ch (fun i => i ∈ blk s) w w' → K w') : StoreP w a L.length [v] K := by
  have hbk : blk s = [a] := by simp [blk, hp]
  refine h.arr.store hp (by rw [h.n]; simp <;> omega) (by intro x hx; simp at hx; subst hx; exact h1) fun w' ho hc => ?_
  have hc' : Ch (fun i => i ∈ blk s) w w' := hc.mono fun i _ hi => by rw [hbk, hi]; simp
  obtain ⟨T, hT⟩ := h.box
  refine hK w' ⟨⟨T, hc'.at hT h.self⟩, ?_, fun x hx => (h.pg x hx).ch hc' fun i hi => (h.sep x hx i hi).2, h.nd, h.sep, h.self⟩ hc'
  have e : (L.map hV ++ c :: R.map hV).take L.length ++ [v] ++ (L.map hV ++ c :: R.map hV).drop (L.length + [v].length) = L.map hV ++ v :: R.map hV := by
    have hl : (L.map hV).length = L.length := List.length_map ..
    rw [List.take_append_of_le_length (by rw [hl]; exact Nat.le_refl _), List.take_of_length_le (by rw [hl]; exact Nat.le_refl _), List.drop_append, hl, List.drop_of_length_le (by rw [hl]; simp)]
    simp
  rw [e] at ho
  exact ho

/-- The store of a new slice of pages. -/
theorem St.setBox {w : World} {b : Nat} {v : Value} {s' : Sl} {ps : List Pg} {K : World → Prop} (hb : ∃ T, w.heap[b]? = some (.cells #[v] T (0, 0))) (ha : OwS w s' 1 (ps.map hV)) (hpg : ∀ x ∈ ps, OwS w x.1 2 (prs x.2)) (hnd : ps.Pairwise Dis)
    (hsep : ∀ x ∈ ps, ∀ i ∈ blk x.1, i ≠ b ∧ i ∉ blk s') (hself : b ∉ blk s') (hK : ∀ w', St w' b s' ps → Ch (fun i => i = b) w w' → K w') : StoreP w b 0 [slV s'] K := by
  obtain ⟨T, hT⟩ := hb
  refine store_one hT (by simp) rfl fun w' hu => hK w' ⟨⟨T, hu.new⟩, ha.ch hu.ch fun i hi e => hself (e ▸ hi), fun x hx => (hpg x hx).ch hu.ch fun i hi => (hsep x hx i hi).1, hnd, hsep, hself⟩ hu.ch

/-- A store whose blocks are A's. -/
def StA (A : Nat → Prop) (w : World) (b : Nat) (P : List (List Pr)) : Prop := ∃ s ps, St w b s ps ∧ ps.map (·.2) = P ∧ ∀ i, inSt b s ps i → A i
theorem StA.ch {A F : Nat → Prop} {w w' : World} {b : Nat} {P : List (List Pr)} (h : StA A w b P) (hc : Ch F w w') (hF : ∀ i, i < w.heap.size → A i → ¬ F i) : StA A w' b P := by
  obtain ⟨s, ps, h1, h2, h3⟩ := h
  exact ⟨s, ps, h1.ch hc fun i hi => hF i (h1.lt hi) (h3 i hi), h2, h3⟩
theorem StA.ext {A : Nat → Prop} {w w' : World} {b : Nat} {P : List (List Pr)} (h : StA A w b P) (hc : Ext w w') : StA A w' b P := h.ch hc fun _ _ _ => id
theorem StA.mono {A B : Nat → Prop} {w : World} {b : Nat} {P : List (List Pr)} (h : StA A w b P) (hB : ∀ i, i < w.heap.size → A i → B i) : StA B w b P := by
  obtain ⟨s, ps, h1, h2, h3⟩ := h
  exact ⟨s, ps, h1, h2, fun i hi => hB i (h1.lt hi) (h3 i hi)⟩

/-! ### Where a key belongs -/
def hd0 (p : List Pr) : Int := match p with
  | x :: _ => x.1
  | [] => 0
def atP (P : List (List Pr)) (k : Int) : Nat := (match P.findIdx? (fun p => decide (k < hd0 p)) with
  | some i => i
  | none => P.length) - 1
def posP (p : List Pr) (k : Int) : Nat := (p.takeWhile fun x => decide (x.1 < k)).length
def isP (p : List Pr) (k : Int) : Bool := match p[posP p k]? with
  | some x => x.1 == k
  | none => false

/-- What holds of the pages of every store. -/
structure Inv (P : List (List Pr)) : Prop where
  ne : ∀ p ∈ P, p ≠ []
  sorted : (P.flatten.map (·.1)).Pairwise (· < ·)
  rng : ∀ x ∈ P.flatten, 0 ≤ x.1 ∧ x.1 ≤ 999
  few : ∀ p ∈ P, p.length ≤ 8

def PairE (w : World) (b o i : Nat) (x : Pr) : Prop := CellsAt w b (o + i * 2) [.int .i64 x.1, .int .i64 x.2]
def SlE (w : World) (b o i : Nat) (s : Sl) : Prop := w.cell? ⟨b, o + i, none⟩ = some (slV s)

theorem F99_eq (t0 : Sl) (t1 : Nat × Array Value) (w : World) (R : Value → World → Prop) : F99 t0 t1 w R = IndexF Try.prog SlE slV t0 t1 w R := rfl
theorem F100_eq (t0 : Sl) (t1 : Int) (t2 : Nat × Array Value) (w : World) (R : Value → World → Prop) : F100 t0 t1 t2 w R = BinF Try.prog PairE (fun x => .agg #[.int .i64 x.1, .int .i64 x.2]) (.int .i64 t1) t0 t2 w R := rfl
end Go.Proofs.Ytopecljhehcldaa.Gx
