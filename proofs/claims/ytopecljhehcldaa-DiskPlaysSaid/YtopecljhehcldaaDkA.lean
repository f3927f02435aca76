/- Merged: DiskA, DiskB, DiskC, DiskD, DiskE, DiskF, DiskG, DiskH, DiskI. -/
import Derived.Test.YtopecljhehcldaaGxC
import Derived.Test.YtopecljhehcldaaSrt
import Derived.Test.YtopecljhehcldaaGxFE

/- Package disk: the keys of a map, sorted. -/
namespace Go.Proofs.Ytopecljhehcldaa.Gx
open Go
set_option linter.unusedSimpArgs false
set_option linter.unusedVariables false

theorem F109_eq (l b : Nat) (W : World) (R : Value → World → Prop) : F109 l b W R = KeysF Try.prog l b W R := rfl
theorem itK (b1 : Nat) {p : MO} {ks : List Int} (hks : KeysE p ks) : Iter Try.prog 109 #[.pointer (some ⟨b1, 0, none⟩)] ivA false (fun pre x => x ∈ ks ∧ x ∉ pre) (fun xs => xs.Perm ks) (KeysI b1 p) :=
  keys_iter en109 (fun l W R h => F109_ok l b1 W R (by rw [F109_eq]; exact h)) hks
theorem ivA_size (x : Int) : (ivA x).size = 1 := rfl
theorem iv_one (x : Int) : One [iv x] := by intro v hv; rw [List.mem_singleton.1 hv]; rfl

theorem KeysI.stb {n b1 : Nat} {p : MO} {W W' : World} (h : KeysI b1 p W) (hS : Stb n W W') : KeysI b1 p W' := by
  obtain ⟨⟨T, hT⟩, h⟩ := h
  refine ⟨⟨T, hS.keep _ _ hT rfl⟩, ?_⟩
  match p, h with
  | none, _ => trivial
  | some (r, es, ck), h => exact hS.keep _ _ h rfl
theorem KeysI.ch {F : Nat → Prop} {b1 : Nat} {p : MO} {W W' : World} (h : KeysI b1 p W) (hc : Ch F W W') (h1 : ¬ F b1) (h2 : ∀ r es ck, p = some (r, es, ck) → ¬ F r) : KeysI b1 p W' := by
  obtain ⟨⟨T, hT⟩, h⟩ := h
  refine ⟨⟨T, hc.at hT h1⟩, ?_⟩
  match p, h, h2 with
  | none, _, _ => trivial
  | some (r, es, ck), h, h2 => exact hc.at h (h2 _ _ _ rfl)

theorem c119 {w : World} {b1 : Nat} {p : MO} {ks : List Int} (hI : KeysI b1 p w) (hks : KeysE p ks) (hl : ks.length ≤ 1000000) :
    CW Try.prog 119 #[.slice none 0 0, .func (.func 109) #[] #[.pointer (some ⟨b1, 0, none⟩)]] w fun v w' => ∃ t, ∃ xs : List Int, v = slV t ∧ xs.Perm ks ∧ OwS w' t 1 (xs.map iv) ∧ Ext w w' ∧ ∀ j ∈ blk t, w.heap.size ≤ j := by
  have hb1 : b1 < w.heap.size := by obtain ⟨⟨T, hT⟩, _⟩ := hI; exact heap_lt hT
  have hr1 : ∀ r es ck, p = some (r, es, ck) → r < w.heap.size := fun r es ck e => by subst e; exact heap_lt hI.2
  refine F119_ok ⟨none, 0, 0⟩ (109, #[.pointer (some ⟨b1, 0, none⟩)]) w _ ?_
  intro b2 w2 h2 g
  have e2 : Ext w w2 := h2.ch _
  have hs2 := h2.size
  have hh2 := h2.here
  let G : List Int → World → Prop := fun pre W => (pre.Nodup ∧ ∀ x ∈ pre, x ∈ ks) ∧ KeysI b1 p W ∧ ∃ t : Sl, (∃ T, W.heap[b2]? = some (.cells #[slV t] T (0, 0))) ∧ OwS W t 1 (pre.map iv) ∧ (∀ j ∈ blk t, w2.heap.size + 2 ≤ j) ∧ Ch (fun i => w.heap.size ≤ i) w W
  refine range_none tbOk mixed (gf := 109) (lb := #[.pointer (some ⟨b1, 0, none⟩)]) rfl (itK b1 hks) R119_0ok1 R119_0ok2 R119_0okp ivA_size G (fun _ _ _ => False) ?_ (fun _ _ _ _ h => h.elim) ?_ (fun h => by cases h) ?_ ?_ ?_ (fun _ _ _ h => h.elim)
  · rintro pre W W' ⟨h1, h3, t, ⟨T, h4⟩, h5, h6, h7⟩ hS
    exact ⟨h1, h3.stb hS, t, ⟨T, hS.keep _ _ h4 rfl⟩, h5.stb hS, h6, h7.then (.ofStb hS) fun i _ hi => by omega⟩
  · rintro pre W ⟨_, h3, _⟩; exact h3
  · exact ⟨⟨.nil, by simp⟩, hI.ch (h2.ch (fun _ => False)) id fun _ _ _ _ => id, ⟨none, 0, 0⟩, ⟨_, h2.new⟩, .nil _ _, by simp [blk], e2.mono fun _ _ h => h.elim⟩
  · rintro pre x W ⟨⟨hnd, hsub⟩, hJ, t, ⟨T, hb⟩, ho, hbl, hC⟩ ⟨hxk, hxp⟩ hW
    refine F119b0_ok b2 ⟨none, 0, 0⟩ (109, #[.pointer (some ⟨b1, 0, none⟩)]) x _ _ _ _ _ W ?_
    refine ⟨rfl, ⟨rfl, rfl⟩, fun w12 hS hI0 hL => ?_⟩
    have H := hS.keep _ _ hb rfl
    have ho12 := ho.stb hS
    have hJ12 := hJ.stb hS
    have hC12 : Ch (fun i => w.heap.size ≤ i) w w12 := hC.then (.ofStb hS) fun i _ hi => by omega
    have hs12 := hS.size
    refine ⟨t, by rw [cell_of H]; rfl, by decide, fun b20 w21 h21 => ?_⟩
    refine ⟨[iv x], ⟨rfl, cellsAt_of h21.new fun i v hv => by simpa using hv⟩, ?_⟩
    have e21 : Ext w12 w21 := h21.ch _
    have htn : t.n = pre.length := by have := ho.len1; rw [List.length_map] at this; exact this
    have hpl := nodup_len hnd hsub
    have hpl2 : (pre ++ [x]).length ≤ ks.length := nodup_len (by rw [List.nodup_append]; exact ⟨hnd, by simp, fun a ha b hb => by rw [List.mem_singleton.1 hb]; exact fun e => hxp (e ▸ ha)⟩) fun a ha => by
      rcases List.mem_append.1 ha with h | h
      · exact hsub a h
      · rw [List.mem_singleton.1 h]; exact hxk
    refine (ho12.ext e21).append (cnt := 1) rfl rfl rfl (iv_one x) ⟨by omega, by dsimp only; omega⟩ ?_
    intro s' w24 ho' hn' hc' hb' _
    have hne : ∀ i, i < w2.heap.size → ¬ i ∈ blk t := fun i hi h => by have := hbl i h; omega
    have H24 := hc'.at (e21.at H) (hne _ (by omega))
    refine ⟨rfl, store_one H24 (by simp) rfl fun w25 h25 => ?_⟩
    have hc25 : Ch (fun i => i = b2 ∨ i ∈ blk t) w12 w25 := (((e21.mono fun _ _ h => h.elim).then hc' fun i _ h => .inr h).then h25.ch fun i _ h => .inl h)
    have hb2' : ∀ j ∈ blk s', w2.heap.size + 2 ≤ j := fun j hj => by
      rcases hb' j hj with h | h
      · exact hbl j h
      · have := e21.size; omega
    have far : ∀ i, i < w2.heap.size + 2 → i ≠ b2 → ¬ (i = b2 ∨ i ∈ blk t) := fun i hi hne' h => h.elim hne' fun h => by have := hbl i h; omega
    refine ⟨⟨hc25.old _ (by omega) (far _ (by omega) (by omega)), hc25.old _ (by omega) (far _ (by omega) (by omega))⟩, ⟨⟨?_, ?_⟩, hJ12.ch hc25 (far _ (by omega) (by omega)) (fun r es ck e => by have := hr1 r es ck e; exact far _ (by omega) (by omega)), s', ⟨_, h25.new⟩, ?_, hb2', ?_⟩, hI0.trans (Its.ch hc25 fun i hi => hi.elim (fun e => e ▸ notIt H) (fun h => ho12.blkIt h))⟩
    · rw [List.nodup_append]; exact ⟨hnd, by simp, fun a ha b hb => by rw [List.mem_singleton.1 hb]; exact fun e => hxp (e ▸ ha)⟩
    · intro a ha
      rcases List.mem_append.1 ha with h | h
      · exact hsub a h
      · rw [List.mem_singleton.1 h]; exact hxk
    · have := ho'.ch h25.ch fun j hj e => by have := hb2' j hj; omega
      rw [List.map_append]; exact this
    · exact hC12.then hc25 fun i hi h => by
        rcases h with h | h
        · omega
        · have := hbl _ h; omega
  · rintro xs W hxs ⟨_, hJ, t, ⟨T, hb⟩, ho, hbl, hC⟩ hD
    refine ⟨t, by rw [cell_of hb]; rfl, marks_one hD fun w' hu => ⟨t, xs, rfl, hxs, ?_, ?_, fun j hj => by have := hbl j hj; omega⟩⟩
    · refine ho.ch hu.ch fun j hj e => ?_
      have := hbl j hj; omega
    · exact ⟨hC.rest.trans hu.rest, by rw [hu.size]; exact hC.size, fun i hi _ => by rw [hu.old i (by omega)]; exact hC.old i hi (by omega)⟩

theorem c107 {w : World} {b1 : Nat} {p : MO} {ks : List Int} (hI : KeysI b1 p w) (hks : KeysE p ks) (hl : ks.length ≤ 1000000) :
    CW Try.prog 107 #[.func (.func 109) #[] #[.pointer (some ⟨b1, 0, none⟩)]] w fun v w' => ∃ t, ∃ xs : List Int, v = slV t ∧ xs.Perm ks ∧ OwS w' t 1 (xs.map iv) ∧ Ext w w' ∧ ∀ j ∈ blk t, w.heap.size ≤ j := by
  refine F107_ok (109, #[.pointer (some ⟨b1, 0, none⟩)]) w _ ((c119 hI hks hl).use ?_)
  rintro _ w2 ⟨t, xs, rfl, h⟩
  exact ⟨t, rfl, t, xs, rfl, h⟩

/-- slices.Sorted(maps.Keys(m)) -/
theorem c80 {w : World} {b1 : Nat} {p : MO} {ks : List Int} (hI : KeysI b1 p w) (hks : KeysE p ks) (hl : ks.length ≤ 1000000) :
    CW Try.prog 80 #[.func (.func 109) #[] #[.pointer (some ⟨b1, 0, none⟩)]] w fun v w' => ∃ t, ∃ xs : List Int, v = slV t ∧ xs.Perm ks ∧ xs.Pairwise (· ≤ ·) ∧ OwS w' t 1 (xs.map iv) ∧ Ext w w' ∧ ∀ j ∈ blk t, w.heap.size ≤ j := by
  refine F80_ok (109, #[.pointer (some ⟨b1, 0, none⟩)]) w _ ((c107 hI hks hl).use ?_)
  rintro _ w2 ⟨t, xs, rfl, hp, ho, e2, hb⟩
  refine ⟨t, rfl, (c108 ho (by rw [hp.length_eq]; exact hl)).use ?_⟩
  rintro _ w5 ⟨rfl, ys, hp2, hs, ho2, hC⟩
  exact ⟨(), rfl, t, ys, rfl, hp2.trans hp, hs, ho2, e2.then hC fun i hi h => by have := hb i h; omega, hb⟩

theorem c81 (p : Option Nat) (w : World) : CW Try.prog 81 #[.map p] w fun v w' => ∃ b T, v = .func (.func 109) #[] #[.pointer (some ⟨b, 0, none⟩)] ∧ IsAlloc w (.cells #[.map p] T (0, 0)) b w' :=
  F81_ok p w _ fun b w' h => ⟨b, _, rfl, h⟩
end Go.Proofs.Ytopecljhehcldaa.Gx

/- Package disk: a device; Len, there, Writes, Syncs, Dirty. -/
namespace Go.Proofs.Ytopecljhehcldaa.Gx
open Go
set_option linter.unusedSimpArgs false
set_option linter.unusedVariables false

abbrev Sec := Int × Int × Int × Int × Int × Int × Int × Int
def secL (x : Sec) : List Value := [.int .u64 x.1, .int .u64 x.2.1, .int .u64 x.2.2.1, .int .u64 x.2.2.2.1, .int .u64 x.2.2.2.2.1, .int .u64 x.2.2.2.2.2.1, .int .u64 x.2.2.2.2.2.2.1, .int .u64 x.2.2.2.2.2.2.2]
def secV (x : Sec) : Value := .agg (secL x).toArray
abbrev sec0 : Sec := (0, 0, 0, 0, 0, 0, 0, 0)

/-- A device: what lasts, what was written, how often. -/
structure Dk (w : World) (b : Nat) (s : Sl) (r : Nat) (ls : List Sec) (f : List (Int × Sec)) (wr sy : Int) : Prop where
  box : ∃ T, w.heap[b]? = some (.cells #[slV s, .map (some r), iv wr, iv sy] T (0, 0))
  arr : OwS w s 8 (ls.flatMap secL)
  len : 1 ≤ ls.length ∧ ls.length ≤ 4096
  map : Mp secV w r f
  self : b ∉ blk s
  rng : ∀ p ∈ f, 0 ≤ p.1 ∧ p.1 < (ls.length : Int)
def inDk (b : Nat) (s : Sl) (r : Nat) (i : Nat) : Prop := i = b ∨ i = r ∨ i ∈ blk s

theorem secs_len : ∀ ls : List Sec, (ls.flatMap secL).length = ls.length * 8
  | [] => rfl
  | x :: ls => by
    rw [List.flatMap_cons, List.length_append, secs_len ls, List.length_cons]
    show 8 + _ = _
    omega
theorem Dk.n {w : World} {b : Nat} {s : Sl} {r : Nat} {ls : List Sec} {f : List (Int × Sec)} {wr sy : Int} (h : Dk w b s r ls f wr sy) : s.n = ls.length := by
  have := h.arr.len
  rw [secs_len] at this
  omega
theorem Dk.ch {F : Nat → Prop} {w w' : World} {b : Nat} {s : Sl} {r : Nat} {ls : List Sec} {f : List (Int × Sec)} {wr sy : Int} (h : Dk w b s r ls f wr sy) (hc : Ch F w w') (hF : ∀ i, inDk b s r i → ¬ F i) : Dk w' b s r ls f wr sy := by
  obtain ⟨T, hT⟩ := h.box
  exact ⟨⟨T, hc.at hT (hF _ (.inl rfl))⟩, h.arr.ch hc fun i hi => hF i (.inr (.inr hi)), h.len, h.map.ch hc (hF _ (.inr (.inl rfl))), h.self, h.rng⟩
theorem Dk.ext {w w' : World} {b : Nat} {s : Sl} {r : Nat} {ls : List Sec} {f : List (Int × Sec)} {wr sy : Int} (h : Dk w b s r ls f wr sy) (hc : Ext w w') : Dk w' b s r ls f wr sy := h.ch hc fun _ _ => id
theorem Dk.rb {w : World} {b : Nat} {s : Sl} {r : Nat} {ls : List Sec} {f : List (Int × Sec)} {wr sy : Int} (h : Dk w b s r ls f wr sy) : r ≠ b ∧ r ∉ blk s := by
  obtain ⟨T, hT⟩ := h.box
  obtain ⟨es, ck, hm, _⟩ := h.map
  refine ⟨fun e => ?_, fun hi => ?_⟩
  · subst e; rw [hT] at hm; cases hm
  · rcases h.arr with ⟨rfl, _⟩ | ⟨a, arr, T', h1, h2, _⟩
    · simp [blk] at hi
    · simp [blk, h1] at hi; subst hi; rw [h2] at hm; cases hm
theorem Dk.lt {w : World} {b : Nat} {s : Sl} {r : Nat} {ls : List Sec} {f : List (Int × Sec)} {wr sy : Int} (h : Dk w b s r ls f wr sy) {i : Nat} (hi : inDk b s r i) : i < w.heap.size := by
  rcases hi with rfl | rfl | hi
  · obtain ⟨T, hT⟩ := h.box; exact heap_lt hT
  · exact h.map.lt
  · exact h.arr.lt i hi

section
variable {w : World} {b : Nat} {s : Sl} {r : Nat} {ls : List Sec} {f : List (Int × Sec)} {wr sy : Int}
theorem Dk.c0 (h : Dk w b s r ls f wr sy) : w.cell? ⟨b, 0 + 0, none⟩ = some (slV s) := by obtain ⟨T, hT⟩ := h.box; rw [cell_of hT]; rfl
theorem Dk.c1 (h : Dk w b s r ls f wr sy) : w.cell? ⟨b, 0 + 1, none⟩ = some (.map (some r)) := by obtain ⟨T, hT⟩ := h.box; rw [cell_of hT]; rfl
theorem Dk.c2 (h : Dk w b s r ls f wr sy) : w.cell? ⟨b, 0 + 2, none⟩ = some (iv wr) := by obtain ⟨T, hT⟩ := h.box; rw [cell_of hT]; rfl
theorem Dk.c3 (h : Dk w b s r ls f wr sy) : w.cell? ⟨b, 0 + 3, none⟩ = some (iv sy) := by obtain ⟨T, hT⟩ := h.box; rw [cell_of hT]; rfl

theorem c45 (h : Dk w b s r ls f wr sy) : CW Try.prog 45 #[.pointer (some ⟨b, 0, none⟩)] w fun v w' => v = iv (ls.length : Int) ∧ w = w' :=
  F45_ok _ w _ (IfB.no rfl ⟨b, 0, rfl, s, h.c0, by rw [show s.2 = s.n from rfl, h.n], rfl⟩)
theorem c46 (h : Dk w b s r ls f wr sy) : CW Try.prog 46 #[.pointer (some ⟨b, 0, none⟩)] w fun v w' => v = iv wr ∧ w = w' :=
  F46_ok _ w _ (IfB.no rfl ⟨b, 0, rfl, wr, h.c2, rfl, rfl⟩)
theorem c47 (h : Dk w b s r ls f wr sy) : CW Try.prog 47 #[.pointer (some ⟨b, 0, none⟩)] w fun v w' => v = iv sy ∧ w = w' :=
  F47_ok _ w _ (IfB.no rfl ⟨b, 0, rfl, sy, h.c3, rfl, rfl⟩)
theorem c76 (h : Dk w b s r ls f wr sy) (i : Int) : CW Try.prog 76 #[.pointer (some ⟨b, 0, none⟩), iv i] w fun v w' => v = .bool (decide (0 ≤ i ∧ i < (ls.length : Int))) ∧ w = w' := by
  refine F76_ok _ i w _ (IfB.dec (fun h0 => (c45 h).use ?_) (fun h0 => ⟨by rw [decide_eq_false (by omega)], rfl⟩))
  rintro _ _ ⟨rfl, rfl⟩
  exact ⟨_, rfl, by congr 1; exact decide_eq_decide.2 (by omega), rfl⟩
end
theorem c45nil (w : World) : CW Try.prog 45 #[.pointer none] w fun v w' => v = iv 0 ∧ w = w' := F45_ok _ w _ (IfB.yes rfl ⟨rfl, rfl⟩)
theorem c76nil (i : Int) (w : World) : CW Try.prog 76 #[.pointer none, iv i] w fun v w' => v = .bool false ∧ w = w' := by
  refine F76_ok _ i w _ (IfB.dec (fun h0 => (c45nil w).use ?_) (fun h0 => ⟨rfl, rfl⟩))
  rintro _ _ ⟨rfl, rfl⟩
  exact ⟨_, rfl, by rw [decide_eq_false (by omega)], rfl⟩
end Go.Proofs.Ytopecljhehcldaa.Gx

/- Package disk: Dirty, Lasting, Read, Write. -/
namespace Go.Proofs.Ytopecljhehcldaa.Gx
open Go
set_option linter.unusedSimpArgs false
set_option linter.unusedVariables false

theorem Mp.keys {β : Type} {enc : β → Value} {w : World} {r : Nat} {f : List (Int × β)} (h : Mp enc w r f) : ∃ es ck, w.heap[r]? = some (.map es ck) ∧ KeysE (some (r, es, ck)) (f.map (·.1)) := by
  obtain ⟨es, ck, h1, h2, h3, h4, h5⟩ := h
  refine ⟨es, ck, h1, ?_, h3, h4, h5⟩
  have := congrArg (List.map Prod.fst) h2
  rw [List.map_map, List.map_map] at this
  rw [List.map_map]; exact this

section
variable {w : World} {b : Nat} {s : Sl} {r : Nat} {ls : List Sec} {f : List (Int × Sec)} {wr sy : Int}
theorem Dk.few (h : Dk w b s r ls f wr sy) : (f.map (·.1)).length ≤ 4096 := by
  obtain ⟨_, _, _, _, h2, _⟩ := h.map
  have := nodup_len (b := (List.range ls.length).map fun (i : Nat) => (i : Int)) h2 fun k hk => by
    obtain ⟨p, hp, rfl⟩ := List.mem_map.1 hk
    have := h.rng p hp
    exact List.mem_map.2 ⟨p.1.toNat, List.mem_range.2 (by omega), by omega⟩
  simp only [List.length_map, List.length_range] at this
  rw [List.length_map]
  have := h.len
  omega

theorem c42 (h : Dk w b s r ls f wr sy) : CW Try.prog 42 #[.pointer (some ⟨b, 0, none⟩)] w fun v w' => ∃ t, ∃ xs : List Int, v = slV t ∧ xs.Perm (f.map (·.1)) ∧ xs.Pairwise (· ≤ ·) ∧ OwS w' t 1 (xs.map iv) ∧ Ext w w' ∧ ∀ j ∈ blk t, w.heap.size ≤ j := by
  obtain ⟨es, ck, h1, h2⟩ := h.map.keys
  have hf := h.few
  refine F42_ok _ w _ (IfB.no rfl ⟨b, 0, rfl, some r, h.c1, (c81 (some r) w).use ?_⟩)
  rintro _ w5 ⟨b1, T, rfl, h5⟩
  have e5 : Ext w w5 := h5.ch _
  have hz := h5.size
  refine ⟨(109, _), rfl, (c80 (p := some (r, es, ck)) (ks := f.map (·.1)) ⟨⟨T, h5.new⟩, e5.at h1⟩ h2 (by omega)).use ?_⟩
  rintro _ w8 ⟨t, xs, rfl, hp, hs, ho, e8, hb⟩
  exact ⟨t, rfl, t, xs, rfl, hp, hs, ho, e5.trans e8, fun j hj => by have := hb j hj; omega⟩

theorem flat_elem {l : List Sec} {i : Nat} {x : Sec} (h : l[i]? = some x) : ((l.flatMap secL).drop (i * 8)).take 8 = secL x := by
  induction l generalizing i with
  | nil => simp at h
  | cons y l ih =>
    cases i with
    | zero =>
      rw [List.getElem?_cons_zero] at h
      cases h
      rw [List.flatMap_cons, Nat.zero_mul, List.drop_zero, List.take_append_of_le_length (by simp [secL]), List.take_of_length_le (by simp [secL])]
    | succ i =>
      rw [List.getElem?_cons_succ] at h
      rw [List.flatMap_cons, show (i + 1) * 8 = (secL y).length + i * 8 by simp [secL]; omega, ← List.drop_drop, List.drop_left]
      exact ih h
theorem Dk.sec (h : Dk w b s r ls f wr sy) {i : Nat} {x : Sec} (hx : ls[i]? = some x) : ∃ a, s.p = some ⟨a, 0, none⟩ ∧ CellsAt w a (i * 8) (secL x) := by
  have hi := (List.getElem?_eq_some_iff.1 hx).1
  exact h.arr.elem (by rw [h.n]; exact hi) (flat_elem hx)
theorem secL_one (x : Sec) : One (secL x) := by
  intro v hv
  simp [secL] at hv
  rcases hv with rfl | rfl | rfl | rfl | rfl | rfl | rfl | rfl <;> rfl

theorem c44 (h : Dk w b s r ls f wr sy) (i : Int) : CW Try.prog 44 #[.pointer (some ⟨b, 0, none⟩), iv i] w fun v w' => v = secV (if 0 ≤ i then (ls[i.toNat]?).getD sec0 else sec0) ∧ Ext w w' := by
  refine F44_ok _ i w _ ?_
  intro b1 w2 h2
  have e2 : Ext w w2 := h2.ch _
  refine (c76 (h.ext e2) i).use ?_
  rintro _ _ ⟨rfl, rfl⟩
  refine ⟨_, rfl, IfB.intro (fun hn => ⟨rfl, store_all (vs := secL sec0) h2.new rfl (secL_one _) fun w6 h6 => ⟨sec0, cellsAt_of h6.new fun i v hv => by simpa [secL] using hv, ?_, Ext.fresh h2 h6⟩⟩) fun hn => ?_⟩
  · have hn : ¬ (0 ≤ i ∧ i < (ls.length : Int)) := by simpa only [Bool.not_eq_true', decide_eq_false_iff_not] using hn
    by_cases h0 : 0 ≤ i
    · rw [if_pos h0, List.getElem?_eq_none (by omega)]; rfl
    · rw [if_neg h0]; rfl
  · have hn : 0 ≤ i ∧ i < (ls.length : Int) := by simpa only [Bool.not_eq_false', decide_eq_true_eq] using hn
    have hi : i.toNat < ls.length := by omega
    have hx : ls[i.toNat]? = some ls[i.toNat] := List.getElem?_eq_getElem hi
    generalize ls[i.toNat] = x at hx
    obtain ⟨a, ha, hc⟩ := (h.ext e2).sec hx
    have hsn := h.n
    refine ⟨b, 0, rfl, s, (h.ext e2).c0, a, 0, ha, ⟨hn.1, by show i < (s.n : Int); omega⟩, x, by rw [Nat.zero_add]; exact hc, rfl, store_all (vs := secL x) h2.new rfl (secL_one _) fun w14 h14 => ⟨x, cellsAt_of h14.new fun i v hv => by simpa [secL] using hv, ?_, Ext.fresh h2 h14⟩⟩
    rw [if_pos hn.1, hx]; rfl
end
end Go.Proofs.Ytopecljhehcldaa.Gx

/- Package disk: Read, Write. -/
namespace Go.Proofs.Ytopecljhehcldaa.Gx
open Go
set_option linter.unusedSimpArgs false
set_option linter.unusedVariables false

/-- What is read. -/
def rdD (ls : List Sec) (f : List (Int × Sec)) (i : Int) : Sec := match getM f i with
  | some v => v
  | none => (ls[i.toNat]?).getD sec0
section
variable {w : World} {b : Nat} {s : Sl} {r : Nat} {ls : List Sec} {f : List (Int × Sec)} {wr sy : Int}

theorem sec_at {w : World} {b : Nat} {T : TypeId} {x : Sec} (h : w.heap[b]? = some (.cells (secL x).toArray T (0, 0))) : CellsAt w b 0 (secL x) := cellsAt_of h fun i v hv => by simpa [secL] using hv

theorem c41 (h : Dk w b s r ls f wr sy) (i : Int) : CW Try.prog 41 #[.pointer (some ⟨b, 0, none⟩), iv i] w fun v w' => v = .tuple #[secV (if 0 ≤ i ∧ i < (ls.length : Int) then rdD ls f i else sec0), iv (if 0 ≤ i ∧ i < (ls.length : Int) then 0 else 3)] ∧ Ext w w' := by
  refine F41_ok _ i w _ ?_
  intro b1 w2 h2
  have e2 : Ext w w2 := h2.ch _
  have p2 := h2.here
  refine (c76 (h.ext e2) i).use ?_
  rintro _ _ ⟨rfl, rfl⟩
  refine ⟨_, rfl, IfB.intro (fun hn => ⟨rfl, store_all (vs := secL sec0) h2.new rfl (secL_one _) fun w6 h6 => ⟨sec0, sec_at h6.new, ?_, Ext.fresh h2 h6⟩⟩) fun hn => ?_⟩
  · have hn : ¬ (0 ≤ i ∧ i < (ls.length : Int)) := by simpa only [Bool.not_eq_true', decide_eq_false_iff_not] using hn
    rw [if_neg hn, if_neg hn]; rfl
  · have hn : 0 ≤ i ∧ i < (ls.length : Int) := by simpa only [Bool.not_eq_false', decide_eq_true_eq] using hn
    rw [if_pos hn, if_pos hn]
    have H2 := h.ext e2
    have fin : ∀ {w15 w16 : World} {b14 : Nat} {o o' : Obj} (x : Sec), IsAlloc w2 o b14 w15 → IsUpd w15 b14 o' w16 → ∀ w18 T, IsUpd w16 b1 (.cells (secL x).toArray T (0, 0)) w18 → Ext w w18 := fun x h15 h16 w18 T h18 => by
      have := h15.here; have := h2.size
      exact ((e2.trans (Ext.fresh h15 h16)).then h18.ch fun j hj e => by omega)
    refine ⟨b, 0, rfl, some r, H2.c1, H2.map.get ?_⟩
    unfold rdD
    cases hg : getM f i with
    | some v =>
      refine ⟨v, rfl, fun b14 w15 h15 => ⟨rfl, store_all (vs := secL v) h15.new rfl (secL_one _) fun w16 h16 => IfB.yes rfl ⟨v, sec_at h16.new, rfl, ?_⟩⟩⟩
      have q1 := h15.here; have q2 := h2.size
      have hb1 := ((h16.old b1 (by omega)).trans (h15.old b1 (by omega))).trans h2.new
      exact store_all (vs := secL v) hb1 rfl (secL_one _) fun w18 h18 => ⟨v, sec_at h18.new, rfl, fin v h15 h16 w18 _ h18⟩
    | none =>
      have hi : i.toNat < ls.length := by omega
      have hx : ls[i.toNat]? = some ls[i.toNat] := List.getElem?_eq_getElem hi
      generalize ls[i.toNat] = x at hx
      have hsn := h.n
      refine ⟨sec0, rfl, fun b14 w15 h15 => ⟨rfl, store_all (vs := secL sec0) h15.new rfl (secL_one _) fun w16 h16 => IfB.no rfl ?_⟩⟩
      have q1 := h15.here; have q2 := h2.size
      have hb1 := ((h16.old b1 (by omega)).trans (h15.old b1 (by omega))).trans h2.new
      have H16 := H2.ext (Ext.fresh h15 h16)
      obtain ⟨a, ha, hc⟩ := H16.sec hx
      refine ⟨b, 0, rfl, s, H16.c0, a, 0, ha, ⟨hn.1, by show i < (s.n : Int); omega⟩, x, by rw [Nat.zero_add]; exact hc, rfl, store_all (vs := secL x) hb1 rfl (secL_one _) fun w18 h18 => ⟨x, sec_at h18.new, ?_, fin x h15 h16 w18 _ h18⟩⟩
      rw [hx]; rfl
end
end Go.Proofs.Ytopecljhehcldaa.Gx

/- Package disk: Write, New. -/
namespace Go.Proofs.Ytopecljhehcldaa.Gx
open Go
set_option linter.unusedSimpArgs false
set_option linter.unusedVariables false
section
variable {w : World} {b : Nat} {s : Sl} {r : Nat} {ls : List Sec} {f : List (Int × Sec)} {wr sy : Int}

theorem Dk.keep (h : Dk w b s r ls f wr sy) {w' : World} {f' : List (Int × Sec)} {wr' sy' : Int} (hb : ∃ T, w'.heap[b]? = some (.cells #[slV s, .map (some r), iv wr', iv sy'] T (0, 0))) (hm : Mp secV w' r f') (hk : ∀ p ∈ f', 0 ≤ p.1 ∧ p.1 < (ls.length : Int)) (hs : ∀ i ∈ blk s, w'.heap[i]? = w.heap[i]?) : Dk w' b s r ls f' wr' sy' :=
  ⟨hb, h.arr.keep hs, h.len, hm, h.self, hk⟩

theorem c37 (h : Dk w b s r ls f wr sy) (i : Int) (x : Sec) : CW Try.prog 37 #[.pointer (some ⟨b, 0, none⟩), iv i, secV x] w fun v w' =>
    if 0 ≤ i ∧ i < (ls.length : Int) then v = iv 0 ∧ (∃ f', (∀ k, getM f' k = if i = k then some x else getM f k) ∧ Dk w' b s r ls f' (IntKind.i64.wrap (wr + 1)) sy) ∧ Ch (fun j => j = b ∨ j = r) w w'
    else v = iv 3 ∧ Ext w w' := by
  refine F37_ok _ i x w _ ?_
  intro b1 w2 h2
  have e2 : Ext w w2 := h2.ch _
  have H2 := h.ext e2
  refine (c76 H2 i).use ?_
  rintro _ _ ⟨rfl, rfl⟩
  refine ⟨_, rfl, IfB.intro (fun hn => ?_) fun hn => ?_⟩
  · have hn : ¬ (0 ≤ i ∧ i < (ls.length : Int)) := by simpa only [Bool.not_eq_true', decide_eq_false_iff_not] using hn
    show if _ then _ else _
    rw [if_neg hn]; exact ⟨rfl, e2⟩
  · have hn : 0 ≤ i ∧ i < (ls.length : Int) := by simpa only [Bool.not_eq_false', decide_eq_true_eq] using hn
    have hR : ∀ {v : Value} {w' : World}, (v = iv 0 ∧ (∃ f', (∀ k, getM f' k = if i = k then some x else getM f k) ∧ Dk w' b s r ls f' (IntKind.i64.wrap (wr + 1)) sy) ∧ Ch (fun j => j = b ∨ j = r) w w') → (if 0 ≤ i ∧ i < (ls.length : Int) then v = iv 0 ∧ (∃ f', (∀ k, getM f' k = if i = k then some x else getM f k) ∧ Dk w' b s r ls f' (IntKind.i64.wrap (wr + 1)) sy) ∧ Ch (fun j => j = b ∨ j = r) w w' else v = iv 3 ∧ Ext w w') := fun h => by rw [if_pos hn]; exact h
    have ed := extDrew w2
    have H3 := H2.ext ed
    obtain ⟨hrb, hrs⟩ := h.rb
    refine ⟨b, 0, rfl, some r, H3.c1, x, sec_at (ed.at h2.new), H3.map.set (enc := secV) (v := x) fun f' w10 hf hm hc => ?_⟩
    obtain ⟨T, hT⟩ := H3.box
    have hT10 := hc.at hT (Ne.symm hrb)
    refine ⟨b, 0, rfl, wr, by rw [cell_of hT10]; rfl, b, 0, rfl, (by trivial), store_one hT10 (by simp) rfl fun w16 h16 => ?_⟩
    have hC : Ch (fun j => j = b ∨ j = r) w w16 := (((e2.trans ed).mono fun _ _ h => h.elim).then hc fun j _ e => .inr e).then h16.ch fun j _ e => .inl e
    refine hR ⟨rfl, ⟨f', hf, H3.keep ⟨T, h16.new⟩ ((hm.ch h16.ch hrb)) (fun p hp => ?_) (fun j hj => ?_)⟩, hC⟩
    · have hk : getM f' p.1 ≠ none := getM_key.1 (List.mem_map_of_mem hp)
      rw [hf] at hk
      by_cases he : i = p.1
      · rw [← he]; exact hn
      · rw [if_neg he] at hk
        obtain ⟨q, hq, hqe⟩ := List.mem_map.1 (getM_key.2 hk)
        rw [← hqe]; exact h.rng q hq
    · have h1 : j ≠ b := fun e => h.self (e ▸ hj)
      have h2' : j ≠ r := fun e => hrs (e ▸ hj)
      rw [h16.old j h1]
      exact hc.old j (H3.arr.lt j hj) h2'
end
end Go.Proofs.Ytopecljhehcldaa.Gx

/- Package disk: New. -/
namespace Go.Proofs.Ytopecljhehcldaa.Gx
open Go
set_option linter.unusedSimpArgs false
set_option linter.unusedVariables false

theorem zc_same {z : Array Value} {v : Value} (h : ∀ x ∈ z.toList, x = v) (n : Nat) : zc z n = List.replicate (n * z.size) v := by
  refine List.eq_replicate_iff.2 ⟨zc_len z n, fun x hx => ?_⟩
  unfold zc Builtin.zeroCells at hx
  rw [Array.mem_toList_iff, Array.mem_map] at hx
  obtain ⟨i, hi, rfl⟩ := hx
  rw [Array.mem_range] at hi
  have h0 : 0 < z.size := by
    rcases Nat.eq_zero_or_pos z.size with h0 | h0
    · rw [h0, Nat.mul_zero] at hi; omega
    · exact h0
  have hm := Nat.mod_lt i h0
  rw [getElem!_pos z _ hm]
  exact h _ (by simp)
theorem sec0_flat : ∀ n : Nat, (List.replicate n sec0).flatMap secL = List.replicate (n * 8) (.int .u64 0)
  | 0 => rfl
  | n + 1 => by
    rw [List.replicate_succ, List.flatMap_cons, sec0_flat n, show (n + 1) * 8 = 8 + n * 8 by omega, ← List.replicate_append_replicate]
    rfl

theorem c36no {n : Int} (h : n < 1 ∨ 4096 < n) (w : World) : CW Try.prog 36 #[iv n] w fun v w' => v = .pointer none ∧ w = w' := by
  refine F36_ok n w _ (IfB.dec (fun _ => ⟨rfl, rfl⟩) fun h1 => IfB.yes (decide_eq_true (by omega)) ⟨rfl, rfl⟩)

theorem c36 {n : Nat} (h : 1 ≤ n ∧ n ≤ 4096) (w : World) : CW Try.prog 36 #[iv n] w fun v w' => ∃ b s r, v = .pointer (some ⟨b, 0, none⟩) ∧ Dk w' b s r (List.replicate n sec0) [] 0 0 ∧ Ext w w' ∧ ∀ i, inDk b s r i → w.heap.size ≤ i := by
  refine F36_ok n w _ (IfB.no (decide_eq_false (by omega)) (IfB.no (decide_eq_false (by omega)) ⟨⟨by omega, by omega, by omega, by omega⟩, ?_⟩))
  intro b1 w2 h2 b3 w4 h4 b5 w6 h6
  have e2 : Ext w w2 := h2.ch _
  have e4 : Ext w2 w4 := h4.ch _
  have e6 : Ext w4 w6 := h6.ch _
  have p2 := h2.here; have p4 := h4.here; have p6 := h6.here
  have z2 := h2.size; have z4 := h4.size
  rw [Int.toNat_natCast] at h2 h6
  have hz := zc_same (z := (secL sec0).toArray) (v := .int .u64 0) (by intro x hx; simp [secL] at hx; exact hx) n
  have hz' : zc (secL sec0).toArray n = (List.replicate n sec0).flatMap secL := by rw [sec0_flat]; exact hz
  have h2' := h2
  rw [show (zc #[.int .u64 0, .int .u64 0, .int .u64 0, .int .u64 0, .int .u64 0, .int .u64 0, .int .u64 0, .int .u64 0] n) = (List.replicate n sec0).flatMap secL from hz'] at h2'
  refine ⟨b5, ⟨some ⟨b1, 0, none⟩, n, n⟩, b3, rfl, ⟨⟨_, h6.new⟩, ((OwS.new h2' (by rw [secs_len, List.length_replicate])).ext e4).ext e6, by rw [List.length_replicate]; exact h, (Mp.new h4).ext e6, ?_, by simp⟩, (e2.trans e4).trans e6, ?_⟩
  · simp [blk]; omega
  · rintro i (rfl | rfl | hi)
    · omega
    · omega
    · simp [blk] at hi; omega
end Go.Proofs.Ytopecljhehcldaa.Gx

/- Package disk: last. -/
namespace Go.Proofs.Ytopecljhehcldaa.Gx
open Go
set_option linter.unusedSimpArgs false
set_option linter.unusedVariables false

/-- What lasts behind the first j of those that are dirty. -/
def lsAt (f : List (Int × Sec)) (ans : Nat → Bool) (xs : List Int) (ls : List Sec) : Nat → List Sec
  | 0 => ls
  | j + 1 => if ans j then (lsAt f ans xs ls j).set (g xs j).toNat ((getM f (g xs j)).getD sec0) else lsAt f ans xs ls j
theorem lsAt_len (f : List (Int × Sec)) (ans : Nat → Bool) (xs : List Int) (ls : List Sec) : ∀ j, (lsAt f ans xs ls j).length = ls.length
  | 0 => rfl
  | j + 1 => by
    unfold lsAt
    split
    · rw [List.length_set, lsAt_len]
    · exact lsAt_len f ans xs ls j
theorem flat_set {l : List Sec} {i : Nat} {x : Sec} (h : i < l.length) : ((l.set i x).flatMap secL) = (l.flatMap secL).take (i * 8) ++ secL x ++ (l.flatMap secL).drop (i * 8 + 8) := by
  induction l generalizing i with
  | nil => cases h
  | cons y l ih =>
    cases i with
    | zero =>
      rw [List.set_cons_zero, List.flatMap_cons, List.flatMap_cons, Nat.zero_mul, List.take_zero, List.nil_append, Nat.zero_add, show (8 : Nat) = (secL y).length from rfl, List.drop_left]
    | succ i =>
      rw [List.set_cons_succ, List.flatMap_cons, List.flatMap_cons, ih (by simpa using h), show (i + 1) * 8 = (secL y).length + i * 8 by simp [secL]; omega, List.take_length_add_append, Nat.add_assoc, List.drop_length_add_append]
      simp only [List.append_assoc]

theorem c77 {w : World} {b : Nat} {s : Sl} {r : Nat} {ls : List Sec} {f : List (Int × Sec)} {wr sy : Int} {gk : Nat} {cap : Array Value} {ans : Nat → Bool} {FK : Nat → Prop} {S : Nat → World → Prop} (h : Dk w b s r ls f wr sy) (hS0 : S 0 w)
    (hst : ∀ j W W', S j W → Ch (inDk b s r) W W' → S j W') (hdis : ∀ i, inDk b s r i → ¬ FK i) (hFK : ∀ i, FK i → i < w.heap.size)
    (hk : ∀ j i W, j < 4096 → S j W → CW Try.prog gk { toList := iv i :: cap.toList } W fun v W' => v = .bool (ans j) ∧ S (j + 1) W' ∧ Ch FK W W') :
    CW Try.prog 77 #[.pointer (some ⟨b, 0, none⟩), .func (.func gk) #[] cap] w fun v w' => v = .tuple #[] ∧ ∃ xs : List Int, xs.Perm (f.map (·.1)) ∧ xs.Pairwise (· ≤ ·) ∧ Dk w' b s r (lsAt f ans xs ls xs.length) [] wr sy ∧ S xs.length w' ∧ Ch (fun i => inDk b s r i ∨ FK i) w w' := by
  refine F77_ok _ (gk, cap) w _ ((c42 h).use ?_)
  rintro _ w2 ⟨t, xs, rfl, hp, hs, ho, e2, hb⟩
  have hxl : xs.length ≤ 4096 := by rw [hp.length_eq]; exact h.few
  have htn : t.n = xs.length := by have := ho.len1; rw [List.length_map] at this; exact this
  obtain ⟨hrb, hrs⟩ := h.rb
  refine ⟨t, rfl, fun n x W => ∃ j, n = xs.length - j ∧ x = (j : Int) ∧ j ≤ xs.length ∧ Dk W b s r (lsAt f ans xs ls j) f wr sy ∧ OwS W t 1 (xs.map iv) ∧ S j W ∧ Ch (fun i => inDk b s r i ∨ FK i) w W, ⟨_, 0, rfl, rfl, Nat.zero_le _, h.ext e2, ho, hst _ _ _ hS0 (e2.mono fun _ _ h => h.elim), e2.mono fun _ _ h => h.elim⟩, ?_⟩
  rintro _ _ W _ ⟨j, rfl, rfl, hj, hD, hoW, hSj, hC⟩
  have hDl := hD.n
  rw [lsAt_len] at hDl
  unfold F77j1
  refine IfB.dec (fun hlt => ?_) (fun hge => ?_)
  · have hj' : j < xs.length := by omega
    have hv : (xs.map iv)[j]? = some (iv (g xs j)) := by rw [List.getElem?_map, g_eq hj']; rfl
    obtain ⟨a, ha, hc⟩ := hoW.elem1 hv
    refine ⟨a, 0, ha, (⟨by omega, by omega⟩ : (0 : Int) ≤ (j : Int) ∧ (j : Int) < (t.n : Int)), g xs j, by rw [Int.toNat_natCast, Nat.zero_add]; exact hc, (hk j _ W (by omega) hSj).use ?_⟩
    rintro _ W2 ⟨rfl, hS2, hC2⟩
    have hD2 := hD.ch hC2 hdis
    have fresh : ∀ i ∈ blk t, ¬ (inDk b s r i ∨ FK i) := fun i hi h' => by
      have := hb i hi
      rcases h' with h' | h'
      · have := h.lt h'; omega
      · have := hFK i h'; omega
    have ho2 := hoW.ch hC2 fun i hi h' => fresh i hi (.inr h')
    have hCC : Ch (fun i => inDk b s r i ∨ FK i) w W2 := hC.then hC2 fun i _ h => .inr h
    refine ⟨ans j, rfl, IfB.intro (fun ht => ?_) (fun ht => ⟨rfl, _, by omega, j + 1, rfl, wp1 (by omega), by omega, by unfold lsAt; rw [ht]; exact hD2, ho2, hS2, hCC⟩)⟩
    have ed := extDrew W2
    have hD3 := hD2.ext ed
    have hkm : g xs j ∈ f.map (·.1) := hp.mem_iff.1 (List.mem_of_getElem? (g_eq hj'))
    obtain ⟨q, hq, hqe⟩ := List.mem_map.1 hkm
    have hrg := h.rng q hq
    rw [hqe] at hrg
    refine ⟨b, 0, rfl, s, hD3.c0, b, 0, rfl, some r, hD3.c1, hD3.map.get ?_⟩
    cases hg : getM f (g xs j) with
    | none => exact absurd hg (getM_key.1 hkm)
    | some v =>
      obtain ⟨a2, ha2⟩ := hD3.arr.ptr (by rw [hD3.n, lsAt_len]; have := h.len; omega)
      refine ⟨v, rfl, hD3.c0, a2, 0, ha2, ⟨hrg.1, by show g xs j < (s.n : Int); omega⟩, rfl, ?_⟩
      rw [Nat.zero_add]
      have hin : (g xs j).toNat < (lsAt f ans xs ls j).length := by rw [lsAt_len]; omega
      have hbk : blk s = [a2] := by simp [blk, ha2]
      have hsn3 := hD3.n
      refine hD3.arr.store ha2 (o := (g xs j).toNat * 8) (vs := secL v) (by show _ + 8 ≤ _; omega) (secL_one v) fun w' ho' hc' => ?_
      have e8 : (secL v).length = 8 := rfl
      rw [e8, ← flat_set hin] at ho'
      have hna : ∀ i, i = b ∨ i = r → ¬ i = a2 := fun i hi e => by
        subst e
        rcases hi with e | e
        · exact h.self (by rw [hbk, e]; simp)
        · exact hrs (by rw [hbk, e]; simp)
      obtain ⟨T, hT⟩ := hD3.box
      have hD4 : Dk w' b s r (lsAt f ans xs ls (j + 1)) f wr sy := by
        refine ⟨⟨T, hc'.at hT (hna _ (.inl rfl))⟩, ?_, by rw [lsAt_len]; exact h.len, hD3.map.ch hc' (hna _ (.inr rfl)), h.self, by rw [lsAt_len]; exact h.rng⟩
        unfold lsAt
        rw [ht, if_pos rfl, hg]
        exact ho'
      have hin2 : ∀ i, i = a2 → inDk b s r i := fun i e => .inr (.inr (by rw [hbk, e]; simp))
      refine ⟨rfl, _, by omega, j + 1, rfl, wp1 (by omega), by omega, hD4, (ho2.ext ed).ch hc' fun i hi e => fresh i hi (.inl (hin2 i e)), hst _ _ _ hS2 ((ed.mono fun _ _ h => h.elim).then hc' fun i _ e => hin2 i e), (hCC.then ed fun _ _ h => h.elim).then hc' fun i _ e => .inl (hin2 i e)⟩
  · have hj2 : j = xs.length := by omega
    subst hj2
    refine ⟨b, 0, rfl, some r, hD.c1, hD.map.clear fun w' hm hc => ⟨rfl, xs, hp, hs, ?_, hst _ _ _ hSj (hc.mono fun i _ e => .inr (.inl e)), hC.then hc fun i _ e => .inl (.inr (.inl e))⟩⟩
    obtain ⟨T, hT⟩ := hD.box
    exact hD.keep ⟨T, hc.at hT (Ne.symm hrb)⟩ hm (by simp) fun i hi => hc.old i (hD.arr.lt i hi) fun e => hrs (e ▸ hi)
end Go.Proofs.Ytopecljhehcldaa.Gx

/- Package disk: Sync, Crash; Keeps. -/
namespace Go.Proofs.Ytopecljhehcldaa.Gx
open Go
set_option linter.unusedSimpArgs false
set_option linter.unusedVariables false

theorem c38 {w : World} {b : Nat} {s : Sl} {r : Nat} {ls : List Sec} {f : List (Int × Sec)} {wr sy : Int} (h : Dk w b s r ls f wr sy) :
    CW Try.prog 38 #[.pointer (some ⟨b, 0, none⟩)] w fun v w' => v = .tuple #[] ∧ ∃ xs : List Int, xs.Perm (f.map (·.1)) ∧ xs.Pairwise (· ≤ ·) ∧ Dk w' b s r (lsAt f (fun _ => true) xs ls xs.length) [] wr (IntKind.i64.wrap (sy + 1)) ∧ Ch (inDk b s r) w w' := by
  obtain ⟨hrb, hrs⟩ := h.rb
  refine F38_ok _ w _ (IfB.no rfl ((c77 (gk := 78) (cap := #[]) (ans := fun _ => true) (FK := fun _ => False) (S := fun _ _ => True) h trivial (fun _ _ _ _ _ => trivial) (fun _ _ => id) (fun _ h => h.elim) fun j i W _ _ => ?_).use ?_))
  · exact F78_ok i W _ ⟨rfl, trivial, Ch.refl _ _⟩
  · rintro _ w2 ⟨rfl, xs, hp, hs, hD, _, hC⟩
    obtain ⟨T, hT⟩ := hD.box
    refine ⟨(), rfl, b, 0, rfl, sy, hD.c3, b, 0, rfl, rfl, store_one hT (by simp) rfl fun w9 h9 => ⟨rfl, xs, hp, hs, ?_, (hC.mono fun i _ h => h.elim id False.elim).then h9.ch fun i _ e => .inl e⟩⟩
    exact hD.keep ⟨T, h9.new⟩ (hD.map.ch h9.ch hrb) (by simp) fun i hi => h9.old i fun e => h.self (e ▸ hi)

/-- How a list of answers is read. -/
def ansL (l : List Bool) (j : Nat) : Bool := (l[j]?).getD false
theorem c79 {w : World} {bn bl : Nat} {t : Sl} {l : List Bool} {j : Nat} {T1 T2 : TypeId} (hn : w.heap[bn]? = some (.cells #[iv j] T1 (0, 0))) (hl : w.heap[bl]? = some (.cells #[slV t] T2 (0, 0))) (hne : bn ≠ bl) (hr : Rd w t 1 (l.map Value.bool)) (hnb : 0 < t.n → bn ∉ blk t) (hj : j ≤ 100000000) (i : Int) :
    CW Try.prog 79 #[iv i, .pointer (some ⟨bn, 0, none⟩), .pointer (some ⟨bl, 0, none⟩)] w fun v w' => v = .bool (ansL l j) ∧ w'.heap[bn]? = some (.cells #[iv ((j + 1 : Nat) : Int)] T1 (0, 0)) ∧ Ch (fun i => i = bn) w w' := by
  have htn : t.n = l.length := by have := hr.len1; rw [List.length_map] at this; exact this
  refine F79_ok i bn bl w _ ⟨(j : Int), by rw [cell_of hn]; rfl, rfl, store_one hn (by simp) rfl fun w2 h2 => ?_⟩
  have hw : IntKind.i64.wrap ((j : Int) + (1 : Int)) = ((j + 1 : Nat) : Int) := wp1 (by omega)
  rw [hw] at h2
  have hl2 := h2.ch.at hl (fun e => hne e.symm)
  have hr2 := hr.ch0 h2.ch fun h0 q hq (e : q = bn) => hnb h0 (e ▸ hq)
  have hN := h2.new
  refine ⟨((j + 1 : Nat) : Int), by rw [cell_of hN]; rfl, t, by rw [cell_of hl2]; rfl, IfB.dec (fun hle => ?_) (fun hgt => ⟨?_, hN, h2.ch⟩)⟩
  · have hj' : j < l.length := by omega
    have hv : (l.map Value.bool)[j]? = some (.bool l[j]) := by rw [List.getElem?_map, List.getElem?_eq_getElem hj']; rfl
    obtain ⟨a, o, ha, hc⟩ := hr2.elem1 hv
    refine ⟨t, by rw [cell_of hl2]; rfl, ((j + 1 : Nat) : Int), by rw [cell_of hN]; rfl, a, o, ha, ?_⟩
    rw [wm1 (by omega) (by omega), Nat.add_sub_cancel]
    exact ⟨⟨by omega, by show (j : Int) < (t.n : Int); omega⟩, l[j], by rw [Int.toNat_natCast]; exact hc, by unfold ansL; rw [List.getElem?_eq_getElem hj']; rfl, hN, h2.ch⟩
  · unfold ansL; rw [List.getElem?_eq_none (by omega)]; rfl
theorem c40 (t : Sl) (w : World) : CW Try.prog 40 #[slV t] w fun v w' => ∃ bn bl T1 T2, v = .func (.func 79) #[] #[.pointer (some ⟨bn, 0, none⟩), .pointer (some ⟨bl, 0, none⟩)] ∧ w'.heap[bn]? = some (.cells #[iv ((0 : Nat) : Int)] T1 (0, 0)) ∧ w'.heap[bl]? = some (.cells #[slV t] T2 (0, 0)) ∧ bn ≠ bl ∧ w.heap.size ≤ bn ∧ w.heap.size ≤ bl ∧ Ext w w' := by
  refine F40_ok t w _ ?_
  intro b1 w2 h2 b3 w4 h4
  have e2 : Ext w w2 := h2.ch _
  have e4 : Ext w2 w4 := h4.ch _
  have p2 := h2.here; have p4 := h4.here; have z2 := h2.size
  refine ⟨rfl, store_one h4.new (by simp) rfl fun w5 h5 => ⟨b3, b1, _, _, rfl, h5.new, (h5.old b1 (by omega)).trans (e4.at h2.new), by omega, by omega, by omega, (e2.trans e4).then h5.ch fun i hi e => by omega⟩⟩

theorem c39 {w : World} {b : Nat} {s : Sl} {r : Nat} {ls : List Sec} {f : List (Int × Sec)} {wr sy : Int} {bn bl : Nat} {t : Sl} {l : List Bool} {T1 T2 : TypeId} (h : Dk w b s r ls f wr sy) (hn : w.heap[bn]? = some (.cells #[iv ((0 : Nat) : Int)] T1 (0, 0))) (hl : w.heap[bl]? = some (.cells #[slV t] T2 (0, 0))) (hne : bn ≠ bl) (hr : Rd w t 1 (l.map Value.bool)) (hnb : 0 < t.n → bn ∉ blk t)
    (d1 : ¬ inDk b s r bn) (d2 : ¬ inDk b s r bl) (d3 : 0 < t.n → ∀ i ∈ blk t, ¬ inDk b s r i) :
    CW Try.prog 39 #[.pointer (some ⟨b, 0, none⟩), .func (.func 79) #[] #[.pointer (some ⟨bn, 0, none⟩), .pointer (some ⟨bl, 0, none⟩)]] w fun v w' => v = .tuple #[] ∧ ∃ xs : List Int, xs.Perm (f.map (·.1)) ∧ xs.Pairwise (· ≤ ·) ∧ Dk w' b s r (lsAt f (ansL l) xs ls xs.length) [] wr sy ∧ Ch (fun i => inDk b s r i ∨ i = bn) w w' := by
  refine F39_ok _ (79, _) w _ (IfB.yes rfl ((c77 (gk := 79) (ans := ansL l) (FK := fun i => i = bn) (S := fun j W => W.heap[bn]? = some (.cells #[iv ((j : Nat) : Int)] T1 (0, 0)) ∧ W.heap[bl]? = some (.cells #[slV t] T2 (0, 0)) ∧ Rd W t 1 (l.map Value.bool)) h ⟨hn, hl, hr⟩ ?_ ?_ ?_ ?_).use ?_))
  · rintro j W W' ⟨k1, k2, k3⟩ hc
    exact ⟨hc.at k1 d1, hc.at k2 d2, k3.ch0 hc d3⟩
  · rintro i hi rfl; exact d1 hi
  · rintro i rfl; exact heap_lt hn
  · rintro j i W hj ⟨k1, k2, k3⟩
    refine (c79 k1 k2 hne k3 hnb (by omega) i).mono fun v W' ⟨e1, e2, e3⟩ => ⟨e1, ⟨e2, e3.at k2 (fun e => hne e.symm), k3.ch0 e3 fun h0 q hq (e : q = bn) => hnb h0 (e ▸ hq)⟩, e3⟩
  · rintro _ w2 ⟨rfl, xs, hp, hs, hD, _, hC⟩
    exact ⟨(), rfl, rfl, xs, hp, hs, hD, hC⟩
end Go.Proofs.Ytopecljhehcldaa.Gx

/- Package disk: what lasts, as laws. -/
namespace Go.Proofs.Ytopecljhehcldaa.Gx
open Go
set_option linter.unusedSimpArgs false
set_option linter.unusedVariables false

theorem lsAt_false {f : List (Int × Sec)} {ans : Nat → Bool} {xs : List Int} {ls : List Sec} (h : ∀ j, ans j = false) : ∀ j, lsAt f ans xs ls j = ls
  | 0 => rfl
  | j + 1 => by unfold lsAt; rw [h j, if_neg (by simp)]; exact lsAt_false h j
theorem lsAt_true {f : List (Int × Sec)} {ans : Nat → Bool} {xs : List Int} {ls : List Sec} (h : ∀ j, j < xs.length → ans j = true) (hx : ∀ k ∈ xs, 0 ≤ k ∧ k < (ls.length : Int)) : ∀ j, j ≤ xs.length → ∀ i : Nat, (lsAt f ans xs ls j)[i]? = if (i : Int) ∈ xs.take j then some ((getM f (i : Int)).getD sec0) else ls[i]?
  | 0, _, i => by simp [lsAt]
  | j + 1, hj, i => by
    have hg := g_eq (xs := xs) (i := j) (by omega)
    have hr := hx _ (List.mem_of_getElem? hg)
    unfold lsAt
    rw [h j (by omega), if_pos rfl, List.getElem?_set, lsAt_len, take_succ_get hg, lsAt_true h hx j (by omega) i]
    by_cases hi : (g xs j).toNat = i
    · have e : (i : Int) = g xs j := by omega
      rw [if_pos hi, if_pos (by omega), if_pos (by rw [e]; simp), e]
    · rw [if_neg hi]
      have e : (i : Int) ≠ g xs j := by omega
      by_cases hm : (i : Int) ∈ xs.take j
      · rw [if_pos hm, if_pos (by simp [hm])]
      · rw [if_neg hm, if_neg (by simp [hm, e])]
end Go.Proofs.Ytopecljhehcldaa.Gx
