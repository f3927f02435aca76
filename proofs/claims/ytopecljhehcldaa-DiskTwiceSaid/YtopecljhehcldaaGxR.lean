/- The framework, part R: how data lie in memory, and what the row's arguments are. -/
import Derived.Test.YtopecljhehcldaaGxU
import Derived.ChangeArms
import Derived.OpenShut
import Derived.Carry
namespace Go.Proofs.Ytopecljhehcldaa.Gx
open Go
set_option linter.unusedSimpArgs false
set_option linter.unusedVariables false

inductive Ty where
  | int (k : IntKind) | bool | str
  | pair (a b : Ty)
  | sl (e : Ty)
  | arr (n : Nat) (e : Ty)

@[reducible] def Ty.den : Ty → Type
  | .int _ => Int
  | .bool => Bool
  | .str => ByteArray
  | .pair a b => a.den × b.den
  | .sl e => List e.den
  | .arr _ e => List e.den

def Ty.sz : Ty → Nat
  | .pair a b => a.sz + b.sz
  | .arr n e => n * e.sz
  | _ => 1

/-- The cells cs have the datum x; its slices' blocks are A's. -/
def rep (A : Nat → Prop) (w : World) : (t : Ty) → t.den → List Value → Prop
  | .int k, n, cs => cs = [.int k n] ∧ k.min ≤ n ∧ n ≤ k.max
  | .bool, b, cs => cs = [.bool b]
  | .str, s, cs => cs = [.string s] ∧ s.size ≤ maxLen
  | .pair a b, x, cs => ∃ c d, cs = c ++ d ∧ rep A w a x.1 c ∧ rep A w b x.2 d
  | .sl e, l, cs => ∃ s : Sl, cs = [slV s] ∧ s.n = l.length ∧ s.n ≤ s.c ∧ s.c ≤ maxLen ∧ (0 < s.n → ∀ i ∈ blk s, A i) ∧
      ∃ css : List (List Value), css.length = l.length ∧ (∀ (i : Nat) c x, css[i]? = some c → l[i]? = some x → rep A w e x c) ∧ Rd w s e.sz css.flatten
  | .arr n e, l, cs => l.length = n ∧ ∃ css : List (List Value), css.length = l.length ∧ (∀ (i : Nat) c x, css[i]? = some c → l[i]? = some x → rep A w e x c) ∧ cs = css.flatten

theorem flatten_len {css : List (List Value)} {m : Nat} (h : ∀ c ∈ css, c.length = m) : css.flatten.length = css.length * m := by
  induction css with
  | nil => simp
  | cons c css ih =>
    rw [List.flatten_cons, List.length_append, ih fun d hd => h d (by simp [hd]), h c (by simp), List.length_cons, Nat.add_mul]; omega

theorem flatten_get {css : List (List Value)} {m : Nat} (h : ∀ c ∈ css, c.length = m) : ∀ {i : Nat} {c : List Value}, css[i]? = some c → (css.flatten.drop (i * m)).take m = c := by
  induction css with
  | nil => intro i c hc; cases hc
  | cons d css ih =>
    have hd := h d (by simp)
    intro i c hc
    cases i with
    | zero => cases hc; rw [Nat.zero_mul, List.drop_zero, List.flatten_cons, List.take_append_of_le_length (by omega), List.take_of_length_le (by omega)]
    | succ i =>
      rw [List.flatten_cons, Nat.add_mul, Nat.one_mul, List.drop_append, List.drop_of_length_le (by omega), List.nil_append, show i * m + m - d.length = i * m by omega]
      exact ih (fun c hc => h c (by simp [hc])) hc

theorem rep_len {A : Nat → Prop} {w : World} : ∀ {t : Ty} {x : t.den} {cs : List Value}, rep A w t x cs → cs.length = t.sz
  | .int _, _, _, h => by rw [h.1]; rfl
  | .bool, _, _, h => by rw [show _ = _ from h]; rfl
  | .str, _, _, h => by rw [h.1]; rfl
  | .pair a b, _, _, h => by
    obtain ⟨c, d, rfl, h1, h2⟩ := h
    rw [List.length_append, rep_len h1, rep_len h2]; rfl
  | .sl e, _, _, h => by obtain ⟨s, rfl, _⟩ := h; rfl
  | .arr n e, l, _, h => by
    obtain ⟨hn, css, hl, hr, rfl⟩ := h
    have hm : ∀ c ∈ css, c.length = e.sz := fun c hc => by
      obtain ⟨i, hi, rfl⟩ := List.getElem_of_mem hc
      exact rep_len (hr i _ _ (List.getElem?_eq_getElem hi) (List.getElem?_eq_getElem (by omega)))
    rw [flatten_len hm, hl, hn]; rfl

theorem rep_lens {A : Nat → Prop} {w : World} {e : Ty} {l : List e.den} {css : List (List Value)} (hl : css.length = l.length) (hr : ∀ (i : Nat) c x, css[i]? = some c → l[i]? = some x → rep A w e x c) : ∀ c ∈ css, c.length = e.sz := fun c hc => by
  obtain ⟨i, hi, rfl⟩ := List.getElem_of_mem hc
  exact rep_len (hr i _ _ (List.getElem?_eq_getElem hi) (List.getElem?_eq_getElem (by omega)))

theorem Rd.nil {w w' : World} {s : Sl} {sz : Nat} {cs : List Value} (h : Rd w s sz cs) (h0 : s.n = 0) : Rd w' s sz cs := by
  obtain ⟨h1, h2⟩ := h
  rw [h0, Nat.zero_mul] at h1
  have : cs = [] := List.eq_nil_of_length_eq_zero h1
  subst this
  refine ⟨by rw [h0]; simp, ?_⟩
  unfold ReadC at h2 ⊢
  split
  · exact ⟨by rw [h0]; simp, fun i v hv => by simp at hv⟩
  · exact ⟨by rw [h0]; simp, rfl⟩
  · rfl

theorem Rd.ch0 {F : Nat → Prop} {w w' : World} {s : Sl} {sz : Nat} {cs : List Value} (h : Rd w s sz cs) (hc : Ch F w w') (hF : 0 < s.n → ∀ b ∈ blk s, ¬ F b) : Rd w' s sz cs := by
  by_cases h0 : s.n = 0
  · exact h.nil h0
  · exact h.ch hc (hF (by omega))

theorem rep_ch {A F : Nat → Prop} {w w' : World} (hc : Ch F w w') (hF : ∀ i, A i → ¬ F i) : ∀ {t : Ty} {x : t.den} {cs : List Value}, rep A w t x cs → rep A w' t x cs
  | .int _, _, _, h => h
  | .bool, _, _, h => h
  | .str, _, _, h => h
  | .pair a b, _, _, h => by
    obtain ⟨c, d, rfl, h1, h2⟩ := h
    exact ⟨c, d, rfl, rep_ch hc hF h1, rep_ch hc hF h2⟩
  | .sl e, _, _, h => by
    obtain ⟨s, rfl, h1, h2, h3, h4, css, h5, h6, h7⟩ := h
    exact ⟨s, rfl, h1, h2, h3, h4, css, h5, fun i c x hi hx => rep_ch hc hF (h6 i c x hi hx), h7.ch0 hc fun h0 b hb => hF b (h4 h0 b hb)⟩
  | .arr n e, l, _, h => by
    obtain ⟨hn, css, hl, hr, rfl⟩ := h
    exact ⟨hn, css, hl, fun i c x hi hx => rep_ch hc hF (hr i c x hi hx), rfl⟩

theorem rep_ext {A : Nat → Prop} {w w' : World} (hc : Ext w w') {t : Ty} {x : t.den} {cs : List Value} (h : rep A w t x cs) : rep A w' t x cs := rep_ch hc (fun _ _ => id) h

theorem rep_mono {A B : Nat → Prop} {w : World} (hB : ∀ i, A i → B i) : ∀ {t : Ty} {x : t.den} {cs : List Value}, rep A w t x cs → rep B w t x cs
  | .int _, _, _, h => h
  | .bool, _, _, h => h
  | .str, _, _, h => h
  | .pair a b, _, _, h => by
    obtain ⟨c, d, rfl, h1, h2⟩ := h
    exact ⟨c, d, rfl, rep_mono hB h1, rep_mono hB h2⟩
  | .sl e, _, _, h => by
    obtain ⟨s, rfl, h1, h2, h3, h4, css, h5, h6, h7⟩ := h
    exact ⟨s, rfl, h1, h2, h3, fun h0 i hi => hB i (h4 h0 i hi), css, h5, fun i c x hi hx => rep_mono hB (h6 i c x hi hx), h7⟩
  | .arr n e, l, _, h => by
    obtain ⟨hn, css, hl, hr, rfl⟩ := h
    exact ⟨hn, css, hl, fun i c x hi hx => rep_mono hB (hr i c x hi hx), rfl⟩

/-- An element of a slice. -/
theorem rep_get {A : Nat → Prop} {w : World} {e : Ty} {l : List e.den} {cs : List Value} (h : rep A w (.sl e) l cs) (hz : 0 < e.sz) {i : Nat} {x : e.den} (hx : l[i]? = some x) :
    ∃ (s : Sl) (b o : Nat) (c : List Value), cs = [slV s] ∧ s.n = l.length ∧ s.p = some ⟨b, o, none⟩ ∧ A b ∧ CellsAt w b (o + i * e.sz) c ∧ rep A w e x c := by
  obtain ⟨s, rfl, h1, h2, h3, h4, css, h5, h6, h7⟩ := h
  have hi : i < l.length := (List.getElem?_eq_some_iff.1 hx).1
  have hc : css[i]? = some (css[i]'(by omega)) := List.getElem?_eq_getElem (by omega)
  obtain ⟨b, o, hp, hcc⟩ := h7.elem (i := i) (by omega) hz (flatten_get (rep_lens h5 h6) hc)
  exact ⟨s, b, o, _, rfl, h1, hp, h4 (by omega) b (by simp [blk, hp]), hcc, h6 i _ _ hc hx⟩

/-! ### Arguments -/
def ftB (P : Program) (B : TypeId → Ty → Bool) : Nat → List Field → Ty → Bool
  | _, [], _ => false
  | off, [f], ty => Nat.beq f.offset off && B f.type ty && Nat.beq (P.cellsOf f.type) ty.sz
  | off, f :: g :: fs, ty => match ty with
    | .pair a b => Nat.beq f.offset off && B f.type a && Nat.beq (P.cellsOf f.type) a.sz && ftB P B (off + a.sz) (g :: fs) b
    | _ => false

def tyB (P : Program) : Nat → TypeId → Ty → Bool
  | 0, _, _ => false
  | d + 1, t, ty => match P.underlying t with
    | some (.struct fs) => ftB P (tyB P d) 0 fs.toList ty && Nat.beq (P.cellsOf t) ty.sz
    | u => match u, ty with
      | some (.int k), .int k' => eqK k k'
      | some .bool, .bool => true
      | some .string, .str => true
      | some (.slice e), .sl x => tyB P d e x && Nat.beq (P.cellsOf e) x.sz && Nat.blt 0 x.sz
      | some (.array n e), .arr m x => Nat.beq n m && tyB P d e x && Nat.beq (P.cellsOf e) x.sz && Nat.beq (P.cellsOf t) (n * x.sz)
      | _, _ => false

section
variable {H : Type} {enc : TypeId × Value → H} {P : Program} {w : World} {base : Nat} {sp : Nat → Bool} {held : Bool}

theorem cells_at {a : Addr} {n : Nat} {c : List Value} (h : w.cells? base a n = some c) (hn : 0 < n) : a.spot = none ∧ CellsAt w a.block a.off c := by
  obtain ⟨_, hl, hc⟩ := World.cells?_some h
  obtain ⟨b, o, s⟩ := a
  have h0 := hc 0 hn
  rw [show (Addr.mk b o s).add 0 = ⟨b, o, s⟩ from rfl, List.getElem?_eq_getElem (show 0 < c.length by omega)] at h0
  have hs : s = none := by
    unfold World.cell? at h0
    split at h0
    · cases s with
      | none => rfl
      | some _ => simp at h0
    · cases h0
  subst hs
  refine ⟨rfl, fun i v hv => ?_⟩
  have := hc i (by have := (List.getElem?_eq_some_iff.1 hv).1; omega)
  rw [addr_add, hv] at this
  exact this

theorem pick {α β : Type} {Q : Nat → α → β → Prop} : ∀ (n : Nat), (∀ i, i < n → ∃ a b, Q i a b) → ∃ (as : List α) (bs : List β), as.length = n ∧ bs.length = n ∧ ∀ (i : Nat) a b, as[i]? = some a → bs[i]? = some b → Q i a b
  | 0, _ => ⟨[], [], rfl, rfl, fun i a b h => by simp at h⟩
  | n + 1, h => by
    obtain ⟨as, bs, h1, h2, h3⟩ := pick n fun i hi => h i (by omega)
    obtain ⟨a, b, hab⟩ := h n (Nat.lt_succ_self n)
    refine ⟨as ++ [a], bs ++ [b], by simp [h1], by simp [h2], fun i x y hx hy => ?_⟩
    rw [List.getElem?_append] at hx hy
    split at hx
    · rename_i hi
      rw [if_pos (by omega)] at hy
      exact h3 i x y hx hy
    · rename_i hi
      rw [if_neg (by omega)] at hy
      have e1 : i - as.length = 0 := by
        have := (List.getElem?_eq_some_iff.1 hx).1; simp at this; exact this
      have e2 : i - bs.length = 0 := by omega
      rw [e1] at hx; rw [e2] at hy
      cases hx; cases hy
      have : i = n := by omega
      subst this; exact hab

theorem cellsAt_flatten {b m : Nat} : ∀ {css : List (List Value)} {o : Nat}, (∀ (i : Nat) c, css[i]? = some c → CellsAt w b (o + i * m) c) → (∀ c ∈ css, c.length = m) → CellsAt w b o css.flatten
  | [], _, _, _ => fun i v hv => by simp at hv
  | c :: css, o, h, hm => by
    intro i v hv
    rw [List.flatten_cons, List.getElem?_append] at hv
    split at hv
    · have := h 0 c rfl i v hv
      simpa using this
    · rename_i hi
      have hc := hm c (by simp)
      have ih := cellsAt_flatten (css := css) (o := o + m) (fun j d hd => by
        have := h (j + 1) d hd
        rw [show o + m + j * m = o + (j + 1) * m by rw [Nat.add_mul]; omega]; exact this) (fun d hd => hm d (by simp [hd])) (i - c.length) v hv
      rw [show o + m + (i - c.length) = o + i by omega] at ih
      exact ih

theorem chunks {m : Nat} : ∀ (n : Nat) (cs : List Value), cs.length = n * m → cs = ((List.range n).map fun i => (cs.drop (i * m)).take m).flatten
  | 0, cs, h => by
    have : cs = [] := List.eq_nil_of_length_eq_zero (by omega)
    subst this; rfl
  | n + 1, cs, h => by
    have ih := chunks (m := m) n (cs.drop m) (by rw [List.length_drop, h, Nat.add_mul]; omega)
    rw [List.range_succ_eq_map, List.map_cons, List.flatten_cons, List.map_map]
    have e : (List.range n).map ((fun i => (cs.drop (i * m)).take m) ∘ Nat.succ) = (List.range n).map fun i => ((cs.drop m).drop (i * m)).take m := by
      apply List.map_congr_left
      intro i _
      simp only [Function.comp, List.drop_drop]
      rw [show m + i * m = Nat.succ i * m by rw [Nat.succ_mul]; omega]
    rw [e, ← ih]
    simp

theorem ft_rep {B : TypeId → Ty → Bool} {cs : List Value} (hB : ∀ (f : Field) (ty : Ty), B f.type ty = true → (∃ r n, DataW.trod enc P w base sp held n f.type ((cs.drop f.offset).take (P.cellsOf f.type)) = some r) → ∃ x : ty.den, rep (fun _ => True) w ty x ((cs.drop f.offset).take (P.cellsOf f.type))) :
    ∀ (fs : List Field) (off : Nat) (ty : Ty), ftB P B off fs ty = true → (∀ f ∈ fs, ∃ r n, DataW.trod enc P w base sp held n f.type ((cs.drop f.offset).take (P.cellsOf f.type)) = some r) → ∃ x : ty.den, rep (fun _ => True) w ty x ((cs.drop off).take ty.sz)
  | [], _, _, h, _ => by cases h
  | [f], off, ty, h, hf => by
    simp only [ftB, Bool.and_eq_true] at h
    obtain ⟨⟨h1, h2⟩, h3⟩ := h
    have e1 := Nat.eq_of_beq_eq_true h1
    have e3 := Nat.eq_of_beq_eq_true h3
    obtain ⟨x, hx⟩ := hB f ty h2 (hf f (by simp))
    rw [e1, e3] at hx
    exact ⟨x, hx⟩
  | f :: g :: fs, off, ty, h, hf => by
    simp only [ftB] at h
    split at h
    · rename_i a b
      simp only [Bool.and_eq_true] at h
      obtain ⟨⟨⟨h1, h2⟩, h3⟩, h4⟩ := h
      have e1 := Nat.eq_of_beq_eq_true h1
      have e3 := Nat.eq_of_beq_eq_true h3
      obtain ⟨x, hx⟩ := hB f a h2 (hf f (by simp))
      rw [e1, e3] at hx
      obtain ⟨y, hy⟩ := ft_rep hB (g :: fs) (off + a.sz) b h4 fun f' hf' => hf f' (List.mem_cons_of_mem _ hf')
      refine ⟨(x, y), _, _, ?_, hx, hy⟩
      show (cs.drop off).take (a.sz + b.sz) = _
      rw [List.take_add, List.drop_drop]
    · cases h

theorem trod_rep : ∀ (d : Nat) (t : TypeId) (ty : Ty) (fuel : Nat) (cs : List Value) (r : DataW H × List MemPlace), tyB P d t ty = true → DataW.trod enc P w base sp held fuel t cs = some r → ∃ x : ty.den, rep (fun _ => True) w ty x cs
  | 0, _, _, _, _, _, h, _ => by cases h
  | d + 1, t, ty, fuel, cs, r, hty, h => by
    unfold tyB at hty
    split at hty
    · rename_i fs hu
      simp only [Bool.and_eq_true] at hty
      obtain ⟨h1, h2⟩ := hty
      have htz := Nat.eq_of_beq_eq_true h2
      obtain ⟨xs, n, rfl, _, hl, hxl, hel⟩ := DataW.trod_struct hu h
      have := ft_rep (enc := enc) (P := P) (w := w) (base := base) (sp := sp) (held := held) (B := tyB P d) (cs := cs) (fun f ty hf ⟨r, m, hr⟩ => trod_rep d f.type ty m _ r hf hr) fs.toList 0 ty h1 fun f hf => by
        obtain ⟨i, hi, rfl⟩ := List.getElem_of_mem hf
        have := hel i (fs.toList[i]) (by rw [← Array.getElem?_toList, List.getElem?_eq_getElem hi])
        rw [List.getElem?_eq_getElem (by rw [hxl]; simpa using hi)] at this
        exact ⟨_, n, this⟩
      obtain ⟨x, hx⟩ := this
      rw [List.drop_zero, ← htz, ← hl, List.take_length] at hx
      exact ⟨x, hx⟩
    · skip
      split at hty
      · rename_i k k' hu
        have := eqK_eq hty; subst this
        obtain ⟨n, rfl, _, hw⟩ := DataW.trod_int hu h
        simp only [Lit.wf, Bool.and_eq_true, decide_eq_true_eq] at hw
        exact ⟨n, rfl, hw⟩
      · rename_i hu
        obtain ⟨b, rfl, _⟩ := DataW.trod_bool hu h
        exact ⟨b, rfl⟩
      · rename_i hu
        obtain ⟨s, rfl, _, hs⟩ := DataW.trod_string hu h
        exact ⟨s, rfl, hs⟩
      · rename_i e x hu
        simp only [Bool.and_eq_true] at hty
        obtain ⟨⟨h1, h2⟩, h3⟩ := hty
        have hsz := Nat.eq_of_beq_eq_true h2
        have hpos : 0 < x.sz := by simpa using h3
        rcases DataW.trod_slice hu h with ⟨rfl, _⟩ | ⟨a, len, cap, elems, rest, n, rfl, rfl, _, _, hl, hm, hlen, hel, _, _⟩
        · exact ⟨[], ⟨none, 0, 0⟩, rfl, rfl, Nat.le_refl _, Nat.zero_le _, fun h => absurd h (Nat.lt_irrefl _), [], rfl, fun i c y hc => by simp at hc, by simp [Rd, ReadC]⟩
        · obtain ⟨css, ys, g1, g2, g3⟩ := pick (Q := fun i (c : List Value) (y : x.den) => w.cells? base (a.add (i * x.sz)) x.sz = some c ∧ rep (fun _ => True) w x y c) len fun i hi => by
            have h4 := hel i hi
            rw [hsz, List.getElem?_eq_getElem (by omega), Option.bind_eq_some_iff] at h4
            obtain ⟨c, hc, hy⟩ := h4
            obtain ⟨y, hr⟩ := trod_rep d e x n c _ h1 hy
            exact ⟨c, y, hc, hr⟩
          refine ⟨ys, ⟨some a, len, cap⟩, rfl, g2.symm, hl, hm, fun _ _ _ => trivial, css, by omega, fun i c y hc hy => (g3 i c y hc hy).2, ?_⟩
          have hlens : ∀ c ∈ css, c.length = x.sz := rep_lens (by omega) fun i c y hc hy => (g3 i c y hc hy).2
          have hfl := flatten_len hlens
          refine ⟨by rw [hfl, g1], ?_⟩
          dsimp only
          by_cases h0 : len = 0
          · subst h0
            have : css = [] := List.eq_nil_of_length_eq_zero g1
            subst this
            unfold ReadC
            split
            · exact ⟨by simp, fun i v hv => by simp at hv⟩
            · exact ⟨by simp, rfl⟩
            · rfl
          · have cell0 := (g3 0 _ _ (List.getElem?_eq_getElem (show 0 < css.length by omega)) (List.getElem?_eq_getElem (show 0 < ys.length by omega))).1
            rw [Nat.zero_mul] at cell0
            have hspot := (cells_at cell0 hpos).1
            obtain ⟨b, o, s⟩ := a
            have hs : s = none := hspot
            subst hs
            refine ⟨by rw [hfl, g1], cellsAt_flatten (m := x.sz) (fun i c hc => ?_) hlens⟩
            have hi : i < css.length := (List.getElem?_eq_some_iff.1 hc).1
            have := (cells_at (g3 i c _ hc (List.getElem?_eq_getElem (show i < ys.length by omega))).1 hpos).2
            rw [addr_add] at this
            exact this
      · rename_i n e m x hu
        simp only [Bool.and_eq_true] at hty
        obtain ⟨⟨⟨h0, h1⟩, h2⟩, h3⟩ := hty
        have hnm := Nat.eq_of_beq_eq_true h0
        have hsz := Nat.eq_of_beq_eq_true h2
        have htz := Nat.eq_of_beq_eq_true h3
        subst hnm
        obtain ⟨xs, k, rfl, _, hl, hxl, hel⟩ := DataW.trod_array hu h
        rw [htz] at hl
        obtain ⟨css, ys, g1, g2, g3⟩ := pick (Q := fun i (c : List Value) (y : x.den) => c = (cs.drop (i * x.sz)).take x.sz ∧ rep (fun _ => True) w x y c) n fun i hi => by
          have h4 := hel i hi
          rw [hsz, List.getElem?_eq_getElem (by omega)] at h4
          obtain ⟨y, hr⟩ := trod_rep d e x k _ _ h1 h4
          exact ⟨_, y, rfl, hr⟩
        refine ⟨ys, g2, css, by omega, fun i c y hc hy => (g3 i c y hc hy).2, ?_⟩
        have e1 : css = (List.range n).map fun i => (cs.drop (i * x.sz)).take x.sz := by
          apply List.ext_getElem?
          intro i
          by_cases hi : i < n
          · rw [List.getElem?_map, List.getElem?_range hi, List.getElem?_eq_getElem (by omega)]
            have := (g3 i _ _ (List.getElem?_eq_getElem (show i < css.length by omega)) (List.getElem?_eq_getElem (show i < ys.length by omega))).1
            rw [this]; rfl
          · rw [List.getElem?_eq_none (by omega), List.getElem?_eq_none (by simp; omega)]
        rw [e1]
        exact chunks n cs hl
      · cases hty

/-- An argument of the row. -/
theorem open_arg {d : Nat} {t : TypeId} {ty : Ty} {v : Value} {x : DataW H} {ps : List MemPlace} (hty : tyB P d t ty = true) (h : DataW.Trod enc P w base sp held t v x ps) : ∃ y : ty.den, rep (fun _ => True) w ty y v.cells.toList := by
  obtain ⟨fuel, h⟩ := h
  exact trod_rep d t ty fuel _ _ hty h

theorem trod_keep {t : TypeId} (hl : laidOutB P = true) (hr : P.readableRec t = true) (hrow : t < P.types.size) {W W' : World} {v : Value} {d : DataW H} {ps : List MemPlace}
    (h : DataW.Trod enc P W 0 (fun _ => true) true t v d ps) (hb : RowKit.Below W.heap.size W W') (hlt : ∀ x ∈ ps, x.block < W.heap.size) {sp : Nat → Bool} (hsp : ∀ x ∈ ps, sp x.block = true) : DataW.Trod enc P W' 0 sp true t v d ps :=
  WideElems.Trod_stays hl hr hrow h (fun x hx => hb.same (hlt x hx)) hsp

theorem val_of_cells {r : Reach} {b0 : Nat} {t : TypeId} {v : Value} {c : Value} (hval : Value.okWide P w r b0 t v) (hu : ∀ fs n e, P.underlying t ≠ some (.struct fs) ∧ P.underlying t ≠ some (.array n e)) (h : v.cells.toList = [c]) : v = c := by
  cases v with
  | agg cs =>
    unfold Value.okWide at hval
    split at hval
    · rename_i fs hs; exact absurd hs (hu fs 0 0).1
    · rename_i n e hs; exact absurd hs (hu #[] n e).2
    · unfold Cell.okWide at hval
      split at hval <;> first | contradiction | skip
      unfold Cell.ok at hval
      split at hval <;> first | contradiction | exact hval.elim
  | _ => simpa [Value.cells] using h

theorem val_agg {r : Reach} {b0 : Nat} {t : TypeId} {v : Value} (hval : Value.okWide P w r b0 t v) (hu : (∃ fs, P.underlying t = some (.struct fs)) ∨ ∃ n e, P.underlying t = some (.array n e)) : v = .agg v.cells := by
  unfold Value.okWide at hval
  rcases hu with ⟨fs, hs⟩ | ⟨n, e, hs⟩
  · rw [hs] at hval; obtain ⟨cs, rfl, _⟩ := hval; rfl
  · rw [hs] at hval; obtain ⟨cs, rfl, _⟩ := hval; rfl
end
end Go.Proofs.Ytopecljhehcldaa.Gx
