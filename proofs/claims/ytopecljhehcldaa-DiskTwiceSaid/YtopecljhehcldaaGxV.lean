/- The framework, part V: what Go's package slices asks, whatever the elements: Clone, Delete, Insert, Grow, IndexFunc, BinarySearchFunc. -/
import Derived.Test.YtopecljhehcldaaGxS
namespace Go.Proofs.Ytopecljhehcldaa.Gx
open Go
set_option linter.unusedSimpArgs false
set_option linter.unusedVariables false

/-! ### What is read -/
theorem cell_ch {F : Nat → Prop} {w w' : World} {a : Addr} {v : Value} (h : w.cell? a = some v) (hc : Ch F w w') (hF : ¬ F a.block) : w'.cell? a = some v := by
  have hb : a.block < w.heap.size := by
    unfold World.cell? at h
    split at h
    · rename_i ho; exact heap_lt ho
    · cases h
  unfold World.cell? at h ⊢
  rw [hc.old _ hb hF]; exact h

theorem CellsAt.ch {F : Nat → Prop} {w w' : World} {b o : Nat} {cs : List Value} (h : CellsAt w b o cs) (hc : Ch F w w') (hF : ¬ F b) : CellsAt w' b o cs :=
  fun i v hv => cell_ch (h i v hv) hc hF

theorem ReadC.ch {F : Nat → Prop} {w w' : World} {p : Option Addr} {m : Nat} {cs : List Value} (h : ReadC w p m cs) (hc : Ch F w w') (hF : ∀ a, p = some a → ¬ F a.block) : ReadC w' p m cs := by
  unfold ReadC at h ⊢
  split at h
  · exact ⟨h.1, h.2.ch hc (hF _ rfl)⟩
  · exact h
  · exact h

/-- The elements of a slice, whoever owns it. -/
def Rd (w : World) (s : Sl) (sz : Nat) (cs : List Value) : Prop := cs.length = s.n * sz ∧ ReadC w s.p (s.n * sz) cs

theorem OwS.rd {w : World} {s : Sl} {sz : Nat} {cs : List Value} (h : OwS w s sz cs) : Rd w s sz cs := ⟨h.len, h.readAll⟩
theorem Rd.ch {F : Nat → Prop} {w w' : World} {s : Sl} {sz : Nat} {cs : List Value} (h : Rd w s sz cs) (hc : Ch F w w') (hF : ∀ b ∈ blk s, ¬ F b) : Rd w' s sz cs :=
  ⟨h.1, h.2.ch hc fun a ha => hF _ (by simp [blk, ha])⟩
theorem Rd.ext {w w' : World} {s : Sl} {sz : Nat} {cs : List Value} (h : Rd w s sz cs) (hc : Ext w w') : Rd w' s sz cs := h.ch hc fun _ _ => id

theorem Rd.elem {w : World} {s : Sl} {sz : Nat} {cs : List Value} (h : Rd w s sz cs) {i : Nat} (hi : i < s.n) (hz : 0 < sz) {l : List Value} (hl : (cs.drop (i * sz)).take sz = l) :
    ∃ b o, s.p = some ⟨b, o, none⟩ ∧ CellsAt w b (o + i * sz) l := by
  obtain ⟨hn, hr⟩ := h
  have e : (i + 1) * sz ≤ s.n * sz := Nat.mul_le_mul_right _ hi
  rw [Nat.add_mul, Nat.one_mul] at e
  unfold ReadC at hr
  split at hr
  · rename_i b o hp
    refine ⟨b, o, hp, fun j v hv => ?_⟩
    rw [← hl, List.getElem?_take] at hv
    split at hv
    · rw [List.getElem?_drop] at hv
      have := hr.2 _ _ hv
      rw [show o + i * sz + j = o + (i * sz + j) by omega]; exact this
    · cases hv
  · have := hr.1; omega
  · subst hr
    simp at hn
    omega

theorem Rd.elem1 {w : World} {s : Sl} {cs : List Value} (h : Rd w s 1 cs) {i : Nat} {v : Value} (hv : cs[i]? = some v) : ∃ b o, s.p = some ⟨b, o, none⟩ ∧ w.cell? ⟨b, o + i, none⟩ = some v := by
  have hi : i < s.n := by have := h.1; rw [Nat.mul_one] at this; rw [← this]; exact (List.getElem?_eq_some_iff.1 hv).1
  obtain ⟨b, o, hp, hc⟩ := h.elem hi (by omega) (l := [v]) (by
    rw [Nat.mul_one]
    obtain ⟨hi', rfl⟩ := List.getElem?_eq_some_iff.1 hv
    rw [List.drop_eq_getElem_cons hi']; rfl)
  exact ⟨b, o, hp, by simpa using hc 0 v rfl⟩

/-! ### Clone -/
def CloneF (te : TI) (e sz : Nat) (t0 : Sl) (w : World) (R : Value → World → Prop) : Prop :=
  IfB t0.1.isNone (R (Value.slice none (0 : Nat) (0 : Nat)) w)
  ((0 : Nat) * sz ≤ (16777216 : Nat) ∧
  AllocP w (Obj.cells #[] e) fun (b1 : Nat) (w2 : World) =>
  ∃ (l3 : List Value),
  ReadC w2 t0.1 (t0.2 * sz) l3 ∧
  AppendP te e w2 (some ({ block := b1, off := (0 : Nat) } : Addr)) (0 : Nat) (0 : Nat) t0.2 l3 fun (s4 : Sl) (w5 : World) => R (Value.slice s4.1 s4.2 s4.3) w5)

theorem CloneF_of {te : TI} {e sz : Nat} {t0 : Sl} {w : World} {R : Value → World → Prop} {cs : List Value} (h : Rd w t0 sz cs) (hsz : te.size = sz) (hz : te.zero.cells.size = sz) (h1 : One cs) (hr : Roomy t0.n te.bytes)
    (hK : ∀ s' w', OwS w' s' sz cs → s'.n = t0.n → Ext w w' → (∀ i ∈ blk s', w.heap.size ≤ i) → R (slV s') w') (hnil : t0.p = none → t0.n = 0) : CloneF te e sz t0 w R := by
  refine IfB.intro (fun hp => ?_) (fun hp => ⟨by simp, fun b1 w2 h2 => ⟨cs, h.2.ch (h2.ch (fun _ => False)) (fun _ _ => id), ?_⟩⟩)
  · have hp' : t0.p = none := by cases hq : t0.p with | none => rfl | some _ => rw [show t0.1 = t0.p from rfl, hq] at hp; cases hp
    have hn := hnil hp'
    have : cs = [] := by have := h.1; rw [hn] at this; simpa using this
    subst this
    exact hK ⟨none, 0, 0⟩ w (.nil _ _) hn.symm (Ch.refl _ _) (by simp [blk])
  · have ho : OwS w2 ⟨some ⟨b1, 0, none⟩, 0, 0⟩ sz [] := .inr ⟨b1, _, e, rfl, h2.new, by simp, Nat.le_refl _, by simp⟩
    refine ho.append (cnt := t0.n) hsz hz h.1 h1 (by simpa using hr) fun s' w' ho' hn' hc hb _ => ?_
    have hb1 : ∀ i ∈ blk (⟨some ⟨b1, 0, none⟩, 0, 0⟩ : Sl), w.heap.size ≤ i := by intro i hi; simp [blk] at hi; rw [hi, h2.here]; exact Nat.le_refl _
    refine hK s' w' (by simpa using ho') (by simpa using hn') ((h2.ch _).then hc fun i hi hm => absurd (hb1 i hm) (by omega)) fun i hi => ?_
    rcases hb i hi with h | h
    · exact hb1 i h
    · have := h2.size; omega

/-! ### Delete -/
def DelF (te : TI) (e sz : Nat) (t0 : Sl) (t1 t2 : Int) (w : World) (R : Value → World → Prop) : Prop :=
  ((0 : Int) ≤ t1 ∧ t1 ≤ t2 ∧ t2 ≤ (t0.2 : Int) ∧ (t0.2 : Int) ≤ (t0.3 : Int)) ∧
  IfB (t1 == t2) (R (Value.slice t0.1 t0.2 t0.3) w)
  (((0 : Int) ≤ t1 ∧ t1 ≤ (t0.3 : Int)) ∧
  ((0 : Int) ≤ t2 ∧ t2 ≤ (t0.2 : Int)) ∧
  ∃ (l1 : List Value),
  ReadC w.drew (slAddr t0.1 t0.3 t2.toNat sz) ((t0.2 - t2.toNat) * sz) l1 ∧
  AppendP te e w.drew (slAddr t0.1 t0.3 (0 : Nat) sz) t1.toNat t0.3 (t0.2 - t2.toNat) l1 fun (s2 : Sl) (w3 : World) =>
  ((0 : Int) ≤ (s2.2 : Int) ∧ (s2.2 : Int) ≤ (t0.2 : Int) ∧ (t0.2 : Int) ≤ (s2.3 : Int)) ∧
  match slAddr s2.1 s2.3 ((s2.2 : Int)).toNat sz with
  | none => R (Value.slice s2.1 s2.2 s2.3) w3
  | some ({ block := b5, off := b6, spot := none } : Addr) =>
  StoreP w3 b5 b6 (zc te.zero.cells (((t0.2 : Int)).toNat - ((s2.2 : Int)).toNat)) fun (w7 : World) =>
  R (Value.slice s2.1 s2.2 s2.3) w7
  | some y8 => False)

theorem One.take {cs : List Value} (h : One cs) (k : Nat) : One (cs.take k) := fun x hx => h x (List.mem_of_mem_take hx)
theorem One.drop {cs : List Value} (h : One cs) (k : Nat) : One (cs.drop k) := fun x hx => h x (List.mem_of_mem_drop hx)
theorem One.append {cs ds : List Value} (h : One cs) (k : One ds) : One (cs ++ ds) := fun x hx => (List.mem_append.1 hx).elim (h x) (k x)

theorem zc_one {z : Array Value} (h : One z.toList) (n : Nat) : One (zc z n) := by
  intro x hx
  unfold zc Builtin.zeroCells at hx
  rw [Array.mem_toList_iff, Array.mem_map] at hx
  obtain ⟨i, hi, rfl⟩ := hx
  have hi' := Array.mem_range.1 hi
  have h0 : 0 < z.size := by
    rcases Nat.eq_zero_or_pos z.size with h0 | h0
    · rw [h0] at hi'; simp at hi'
    · exact h0
  have hlt := Nat.mod_lt i h0
  apply h
  rw [show z[i % z.size]! = z[i % z.size] from getElem!_pos z (i % z.size) hlt]
  exact Array.mem_toList_iff.2 (Array.getElem_mem _)

theorem DelF_of {te : TI} {e sz : Nat} {t0 : Sl} {i j : Nat} {w : World} {R : Value → World → Prop} {cs : List Value} (h : OwS w t0 sz cs) (hsz : te.size = sz) (hz : te.zero.cells.size = sz) (h1 : One cs) (hz1 : One te.zero.cells.toList)
    (hij : i < j) (hj : j ≤ t0.n) (hr : Roomy t0.n te.bytes)
    (hK : ∀ s' w', OwS w' s' sz (cs.take (i * sz) ++ cs.drop (j * sz)) → s'.n = t0.n - (j - i) → Ch (fun i => i ∈ blk t0) w w' → s'.p = t0.p → R (slV s') w') : DelF te e sz t0 i j w R := by
  have hcap := h.cap
  have hlen := h.len
  obtain ⟨b, hp⟩ := h.ptr (by omega)
  have hbk : blk t0 = [b] := by simp [blk, hp]
  have hd : Ch (fun i => i ∈ blk t0) w w.drew := ⟨drew_rest w, Nat.le_refl _, fun _ _ _ => rfl⟩
  have hjn : j * sz ≤ t0.n * sz := Nat.mul_le_mul_right _ hj
  have hin : i * sz ≤ t0.n * sz := Nat.mul_le_mul_right _ (by omega)
  refine ⟨⟨by omega, by omega, by omega, by omega⟩, IfB.no (by simp; omega) ⟨⟨by omega, by omega⟩, ⟨by omega, by omega⟩, cs.drop (j * sz), ?_, ?_⟩⟩
  · have := h.read j (t0.n - j) (by omega)
    rw [Nat.sub_mul, List.take_of_length_le (by rw [List.length_drop, hlen]; exact Nat.le_refl _)] at this
    rw [Int.toNat_natCast, show (t0.2 - j) * sz = t0.n * sz - j * sz from Nat.sub_mul ..]
    exact this
  · rw [Int.toNat_natCast, Int.toNat_natCast, slAddr_zero]
    have hcut : OwS w.drew ⟨t0.p, i, t0.c⟩ sz (cs.take (i * sz)) := (h.cut (by omega)).keep fun _ _ => rfl
    refine hcut.append (cnt := t0.n - j) hsz hz (by rw [List.length_drop, hlen, Nat.sub_mul]) (h1.drop _) ⟨by have := hr.1; dsimp only; omega, Nat.le_trans (Nat.mul_le_mul_right _ (by dsimp only; omega)) hr.2⟩ ?_
    intro s' w' ho hn hc hb hin'
    obtain rfl := hin' (by dsimp only; omega)
    dsimp only at hn ho hc hb ⊢
    refine ⟨⟨by omega, by omega, by omega⟩, ?_⟩
    rw [Int.toNat_natCast, Int.toNat_natCast]
    have hc' : Ch (fun i => i ∈ blk t0) w w' := hd.trans (hc.mono fun _ _ hi => by simpa [blk] using hi)
    rw [hp, slAddr_some]
    dsimp only
    have e0 : (i + (t0.n - j)) * sz ≤ t0.c * sz := Nat.mul_le_mul_right _ (by omega)
    rw [if_neg (by omega), Nat.zero_add]
    have e1 : (i + (t0.n - j)) * sz + (t0.n - (i + (t0.n - j))) * sz ≤ t0.c * sz := by
      rw [← Nat.add_mul]; exact Nat.mul_le_mul_right _ (by omega)
    refine ho.storeTail hp (Nat.le_refl _) (by rw [zc_len, hz]; exact e1) (zc_one hz1 _) fun w'' ho'' hc'' => ?_
    have := hK ⟨t0.p, i + (t0.n - j), t0.c⟩ w'' ho'' (by dsimp only; omega) (hc'.trans (hc''.mono fun k _ hk => by rw [hbk, hk]; simp)) rfl
    rw [hp] at this
    exact this

/-! ### Grow of nothing -/
def GrowF (te : TI) (e sz : Nat) (t0 : Sl) (t1 : Int) (w : World) (R : Value → World → Prop) : Prop :=
  IfB (decide (t1 < (0 : Int))) False
  (IfB (decide ((0 : Int) < IntKind.i64.wrap (t1 - IntKind.i64.wrap ((t0.c : Int) - (t0.n : Int)))))
  (((0 : Int) ≤ (t0.3 : Int) ∧ (t0.3 : Int) ≤ (t0.3 : Int)) ∧
  ((0 : Int) ≤ IntKind.i64.wrap (t1 - IntKind.i64.wrap ((t0.3 : Int) - (t0.2 : Int))) ∧
  IntKind.i64.wrap (t1 - IntKind.i64.wrap ((t0.3 : Int) - (t0.2 : Int))) ≤ (281474976710656 : Int) ∧ IntKind.i64.wrap (t1 - IntKind.i64.wrap ((t0.3 : Int) - (t0.2 : Int))) * (te.bytes : Int) ≤ (281474976710656 : Int)) ∧
  AppendP te e w (slAddr t0.1 t0.3 (0 : Nat) sz) ((t0.3 : Int)).toNat t0.3 (IntKind.i64.wrap (t1 - IntKind.i64.wrap ((t0.3 : Int) - (t0.2 : Int)))).toNat
  (zc te.zero.cells (IntKind.i64.wrap (t1 - IntKind.i64.wrap ((t0.3 : Int) - (t0.2 : Int)))).toNat) fun (s1 : Sl) (w2 : World) =>
  ((0 : Int) ≤ (t0.2 : Int) ∧ (t0.2 : Int) ≤ (s1.3 : Int)) ∧ R (Value.slice (slAddr s1.1 s1.3 (0 : Nat) sz) ((t0.2 : Int)).toNat s1.3) w2)
  (R (Value.slice t0.1 t0.2 t0.3) w))

theorem wrap_of {n : Int} (h0 : -9223372036854775808 ≤ n) (h1 : n ≤ 9223372036854775807) : IntKind.i64.wrap n = n := by rw [IntKind.wrap_i64]; omega

theorem GrowF_nil {te : TI} {e sz k : Nat} {w : World} {R : Value → World → Prop} (hsz : te.size = sz) (hz : te.zero.cells.size = sz) (hz1 : One te.zero.cells.toList) (hr : Roomy k te.bytes) (hb : te.bytes ≤ 100000) (hk : k ≤ 1000000)
    (hK : ∀ s' w', OwS w' s' sz [] → s'.n = 0 → Ext w w' → (∀ i ∈ blk s', w.heap.size ≤ i) → R (slV s') w') : GrowF te e sz ⟨none, 0, 0⟩ k w R := by
  have e0 : IntKind.i64.wrap ((k : Int) - IntKind.i64.wrap (((0 : Nat) : Int) - ((0 : Nat) : Int))) = k := by
    rw [wrap_of (n := ((0 : Nat) : Int) - ((0 : Nat) : Int)) (by omega) (by omega), wrap_of (by omega) (by omega)]; omega
  refine IfB.no (by simp) (IfB.dec (fun hd => ?_) (fun hd => ?_))
  · dsimp only at hd ⊢
    rw [e0] at hd
    rw [e0, slAddr_none]
    simp only [Int.toNat_natCast]
    have hkb : k * te.bytes ≤ 1000000 * 100000 := Nat.mul_le_mul hk hb
    refine ⟨⟨by omega, by omega⟩, ⟨by omega, by omega, by rw [← Int.natCast_mul]; omega⟩, ?_⟩
    refine (OwS.nil w sz).append (cnt := k) hsz hz (by rw [zc_len, hz]) (zc_one hz1 _) (by show Roomy (0 + k) _; rw [Nat.zero_add]; exact hr) fun s' w' ho hn hc hb' _ => ?_
    refine ⟨⟨by omega, by omega⟩, ?_⟩
    have hb2 : ∀ i ∈ blk s', w.heap.size ≤ i := fun i hi => (hb' i hi).elim (fun h => by simp [blk] at h) id
    have hc2 : Ext w w' := hc.mono fun i _ hi => by simp [blk] at hi
    have := hK ⟨s'.p, 0, s'.c⟩ w' (by simpa using ho.cut (Nat.zero_le _)) rfl hc2 hb2
    rw [slAddr_zero]
    exact this
  · exact hK ⟨none, 0, 0⟩ w (.nil _ _) rfl (Ch.refl _ _) (by simp [blk])

/-! ### Insert -/
def InsF (P : Program) (te : TI) (e sz ov rot : Nat) (t0 : Sl) (t1 : Int) (t2 : Sl) (w : World) (R : Value → World → Prop) : Prop :=
  ((0 : Int) ≤ t1 ∧ t1 ≤ (t0.2 : Int)) ∧
  IfB ((t2.2 : Int) == (0 : Int)) (R (Value.slice t0.1 t0.2 t0.3) w)
  (IfB (t1 == (t0.2 : Int))
  (∃ (l1 : List Value),
  ReadC w t2.1 (t2.2 * sz) l1 ∧
  AppendP te e w t0.1 t0.2 t0.3 t2.2 l1 fun (s2 : Sl) (w3 : World) => R (Value.slice s2.1 s2.2 s2.3) w3)
  (IfB (decide ((t0.c : Int) < IntKind.i64.wrap ((t0.n : Int) + (t2.n : Int))))
  (((0 : Int) ≤ t1 ∧ t1 ≤ (t0.3 : Int)) ∧
  ((0 : Int) ≤ IntKind.i64.wrap (IntKind.i64.wrap ((t0.2 : Int) + (t2.2 : Int)) - t1) ∧
  IntKind.i64.wrap (IntKind.i64.wrap ((t0.2 : Int) + (t2.2 : Int)) - t1) ≤ (281474976710656 : Int) ∧ IntKind.i64.wrap (IntKind.i64.wrap ((t0.2 : Int) + (t2.2 : Int)) - t1) * (te.bytes : Int) ≤ (281474976710656 : Int)) ∧
  AppendP te e w (slAddr t0.1 t0.3 (0 : Nat) sz) t1.toNat t0.3 (IntKind.i64.wrap (IntKind.i64.wrap ((t0.2 : Int) + (t2.2 : Int)) - t1)).toNat
  (zc te.zero.cells (IntKind.i64.wrap (IntKind.i64.wrap ((t0.2 : Int) + (t2.2 : Int)) - t1)).toNat) fun (s4 : Sl) (w5 : World) =>
  ((0 : Int) ≤ t1 ∧ t1 ≤ (s4.2 : Int)) ∧
  CopyP w5 sz (slAddr s4.1 s4.3 t1.toNat sz) (s4.2 - t1.toNat) t2.1 t2.2 fun (n6 : Int) (w7 : World) =>
  ((0 : Int) ≤ IntKind.i64.wrap (t1 + (t2.2 : Int)) ∧ IntKind.i64.wrap (t1 + (t2.2 : Int)) ≤ (s4.2 : Int)) ∧
  ((0 : Int) ≤ t1 ∧ t1 ≤ (t0.2 : Int)) ∧
  CopyP w7.drew sz (slAddr s4.1 s4.3 (IntKind.i64.wrap (t1 + (t2.2 : Int))).toNat sz) (s4.2 - (IntKind.i64.wrap (t1 + (t2.2 : Int))).toNat) (slAddr t0.1 t0.3 t1.toNat sz)
  (t0.2 - t1.toNat) fun (n8 : Int) (w9 : World) => R (Value.slice s4.1 s4.2 s4.3) w9)
  (((0 : Int) ≤ IntKind.i64.wrap ((t0.2 : Int) + (t2.2 : Int)) ∧ IntKind.i64.wrap ((t0.2 : Int) + (t2.2 : Int)) ≤ (t0.3 : Int)) ∧
  ((0 : Int) ≤ IntKind.i64.wrap (t1 + (t2.2 : Int)) ∧ IntKind.i64.wrap (t1 + (t2.2 : Int)) ≤ ((IntKind.i64.wrap ((t0.2 : Int) + (t2.2 : Int))).toNat : Int)) ∧
  CX P ov
  #[Value.slice t2.1 t2.2 t2.3,
  Value.slice (slAddr (slAddr t0.1 t0.3 (0 : Nat) sz) t0.3 (IntKind.i64.wrap (t1 + (t2.2 : Int))).toNat sz)
  ((IntKind.i64.wrap ((t0.2 : Int) + (t2.2 : Int))).toNat - (IntKind.i64.wrap (t1 + (t2.2 : Int))).toNat) (t0.3 - (IntKind.i64.wrap (t1 + (t2.2 : Int))).toNat)]
  w fun (v10 : Value) (w11 : World) =>
  ∃ (t12 : Bool),
  v10 = Value.bool t12 ∧
  IfB (!t12)
  (((0 : Int) ≤ IntKind.i64.wrap (t1 + (t2.2 : Int)) ∧ IntKind.i64.wrap (t1 + (t2.2 : Int)) ≤ ((IntKind.i64.wrap ((t0.2 : Int) + (t2.2 : Int))).toNat : Int)) ∧
  ((0 : Int) ≤ t1 ∧ t1 ≤ ((IntKind.i64.wrap ((t0.2 : Int) + (t2.2 : Int))).toNat : Int)) ∧
  CopyP w11.drew sz (slAddr (slAddr t0.1 t0.3 (0 : Nat) sz) t0.3 (IntKind.i64.wrap (t1 + (t2.2 : Int))).toNat sz)
  ((IntKind.i64.wrap ((t0.2 : Int) + (t2.2 : Int))).toNat - (IntKind.i64.wrap (t1 + (t2.2 : Int))).toNat) (slAddr (slAddr t0.1 t0.3 (0 : Nat) sz) t0.3 t1.toNat sz)
  ((IntKind.i64.wrap ((t0.2 : Int) + (t2.2 : Int))).toNat - t1.toNat) fun (n13 : Int) (w14 : World) =>
  ((0 : Int) ≤ t1 ∧ t1 ≤ ((IntKind.i64.wrap ((t0.2 : Int) + (t2.2 : Int))).toNat : Int)) ∧
  CopyP w14 sz (slAddr (slAddr t0.1 t0.3 (0 : Nat) sz) t0.3 t1.toNat sz) ((IntKind.i64.wrap ((t0.2 : Int) + (t2.2 : Int))).toNat - t1.toNat) t2.1 t2.2
  fun (n15 : Int) (w16 : World) => R (Value.slice (slAddr t0.1 t0.3 (0 : Nat) sz) (IntKind.i64.wrap ((t0.2 : Int) + (t2.2 : Int))).toNat t0.3) w16)
  (((0 : Int) ≤ (t0.2 : Int) ∧ (t0.2 : Int) ≤ ((IntKind.i64.wrap ((t0.2 : Int) + (t2.2 : Int))).toNat : Int)) ∧
  CopyP w11 sz (slAddr (slAddr t0.1 t0.3 (0 : Nat) sz) t0.3 ((t0.2 : Int)).toNat sz) ((IntKind.i64.wrap ((t0.2 : Int) + (t2.2 : Int))).toNat - ((t0.2 : Int)).toNat) t2.1 t2.2
  fun (n17 : Int) (w18 : World) =>
  ((0 : Int) ≤ t1 ∧ t1 ≤ ((IntKind.i64.wrap ((t0.2 : Int) + (t2.2 : Int))).toNat : Int)) ∧
  CX P rot
  #[Value.slice (slAddr (slAddr t0.1 t0.3 (0 : Nat) sz) t0.3 t1.toNat sz) ((IntKind.i64.wrap ((t0.2 : Int) + (t2.2 : Int))).toNat - t1.toNat) (t0.3 - t1.toNat),
  Value.int IntKind.i64 (t2.2 : Int)]
  w18 fun (v19 : Value) (w20 : World) =>
  ∃ (y21 : Unit), v19 = Value.tuple #[] ∧ R (Value.slice (slAddr t0.1 t0.3 (0 : Nat) sz) (IntKind.i64.wrap ((t0.2 : Int) + (t2.2 : Int))).toNat t0.3) w20))))

theorem copy_own {w : World} {s : Sl} {q : Option Addr} {sz i k m r : Nat} {cs new : List Value} {K : Int → World → Prop} (h : OwS w s sz cs) (hmin : Nat.min m k = r) (hr : ReadC w q (r * sz) new) (hl : new.length = r * sz) (him : i + r ≤ s.n) (h1 : One new)
    (hd : s.p ≠ none)
    (hK : ∀ w', OwS w' s sz (cs.take (i * sz) ++ new ++ cs.drop ((i + r) * sz)) → Ch (fun i => i ∈ blk s) w w' → K r w') : CopyP w sz (slAddr s.p s.c i sz) k q m K := by
  refine ⟨new, by rw [hmin]; exact hr, ?_⟩
  rcases h with ⟨rfl, rfl⟩ | ⟨b, arr, T, hp, h3, h4, h5, rfl⟩
  · exact absurd rfl hd
  · have ho : OwS w s sz (arr.toList.take (s.n * sz)) := .inr ⟨b, arr, T, hp, h3, h4, h5, rfl⟩
    have e : (i + r) * sz ≤ s.n * sz := Nat.mul_le_mul_right _ him
    rw [hp, slAddr_some, hmin]
    dsimp only
    have hbk : blk s = [b] := by simp [blk, hp]
    by_cases hc : s.c = i
    · have : r = 0 := by omega
      subst this
      have : new = [] := by simpa using hl
      subst this
      refine hK w ?_ (Ch.refl _ _)
      simp only [Nat.add_zero, List.append_nil, List.take_append_drop]
      exact ho
    · rw [if_neg hc, Nat.zero_add]
      have e2 : i * sz + r * sz ≤ s.n * sz := by rw [← Nat.add_mul]; exact e
      refine ho.store hp (by rw [hl]; exact e2) h1 fun w' ho' hc' => hK w' ?_ (hc'.mono fun j _ hj => by rw [hbk, hj]; simp)
      rw [Nat.add_mul, ← hl]; exact ho'

theorem slAddr_own {w : World} {s : Sl} {sz : Nat} {cs : List Value} (h : OwS w s sz cs) (c : Nat) : slAddr s.p c 0 sz = s.p := by
  exact slAddr_zero _ _ _

theorem ins_lists {cs js new : List Value} {i m n sz : Nat} (hin : i ≤ n) (hl : cs.length = n * sz) (hj : js.length = m * sz) (hn : new.length = m * sz) :
    let c1 := (cs ++ js).take ((i + m) * sz) ++ cs.drop (i * sz) ++ (cs ++ js).drop ((i + m + (n - i)) * sz)
    c1.take (i * sz) ++ new ++ c1.drop ((i + m) * sz) = cs.take (i * sz) ++ new ++ cs.drop (i * sz) := by
  intro c1
  have e1 : i * sz ≤ n * sz := Nat.mul_le_mul_right _ hin
  have e2 : (i + m) * sz = i * sz + m * sz := Nat.add_mul ..
  have e3 : (i + m + (n - i)) * sz = n * sz + m * sz := by rw [← Nat.add_mul]; congr 1; omega
  have hc1 : c1 = (cs ++ js).take ((i + m) * sz) ++ cs.drop (i * sz) := by
    have hd : (cs ++ js).drop ((i + m + (n - i)) * sz) = [] := List.drop_of_length_le (by rw [e3, List.length_append, hl, hj]; exact Nat.le_refl _)
    show _ ++ _ ++ _ = _
    rw [hd, List.append_nil]
  have hX : ((cs ++ js).take ((i + m) * sz)).length = (i + m) * sz := by
    rw [List.length_take, List.length_append, hl, hj]; omega
  have h1 : c1.take (i * sz) = cs.take (i * sz) := by
    rw [hc1, List.take_append_of_le_length (by rw [hX]; omega), List.take_take, Nat.min_eq_left (by omega), List.take_append_of_le_length (by omega)]
  have h2 : c1.drop ((i + m) * sz) = cs.drop (i * sz) := by
    rw [hc1, List.drop_append_of_le_length (by rw [hX]; exact Nat.le_refl _), List.drop_of_length_le (by rw [hX]; exact Nat.le_refl _), List.nil_append]
  rw [h1, h2]

theorem InsF_of {P : Program} {te : TI} {e sz ov rot : Nat} {t0 t2 : Sl} {i : Nat} {w : World} {R : Value → World → Prop} {cs new : List Value} (h : OwS w t0 sz cs) (h2 : Rd w t2 sz new) (hsz : te.size = sz) (hz : te.zero.cells.size = sz)
    (h1 : One cs) (hn1 : One new) (hz1 : One te.zero.cells.toList) (hi : i ≤ t0.n) (hm : 0 < t2.n) (hr : Roomy (t0.n + t2.n) te.bytes) (hb : te.bytes ≤ 100000) (hk : t0.n + t2.n ≤ 1000000) (hdis : ∀ b ∈ blk t2, b ∉ blk t0)
    (hov : ∀ (q : Sl) (R' : Value → World → Prop), 0 < t0.c → (∃ b o, q.p = some ⟨b, o, none⟩ ∧ b ∈ blk t0) → R' (.bool false) w → CX P ov #[slV t2, slV q] w R')
    (hK : ∀ s' w', OwS w' s' sz (cs.take (i * sz) ++ new ++ cs.drop (i * sz)) → s'.n = t0.n + t2.n → Ch (fun i => i ∈ blk t0) w w' → (∀ i ∈ blk s', i ∈ blk t0 ∨ w.heap.size ≤ i) → R (slV s') w') : InsF P te e sz ov rot t0 i t2 w R := by
  have hlen := h.len
  have hcn := h.cap
  have e0 : IntKind.i64.wrap ((t0.n : Int) + (t2.n : Int)) = ((t0.n + t2.n : Nat) : Int) := by rw [wrap_of (by omega) (by omega)]; omega
  have e1 : IntKind.i64.wrap ((i : Int) + (t2.n : Int)) = ((i + t2.n : Nat) : Int) := by rw [wrap_of (by omega) (by omega)]; omega
  have e2 : IntKind.i64.wrap (((t0.n + t2.n : Nat) : Int) - (i : Int)) = ((t0.n + t2.n - i : Nat) : Int) := by rw [wrap_of (by omega) (by omega)]; omega
  refine ⟨by omega, IfB.no (by simp; omega) (IfB.intro (fun hin => ?_) (fun hin => ?_))⟩
  · have hin : i = t0.n := by have := eq_of_beq hin; rw [show t0.2 = t0.n from rfl] at this; omega
    subst hin
    refine ⟨new, h2.2, h.append (cnt := t2.n) hsz hz h2.1 hn1 hr fun s' w' ho hn' hc hb' _ => hK s' w' ?_ hn' hc hb'⟩
    rw [← hlen, List.take_length, List.drop_length, List.append_nil]; exact ho
  · have hin : i < t0.n := by
      have : i ≠ t0.n := by rintro rfl; simp at hin
      omega
    rw [show t0.2 = t0.n from rfl, show t2.2 = t2.n from rfl, e0, e1, e2]
    refine IfB.dec (fun hg => ?_) (fun hg => ?_)
    · have hkb : (t0.n + t2.n - i) * te.bytes ≤ 1000000 * 100000 := Nat.mul_le_mul (by omega) hb
      refine ⟨by omega, ⟨by omega, by omega, by rw [← Int.natCast_mul]; omega⟩, ?_⟩
      simp only [Int.toNat_natCast]
      rw [slAddr_own h]
      have hcut := h.cut (k := i) (by omega)
      refine hcut.appendNew (cnt := t0.n + t2.n - i) (by dsimp only; omega) hsz hz (by rw [zc_len, hz]) (by rw [show (⟨t0.p, i, t0.c⟩ : Sl).n + (t0.n + t2.n - i) = t0.n + t2.n by dsimp only; omega]; exact hr) ?_
      intro s4 w5 ho4 hn4 hx hf4 hp4
      dsimp only at hn4
      have hn4 : s4.n = t0.n + t2.n := by omega
      have hcs4 := ho4.len
      refine ⟨by omega, ?_⟩
      refine copy_own ho4 (r := t2.n) (Nat.min_eq_left (by omega)) (h2.ext hx).2 h2.1 (by omega) hn1 hp4 ?_
      intro w7 ho7 hc7
      refine ⟨by omega, by omega, ?_⟩
      have hT : OwS w7 t0 sz cs := (h.ext hx).ch hc7 fun b hb hb4 => by have := hf4 b hb4; have := h.lt b hb; omega
      have hT' : OwS w7.drew t0 sz cs := hT.keep fun _ _ => rfl
      have ho7' : OwS w7.drew s4 sz _ := ho7.keep fun _ _ => rfl
      have hrd := hT'.read i (t0.n - i) (by omega)
      have hB : (cs.drop (i * sz)).take ((t0.n - i) * sz) = cs.drop (i * sz) := List.take_of_length_le (by rw [List.length_drop, hlen, Nat.sub_mul]; exact Nat.le_refl _)
      rw [hB] at hrd
      refine copy_own ho7' (r := t0.n - i) (Nat.min_eq_left (by omega)) hrd (by rw [List.length_drop, hlen, Nat.sub_mul]) (by omega) (h1.drop _) hp4 ?_
      intro w9 ho9 hc9
      refine hK s4 w9 ?_ hn4 ?_ fun j hj => .inr (hf4 j hj)
      · have hA : (cs.take (i * sz)).length = i * sz := by rw [List.length_take, hlen]; exact Nat.min_eq_left (Nat.mul_le_mul_right _ (by omega))
        have z1 : (cs.take (i * sz) ++ zc te.zero.cells (t0.n + t2.n - i)).take (i * sz) = cs.take (i * sz) := by
          rw [List.take_append_of_le_length (by rw [hA]; exact Nat.le_refl _), List.take_of_length_le (by rw [hA]; exact Nat.le_refl _)]
        rw [z1] at ho9
        have hAN : (cs.take (i * sz) ++ new).length = (i + t2.n) * sz := by rw [List.length_append, hA, h2.1, Nat.add_mul]
        rw [List.take_append_of_le_length (by rw [hAN]; exact Nat.le_refl _), List.take_of_length_le (by rw [hAN]; exact Nat.le_refl _)] at ho9
        rw [List.drop_of_length_le (l := _ ++ _ ++ _) (by
          rw [List.length_append, hAN, List.length_drop, List.length_append, hA, zc_len, hz, ← Nat.add_mul, ← Nat.sub_mul, ← Nat.add_mul]
          exact Nat.mul_le_mul_right _ (by omega)), List.append_nil] at ho9
        exact ho9
      · have hd : Ch (fun _ => False) w7 w7.drew := ⟨drew_rest _, Nat.le_refl _, fun _ _ _ => rfl⟩
        refine ((hx.mono fun _ _ h => h.elim).then hc7 fun j hj hb4 => ?_).then ((hd.mono fun _ _ h => h.elim).then hc9 fun j hj hb4 => hb4) fun j hj hb4 => ?_
        · have := hf4 j hb4; omega
        · have := hf4 j hb4; omega
    · have hfit : t0.n + t2.n ≤ t0.c := by omega
      have hp : t0.p ≠ none := by
        rcases h with ⟨rfl, _⟩ | ⟨b, _, _, hp, _⟩
        · dsimp only at hfit; omega
        · rw [hp]; simp
      simp only [Int.toNat_natCast]
      rw [slAddr_own h]
      refine ⟨by omega, by omega, ?_⟩
      have hbq : ∃ b o, slAddr t0.p t0.c (i + t2.n) sz = some ⟨b, o, none⟩ ∧ b ∈ blk t0 := by
        obtain ⟨b0, hp0⟩ := h.ptr (by omega)
        exact ⟨b0, _, by rw [hp0, slAddr_some], by simp [blk, hp0]⟩
      refine hov ⟨slAddr t0.p t0.c (i + t2.n) sz, t0.n + t2.n - (i + t2.n), t0.c - (i + t2.n)⟩ _ (by omega) hbq ⟨false, rfl, IfB.yes rfl ?_⟩
      obtain ⟨js, hjs, how⟩ := h.wide (k := t0.n + t2.n) (by omega) hfit
      rw [Nat.add_sub_cancel_left] at hjs
      refine ⟨by omega, by omega, ?_⟩
      have hB : (cs.drop (i * sz)).take ((t0.n - i) * sz) = cs.drop (i * sz) := List.take_of_length_le (by rw [List.length_drop, hlen, Nat.sub_mul]; exact Nat.le_refl _)
      have hrd := h.read i (t0.n - i) (by omega)
      rw [hB] at hrd
      have how' : OwS w.drew ⟨t0.p, t0.n + t2.n, t0.c⟩ sz (cs ++ js) := how.keep fun _ _ => rfl
      have hd : Ch (fun i => i ∈ blk t0) w w.drew := ⟨drew_rest _, Nat.le_refl _, fun _ _ _ => rfl⟩
      refine copy_own (s := ⟨t0.p, t0.n + t2.n, t0.c⟩) how' (r := t0.n - i) (i := i + t2.n) (by show min _ _ = _; omega) (show ReadC w.drew _ _ _ from hrd) (by rw [List.length_drop, hlen, Nat.sub_mul]) (by dsimp only; omega) (h1.drop _) hp ?_
      intro w14 ho14 hc14
      refine ⟨by omega, ?_⟩
      have hc14' : Ch (fun i => i ∈ blk t0) w w14 := hd.trans (hc14.mono fun j _ hj => by simpa [blk] using hj)
      refine copy_own (s := ⟨t0.p, t0.n + t2.n, t0.c⟩) ho14 (r := t2.n) (i := i) (Nat.min_eq_left (by omega)) (h2.ch hc14' hdis).2 h2.1 (by dsimp only; omega) hn1 hp ?_
      intro w16 ho16 hc16
      refine hK ⟨t0.p, t0.n + t2.n, t0.c⟩ w16 ?_ rfl (hc14'.trans (hc16.mono fun j _ hj => by simpa [blk] using hj)) fun j hj => .inl (by simpa [blk] using hj)
      have := ins_lists (sz := sz) (i := i) (m := t2.n) (n := t0.n) (new := new) (by omega) hlen hjs h2.1
      dsimp only at this
      rw [this] at ho16
      exact ho16
end Go.Proofs.Ytopecljhehcldaa.Gx
