/- The statements on pages: PagesFew. -/
import Derived.Test.YtopecljhehcldaaPagesY
namespace Go.Proofs.Ytopecljhehcldaa.Gx
open Go
set_option linter.unusedSimpArgs false
set_option linter.unusedVariables false

/-- Where page i ends. -/
def hiP (P : List (List Pr)) (i : Nat) : Int := if i + 1 < P.length then hd0 (P.getD (i + 1) []) - 1 else 999

theorem page_scan {P : List (List Pr)} (hI : Inv P) {i : Nat} (hi : i < P.length) : scanS P.flatten (hd0 (P.getD i [])) (hiP P i) = P.getD i [] := by
  rw [scanS_sorted hI.sorted]
  have e : P.flatten = (P.take i).flatten ++ (P.getD i [] ++ (P.drop (i + 1)).flatten) := by
    conv => lhs; rw [flatten_split hi]
    rw [List.flatten_append, List.flatten_cons]
  have hmem : P.getD i [] ∈ P := by rw [← List.getElem_eq_getD (h := hi)]; exact List.getElem_mem _
  have hne := hI.ne _ hmem
  have hrng : ∀ x ∈ P.getD i [], 0 ≤ x.1 ∧ x.1 ≤ 999 := fun x hx => hI.rng x (List.mem_flatten.2 ⟨_, hmem, hx⟩)
  have hs := hI.sorted
  rw [e] at hs
  obtain ⟨h1, h23, h4⟩ := srt_append.1 hs
  obtain ⟨h2, h3, h5⟩ := srt_append.1 h23
  obtain ⟨z, hz, hz1⟩ := head_mem hne
  rw [e, List.filter_append, List.filter_append]
  have f1 : (P.take i).flatten.filter (fun x => decide (hd0 (P.getD i []) ≤ x.1) && decide (x.1 ≤ hiP P i)) = [] := by
    rw [List.filter_eq_nil_iff]
    intro x hx
    have := h4 x hx z (List.mem_append.2 (.inl hz))
    intro hh
    simp only [Bool.and_eq_true, decide_eq_true_eq] at hh
    omega
  have f2 : (P.getD i []).filter (fun x => decide (hd0 (P.getD i []) ≤ x.1) && decide (x.1 ≤ hiP P i)) = P.getD i [] := by
    rw [List.filter_eq_self]
    intro x hx
    have g1 := head_le h2 x hx
    have g2 := hrng x hx
    have g3 : x.1 ≤ hiP P i := by
      unfold hiP
      split
      · rename_i hlt
        have hm : P.getD (i + 1) [] ∈ P := by rw [← List.getElem_eq_getD (h := hlt)]; exact List.getElem_mem _
        obtain ⟨y, hy, hy1⟩ := head_mem (hI.ne _ hm)
        have : y ∈ (P.drop (i + 1)).flatten := List.mem_flatten.2 ⟨P.getD (i + 1) [], by rw [← List.getElem_eq_getD (h := hlt)]; exact List.mem_drop_iff_getElem.2 ⟨0, by omega, by simp⟩, hy⟩
        have := h5 x hx y this
        omega
      · omega
    simp only [g1, g3, decide_true, Bool.and_self]
  have f3 : (P.drop (i + 1)).flatten.filter (fun x => decide (hd0 (P.getD i []) ≤ x.1) && decide (x.1 ≤ hiP P i)) = [] := by
    by_cases hlt : i + 1 < P.length
    · rw [List.filter_eq_nil_iff]
      intro x hx
      have ed : (P.drop (i + 1)).flatten = P.getD (i + 1) [] ++ (P.drop (i + 2)).flatten := by
        rw [List.drop_eq_getElem_cons hlt, List.flatten_cons, List.getElem_eq_getD (fallback := [])]
      rw [ed] at h3 hx
      obtain ⟨k1, _, k3⟩ := srt_append.1 h3
      have hm : P.getD (i + 1) [] ∈ P := by rw [← List.getElem_eq_getD (h := hlt)]; exact List.getElem_mem _
      obtain ⟨y, hy, hy1⟩ := head_mem (hI.ne _ hm)
      have : hd0 (P.getD (i + 1) []) ≤ x.1 := by
        rcases List.mem_append.1 hx with hx | hx
        · exact head_le k1 x hx
        · have := k3 y hy x hx; omega
      unfold hiP
      rw [if_pos hlt]
      intro hh
      simp only [Bool.and_eq_true, decide_eq_true_eq] at hh
      omega
    · rw [List.drop_of_length_le (by omega)]; rfl
  rw [f1, f2, f3]; simp

/-- What was put last is kept in two arrays. -/
def Kept (W : World) (b6 b8 : Nat) (P : List (List Pr)) : Prop := ∃ (a6 a8 : Array Value) (T6 T8 : TypeId), W.heap[b6]? = some (.cells a6 T6 (0, 0)) ∧ W.heap[b8]? = some (.cells a8 T8 (0, 0)) ∧ a6.size = 1000 ∧ a8.size = 1000 ∧
  ∀ j : Nat, j < 1000 → ∃ v t, a6[j]? = some (.int .i64 v) ∧ a8[j]? = some (.bool t) ∧ (t = true → ((j : Int), v) ∈ P.flatten) ∧ (t = false → ∀ u, ((j : Int), u) ∉ P.flatten)
theorem Kept.ch {F : Nat → Prop} {W W' : World} {b6 b8 : Nat} {P : List (List Pr)} (h : Kept W b6 b8 P) (hc : Ch F W W') (h6 : ¬ F b6) (h8 : ¬ F b8) : Kept W' b6 b8 P := by
  obtain ⟨a6, a8, T6, T8, k1, k2, k⟩ := h
  exact ⟨a6, a8, T6, T8, hc.at k1 h6, hc.at k2 h8, k⟩

def Few (w9 : World) (b4 b6 b8 : Nat) (W : World) : Prop := ∃ P, Inv P ∧ StA (fun j => j = b4 ∨ w9.heap.size ≤ j) W b4 P ∧ Kept W b6 b8 P ∧ Ch (fun j => j = b4 ∨ j = b6 ∨ j = b8 ∨ w9.heap.size ≤ j) w9 W

theorem F5j3_eq (R : Value → World → Prop) (b4 : Nat) (s : Sl) (y : Nat → Int → World → Prop) (b : Nat) (n : Int) (w : World) : F5j3 R b4 s y b n w = F5j4 R b4 s y b n w := rfl

theorem few_tail {A : Nat → Prop} {R : Value → World → Prop} {w : World} {b4 : Nat} {P : List (List Pr)} (hS : StA A w b4 P) (hI : Inv P) (hR : ∀ w', Ext w w' → R (.bool true) w') :
    CX Try.prog 30 #[.pointer (some ⟨b4, 0, none⟩)] w fun v90 w91 => ∃ s92 : Sl, v90 = .slice s92.1 s92.2 s92.3 ∧ ∃ y93 : Nat → Int → World → Prop, (∃ b94, y93 b94 0 w91) ∧ ∀ (b95 : Nat) (n96 : Int) (w97 : World) (y98 : Nat → Value), y93 b95 n96 w97 → F5j4 R b4 s92 y93 b95 n96 w97 := by
  obtain ⟨s, ps, hS, hP, _⟩ := hS
  refine (c30 hS hP hI).use ?_
  rintro _ w91 ⟨t, rfl, ho, e91, hb⟩
  have htn : t.n = P.length := by rw [ho.len1]; simp
  have hpl := hI.plen
  have hfl := hI.flen
  obtain ⟨src, hsp, hsf, _, hmem⟩ := srcOf hS hP hI
  refine ⟨t, rfl, fun n x W => ∃ i : Nat, i ≤ P.length ∧ n + i = P.length ∧ x = (i : Int) ∧ Ext w91 W, ⟨P.length, 0, Nat.zero_le _, rfl, rfl, Ch.refl _ _⟩, ?_⟩
  rintro n _ W _ ⟨i, hi, hni, rfl, eW⟩
  have e1 := e91.trans eW
  have hm := hmem W (hS.ext e1)
  unfold F5j4
  refine IfB.dec (fun hlt => ?_) (fun hge => ?_)
  · have hi' : i < P.length := by omega
    have hv : ((P.map hd0).map fun n => Value.int .i64 n)[i]? = some (.int .i64 (hd0 (P.getD i []))) := by simp [hi']
    obtain ⟨a, ha, hc⟩ := (ho.ext eW).elem1 hv
    have hb : (0 : Int) ≤ (i : Int) ∧ (i : Int) < (t.n : Int) := ⟨by omega, by omega⟩
    have hgm : P.getD i [] ∈ P := by rw [← List.getElem_eq_getD (h := hi')]; exact List.getElem_mem _
    have h8 := hI.few _ hgm
    have hne := List.length_pos_iff.2 (hI.ne _ hgm)
    have hw1 : IntKind.i64.wrap ((i : Int) + (1 : Int)) = ((i + 1 : Nat) : Int) := by rw [wrap_of (by omega) (by omega)]; rfl
    have h23 := c23 hm (by rw [hsf]; exact hfl) (hd0 (P.getD i [])) (hiP P i)
    rw [hsp, hsf, page_scan hI hi'] at h23
    unfold F5k1
    rw [hw1]
    refine IfB.dec (fun hl2 => ?_) (fun hl2 => ?_)
    · have hi2 : i + 1 < P.length := by omega
      have hv2 : ((P.map hd0).map fun n => Value.int .i64 n)[i + 1]? = some (.int .i64 (hd0 (P.getD (i + 1) []))) := by simp [hi2]
      obtain ⟨a2, ha2, hc2⟩ := (ho.ext eW).elem1 hv2
      have hgm2 : P.getD (i + 1) [] ∈ P := by rw [← List.getElem_eq_getD (h := hi2)]; exact List.getElem_mem _
      obtain ⟨y, hy, hy1⟩ := head_mem (hI.ne _ hgm2)
      have hr := hI.rng y (List.mem_flatten.2 ⟨_, hgm2, hy⟩)
      refine ⟨a2, 0, ha2, (⟨by omega, by omega⟩ : (0 : Int) ≤ ((i + 1 : Nat) : Int) ∧ ((i + 1 : Nat) : Int) < (t.n : Int)), hd0 (P.getD (i + 1) []), by rw [Int.toNat_natCast, Nat.zero_add]; exact hc2, a, 0, ha, hb, hd0 (P.getD i []), by rw [Int.toNat_natCast, Nat.zero_add]; exact hc, ?_⟩
      rw [wrap_of (by omega) (by omega), show hd0 (P.getD (i + 1) []) - 1 = hiP P i by unfold hiP; rw [if_pos hi2]]
      refine h23.use ?_
      rintro _ w107 ⟨u, rfl, hou, e107, _⟩
      have hun : u.n = (P.getD i []).length := by have := hou.len; rw [prs_len] at this; omega
      exact ⟨u, rfl, IfB.no (decide_eq_false (by omega)) (IfB.no (decide_eq_false (by omega)) ⟨rfl, n - 1, by omega, i + 1, by omega, by omega, rfl, eW.trans e107⟩)⟩
    · refine ⟨a, 0, ha, hb, hd0 (P.getD i []), by rw [Int.toNat_natCast, Nat.zero_add]; exact hc, ?_⟩
      rw [show hiP P i = 999 by unfold hiP; rw [if_neg (by omega)]] at h23
      refine h23.use ?_
      rintro _ w107 ⟨u, rfl, hou, e107, _⟩
      have hun : u.n = (P.getD i []).length := by have := hou.len; rw [prs_len] at this; omega
      exact ⟨u, rfl, IfB.no (decide_eq_false (by omega)) (IfB.no (decide_eq_false (by omega)) ⟨rfl, n - 1, by omega, i + 1, by omega, by omega, rfl, eW.trans e107⟩)⟩
  · have h31 := c31 hm (by rw [hsf]; exact hfl)
    rw [hsp, hsf] at h31
    refine h31.use ?_
    rintro _ w118 ⟨rfl, e118⟩
    refine ⟨_, rfl, ?_⟩
    have hd : (decide ((0 : Int) < (t.n : Int)) == decide ((0 : Int) < (P.flatten.length : Int))) = true := by
      have h1 := flatten_ge hI.ne
      rw [beq_iff_eq, decide_eq_decide, htn]
      constructor
      · intro h; omega
      · intro h
        cases P with
        | nil => simp at h
        | cons p P => simp
    rw [hd]
    exact hR _ (e1.trans e118)

theorem set_get {a : Array Value} {k j : Nat} {v : Value} (hk : k < a.size) : (a.setIfInBounds k v)[j]? = if k = j then some v else a[j]? := by
  rw [Array.getElem?_setIfInBounds]
  split
  · first | rfl | rw [if_pos (by omega)]
  · rfl

set_option maxRecDepth 10000 in
theorem pagesFew (w : World) {l : List (Int × Int × Int)} {c : Value} (h : rep (fun _ => True) w (.sl (.pair (.int .u8) (.pair (.int .i64) (.int .i64)))) l [c]) : CW Try.prog 5 #[c] w fun r w' => r = .bool true ∧ Ext w w' := by
  have hrep := h
  obtain ⟨s, hs, hsn, _, hcm, _⟩ := h
  cases hs
  refine F5_ok s w _ ((c18 w).use ?_)
  rintro _ w2 ⟨rfl, e2⟩
  refine ⟨true, rfl, IfB.no rfl ?_⟩
  intro b4 w5 h5 b6 w7 h7 b8 w9 h9
  have e5 : Ext w2 w5 := h5.ch _
  have e7 : Ext w5 w7 := h7.ch _
  have e9 : Ext w7 w9 := h9.ch _
  have z2 := e2.size; have z5 := h5.size; have z7 := h7.size; have z9 := h9.size; have p5 := h5.here; have p7 := h7.here; have p9 := h9.here
  have x9 : Ext w w9 := ((e2.trans e5).trans e7).trans e9
  have few0 : Few w9 b4 b6 b8 w9 := by
    refine ⟨[], Inv.nil, (((newSt h5).mono fun j hj h => ?_).ext e7).ext e9, ⟨_, _, _, _, e9.at h7.new, h9.new, by simp, by simp, fun j hj => ⟨0, false, by simp [hj], by simp [hj], by simp, by simp⟩⟩, Ch.refl _ _⟩
    left; omega
  refine ⟨fun n x W => ∃ i : Nat, i ≤ 150 ∧ n + i = 150 ∧ x = (i : Int) ∧ Few w9 b4 b6 b8 W, ⟨150, 0, Nat.zero_le _, rfl, rfl, few0⟩, ?_⟩
  rintro n _ w14 g ⟨i, hi, hni, rfl, hfew⟩
  have hfew0 := hfew
  obtain ⟨P, hI, hS, hK, hC⟩ := hfew
  have z14 := hC.size
  have x14 : Ext w w14 := x9.then hC fun j hj h => by omega
  have tail := few_tail (R := fun r w' => r = .bool true ∧ Ext w w') hS hI fun w' e => ⟨rfl, x14.trans e⟩
  unfold F5j1
  simp only [F5j3_eq]
  refine IfB.dec (fun hlt => ?_) (fun hge => tail)
  refine @IfB.dec (((i : Int)) < (150 : Int)) _ _ _ (fun hlt2 => ?_) (fun hge2 => tail)
  have hi' : i < l.length := by
    have : (i : Int) < (s.n : Int) := hlt
    omega
  have hw1 : IntKind.i64.wrap ((i : Int) + (1 : Int)) = ((i + 1 : Nat) : Int) := by rw [wrap_of (by omega) (by omega)]; rfl
  have hx : l[i]? = some l[i] := List.getElem?_eq_getElem hi'
  obtain ⟨s', b, o, cs, hs', _, hp, _, hc, ⟨c1, d1, rfl, ⟨rfl, r1⟩, c2, d2, rfl, ⟨rfl, r2⟩, ⟨rfl, r3⟩⟩⟩ := rep_get (rep_ext x14 hrep) (by decide) hx
  have hs1 := slV_inj hs'
  rw [← hs1] at hp
  generalize l[i] = x at hx hc r1 r2 r3
  obtain ⟨kd, k, v⟩ := x
  dsimp only at hc r1 r2 r3
  have hb : (0 : Int) ≤ (i : Int) ∧ (i : Int) < (s.n : Int) := ⟨by omega, by omega⟩
  have q0 : w14.cell? ⟨b, o + ((i : Int)).toNat * 3 + 0, none⟩ = some (.int .u8 kd) := by rw [Int.toNat_natCast]; exact hc 0 _ rfl
  have q1 : w14.cell? ⟨b, o + ((i : Int)).toNat * 3 + 1, none⟩ = some (.int .i64 k) := by rw [Int.toNat_natCast]; exact hc 1 _ rfl
  have q2 : w14.cell? ⟨b, o + ((i : Int)).toNat * 3 + 2, none⟩ = some (.int .i64 v) := by rw [Int.toNat_natCast]; exact hc 2 _ rfl
  have next : ∀ w', Few w9 b4 b6 b8 w' → ([] : List Nat) = [] ∧ ∃ b20, b20 < n ∧ ∃ i' : Nat, i' ≤ 150 ∧ b20 + i' = 150 ∧ IntKind.i64.wrap ((i : Int) + (1 : Int)) = (i' : Int) ∧ Few w9 b4 b6 b8 w' := fun w' h => ⟨rfl, n - 1, by omega, i + 1, by omega, by omega, hw1, h⟩
  unfold F5k2
  refine ⟨b, o, hp, hb, k, q1, IfB.dec (fun _ => next _ hfew0) fun hk0 => IfB.dec (fun _ => next _ hfew0) fun hk1 => ?_⟩
  have hk : 0 ≤ k ∧ k ≤ 999 := by omega
  have hk2 : (0 : Int) ≤ k ∧ k < ((1000 : Nat) : Int) := by omega
  have ek : ((k.toNat : Nat) : Int) = k := by omega
  have hb48 : b4 ≠ b8 := by omega
  have hb46 : b4 ≠ b6 := by omega
  have hb68 : b6 ≠ b8 := by omega
  refine ⟨fun _ W => Few w9 b4 b6 b8 W, ?_, ?_⟩
  · -- delete
    have del : CX Try.prog 27 #[.pointer (some ⟨b4, 0, none⟩), .int .i64 k] w14 fun v26 w27 => ∃ n28 : Int, v26 = .int .i64 n28 ∧ ((0 : Int) ≤ k ∧ k < ((1000 : Nat) : Int)) ∧ #[Value.bool false].size = 1 ∧ StoreP w27 b8 (0 + k.toNat) [.bool false] fun w29 => ([] : List Nat) = [] ∧ Few w9 b4 b6 b8 w29 := by
      refine (c27 hS hI k).use ?_
      rintro _ w27 ⟨rfl, hS27, hC27⟩
      have z27 := hC27.size
      obtain ⟨a6, a8, T6, T8, k6, k8, n6, n8, hlaw⟩ := hK.ch hC27 (by omega) (by omega)
      refine ⟨_, rfl, hk2, rfl, store_one k8 (by omega) rfl fun w29 h29 => ⟨rfl, delQ P k, delQ_inv hI k, ?_, ?_, ?_⟩⟩
      · refine (hS27.mono fun j hj h => ?_).ch h29.ch fun j hj h e => by omega
        rcases h with h | h
        · exact h
        · right; omega
      · refine ⟨a6, _, T6, T8, by rw [h29.old _ hb68]; exact k6, h29.new, n6, by simp [n8], fun j hj => ?_⟩
        obtain ⟨v, t, g1, g2, g3, g4⟩ := hlaw j hj
        rw [set_get (by omega), delQ_flat hI]
        by_cases hjk : 0 + k.toNat = j
        · rw [if_pos hjk]
          refine ⟨v, false, g1, rfl, by simp, fun _ u hu => ?_⟩
          have := (List.mem_filter.1 hu).2
          rw [← hjk, Nat.zero_add, ek] at this
          simp at this
        · rw [if_neg hjk]
          refine ⟨v, t, g1, g2, fun ht => List.mem_filter.2 ⟨g3 ht, by simp; omega⟩, fun ht u hu => g4 ht u (List.mem_filter.1 hu).1⟩
      · refine (hC.then hC27 fun j hj h => ?_).then h29.ch fun j hj h => ?_
        · rcases h with h | h
          · exact .inl h
          · omega
        · exact .inr (.inr (.inl h))
    refine ⟨b, o, hp, hb, kd, q0, by decide, IfB.intro (fun _ => del) fun _ => ⟨b, o, hp, hb, kd, q0, by decide, IfB.intro (fun _ => del) fun _ => ⟨b, o, hp, hb, v, q2, ?_⟩⟩⟩
    refine (c28 hS hI k v).use ?_
    rintro _ w41 ⟨rfl, hS41, hC41⟩
    have z41 := hC41.size
    rw [if_pos hk] at hS41
    have q41 : w41.cell? ⟨b, o + ((i : Int)).toNat * 3 + 2, none⟩ = some (.int .i64 v) := by
      have hbw : Ext w w41 := x14.then hC41 fun j hj h => by omega
      obtain ⟨s2, b2, o2, cs2, hs2, _, hp2, _, hc2, ⟨c1, d1, rfl, ⟨rfl, _⟩, c2, d2, rfl, ⟨rfl, _⟩, ⟨rfl, _⟩⟩⟩ := rep_get (rep_ext hbw hrep) (by decide) hx
      have hs3 := slV_inj hs2
      rw [← hs3, hp] at hp2
      simp only [Option.some.injEq, Addr.mk.injEq] at hp2
      rw [← hp2.1, ← hp2.2.1] at hc2
      rw [Int.toNat_natCast]; exact hc2 2 _ rfl
    obtain ⟨a6, a8, T6, T8, k6, k8, n6, n8, hlaw⟩ := hK.ch hC41 (by omega) (by omega)
    refine ⟨_, rfl, b, o, hp, hb, v, q41, hk2, rfl, store_one k6 (by omega) rfl fun w46 h46 => ⟨hk2, rfl, store_one (by rw [h46.old _ (Ne.symm hb68)]; exact k8) (by omega) rfl fun w47 h47 => ⟨rfl, putP P k v, putP_inv hI hk, ?_, ?_, ?_⟩⟩⟩
    · refine ((hS41.mono fun j hj h => ?_).ch h46.ch fun j hj h e => by omega).ch h47.ch fun j hj h e => by omega
      rcases h with h | h
      · exact h
      · right; omega
    · refine ⟨_, _, T6, T8, by rw [h47.old _ hb68]; exact h46.new, h47.new, by simp [n6], by simp [n8], fun j hj => ?_⟩
      obtain ⟨v', t, g1, g2, g3, g4⟩ := hlaw j hj
      rw [set_get (by omega), set_get (by omega), putP_flat hI]
      by_cases hjk : 0 + k.toNat = j
      · rw [if_pos hjk, if_pos hjk]
        refine ⟨v, true, rfl, rfl, fun _ => (mem_insS_iff hI.sorted).2 (.inl ?_), by simp⟩
        rw [← hjk, Nat.zero_add, ek]
      · rw [if_neg hjk, if_neg hjk]
        refine ⟨v', t, g1, g2, fun ht => (mem_insS_iff hI.sorted).2 (.inr ⟨g3 ht, by show (j : Int) ≠ k; omega⟩), fun ht u hu => ?_⟩
        rcases (mem_insS_iff hI.sorted).1 hu with e | ⟨h1, _⟩
        · have := congrArg Prod.fst e
          have : (j : Int) = k := this
          omega
        · exact g4 ht u h1
    · refine ((hC.then hC41 fun j hj h => ?_).then h46.ch fun j hj h => ?_).then h47.ch fun j hj h => ?_
      · rcases h with h | h
        · exact .inl h
        · omega
      · exact .inr (.inl h)
      · exact .inr (.inr (.inl h))
  · rintro _ w49 _ ⟨P, hI, hS, hK, hC⟩
    unfold F5j2
    obtain ⟨s9, ps9, hS9, hP9, _⟩ := id hS
    refine (c29 hS9 hP9 hI k).use ?_
    rintro _ w53 ⟨rfl, e53⟩
    have few53 : Few w9 b4 b6 b8 w53 := ⟨P, hI, hS.ext e53, hK.ch e53 id id, hC.then e53 fun _ _ h => h.elim⟩
    obtain ⟨a6, a8, T6, T8, k6, k8, n6, n8, hlaw⟩ := hK.ch e53 id id
    obtain ⟨v', t, g1, g2, g3, g4⟩ := hlaw k.toNat (by omega)
    rw [ek] at g3 g4
    have r8 : w53.cell? ⟨b8, 0 + k.toNat, none⟩ = some (.bool t) := by rw [cell_of k8, Nat.zero_add]; exact g2
    have r6 : w53.cell? ⟨b6, 0 + k.toNat, none⟩ = some (.int .i64 v') := by rw [cell_of k6, Nat.zero_add]; exact g1
    cases t with
    | true =>
      rw [getP_yes hI (g3 rfl)]
      exact ⟨(v', 0), rfl, hk2, true, r8, IfB.no rfl ⟨hk2, true, r8, IfB.yes rfl ⟨hk2, v', r6, IfB.no (by simp) (next _ few53)⟩⟩⟩
    | false =>
      rw [getP_no hI hk (g4 rfl)]
      exact ⟨(0, 5), rfl, hk2, false, r8, IfB.no rfl ⟨hk2, false, r8, IfB.no rfl (next _ few53)⟩⟩
end Go.Proofs.Ytopecljhehcldaa.Gx
