/- gimmallaw16.RsgOrders returns true for all arguments, and leaves what was there as it was. No condition beyond the statement. -/
/- Merged by pack.py: RefF, GxON, RefG, RefH, IntE, GxOP, RsgK, RgOrders. -/
import Derived.Test.YtlpgdngcgbeegaaGreatRo1
import Derived.Test.YtlpgdngcgbeegaaGreatRo2
import Derived.Test.YtlpgdngcgbeegaaGreatRo3
import Derived.Test.YtlpgdngcgbeegaaGreatRo4
import Derived.Test.YtlpgdngcgbeegaaGreatRo5
import Derived.Test.YtlpgdngcgbeegaaGreatRo6
import Derived.Test.YtlpgdngcgbeegaaGreatRows
import Derived.WalkKit
import Derived.ProofKit
import Derived.OpenShut
import Derived.ShutString
import Derived.Below
import Derived.Carry
/- The document's arcs. -/
namespace Go.Proofs.YtlpgdngcgbeegaaGreat.Gx
open Go
set_option linter.unusedSimpArgs false
set_option linter.unusedVariables false
abbrev arcN (a b m : Nat) : ArcD := ((a : Int), (b : Int), (m : Int))
theorem InP.self (x : CatD) (hs : List Nd) (i : Nat) (d : Int) : InP x hs i i d := .inl rfl
/-- Arcs as numbers. -/
theorem arcN_own {hs : List Nd} {i k : Nat} {m n : Nd} (hn : hs[i]? = some n) (h1 : k < i) (h2 : hs[k]? = some m) (h3 : m.v.1 = n.v.1) (h4 : ∀ j m, k < j -> j < i -> hs[j]? = some m -> m.v.1 ≠ n.v.1) (a b c : Nat) : (∃ xs, OwnA hs i xs /\ arcN a b c ∈ xs) ↔ a = k /\ b = i /\ c = 1 := by
 have h0 : OwnA hs i [((k : Int), (i : Int), 1)] := ⟨n, hn, .inr ⟨k, m, h1, h2, h3, rfl, h4⟩⟩
 constructor
 ·rintro ⟨xs, hx, he⟩
  rw [hx.uniq h0] at he
  have := List.mem_singleton.1 he
  simp only [Prod.mk.injEq] at this
  omega
 ·rintro ⟨rfl, rfl, rfl⟩
  exact ⟨_, h0, by simp⟩
theorem arcN_no {hs : List Nd} {i : Nat} {n : Nd} (hn : hs[i]? = some n) (h : ∀ k m, k < i -> hs[k]? = some m -> m.v.1 ≠ n.v.1) (a b c : Nat) : ¬ ∃ xs, OwnA hs i xs /\ arcN a b c ∈ xs := by
 rintro ⟨xs, hx, he⟩
 rw [hx.uniq ⟨n, hn, .inl ⟨rfl, h⟩⟩] at he
 cases he
theorem arcN_btw {x : CatD} {hs : List Nd} {k i l f : Nat} {nk ni : Nd} (h1 : hs[k]? = some nk) (h2 : hs[i]? = some ni) (h3 : LstP x hs k ni.v.2.1 l) (h4 : FstP x hs i nk.v.2.1 f) (a b c : Nat) : (∃ xs, BtwP x hs k i xs /\ arcN a b c ∈ xs) ↔ (a = k /\ b = i /\ c = 2) \/ (a = l /\ b = i /\ c = 3) \/ (a = k /\ b = f /\ c = 4) := by
 have h0 : BtwP x hs k i [((k : Int), (i : Int), 2), ((l : Int), (i : Int), 3), ((k : Int), (f : Int), 4)] := ⟨nk, ni, l, f, h1, h2, h3, h4, rfl⟩
 constructor
 ·rintro ⟨xs, hx, he⟩
  rw [hx.uniq h0] at he
  simp only [List.mem_cons, List.not_mem_nil, or_false, Prod.mk.injEq] at he
  omega
 ·intro h
  refine ⟨_, h0, ?_⟩
  rcases h with ⟨rfl, rfl, rfl⟩ | ⟨rfl, rfl, rfl⟩ | ⟨rfl, rfl, rfl⟩ <;> simp
/-- What is found up to the node i, and of the node i up to k. -/
def S1 (x : CatD) (hs : List Nd) (i a b c : Nat) : Prop := ∃ i', i' < i /\ ArcI x hs i' (arcN a b c)
def S2 (x : CatD) (hs : List Nd) (i k a b c : Nat) : Prop := S1 x hs i a b c \/ (∃ xs, OwnA hs i xs /\ arcN a b c ∈ xs) \/ ∃ k', k' < k /\ Dp hs i k' /\ TwoP hs i k' /\ ∃ xs, BtwP x hs k' i xs /\ arcN a b c ∈ xs
theorem S2_zero (x : CatD) (hs : List Nd) (i a b c : Nat) : S2 x hs i 0 a b c ↔ S1 x hs i a b c \/ ∃ xs, OwnA hs i xs /\ arcN a b c ∈ xs :=
 ⟨fun h => h.elim .inl fun h => h.elim .inr fun ⟨k, hk, _⟩ => absurd hk (Nat.not_lt_zero _), fun h => h.elim .inl fun h => .inr (.inl h)⟩
theorem S2_no {x : CatD} {hs : List Nd} {i k : Nat} (h : ¬ (Dp hs i k /\ TwoP hs i k)) (a b c : Nat) : S2 x hs i k a b c ↔ S2 x hs i (k + 1) a b c := by
 unfold S2
 refine or_congr_right (or_congr_right ⟨fun ⟨k', hk, hh⟩ => ⟨k', by omega, hh⟩, fun ⟨k', hk, hh⟩ => ?_⟩)
 rcases Nat.lt_or_ge k' k with h' | h'
 ·exact ⟨k', h', hh⟩
 ·have : k' = k := by omega
  subst this
  exact absurd ⟨hh.1, hh.2.1⟩ h
theorem S2_yes {x : CatD} {hs : List Nd} {i k : Nat} (h1 : Dp hs i k) (h2 : TwoP hs i k) (a b c : Nat) : S2 x hs i (k + 1) a b c ↔ S2 x hs i k a b c \/ ∃ xs, BtwP x hs k i xs /\ arcN a b c ∈ xs := by
 unfold S2
 constructor
 ·rintro (h | h | ⟨k', hk, hh⟩)
  ·exact .inl (.inl h)
  ·exact .inl (.inr (.inl h))
  ·rcases Nat.lt_or_ge k' k with h' | h'
   ·exact .inl (.inr (.inr ⟨k', h', hh⟩))
   ·have : k' = k := by omega
    subst this
    exact .inr hh.2.2
 ·rintro ((h | h | ⟨k', hk, hh⟩) | h)
  ·exact .inl h
  ·exact .inr (.inl h)
  ·exact .inr (.inr ⟨k', by omega, hh⟩)
  ·exact .inr (.inr ⟨k, by omega, h1, h2, h⟩)
theorem S2_all {x : CatD} {hs : List Nd} {i n : Nat} (hn : i <= n) (a b c : Nat) : S2 x hs i n a b c ↔ S1 x hs (i + 1) a b c := by
 unfold S2 S1
 constructor
 ·rintro (⟨i', h1, h2⟩ | h | ⟨k', hk, h1, h2, xs, h3, h4⟩)
  ·exact ⟨i', by omega, h2⟩
  ·exact ⟨i, by omega, .inl h⟩
  ·exact ⟨i, by omega, .inr ⟨k', xs, h1, h2, h3, h4⟩⟩
 ·rintro ⟨i', h1, h2⟩
  rcases Nat.lt_or_ge i' i with h' | h'
  ·exact .inl ⟨i', h', h2⟩
  ·have : i' = i := by omega
   subst this
   rcases h2 with h2 | ⟨k, xs, h3, h4, h5, h6⟩
   ·exact .inr (.inl h2)
   ·exact .inr (.inr ⟨k, by have := Dp_lt h3; omega, h3, h4, xs, h5, h6⟩)
theorem Tb3.ch {F : Nat -> Prop} {W W' : World} {b : Nat} {S : Nat -> Nat -> Nat -> Prop} (h : Tb3 W b S) (e : Ch F W W') (hF : ¬ F b) : Tb3 W' b S := by
 obtain ⟨bs, T, h1, h2, h3⟩ := h
 exact ⟨bs, T, h1, e.at h2 hF, h3⟩
/-- The arcs so far. -/
structure OutP (x : CatD) (hs : List Nd) (ys : List ArcD) (B : Int) : Prop where
 srt : ys.Pairwise fun a b => SfA.key a < SfA.key b
 mem : ∀ e, e ∈ ys ↔ ArcIn x hs e /\ SfA.key e < B
theorem OutP.to {x : CatD} {hs : List Nd} {ys : List ArcD} {B B' : Int} (h : OutP x hs ys B) (e : ∀ e, ArcIn x hs e -> (SfA.key e < B ↔ SfA.key e < B')) : OutP x hs ys B' := ⟨h.srt, fun a => (h.mem a).trans ⟨fun k => ⟨k.1, (e a k.1).1 k.2⟩, fun k => ⟨k.1, (e a k.1).2 k.2⟩⟩⟩
theorem OutP.add {x : CatD} {hs : List Nd} {ys : List ArcD} {a : ArcD} {B : Int} (h : OutP x hs ys B) (ha : ArcIn x hs a) (hk : SfA.key a = B) (hl : hs.length <= 100) : OutP x hs (ys ++ [a]) (B + 1) := by
 refine ⟨List.pairwise_append.2 ⟨h.srt, List.pairwise_singleton _ _, fun y hy z hz => ?_⟩, fun e => ?_⟩
 ·rw [List.mem_singleton.1 hz, hk]; exact ((h.mem y).1 hy).2
 ·rw [List.mem_append, h.mem, List.mem_singleton]
  constructor
  ·rintro (⟨h1, h2⟩ | rfl)
   ·exact ⟨h1, by omega⟩
   ·exact ⟨ha, by omega⟩
  ·rintro ⟨h1, h2⟩
   rcases (by omega : SfA.key e < B \/ B <= SfA.key e) with h' | h'
   ·exact .inl ⟨h1, h'⟩
   ·exact .inr (arcKey_inj (h1.Q hl) (ha.Q hl) (by omega))
theorem OutP.skip {x : CatD} {hs : List Nd} {ys : List ArcD} {a : ArcD} {B : Int} (h : OutP x hs ys B) (ha : ¬ ArcIn x hs a) (hq : SfA.Q a) (hk : SfA.key a = B) (hl : hs.length <= 100) : OutP x hs ys (B + 1) := by
 refine h.to fun e he => ⟨fun h => by omega, fun h' => ?_⟩
 rcases (by omega : SfA.key e < B \/ B <= SfA.key e) with h'' | h''
 ·exact h''
 ·exact absurd (arcKey_inj (he.Q hl) hq (by omega) ▸ he) ha
set_option maxRecDepth 20000 in
theorem c32 {w : World} {v : CatV} {x : CatD} {t : Sl} {hs : List Nd} (h : CatM w v x) (hH : Hst w t hs) (hM : HMay x hs) :
  CW Tryz.prog 32 #[cxV v, slV t] w fun r w' => ∃ t' ys, r = slV t' /\ ArcsP x hs ys /\ OwS w' t' 3 (ys.flatMap aC) /\ ys.length <= 100000 /\ Ext w w' /\ ∀ j ∈ blk t', w.heap.size <= j := by
 have htn := hH.n
 have hl100 := hM.len
 refine F32_ok v t w _ fun b1 w2 a2 => ?_
 have e2 : Ext w w2 := a2.ch _
 refine (c93 (hH.ext e2) (by omega)).use ?_
 rintro _ w4 ⟨td, rows, rfl, hsq, hgm, hMx, e4⟩
 have E4 : Ext w w4 := e2.trans e4
 refine ⟨td, rfl, fun b6 w7 a7 => ?_⟩
 have p7 := a7.here
 have z4 := E4.size
 have hT0 := Tb3.new (n := 50000) rfl a7
 refine ⟨fun m z W => ∃ i : Nat, i <= hs.length /\ m + i = hs.length /\ z = (i : Int) /\ Tb3 W b6 (S1 x hs i) /\ Ext w4 W, ⟨hs.length, 0, Nat.zero_le _, rfl, rfl, hT0.iff fun a b c => ⟨fun h => h.elim, fun ⟨_, h, _⟩ => absurd h (Nat.not_lt_zero _)⟩, a7.ch _⟩, ?_⟩
 rintro m _ W g ⟨i, hi, hm, rfl, hT, eW⟩
 unfold F32j1
 refine IfB.dec (fun hlt => ?_) fun hge => ?_
 ·have hi' : i < hs.length := by omega
  have gi : hs[i]? = some hs[i] := List.getElem?_eq_getElem hi'
  generalize hs[i] = ni at gi
  have oi := hM.ok i ni gi
  have hbi : (0 : Int) <= (i : Int) /\ (i : Int) < (t.n : Int) := ⟨by omega, hlt⟩
  have hb100 : (0 : Int) <= (i : Int) /\ (i : Int) < ((100 : Nat) : Int) := ⟨by omega, by omega⟩
  refine ⟨fun m' z V => ∃ (k : Nat) (la : Int), k <= i /\ m' + k = i /\ z = (la, (k : Int)) /\ ((la = -1 /\ ∀ j n, j < k -> hs[j]? = some n -> n.v.1 ≠ ni.v.1) \/ ∃ (l : Nat) (nl : Nd), la = (l : Int) /\ l < k /\ hs[l]? = some nl /\ nl.v.1 = ni.v.1 /\ ∀ j n, l < j -> j < k -> hs[j]? = some n -> n.v.1 ≠ ni.v.1) /\ Tb3 V b6 (S1 x hs i) /\ Ext w4 V,
   ⟨i, 0, -1, Nat.zero_le _, rfl, rfl, .inl ⟨rfl, fun j n hj => absurd hj (Nat.not_lt_zero _)⟩, hT, eW⟩, ?_⟩
  rintro m' _ V g' ⟨k, la, hk, hmk, rfl, hla, hTV, eV⟩
  unfold F32j2
  refine IfB.dec (fun hl2 => ?_) fun hg2 => ?_
  ·dsimp only at hl2
   have hk' : k < hs.length := by omega
   have gk : hs[k]? = some hs[k] := List.getElem?_eq_getElem hk'
   generalize hs[k] = nk at gk
   have ed := extDrew V
   have eD : Ext w4 V.drew := eV.trans ed
   obtain ⟨pa, oa, hpa, hca⟩ := (hH.ext (E4.trans eD)).at gk
   obtain ⟨pb, ob, hpb, hcb⟩ := (hH.ext (E4.trans eD)).at gi
   refine ⟨fun n W' => W' = V.drew /\ n = if nk.v.1 = ni.v.1 then (k : Int) else la, ⟨pa, oa, hpa, ⟨by dsimp only; omega, by dsimp only; omega⟩, nk.v.1, by dsimp only; rw [Int.toNat_natCast]; exact hca 0 _ rfl, pb, ob, hpb, hbi, ni.v.1, by rw [Int.toNat_natCast]; exact hcb 0 _ rfl, IfB.intro (fun hq => ⟨rfl, rfl, ?_⟩) fun hq => ⟨rfl, rfl, ?_⟩⟩, ?_⟩
   ·rw [if_pos (by simpa using hq)]
   ·rw [if_neg (by simpa using hq)]
   rintro n _ g2 ⟨rfl, rfl⟩
   refine ⟨rfl, m' - 1, by omega, k + 1, _, by omega, by omega, by dsimp only; rw [wrap_of (by omega) (by omega)]; rfl, ?_, hTV.ext ed, eD⟩
   by_cases hq : nk.v.1 = ni.v.1
   ·rw [if_pos hq]
    exact .inr ⟨k, nk, rfl, by omega, gk, hq, fun j n h1 h2 => by omega⟩
   ·rw [if_neg hq]
    rcases hla with ⟨h1, h2⟩ | ⟨l, nl, h1, h2, h3, h4, h5⟩
    ·refine .inl ⟨h1, fun j n hj hn => ?_⟩
     rcases Nat.lt_or_ge j k with h' | h'
     ·exact h2 j n h' hn
     ·have : j = k := by omega
      subst this
      rw [gk] at hn; cases hn; exact hq
    ·refine .inr ⟨l, nl, h1, by omega, h3, h4, fun j n hj hj2 hn => ?_⟩
     rcases Nat.lt_or_ge j k with h' | h'
     ·exact h5 j n hj h' hn
     ·have : j = k := by omega
      subst this
      rw [gk] at hn; cases hn; exact hq
  ·dsimp only at hg2
   have hki : k = i := by omega
   subst hki
   refine ⟨fun _ W' => Tb3 W' b6 (S2 x hs k 0) /\ Ext w4 W', ?_, ?_⟩
   ·refine IfB.dec (fun hl => ?_) fun hl => ?_
    ·dsimp only at hl
     rcases hla with ⟨h1, _⟩ | ⟨l, nl, rfl, h2, h3, h4, h5⟩
     ·omega
     refine ⟨⟨by dsimp only; omega, by dsimp only; omega⟩, hb100, by decide, rfl, hTV.put (i := l) (k := k) (m := 1) (by omega) (by omega) (by omega) (by dsimp only; rw [Int.toNat_natCast, Int.toNat_natCast, Nat.zero_add]; rfl) fun W' hT' hC' => ⟨rfl, hT'.iff fun a b c => ?_, eV.chN hC' fun j e => by omega⟩⟩
     rw [S2_zero, arcN_own gi h2 h3 h4 h5]
    ·dsimp only at hl
     rcases hla with ⟨_, h2⟩ | ⟨l, nl, rfl, _⟩
     ·refine ⟨rfl, hTV.iff fun a b c => ?_, eV⟩
      rw [S2_zero]
      exact ⟨.inl, fun h => h.elim id fun h => absurd h (arcN_no gi h2 a b c)⟩
     ·omega
   rintro _ w37 g2 ⟨hT37, e37⟩
   refine ⟨fun m' z V => ∃ q : Nat, q <= hs.length /\ m' + q = hs.length /\ z = (q : Int) /\ Tb3 V b6 (S2 x hs k q) /\ Ext w4 V, ⟨hs.length, 0, Nat.zero_le _, rfl, rfl, hT37, e37⟩, ?_⟩
   rintro m4 _ V4 g4 ⟨q, hq, hmq, rfl, hTq, eq4⟩
   unfold F32j4
   refine IfB.dec (fun hl4 => ?_) fun hg4 => ?_
   ·have hq' : q < hs.length := by omega
    have gq : hs[q]? = some hs[q] := List.getElem?_eq_getElem hq'
    generalize hs[q] = nq at gq
    have oq := hM.ok q nq gq
    have hbq : (0 : Int) <= (q : Int) /\ (q : Int) < (t.n : Int) := ⟨by omega, hl4⟩
    have hq100 : (0 : Int) <= (q : Int) /\ (q : Int) < ((100 : Nat) : Int) := ⟨by omega, by omega⟩
    have ed := extDrew V4
    have eD : Ext w4 V4.drew := eq4.trans ed
    obtain ⟨pa, oa, hpa, hca⟩ := (hH.ext (E4.trans eD)).at gq
    obtain ⟨pb, ob, hpb, hcb⟩ := (hH.ext (E4.trans eD)).at gi
    have hw : IntKind.i64.wrap ((q : Int) + 1) = ((q + 1 : Nat) : Int) := by rw [wrap_of (by omega) (by omega)]; rfl
    refine ⟨pa, oa, hpa, hbq, nq.v.1, by rw [Int.toNat_natCast]; exact hca 0 _ rfl, pb, ob, hpb, hbi, ni.v.1, by rw [Int.toNat_natCast]; exact hcb 0 _ rfl, IfB.intro (fun hs1 => ⟨rfl, m4 - 1, by omega, q + 1, hq', by omega, hw, (hTq.ext ed).iff (S2_no fun hh => ?_), eD⟩) fun hs1 => ?_⟩
    ·have hs1 : nq.v.1 = ni.v.1 := by simpa using hs1
     obtain ⟨a', b', h1, h2, h3⟩ := hh.2
     rw [gi] at h1; rw [gq] at h2; cases h1; cases h2
     exact h3 hs1
    have hs1 : nq.v.1 ≠ ni.v.1 := by simpa using hs1
    have hMd := hMx.ext eD
    obtain ⟨rr, hrr, hrl, hrm⟩ := hsq.at hi'
    obtain ⟨c1, hc1, hcell⟩ := hMd.slot hrr
    obtain ⟨c2, hc2, hcell2⟩ := hMd.cell hrm (gM_get hrr (show q < rr.2.length by omega))
    have hrn := hMd.rn hrm
    have htd := hMd.n
    have hrl2 := hsq.1
    refine ⟨c1, 0, hc1, ⟨by omega, by omega⟩, rr.1, by rw [Int.toNat_natCast, Nat.zero_add]; exact hcell, c2, 0, hc2, ⟨by omega, by omega⟩, gM rows k q, by rw [Int.toNat_natCast, Nat.zero_add]; exact hcell2, IfB.intro (fun hd => ⟨rfl, m4 - 1, by omega, q + 1, hq', by omega, hw, (hTq.ext ed).iff (S2_no fun hh => ?_), eD⟩) fun hd => ?_⟩
    ·rw [(hgm k q).2 hh.1] at hd; cases hd
    have hd : Dp hs k q := (hgm k q).1 (by simpa using hd)
    have h2P : TwoP hs k q := ⟨ni, nq, gi, gq, hs1⟩
    refine ⟨hq100, hb100, by decide, rfl, (hTq.ext ed).put (i := q) (k := k) (m := 2) (by omega) (by omega) (by omega) (by rw [Int.toNat_natCast, Int.toNat_natCast, Nat.zero_add]; rfl) fun w61 hT61 hC61 => ?_⟩
    have e61 : Ext w4 w61 := eD.chN hC61 fun j e => by omega
    have hq61 : Ch (fun _ => False) w4 w61 := e61
    refine ⟨fun m5 z V => ∃ (r : Nat) (fi en : Int), r <= hs.length /\ m5 + r = hs.length /\ z = (fi, en, (r : Int)) /\
     ((fi = -1 /\ ∀ j, j < r -> ¬ InP x hs k j nq.v.2.1) \/ ∃ f : Nat, fi = (f : Int) /\ f < r /\ InP x hs k f nq.v.2.1 /\ ∀ j, j < f -> ¬ InP x hs k j nq.v.2.1) /\
     ((en = -1 /\ ∀ j, j < r -> ¬ InP x hs q j ni.v.2.1) \/ ∃ l : Nat, en = (l : Int) /\ l < r /\ InP x hs q l ni.v.2.1 /\ ∀ j, l < j -> j < r -> ¬ InP x hs q j ni.v.2.1) /\ Tb3 V b6 (fun a b c => S2 x hs k q a b c \/ a = q /\ b = k /\ c = 2) /\ Ext w4 V,
     ⟨hs.length, 0, -1, -1, Nat.zero_le _, rfl, rfl, .inl ⟨rfl, fun j hj => absurd hj (Nat.not_lt_zero _)⟩, .inl ⟨rfl, fun j hj => absurd hj (Nat.not_lt_zero _)⟩, hT61, e61⟩, ?_⟩
    rintro m5 _ V5 g5 ⟨r, fi, en, hr, hmr, rfl, hfi, hen, hT5, e5⟩
    unfold F32j5
    refine IfB.dec (fun hl5 => ?_) fun hg5 => ?_
    ·dsimp only at hl5
     have hr' : r < hs.length := by omega
     have x27 : ∀ {U : World}, Ext w4 U -> Ext w2 U := fun e => e4.trans e
     -- end
     refine ⟨fun y W' => (∃ fi' en' : Int, y = (fi', en') /\ ((fi' = -1 /\ ∀ j, j < r + 1 -> ¬ InP x hs k j nq.v.2.1) \/ ∃ f : Nat, fi' = (f : Int) /\ f < r + 1 /\ InP x hs k f nq.v.2.1 /\ ∀ j, j < f -> ¬ InP x hs k j nq.v.2.1) /\
      ((en' = -1 /\ ∀ j, j < r + 1 -> ¬ InP x hs q j ni.v.2.1) \/ ∃ l : Nat, en' = (l : Int) /\ l < r + 1 /\ InP x hs q l ni.v.2.1 /\ ∀ j, l < j -> j < r + 1 -> ¬ InP x hs q j ni.v.2.1)) /\ Tb3 W' b6 (fun a b c => S2 x hs k q a b c \/ a = q /\ b = k /\ c = 2) /\ Ext w4 W',
      ⟨fun n W' => ((n = -1 /\ ∀ j, j < r + 1 -> ¬ InP x hs q j ni.v.2.1) \/ ∃ l : Nat, n = (l : Int) /\ l < r + 1 /\ InP x hs q l ni.v.2.1 /\ ∀ j, l < j -> j < r + 1 -> ¬ InP x hs q j ni.v.2.1) /\ Tb3 W' b6 (fun a b c => S2 x hs k q a b c \/ a = q /\ b = k /\ c = 2) /\ Ext w4 W', ?_, ?_⟩, ?_⟩
     ·have ed5 := extDrew V5
      have eD5 : Ext w4 V5.drew := e5.trans ed5
      obtain ⟨pc, oc, hpc, hcc⟩ := (hH.ext (E4.trans eD5)).at gi
      refine ⟨v, cxN h a2.new (x27 eD5), pc, oc, hpc, hbi, ni.v.2.1, by rw [Int.toNat_natCast]; exact hcc 1 _ rfl, (c94 (h.ext (E4.trans eD5)) (hH.ext (E4.trans eD5)) hM hq' hr' ni.v.2.1).use ?_⟩
      rintro _ w78 ⟨rb, rfl, hrb, e78⟩
      have e5' : Ext w4 w78 := eD5.trans e78
      refine ⟨rb, rfl, IfB.intro (fun hh => ⟨rfl, .inr ⟨r, rfl, by omega, hrb.1 hh, fun j h1 h2 => by omega⟩, (hT5.ext ed5).ext e78, e5'⟩) fun hh => ⟨rfl, ?_, (hT5.ext ed5).ext e78, e5'⟩⟩
      have hno : ¬ InP x hs q r ni.v.2.1 := fun h' => by have hh : rb = false := hh; rw [hrb.2 h'] at hh; cases hh
      have up : ∀ {lo : Nat}, (∀ j, lo <= j -> j < r -> ¬ InP x hs q j ni.v.2.1) -> ∀ j, lo <= j -> j < r + 1 -> ¬ InP x hs q j ni.v.2.1 := fun h0 j h1 h2 => by
       rcases Nat.lt_or_ge j r with h' | h'
       ·exact h0 j h1 h'
       ·have : j = r := by omega
        subst this; exact hno
      rcases hen with ⟨h1, h2⟩ | ⟨l, h1, h2, h3, h4⟩
      ·exact .inl ⟨h1, fun j hj => up (lo := 0) (fun j _ => h2 j) j (Nat.zero_le _) hj⟩
      ·exact .inr ⟨l, h1, by omega, h3, fun j hj => up (lo := l + 1) (fun j h => h4 j h) j hj⟩
     ·rintro en' w81 g6 ⟨hen', hT81, e81⟩
      unfold F32j6
      have ed6 := extDrew w81
      have eD6 : Ext w4 w81.drew := e81.trans ed6
      refine IfB.dec (fun hneg => ?_) fun hpos => ?_
      ·dsimp only at hneg
       obtain ⟨h1, h2⟩ : fi = -1 /\ ∀ j, j < r -> ¬ InP x hs k j nq.v.2.1 := by
        rcases hfi with h' | ⟨f, h', _⟩
        ·exact h'
        ·omega
       obtain ⟨pc, oc, hpc, hcc⟩ := (hH.ext (E4.trans eD6)).at gq
       refine ⟨v, cxN h a2.new (x27 eD6), pc, oc, hpc, hbq, nq.v.2.1, by rw [Int.toNat_natCast]; exact hcc 1 _ rfl, (c94 (h.ext (E4.trans eD6)) (hH.ext (E4.trans eD6)) hM hi' hr' nq.v.2.1).use ?_⟩
       rintro _ w91 ⟨rb, rfl, hrb, e91⟩
       refine ⟨rb, rfl, IfB.intro (fun hh => ⟨rfl, ⟨(r : Int), en', rfl, .inr ⟨r, rfl, by omega, hrb.1 hh, h2⟩, hen'⟩, (hT81.ext ed6).ext e91, eD6.trans e91⟩) fun hh => ⟨rfl, ⟨fi, en', rfl, .inl ⟨h1, fun j hj => ?_⟩, hen'⟩, (hT81.ext ed6).ext e91, eD6.trans e91⟩⟩
       rcases Nat.lt_or_ge j r with h' | h'
       ·exact h2 j h'
       ·have : j = r := by omega
        subst this
        exact fun h' => by have hh : rb = false := hh; rw [hrb.2 h'] at hh; cases hh
      ·dsimp only at hpos
       refine ⟨rfl, ⟨fi, en', rfl, ?_, hen'⟩, hT81.ext ed6, eD6⟩
       rcases hfi with ⟨h', _⟩ | ⟨f, h1, h2, h3, h4⟩
       ·omega
       ·exact .inr ⟨f, h1, by omega, h3, h4⟩
     ·rintro _ w94 g7 ⟨⟨fi', en', rfl, hfi', hen'⟩, hT94, e94⟩
      exact ⟨rfl, m5 - 1, by omega, r + 1, fi', en', hr', by omega, by dsimp only; rw [wrap_of (by omega) (by omega)]; rfl, hfi', hen', hT94, e94⟩
    ·dsimp only at hg5
     have hrn' : r = hs.length := by omega
     subst hrn'
     obtain ⟨f, rfl, hf1, hf2, hf3⟩ : ∃ f : Nat, fi = (f : Int) /\ f < hs.length /\ InP x hs k f nq.v.2.1 /\ ∀ j, j < f -> ¬ InP x hs k j nq.v.2.1 := by
      rcases hfi with ⟨_, h'⟩ | h'
      ·exact absurd (InP.self x hs k _) (h' k hi')
      ·exact h'
     obtain ⟨l, rfl, hl1, hl2, hl3⟩ : ∃ l : Nat, en = (l : Int) /\ l < hs.length /\ InP x hs q l ni.v.2.1 /\ ∀ j, l < j -> j < hs.length -> ¬ InP x hs q j ni.v.2.1 := by
      rcases hen with ⟨_, h'⟩ | h'
      ·exact absurd (InP.self x hs q _) (h' q hq')
      ·exact h'
     have hF : FstP x hs k nq.v.2.1 f := ⟨hf2, fun j hj => Nat.le_of_not_lt fun h' => hf3 j h' hj⟩
     have hL : LstP x hs q ni.v.2.1 l := ⟨hl2, fun j hj => Nat.le_of_not_lt fun h' => hl3 j h' (hj.lt hq') hj⟩
     refine ⟨⟨by dsimp only; omega, by dsimp only; omega⟩, hb100, by decide, rfl, hT5.put (i := l) (k := k) (m := 3) (by omega) (by omega) (by omega) (by dsimp only; rw [Int.toNat_natCast, Int.toNat_natCast, Nat.zero_add]; rfl) fun w98 hT98 hC98 => ⟨hq100, ⟨by dsimp only; omega, by dsimp only; omega⟩, by decide, rfl, hT98.put (i := q) (k := f) (m := 4) (by omega) (by omega) (by omega) (by dsimp only; rw [Int.toNat_natCast, Int.toNat_natCast, Nat.zero_add]; rfl) fun w99 hT99 hC99 => ⟨rfl, m4 - 1, by omega, q + 1, hq', by omega, hw, hT99.iff fun a b c => ?_, (e5.chN hC98 fun j e => by omega).chN hC99 fun j e => by omega⟩⟩⟩
     rw [S2_yes hd h2P, arcN_btw gq gi hL hF]
     constructor
     ·rintro (((h' | h') | h') | h')
      ·exact .inl h'
      ·exact .inr (.inl h')
      ·exact .inr (.inr (.inl h'))
      ·exact .inr (.inr (.inr h'))
     ·rintro (h' | h' | h' | h')
      ·exact .inl (.inl (.inl h'))
      ·exact .inl (.inl (.inr h'))
      ·exact .inl (.inr h')
      ·exact .inr h'
   ·have hq' : q = hs.length := by omega
    subst hq'
    exact ⟨rfl, m - 1, by omega, k + 1, hi', by omega, by rw [wrap_of (by omega) (by omega)]; rfl, hTq.iff (S2_all (by omega)), eq4⟩
 ·have hi' : i = hs.length := by omega
  subst hi'
  have z7 : w4.heap.size = b6 := p7.symm
  have eb : ∀ {V V' : World} {F : Nat -> Prop}, Ext w4 V -> Ch F V V' -> (∀ j, F j -> b6 < j) -> Ext w4 V' := fun e c hF => e.chN c fun j hj => by have := hF j hj; omega
  refine ⟨fun m z V => ∃ (i : Nat) (so : Sl) (ys : List ArcD), i <= hs.length /\ m + i = hs.length /\ z = (so, (i : Int)) /\ OutP x hs ys ((i : Int) * 1000000 + 1) /\ OwS V so 3 (ys.flatMap aC) /\ ys.length <= i * 400 /\ (∀ j ∈ blk so, b6 < j) /\ Tb3 V b6 (S1 x hs hs.length) /\ Ext w4 V /\ b6 < V.heap.size,
   ⟨hs.length, 0, ⟨none, 0, 0⟩, [], Nat.zero_le _, rfl, rfl, ⟨.nil, fun e => ⟨fun h => (by cases h), fun ⟨h1, h2⟩ => ?_⟩⟩, .nil _ _, by simp, by simp [blk], hT, eW, ?_⟩, ?_⟩
  ·have := h1.q; unfold SfA.key at h2; omega
  ·obtain ⟨_, _, _, hb, _⟩ := hT
   exact heap_lt hb
  rintro m1 _ W1 g1 ⟨i, so, ys, hi1, hm1, rfl, hOut, hos, hyl, hbk, hT1, eW1, hbW⟩
  refine IfB.dec (fun hl1 => ?_) fun hg1 => ?_
  ·dsimp only at hl1
   refine ⟨fun m z V => ∃ (k : Nat) (so : Sl) (ys : List ArcD), k <= hs.length /\ m + k = hs.length /\ z = (so, (k : Int)) /\ OutP x hs ys ((i : Int) * 1000000 + (k : Int) * 1000 + 1) /\ OwS V so 3 (ys.flatMap aC) /\ ys.length <= i * 400 + k * 4 /\ (∀ j ∈ blk so, b6 < j) /\ Tb3 V b6 (S1 x hs hs.length) /\ Ext w4 V /\ b6 < V.heap.size,
    ⟨hs.length, 0, so, ys, Nat.zero_le _, rfl, rfl, hOut.to fun e _ => by omega, hos, by omega, hbk, hT1, eW1, hbW⟩, ?_⟩
   rintro m2 _ W2 g2 ⟨k, so2, ys2, hk2, hm2, rfl, hOut2, hos2, hyl2, hbk2, hT2, eW2, hbW2⟩
   unfold F32j8
   refine IfB.dec (fun hl2 => ?_) fun hg2 => ?_
   ·dsimp only at hl2
    refine ⟨fun m z V => ∃ (c : Nat) (so : Sl) (ys : List ArcD), 1 <= c /\ c <= 5 /\ m + c = 5 /\ z = (so, (c : Int)) /\ OutP x hs ys ((i : Int) * 1000000 + (k : Int) * 1000 + (c : Int)) /\ OwS V so 3 (ys.flatMap aC) /\ ys.length + 1 <= i * 400 + k * 4 + c /\ (∀ j ∈ blk so, b6 < j) /\ Tb3 V b6 (S1 x hs hs.length) /\ Ext w4 V /\ b6 < V.heap.size,
     ⟨4, 1, so2, ys2, by omega, by omega, rfl, rfl, hOut2, hos2, by omega, hbk2, hT2, eW2, hbW2⟩, ?_⟩
    rintro m3 _ W3 g3 ⟨c, so3, ys3, hc1, hc5, hm3, rfl, hOut3, hos3, hyl3, hbk3, hT3, eW3, hbW3⟩
    unfold F32j9
    have hon := owsN aC_len (by omega) hos3
    refine IfB.dec (fun hl3 => ?_) fun hg3 => ?_
    ·dsimp only at hl3
     obtain ⟨tb', htc, hts⟩ := hT3.get (i := i) (k := k) (m := c) (by omega) (by omega) (by omega) rfl
     have hQ : SfA.Q (arcN i k c) := ⟨⟨by dsimp only; omega, by dsimp only; omega⟩, ⟨by dsimp only; omega, by dsimp only; omega⟩, by dsimp only; omega, by dsimp only; omega⟩
     refine ⟨fun s V => ∃ ys : List ArcD, OutP x hs ys ((i : Int) * 1000000 + (k : Int) * 1000 + (c : Int) + 1) /\ OwS V s 3 (ys.flatMap aC) /\ ys.length <= i * 400 + k * 4 + c /\ (∀ j ∈ blk s, b6 < j) /\ Tb3 V b6 (S1 x hs hs.length) /\ Ext w4 V /\ b6 < V.heap.size,
      ⟨⟨by dsimp only; omega, by dsimp only; omega⟩, ⟨by dsimp only; omega, by dsimp only; omega⟩, ⟨by dsimp only; omega, by dsimp only; omega⟩, tb', by dsimp only; rw [Int.toNat_natCast, Int.toNat_natCast, Int.toNat_natCast, Nat.zero_add]; exact htc, IfB.intro (fun ht => ⟨by decide, fun b125 w126 a126 => ?_⟩) fun ht => ⟨rfl, ys3, hOut3.skip (a := arcN i k c) (fun h' => ?_) hQ rfl hl100, hos3, by omega, hbk3, hT3, eW3, hbW3⟩⟩, ?_⟩
     ·have e126 : Ext W3 w126 := a126.ch _
      have z126 := a126.size
      refine (hos3.ext e126).lit (new := aC (arcN i k c)) a126.new rfl (aC_one _) rfl rfl (by omega) (by decide) fun s' w' ho' hn' hC' hbk' => ⟨rfl, ys3 ++ [arcN i k c], hOut3.add (hts.1 ht) rfl hl100, by rw [List.flatMap_append, List.flatMap_singleton]; exact ho', by rw [List.length_append, List.length_singleton]; omega, fun j hj => ?_, (hT3.ext e126).ch hC' fun hj => by have := hbk3 _ hj; omega, eb (eW3.trans e126) hC' hbk3, by have := hC'.size; omega⟩
      rcases hbk' j hj with h' | h'
      ·exact hbk3 j h'
      ·omega
     ·have ht : tb' = false := ht
      rw [hts.2 h'] at ht; cases ht
     rintro s130 w131 g4 ⟨ys4, hOut4, hos4, hyl4, hbk4, hT4, eW4, hbW4⟩
     have hcz : (i : Int) * 1000000 + (k : Int) * 1000 + (c : Int) + 1 = (i : Int) * 1000000 + (k : Int) * 1000 + ((c + 1 : Nat) : Int) := by omega
     rw [hcz] at hOut4
     exact ⟨rfl, m3 - 1, by omega, c + 1, s130, ys4, by omega, by omega, by omega, by dsimp only; rw [wrap_of (by omega) (by omega)]; rfl, hOut4, hos4, by omega, hbk4, hT4, eW4, hbW4⟩
    ·dsimp only at hg3
     have hcc : c = 5 := by omega
     subst hcc
     refine ⟨rfl, m2 - 1, by omega, k + 1, so3, ys3, by omega, by omega, by dsimp only; rw [wrap_of (by omega) (by omega)]; rfl, hOut3.to fun e he => ?_, hos3, by omega, hbk3, hT3, eW3, hbW3⟩
     have := he.q; unfold SfA.key; omega
   ·dsimp only at hg2
    have hkk : k = hs.length := by omega
    subst hkk
    refine ⟨rfl, m1 - 1, by omega, i + 1, so2, ys2, by omega, by omega, by dsimp only; rw [wrap_of (by omega) (by omega)]; rfl, hOut2.to fun e he => ?_, hos2, by omega, hbk2, hT2, eW2, hbW2⟩
    have := he.q; unfold SfA.key; omega
  ·dsimp only at hg1
   have hii : i = hs.length := by omega
   subst hii
   refine ⟨so, ys, rfl, ⟨hOut.srt, fun _ e => (hOut.mem e).trans ⟨fun h => h.1, fun h => ⟨h, ?_⟩⟩, fun hno => absurd hM hno⟩, hos, by omega, E4.trans eW1, fun j hj => by have := hbk j hj; omega⟩
   have := h.q; unfold SfA.key; omega
end Go.Proofs.YtlpgdngcgbeegaaGreat.Gx
/- Written by mkf.py: what is to be shown of functions, as Gx reckons it from their code. -/
namespace Go.Proofs.YtlpgdngcgbeegaaGreat.Gx
open Go
set_option linter.unusedVariables false
set_option maxRecDepth 100000
def F100j5 (t1 : Sl) (b3 : Nat) (n47 : Int) (y51 : Nat -> Int -> World -> Prop) (b53 : Nat) (n54 : Int) (y58 : Nat -> Int -> World -> Prop) (b60 : Nat) (n61 : Int) (w62 : World) : Prop := IfB (decide (n61 < (t1.n : Int))) (Qx (some ⟨b3, 0, none⟩) n54 ((((t1.2 : Int)).toNat : Nat) : Int) fun b65 b66 => Qs w62 b65 (b66 + n54.toNat) fun s67 => Qx s67.1 n47 (s67.2 : Int) fun b68 b69 => Qb w62 b68 (b69 + n47.toNat) fun t70 => IfB t70 (Qx (some ⟨b3, 0, none⟩) n47 ((((t1.2 : Int)).toNat : Nat) : Int) fun b71 b72 => Qs w62 b71 (b72 + n47.toNat) fun s73 => Qx s73.1 n61 (s73.2 : Int) fun b74 b75 => Qb w62 b74 (b75 + n61.toNat) fun t76 => IfB t76 (Qx (some ⟨b3, 0, none⟩) n54 ((((t1.2 : Int)).toNat : Nat) : Int) fun b77 b78 => Qs w62 b77 (b78 + n54.toNat) fun s79 => Qx s79.1 n61 (s79.2 : Int) fun b80 b81 => #[Value.bool true].size = 1 /\ StoreP w62 b80 (b81 + n61.toNat) [Value.bool true] fun w82 => Qn y58 b60 (IntKind.i64.wrap (n61 + 1)) w82) (Qn y58 b60 (IntKind.i64.wrap (n61 + 1)) w62)) (Qn y58 b60 (IntKind.i64.wrap (n61 + 1)) w62)) (Qn y51 b53 (IntKind.i64.wrap (n54 + 1)) w62)
def F100j3 (t1 : Sl) (R : Value -> World -> Prop) (b3 : Nat) (y44 : Nat -> Int -> World -> Prop) (b46 : Nat) (n47 : Int) (w48 : World) : Prop := IfB (decide (n47 < (t1.n : Int))) (Ql (α := Int) 0 w48 fun y51 b53 n54 w55 => IfB (decide (n54 < (t1.n : Int))) (Ql (α := Int) 0 w55 fun y58 b60 n61 w62 => (F100j5 t1 b3 n47 y51 b53 n54 y58 b60 n61 w62)) (Qn y44 b46 (IntKind.i64.wrap (n47 + 1)) w55)) (R (Value.slice (some ⟨b3, 0, none⟩) ((t1.2 : Int)).toNat ((t1.2 : Int)).toNat) w48)
def F100j2 (t1 : Sl) (R : Value -> World -> Prop) (b3 : Nat) (s23 : Sl) (y24 : Nat -> Int -> World -> Prop) (b26 : Nat) (n27 : Int) (w28 : World) : Prop := IfB (decide (n27 < (s23.n : Int))) (Qx s23.1 n27 (s23.2 : Int) fun b31 b32 => Qi w28.drew b31 (b32 + n27.toNat * 3 + 0) fun n33 => Qx (some ⟨b3, 0, none⟩) n33 ((((t1.2 : Int)).toNat : Nat) : Int) fun b34 b35 => Qs w28.drew b34 (b35 + n33.toNat) fun s36 => Qx s23.1 n27 (s23.2 : Int) fun b37 b38 => Qi w28.drew b37 (b38 + n27.toNat * 3 + 1) fun n39 => Qx s36.1 n39 (s36.2 : Int) fun b40 b41 => #[Value.bool true].size = 1 /\ StoreP w28.drew b40 (b41 + n39.toNat) [Value.bool true] fun w42 => Qn y24 b26 (IntKind.i64.wrap (n27 + 1)) w42) (Ql (α := Int) 0 w28 fun y44 b46 n47 w48 => (F100j3 t1 R b3 y44 b46 n47 w48))
def F100j1 (t1 : Sl) (R : Value -> World -> Prop) (b1 : Nat) (b3 : Nat) (y5 : Nat -> Int -> World -> Prop) (b7 : Nat) (n8 : Int) (w9 : World) : Prop := IfB (decide (n8 < (t1.n : Int))) ((0 <= (t1.2 : Int) /\ (t1.2 : Int) <= (t1.2 : Int) /\ (t1.2 : Int) <= 281474976710656 /\ ((1 : Nat) : Int) * (t1.2 : Int) <= 281474976710656) /\ AllocP w9 (Obj.cells { toList := zc #[Value.bool false] ((t1.2 : Int)).toNat } 4) fun b12 w13 => Qx (some ⟨b3, 0, none⟩) n8 ((((t1.2 : Int)).toNat : Nat) : Int) fun b14 b15 => #[Value.slice (some ⟨b12, 0, none⟩) ((t1.2 : Int)).toNat ((t1.2 : Int)).toNat].size = 1 /\ StoreP w13 b14 (b15 + n8.toNat) [Value.slice (some ⟨b12, 0, none⟩) ((t1.2 : Int)).toNat ((t1.2 : Int)).toNat] fun w16 => Qn y5 b7 (IntKind.i64.wrap (n8 + 1)) w16) (∃ (x18 : Sl × List Value), CellsN w9 b1 0 17 (Qy x18.fst :: x18.2) /\ Qu Tryz.prog 32 #[Value.agg { toList := Qy x18.fst :: x18.2 }, Qy t1] w9 fun s23 w22 => Ql (α := Int) 0 w22 fun y24 b26 n27 w28 => (F100j2 t1 R b3 s23 y24 b26 n27 w28))
def F100 (t0 : Sl × List Value) (t1 : Sl) (w : World) (R : Value -> World -> Prop) : Prop := AllocP w (Obj.cells { toList := Qy t0.fst :: t0.2 } 26) fun b1 w2 => (0 <= (t1.2 : Int) /\ (t1.2 : Int) <= (t1.2 : Int) /\ (t1.2 : Int) <= 281474976710656 /\ ((24 : Nat) : Int) * (t1.2 : Int) <= 281474976710656) /\ AllocP w2 (Obj.cells { toList := zc #[Value.slice none 0 0] ((t1.2 : Int)).toNat } 70) fun b3 w4 => Ql (α := Int) 0 w4 fun y5 b7 n8 w9 => (F100j1 t1 R b1 b3 y5 b7 n8 w9)
theorem F100_ok (t0 : Sl × List Value) (t1 : Sl) (w : World) (R : Value -> World -> Prop) (h : F100 t0 t1 w R) : CW Tryz.prog 100 #[Value.agg { toList := Qy t0.fst :: t0.2 }, Qy t1] w R :=
 call_of tbOk mixed en100 Tryz.func100 rfl (.node (.nil) (.node (.nil) (.node (.nil) (.node (.node (.nil) (.loop [(7, .one (.int .i64))] [17, 18, 19, 22, 23, 24, 25, 26, 20, 21, 7] (.nil))) (.node (.nil) (.node (.node (.nil) (.loop [(9, .one (.int .i64))] [30, 31, 32, 33, 36, 37, 38, 39, 40, 41, 42, 43, 44, 45, 46, 47, 48, 49, 34, 35, 9] (.node (.nil) (.node (.draw (.st 0 (.st 1 (.st 2 (.st 3 (.st 4 (.st 5 (.st 6 (.st 7 (.st 8 (.st 9 (.st 10 (.st 11 (.st 12 (.st 13 (.ac 14 [] (.fin) (.non))))))))))))))))) (.nil))))) (.node (.node (.nil) (.loop [(10, .one (.int .i64))] [50, 51, 52, 11, 55, 56, 57, 12, 60, 61, 62, 65, 66, 67, 68, 69, 70, 71, 72, 73, 74, 75, 76, 77, 78, 79, 80, 81, 82, 83, 84, 85, 86, 63, 64, 58, 59, 53, 54, 10] (.node (.nil) (.node (.node (.nil) (.loop [(11, .one (.int .i64))] [55, 56, 57, 12, 60, 61, 62, 65, 66, 67, 68, 69, 70, 71, 72, 73, 74, 75, 76, 77, 78, 79, 80, 81, 82, 83, 84, 85, 86, 63, 64, 58, 59, 11] (.node (.nil) (.node (.node (.nil) (.loop [(12, .one (.int .i64))] [60, 61, 62, 65, 66, 67, 68, 69, 70, 71, 72, 73, 74, 75, 76, 77, 78, 79, 80, 81, 82, 83, 84, 85, 86, 63, 64, 12] (.nil))) (.nil))))) (.nil))))) (.nil)))))))) (by kernel_rfl) (Nat.le_of_ble_eq_true (by kernel_rfl)) (Eq.mp (α := F100 t0 t1 w R) (by kernel_rfl) h)
def F39j1 (t1 : Sl) (R : Value -> World -> Prop) (s8 : Sl) (y9 : Nat -> Sl × Int -> World -> Prop) (b11 : Nat) (x12 : Sl × Int) (w13 : World) : Prop := IfB (decide (x12.snd < (t1.n : Int))) (Qx s8.1 x12.2 (s8.2 : Int) fun b16 b17 => Qs w13 b16 (b17 + x12.2.toNat) fun s18 => Qx s18.1 x12.2 (s18.2 : Int) fun b19 b20 => Qb w13 b19 (b20 + x12.2.toNat) fun t21 => IfB t21 (1 * 1 <= 16777216 /\ AllocP w13 (Obj.cells #[Qz x12.2] 3) fun b22 w23 => ∃ (l24 : List Value), ReadC w23 (some ⟨b22, 0, none⟩) (1 * 1) l24 /\ AppendP tt3 3 w23 x12.fst.1 x12.fst.2 x12.fst.3 1 l24 fun s25 w26 => Qn y9 b11 ({ p := s25.1, n := s25.2, c := s25.3 }, IntKind.i64.wrap (x12.2 + 1)) w26) (Qn y9 b11 ({ p := x12.fst.1, n := x12.fst.2, c := x12.fst.3 }, IntKind.i64.wrap (x12.2 + 1)) w13)) (R (Qy x12.fst) w13)
def F39 (t0 : Sl × List Value) (t1 : Sl) (w : World) (R : Value -> World -> Prop) : Prop := AllocP w (Obj.cells { toList := Qy t0.fst :: t0.2 } 26) fun b1 w2 => ∃ (x3 : Sl × List Value), CellsN w2 b1 0 17 (Qy x3.fst :: x3.2) /\ Qu Tryz.prog 100 #[Value.agg { toList := Qy x3.fst :: x3.2 }, Qy t1] w2 fun s8 w7 => Ql (α := Sl × Int) ({ p := none, n := 0, c := 0 }, 0) w7 fun y9 b11 x12 w13 => (F39j1 t1 R s8 y9 b11 x12 w13)
theorem F39_ok (t0 : Sl × List Value) (t1 : Sl) (w : World) (R : Value -> World -> Prop) (h : F39 t0 t1 w R) : CW Tryz.prog 39 #[Value.agg { toList := Qy t0.fst :: t0.2 }, Qy t1] w R :=
 call_of tbOk mixed en39 Tryz.func39 rfl (.node (.nil) (.node (.nil) (.node (.nil) (.node (.node (.nil) (.loop [(6, .one (.sl)), (7, .one (.int .i64))] [11, 12, 13, 14, 17, 18, 19, 20, 21, 22, 23, 24, 25, 26, 27, 6, 15, 16, 7] (.nil))) (.nil))))) (by kernel_rfl) (Nat.le_of_ble_eq_true (by kernel_rfl)) (Eq.mp (α := F39 t0 t1 w R) (by kernel_rfl) h)
def F33 (t0 : Sl × List Value) (t1 : Sl) (w : World) (R : Value -> World -> Prop) : Prop := AllocP w (Obj.cells { toList := Qy t0.fst :: t0.2 } 26) fun b1 w2 => ∃ (x3 : Sl × List Value), CellsN w2 b1 0 17 (Qy x3.fst :: x3.2) /\ Qv Tryz.prog 31 #[Value.agg { toList := Qy x3.fst :: x3.2 }, Qy t1] w2 fun t8 w7 => IfB t8 (∃ (x9 : Sl × List Value), CellsN w7 b1 0 17 (Qy x9.fst :: x9.2) /\ Qu Tryz.prog 39 #[Value.agg { toList := Qy x9.fst :: x9.2 }, Qy t1] w7 fun s14 w13 => R (Value.bool ((s14.2 : Int) == 0)) w13) (R (Value.bool false) w7)
theorem F33_ok (t0 : Sl × List Value) (t1 : Sl) (w : World) (R : Value -> World -> Prop) (h : F33 t0 t1 w R) : CW Tryz.prog 33 #[Value.agg { toList := Qy t0.fst :: t0.2 }, Qy t1] w R :=
 call_of tbOk mixed en33 Tryz.func33 rfl (.nil) (by kernel_rfl) (Nat.le_of_ble_eq_true (by kernel_rfl)) (Eq.mp (α := F33 t0 t1 w R) (by kernel_rfl) h)
def F40j3 (t1 : Sl) (s8 : Sl) (b9 : Nat) (y11 : Nat -> Sl -> World -> Prop) (b13 : Nat) (y18 : Nat -> Sl × Int -> World -> Prop) (b20 : Nat) (x21 : Sl × Int) (y28 : Nat -> Bool × Int -> World -> Prop) (b30 : Nat) (x31 : Bool × Int) (w32 : World) : Prop := IfB (decide (x31.snd < (t1.n : Int))) (IfB x31.1 (Qx (some ⟨b9, 0, none⟩) x31.2 ((((t1.2 : Int)).toNat : Nat) : Int) fun b35 b36 => Qb w32 b35 (b36 + x31.2.toNat) fun t37 => IfB t37 (Qn y28 b30 (true, IntKind.i64.wrap (x31.2 + 1)) w32) (Qx s8.1 x31.2 (s8.2 : Int) fun b39 b40 => Qs w32 b39 (b40 + x31.2.toNat) fun s41 => Qx s41.1 x21.2 (s41.2 : Int) fun b42 b43 => Qb w32 b42 (b43 + x21.2.toNat) fun t44 => Qn y28 b30 (!t44, IntKind.i64.wrap (x31.2 + 1)) w32)) (Qn y28 b30 (false, IntKind.i64.wrap (x31.2 + 1)) w32)) (IfB x31.1 (Qx (some ⟨b9, 0, none⟩) x21.2 ((((t1.2 : Int)).toNat : Nat) : Int) fun b47 b48 => #[Value.bool true].size = 1 /\ StoreP w32 b47 (b48 + x21.2.toNat) [Value.bool true] fun w49 => 1 * 1 <= 16777216 /\ AllocP w49 (Obj.cells #[Qz x21.2] 3) fun b50 w51 => ∃ (l52 : List Value), ReadC w51 (some ⟨b50, 0, none⟩) (1 * 1) l52 /\ AppendP tt3 3 w51 x21.fst.1 x21.fst.2 x21.fst.3 1 l52 fun s53 w54 => Qn y11 b13 { p := s53.1, n := s53.2, c := s53.3 } w54) (Qn y18 b20 ({ p := x21.fst.1, n := x21.fst.2, c := x21.fst.3 }, IntKind.i64.wrap (x21.2 + 1)) w32))
def F40j2 (t1 : Sl) (s8 : Sl) (b9 : Nat) (y11 : Nat -> Sl -> World -> Prop) (b13 : Nat) (y18 : Nat -> Sl × Int -> World -> Prop) (b20 : Nat) (x21 : Sl × Int) (w22 : World) : Prop := IfB (decide (x21.snd < (t1.n : Int))) (Qx (some ⟨b9, 0, none⟩) x21.2 ((((t1.2 : Int)).toNat : Nat) : Int) fun b25 b26 => Qb w22 b25 (b26 + x21.2.toNat) fun t27 => Ql (α := Bool × Int) (!t27, 0) w22 fun y28 b30 x31 w32 => (F40j3 t1 s8 b9 y11 b13 y18 b20 x21 y28 b30 x31 w32)) (Qn y11 b13 { p := x21.fst.1, n := x21.fst.2, c := x21.fst.3 } w22)
def F40 (t0 : Sl × List Value) (t1 : Sl) (w : World) (R : Value -> World -> Prop) : Prop := AllocP w (Obj.cells { toList := Qy t0.fst :: t0.2 } 26) fun b1 w2 => ∃ (x3 : Sl × List Value), CellsN w2 b1 0 17 (Qy x3.fst :: x3.2) /\ Qu Tryz.prog 100 #[Value.agg { toList := Qy x3.fst :: x3.2 }, Qy t1] w2 fun s8 w7 => (0 <= (t1.2 : Int) /\ (t1.2 : Int) <= (t1.2 : Int) /\ (t1.2 : Int) <= 281474976710656 /\ ((1 : Nat) : Int) * (t1.2 : Int) <= 281474976710656) /\ AllocP w7 (Obj.cells { toList := zc #[Value.bool false] ((t1.2 : Int)).toNat } 4) fun b9 w10 => Ql (α := Sl) ({ p := none, n := 0, c := 0 }) w10 fun y11 b13 s14 w15 => IfB (decide ((s14.n : Int) < (t1.n : Int))) (Ql (α := Sl × Int) ({ p := s14.1, n := s14.2, c := s14.3 }, 0) w15 fun y18 b20 x21 w22 => (F40j2 t1 s8 b9 y11 b13 y18 b20 x21 w22)) (R (Qy s14) w15)
theorem F40_ok (t0 : Sl × List Value) (t1 : Sl) (w : World) (R : Value -> World -> Prop) (h : F40 t0 t1 w R) : CW Tryz.prog 40 #[Value.agg { toList := Qy t0.fst :: t0.2 }, Qy t1] w R :=
 call_of tbOk mixed en40 Tryz.func40 rfl (.node (.nil) (.node (.nil) (.node (.nil) (.node (.nil) (.node (.loop [(7, .one (.sl))] [17, 18, 19, 20, 21, 8, 22, 23, 24, 25, 28, 29, 30, 31, 32, 9, 10, 33, 34, 35, 36, 39, 40, 41, 42, 43, 44, 45, 46, 47, 48, 49, 50, 51, 52, 53, 54, 55, 37, 38, 56, 57, 58, 59, 60, 61, 62, 63, 7, 26, 27] (.node (.nil) (.node (.nil) (.loop [(7, .one (.sl)), (8, .one (.int .i64))] [22, 23, 24, 25, 28, 29, 30, 31, 32, 9, 10, 33, 34, 35, 36, 39, 40, 41, 42, 43, 44, 45, 46, 47, 48, 49, 50, 51, 52, 53, 54, 55, 37, 38, 56, 57, 58, 59, 60, 61, 62, 63, 7, 26, 27, 8] (.node (.nil) (.node (.node (.nil) (.node (.node (.nil) (.loop [(9, .one (.bool)), (10, .one (.int .i64))] [33, 34, 35, 36, 39, 40, 41, 42, 43, 44, 45, 46, 47, 48, 49, 50, 51, 52, 53, 54, 55, 9, 37, 38, 10] (.nil))) (.nil))) (.nil))))))) (.nil)))))) (by kernel_rfl) (Nat.le_of_ble_eq_true (by kernel_rfl)) (Eq.mp (α := F40 t0 t1 w R) (by kernel_rfl) h)
def F25j1 (t0 : Sl) (t1 : Sl) (R : Value -> World -> Prop) (y1 : Nat -> Int -> World -> Prop) (b3 : Nat) (n4 : Int) (w5 : World) : Prop := IfB (decide (n4 < (t0.n : Int))) (Qx t0.1 n4 (t0.2 : Int) fun b8 b9 => Qi w5.drew b8 (b9 + n4.toNat) fun n10 => Qx t1.1 n4 (t1.2 : Int) fun b11 b12 => Qi w5.drew b11 (b12 + n4.toNat) fun n13 => IfB (n10 != n13) (R (Value.bool false) w5.drew) (Qn y1 b3 (IntKind.i64.wrap (n4 + 1)) w5.drew)) (R (Value.bool true) w5)
def F25 (t0 : Sl) (t1 : Sl) (w : World) (R : Value -> World -> Prop) : Prop := IfB ((t0.2 : Int) != (t1.2 : Int)) (R (Value.bool false) w) (Ql (α := Int) 0 w fun y1 b3 n4 w5 => (F25j1 t0 t1 R y1 b3 n4 w5))
theorem F25_ok (t0 : Sl) (t1 : Sl) (w : World) (R : Value -> World -> Prop) (h : F25 t0 t1 w R) : CW Tryz.prog 25 #[Qy t0, Qy t1] w R :=
 call_of tbOk mixed en25 Tryz.func25 rfl (.node (.nil) (.node (.nil) (.node (.node (.nil) (.loop [(5, .one (.int .i64))] [11, 12, 13, 14, 17, 18, 19, 20, 21, 22, 23, 24, 25, 4, 15, 16, 5] (.node (.nil) (.node (.node (.draw (.st 0 (.st 1 (.st 2 (.st 3 (.st 4 (.st 5 (.st 6 (.st 7 (.st 8 (.fin))))))))))) (.nil)) (.nil))))) (.nil)))) (by kernel_rfl) (Nat.le_of_ble_eq_true (by kernel_rfl)) (Eq.mp (α := F25 t0 t1 w R) (by kernel_rfl) h)
end Go.Proofs.YtlpgdngcgbeegaaGreat.Gx
/- The document's ways, cycle, good, order (gimmalref16). -/
namespace Go.Proofs.YtlpgdngcgbeegaaGreat.Gx
open Go
set_option linter.unusedSimpArgs false
set_option linter.unusedVariables false
/-- Stages of the three loops: what is there lies between. -/
structure FwE (E : Nat -> Nat -> Prop) (n m i k : Nat) (rows : List MxR) : Prop where
 lo : ∀ a b, Fw E m a b -> gM rows a b = true
 hi : ∀ a b, gM rows a b = true -> TC E a b
 done : ∀ a b, b < n -> (a < i \/ (a = i /\ b < k)) -> Fw E (m + 1) a b -> gM rows a b = true
theorem FwE.next {E : Nat -> Nat -> Prop} {n m i k : Nat} {rows rows' : List MxR} (h : FwE E n m i k rows) (hle : ∀ a b, gM rows a b = true -> gM rows' a b = true) (hup : ∀ a b, gM rows' a b = true -> TC E a b)
  (hik : Fw E (m + 1) i k -> gM rows' i k = true) : FwE E n m i (k + 1) rows' :=
 ⟨fun a b hab => hle a b (h.lo a b hab), hup, fun a b hb hab hF => by
  by_cases he : a = i /\ b = k
  ·obtain ⟨rfl, rfl⟩ := he; exact hik hF
  ·exact hle a b (h.done a b hb (by omega) hF)⟩
theorem FwE.row {E : Nat -> Nat -> Prop} {n m i : Nat} {rows : List MxR} (h : FwE E n m i n rows) : FwE E n m (i + 1) 0 rows :=
 ⟨h.lo, h.hi, fun a b hb hab hF => h.done a b hb (by omega) hF⟩
theorem tc_lt {E : Nat -> Nat -> Prop} {n : Nat} (hE : ∀ a b, E a b -> a < n /\ b < n) {a b : Nat} (h : TC E a b) : a < n /\ b < n := by
 induction h with
 | one e => exact hE _ _ e
 | more _ e ih => exact ⟨ih.1, (hE _ _ e).2⟩
theorem FwE.stage {E : Nat -> Nat -> Prop} {n m : Nat} {rows : List MxR} (hE : ∀ a b, E a b -> a < n /\ b < n) (h : FwE E n m n 0 rows) : FwE E n (m + 1) 0 0 rows :=
 ⟨fun a b hab => h.done a b (tc_lt hE (Fw_tc hab)).2 (.inl (tc_lt hE (Fw_tc hab)).1) hab, h.hi, fun a b _ hab => by omega⟩
theorem c100 {w : World} {v : CatV} {x : CatD} {t : Sl} {hs : List Nd} (h : CatM w v x) (hH : Hst w t hs) (hY : HMay x hs) :
  CW Tryz.prog 100 #[cxV v, slV t] w fun r w' => ∃ t' rows ys, r = slV t' /\ ArcsP x hs ys /\ Sqr hs.length rows /\ (∀ i k, gM rows i k = true ↔ TC (ArcE x hs) i k) /\ Mx w' w.heap.size t' rows /\ Ext w w' := by
 have hn := hH.n
 have hl100 := hY.len
 refine F100_ok v t w _ fun b1 w2 a2 => ⟨⟨by omega, by omega, by omega, by omega⟩, fun b3 w4 a4 => ?_⟩
 have e2 : Ext w w2 := a2.ch _
 have e4 : Ext w2 w4 := a4.ch _
 have p2 := a2.here; have z2 := a2.size; have p4 := a4.here; have z4 := a4.size
 rw [Int.toNat_natCast, zc_all (v := Value.slice none 0 0) (by intro x hx; simpa using hx), hn] at a4
 obtain ⟨ts, hts⟩ : ∃ ts : Sl, ts = ⟨some ⟨b3, 0, none⟩, hs.length, hs.length⟩ := ⟨_, rfl⟩
 have hM0 : Mx w4 w.heap.size ts (List.replicate hs.length (⟨none, 0, 0⟩, [])) := by
  have hmem : ∀ r ∈ List.replicate hs.length ((⟨none, 0, 0⟩, []) : MxR), r = (⟨none, 0, 0⟩, []) := fun r hr => (List.mem_replicate.1 hr).2
  refine ⟨?_, fun r hr => ?_, fun r hr => ?_, fun a b r s _ hr _ => ?_, fun j hj => ?_, fun r hr => ?_⟩
  ·rw [hts]
   refine OwS.new (w := w2) (T := 70) ?_ (by simp)
   rw [List.map_replicate]
   simpa using a4
  ·rw [hmem r hr]; exact .nil _ _
  ·rw [hmem r hr]; simp [blk]
  ·rw [hmem r (List.mem_of_getElem? hr)]; simp [blk]
  ·rw [hts] at hj; simp [blk] at hj; omega
  ·rw [hmem r hr]; simp [blk]
 have hslot : ∀ {i : Nat}, i < hs.length -> (0 : Int) <= (i : Int) /\ (i : Int) < ((((t.2 : Int)).toNat : Nat) : Int) := fun {i} h => ⟨by omega, by omega⟩
 have w1 : ∀ {i : Nat}, i < hs.length -> IntKind.i64.wrap ((i : Int) + 1) = ((i + 1 : Nat) : Int) := fun {i} h => by rw [wrap_of (by omega) (by omega)]; rfl
 have hb1 : ts.p = some ⟨b3, 0, none⟩ := by rw [hts]
 have slot : ∀ {W : World} {rows : List MxR} {i : Nat} {r : MxR}, Mx W w.heap.size ts rows -> rows[i]? = some r -> W.cell? ⟨b3, 0 + (i : Int).toNat, none⟩ = some (slV r.1) := fun {W rows i r} hM hr => by
  obtain ⟨b, hp, hc⟩ := hM.slot hr
  rw [hb1] at hp; cases hp
  rw [Int.toNat_natCast, Nat.zero_add]; exact hc
 refine ⟨fun m z W => ∃ (i : Nat) (rows : List MxR), i <= hs.length /\ m + i = hs.length /\ z = (i : Int) /\ rows.length = hs.length /\ (∀ a r, rows[a]? = some r -> r.2.length = if a < i then hs.length else 0) /\ (∀ a b, gM rows a b = false) /\ Mx W w.heap.size ts rows /\ Ext w2 W,
  ⟨hs.length, 0, List.replicate hs.length (⟨none, 0, 0⟩, []), Nat.zero_le _, rfl, rfl, by simp, fun a r hr => ?_, fun a b => ?_, hM0, e4⟩, ?_⟩
 ·rw [(List.mem_replicate.1 (List.mem_of_getElem? hr)).2]; rfl
 ·unfold gM
  rw [List.getElem?_replicate]
  split
  ·rename_i r hr
   split at hr
   ·cases hr; simp
   ·cases hr
  ·rfl
 rintro m _ W g ⟨i, rows, hi, hmi, rfl, hrl, hrw, hg, hM, hE⟩
 unfold F100j1
 have zE := (e2.trans hE).size
 refine IfB.dec (fun hlt => ?_) fun hge => ?_
 ·have hi' : i < hs.length := by omega
  refine ⟨⟨by omega, by omega, by omega, by omega⟩, fun b12 w13 a12 => ?_⟩
  have p12 := a12.here; have z12 := a12.size
  have e12 : Ext W w13 := a12.ch _
  rw [Int.toNat_natCast, zc_all (v := Value.bool false) (by intro x hx; simpa using hx), hn] at a12
  have hrow : OwS w13 ⟨some ⟨b12, 0, none⟩, hs.length, hs.length⟩ 1 (bvs (List.replicate hs.length false)) := by
   refine OwS.new (w := W) (T := 4) ?_ (by simp)
   rw [show bvs (List.replicate hs.length false) = List.replicate hs.length (Value.bool false) from List.map_replicate]
   simpa using a12
  refine ⟨b3, 0, rfl, hslot hi', rfl, ?_⟩
  rw [Int.toNat_natCast, Int.toNat_natCast, hn]
  have hM13 := hM.ext e12
  have hbk : ∀ j ∈ blk (⟨some ⟨b12, 0, none⟩, hs.length, hs.length⟩ : Sl), j = b12 := fun j hj => by simpa [blk] using hj
  refine hM13.row' (by omega) hrow (fun j hj => by have := hbk j hj; omega) (fun j hj h => by have := hbk j hj; have := hM.own.lt j h; omega) (fun r hr j hj h => by have := hbk j hj; have := (hM.row r hr).lt j h; omega) hb1 fun w16 hM16 hC16 => ?_
  refine ⟨rfl, m - 1, by omega, i + 1, _, hi', by omega, w1 hi', by rw [List.length_set]; exact hrl, fun a r hr => ?_, fun a b => ?_, hM16, (hE.trans e12).chN hC16 fun j e => by omega⟩
  ·rw [List.getElem?_set] at hr
   by_cases hia : i = a
   ·subst hia
    rw [if_pos rfl, if_pos (by omega)] at hr
    cases hr
    rw [if_pos (by omega)]; exact List.length_replicate
   ·rw [if_neg hia] at hr
    rw [hrw a r hr]
    by_cases h : a < i
    ·rw [if_pos h, if_pos (by omega)]
    ·rw [if_neg h, if_neg (by omega)]
  ·rw [gM_row (by omega)]
   split
   ·rfl
   ·exact hg a b
 ·have hi' : i = hs.length := by omega
  subst hi'
  have hsq : Sqr hs.length rows := ⟨hrl, fun r hr => by
   obtain ⟨a, ha, e⟩ := List.getElem_of_mem hr
   have := hrw a r (by rw [List.getElem?_eq_getElem ha, e])
   rwa [if_pos (by omega)] at this⟩
  refine ⟨v, cxN h a2.new hE, (c32 (h.ext (e2.trans hE)) (hH.ext (e2.trans hE)) hY).use ?_⟩
  rintro _ w22 ⟨s23, ys, rfl, hA, ho, hyl, e22, hbs⟩
  have hsn := owsN aC_len (by omega) ho
  have E22 : Ext w w22 := (e2.trans hE).trans e22
  have z22 := E22.size
  have hold : ∀ r ∈ rows, ∀ j ∈ blk r.1, j < W.heap.size := fun r hr j hj => (hM.row r hr).lt j hj
  refine ⟨s23, rfl, fun m z V => ∃ (q : Nat) (rows : List MxR), q <= ys.length /\ m + q = ys.length /\ z = (q : Int) /\ Sqr hs.length rows /\ (∀ a b, gM rows a b = true ↔ ArE (ys.take q) a b) /\ (∀ r ∈ rows, ∀ j ∈ blk r.1, j < W.heap.size) /\ Mx V w.heap.size ts rows /\ Ch (fun j => w.heap.size <= j /\ j < W.heap.size) w22 V,
   ⟨ys.length, 0, rows, Nat.zero_le _, rfl, rfl, hsq, fun a b => ⟨fun h => (by rw [hg] at h; cases h), fun ⟨c, h⟩ => (by simp at h)⟩, hold, hM.ext e22, Ch.refl _ _⟩, ?_⟩
  rintro m _ V g ⟨q, rows2, hq, hmq, rfl, hsq2, hg2, hold2, hM2, hC2⟩
  have hE2 : Ext w V := E22.chN hC2 fun j hj => hj.1
  unfold F100j2
  refine IfB.dec (fun hlt => ?_) fun hge => ?_
  ·have hq' : q < ys.length := by omega
   have hx : ys[q]? = some ys[q] := List.getElem?_eq_getElem hq'
   have hxm : ys[q] ∈ ys := List.getElem_mem hq'
   have htk := take_succ_get hx
   generalize ys[q] = e at hx hxm htk
   obtain ⟨a, b, h1, h2, ha, hb, _⟩ := arc_of hY hA hxm
   obtain ⟨e1, f1, c⟩ := e
   dsimp only at h1 h2
   subst h1; subst h2
   have ed := extDrew V
   have hMd := hM2.ext ed
   have hRd := (ho.rd.ch hC2 fun j hj hF => by have := hbs j hj; omega).ext ed
   obtain ⟨pb, po, hpp, hcc⟩ := hRd.elem (i := q) (by omega) (by omega) (flatGet aC_len hx)
   obtain ⟨ra, hra, hral, hram⟩ := hsq2.at ha
   obtain ⟨bb, hpb, _⟩ := hMd.cell hram (gM_get hra (k := b) (by omega))
   have hrn := hMd.rn hram
   have hbq : (0 : Int) <= (q : Int) /\ (q : Int) < (s23.n : Int) := ⟨by omega, hlt⟩
   refine ⟨pb, po, hpp, hbq, (a : Int), by rw [Int.toNat_natCast]; exact hcc 0 _ rfl, b3, 0, rfl, hslot ha, ra.1, slot hMd hra, pb, po, hpp, hbq, (b : Int), by rw [Int.toNat_natCast]; exact hcc 1 _ rfl, bb, 0, hpb, ⟨by omega, by omega⟩, rfl, ?_⟩
   rw [Int.toNat_natCast]
   refine hMd.put hra (by omega) hpb fun w' hM' hC' => ⟨rfl, m - 1, by omega, q + 1, _, hq', by omega, by rw [wrap_of (by omega) (by omega)]; rfl, hsq2.set hra _, fun i k => ?_, fun r hr j hj => ?_, hM', (hC2.trans (ed.mono fun _ _ h => h.elim)).trans (hC'.mono fun j _ e => ⟨hMd.rnew ra hram j (by simp [blk, hpb, e]), hold2 ra hram j (by simp [blk, hpb, e])⟩)⟩
   ·rw [gM_set hra (by omega), htk]
    unfold ArE at hg2 ⊢
    constructor
    ·intro h
     split at h
     ·rename_i hab
      obtain ⟨rfl, rfl⟩ := hab
      exact ⟨c, by simp⟩
     ·obtain ⟨c', hc'⟩ := (hg2 i k).1 h
      exact ⟨c', List.mem_append.2 (.inl hc')⟩
    ·rintro ⟨c', hc'⟩
     split
     ·rfl
     ·rename_i hab
      rcases List.mem_append.1 hc' with h' | h'
      ·exact (hg2 i k).2 ⟨c', h'⟩
      ·have := List.mem_singleton.1 h'
       simp only [Prod.mk.injEq] at this
       exact absurd ⟨by omega, by omega⟩ hab
   ·rcases mem_set hr with rfl | ⟨a', _, ha'⟩
    ·exact hold2 ra hram j hj
    ·exact hold2 r (List.mem_of_getElem? ha') j hj
  ·have hq' : q = ys.length := by omega
   subst hq'
   rw [List.take_length] at hg2
   have hEE : ∀ a b, ArcE x hs a b -> a < hs.length /\ b < hs.length := fun a b h => h.lt
   have hF0 : FwE (ArcE x hs) hs.length 0 0 0 rows2 := ⟨fun a b h => (hg2 a b).2 ((hA.are hY a b).2 h), fun a b h => .one ((hA.are hY a b).1 ((hg2 a b).1 h)), fun a b _ hab => by omega⟩
   refine ⟨fun n z W' => ∃ (m : Nat) (rows : List MxR), m <= hs.length /\ n + m = hs.length /\ z = (m : Int) /\ Sqr hs.length rows /\ FwE (ArcE x hs) hs.length m 0 0 rows /\ Mx W' w.heap.size ts rows /\ Ext w W', ⟨hs.length, 0, rows2, Nat.zero_le _, rfl, rfl, hsq2, hF0, hM2, hE2⟩, ?_⟩
   rintro n _ w53 g ⟨m, rows3, hm, hnm, rfl, hsq3, hF3, hM3, hE3⟩
   unfold F100j3
   have hst : ∀ {i : Nat}, i < hs.length -> (0 : Int) <= (i : Int) /\ (i : Int) < (t.n : Int) := fun {i} h => ⟨by omega, by omega⟩
   refine IfB.dec (fun hlt => ?_) fun hge => ?_
   ·have hm' : m < hs.length := by omega
    refine ⟨fun q z W' => ∃ (i : Nat) (rows : List MxR), i <= hs.length /\ q + i = hs.length /\ z = (i : Int) /\ Sqr hs.length rows /\ FwE (ArcE x hs) hs.length m i 0 rows /\ Mx W' w.heap.size ts rows /\ Ext w W', ⟨hs.length, 0, rows3, Nat.zero_le _, rfl, rfl, hsq3, hF3, hM3, hE3⟩, ?_⟩
    rintro q _ w60 g ⟨i, rows4, hi, hqi, rfl, hsq4, hF4, hM4, hE4⟩
    refine IfB.dec (fun hlt2 => ?_) fun hge2 => ?_
    ·have hi' : i < hs.length := by omega
     refine ⟨fun s z W' => ∃ (k : Nat) (rows : List MxR), k <= hs.length /\ s + k = hs.length /\ z = (k : Int) /\ Sqr hs.length rows /\ FwE (ArcE x hs) hs.length m i k rows /\ Mx W' w.heap.size ts rows /\ Ext w W', ⟨hs.length, 0, rows4, Nat.zero_le _, rfl, rfl, hsq4, hF4, hM4, hE4⟩, ?_⟩
     rintro s _ w67 g ⟨k, rows5, hk, hsk, rfl, hsq5, hF5, hM5, hE5⟩
     unfold F100j5
     refine IfB.dec (fun hlt3 => ?_) fun hge3 => ?_
     ·have hk' : k < hs.length := by omega
      obtain ⟨ri, hri, hril, hrim⟩ := hsq5.at hi'
      obtain ⟨rm, hrm, hrml, hrmm⟩ := hsq5.at hm'
      have hin := hM5.rn hrim
      have hmn := hM5.rn hrmm
      obtain ⟨c1, hp1, hc1⟩ := hM5.cell hrim (gM_get hri (k := m) (by omega))
      obtain ⟨c2, hp2, hc2⟩ := hM5.cell hrmm (gM_get hrm (k := k) (by omega))
      have stay : (Fw (ArcE x hs) (m + 1) i k -> gM rows5 i k = true) -> ∃ b90, b90 < s /\ ∃ (k' : Nat) (rows : List MxR), k' <= hs.length /\ b90 + k' = hs.length /\ IntKind.i64.wrap ((k : Int) + 1) = (k' : Int) /\ Sqr hs.length rows /\ FwE (ArcE x hs) hs.length m i k' rows /\ Mx w67 w.heap.size ts rows /\ Ext w w67 := fun h =>
       ⟨s - 1, by omega, k + 1, rows5, hk', by omega, w1 hk', hsq5, hF5.next (fun _ _ h => h) hF5.hi h, hM5, hE5⟩
      refine ⟨b3, 0, rfl, hslot hi', ri.1, slot hM5 hri, c1, 0, hp1, ⟨by omega, by show (m : Int) < (ri.1.n : Int); omega⟩, gM rows5 i m, by rw [Int.toNat_natCast, Nat.zero_add]; exact hc1, IfB.intro (fun h1 => ?_) fun h1 => ⟨rfl, stay fun hF => ?_⟩⟩
      ·refine ⟨b3, 0, rfl, hslot hm', rm.1, slot hM5 hrm, c2, 0, hp2, ⟨by omega, by show (k : Int) < (rm.1.n : Int); omega⟩, gM rows5 m k, by rw [Int.toNat_natCast, Nat.zero_add]; exact hc2, IfB.intro (fun h2 => ?_) fun h2 => ⟨rfl, stay fun hF => ?_⟩⟩
       ·refine ⟨b3, 0, rfl, hslot hi', ri.1, slot hM5 hri, c1, 0, hp1, ⟨by omega, by show (k : Int) < (ri.1.n : Int); omega⟩, rfl, ?_⟩
        rw [Int.toNat_natCast]
        have hup := (hF5.hi _ _ h1).trans (hF5.hi _ _ h2)
        have hset := gM_set hri (k := k) (by omega) true
        refine hM5.put hri (by omega) hp1 fun w' hM' hC' => ⟨rfl, s - 1, by omega, k + 1, _, hk', by omega, w1 hk', hsq5.set hri _, hF5.next (fun a b h => ?_) (fun a b h => ?_) (fun _ => ?_), hM', hE5.chN hC' fun j e => hM5.rnew ri hrim j (by simp [blk, hp1, e])⟩
        ·rw [hset]; split
         ·rfl
         ·exact h
        ·rw [hset] at h
         split at h
         ·rename_i hab; rw [hab.1, hab.2]; exact hup
         ·exact hF5.hi a b h
        ·rw [hset, if_pos ⟨rfl, rfl⟩]
       ·rcases hF with hF | hF
        ·exact hF5.lo _ _ hF
        ·rw [hF5.lo _ _ hF.2] at h2; cases h2
      ·rcases hF with hF | hF
       ·exact hF5.lo _ _ hF
       ·rw [hF5.lo _ _ hF.1] at h1; cases h1
     ·have hk' : k = hs.length := by omega
      subst hk'
      exact ⟨rfl, q - 1, by omega, i + 1, rows5, hi', by omega, w1 hi', hsq5, hF5.row, hM5, hE5⟩
    ·have hi' : i = hs.length := by omega
     subst hi'
     exact ⟨rfl, n - 1, by omega, m + 1, rows4, hm', by omega, w1 hm', hsq4, hF4.stage hEE, hM4, hE4⟩
   ·have hm' : m = hs.length := by omega
    subst hm'
    refine ⟨ts, rows3, ys, ?_, hA, hsq3, fun a b => ⟨hF3.hi a b, fun h => hF3.lo a b ((Fw_iff fun a b h => (hEE a b h).2).2 h)⟩, hM3, hE3⟩
    rw [hts, Int.toNat_natCast, hn]
theorem c39 {w : World} {v : CatV} {x : CatD} {t : Sl} {hs : List Nd} (h : CatM w v x) (hH : Hst w t hs) (hY : HMay x hs) :
  CW Tryz.prog 39 #[cxV v, slV t] w fun r w' => ∃ (t' : Sl) (ys : List ArcD) (os : List Nat), r = slV t' /\ ArcsP x hs ys /\ os.Pairwise (· < ·) /\ (∀ i, i ∈ os ↔ i < hs.length /\ TC (ArcE x hs) i i) /\ OwS w' t' 1 (os.map fun k : Nat => iv (k : Int)) /\ Ext w w' := by
 have htn := hH.n
 have hl100 := hY.len
 refine F39_ok v t w _ fun b1 w2 a2 => ?_
 have e2 : Ext w w2 := a2.ch _
 refine ⟨v, cxN h a2.new (Ch.refl _ _), (c100 (h.ext e2) (hH.ext e2) hY).use ?_⟩
 rintro _ w7 ⟨s8, rows, ys, rfl, hA, hsq, hg, hMx, e7⟩
 have E7 := e2.trans e7
 have hsn := hMx.n
 have hsq1 := hsq.1
 refine ⟨s8, rfl, fun m z W => ∃ (i : Nat) (os : List Nat) (so : Sl), i <= hs.length /\ m + i = hs.length /\ z = (so, (i : Int)) /\ os.Pairwise (· < ·) /\ (∀ k, k ∈ os ↔ k < i /\ TC (ArcE x hs) k k) /\ OwS W so 1 (os.map fun k : Nat => iv (k : Int)) /\ (∀ j ∈ blk so, w7.heap.size <= j) /\ Ext w7 W,
  ⟨hs.length, 0, [], ⟨none, 0, 0⟩, Nat.zero_le _, rfl, rfl, .nil, by simp, .nil _ _, by simp [blk], Ch.refl _ _⟩, ?_⟩
 rintro m _ W g ⟨i, os, so, hi, hm, rfl, hsr, hmem, hos, hbk, eW⟩
 unfold F39j1
 have hosn := hos.len
 rw [List.length_map, Nat.mul_one] at hosn
 have hol : os.length <= i := by
  have := nodup_le (a := os) (b := List.range i) (hsr.imp fun h e => by omega) fun k hk => List.mem_range.2 ((hmem k).1 hk).1
  simpa using this
 refine IfB.dec (fun hlt => ?_) fun hge => ?_
 ·dsimp only at hlt
  have hi' : i < hs.length := by omega
  have hw : IntKind.i64.wrap ((i : Int) + 1) = ((i + 1 : Nat) : Int) := by rw [wrap_of (by omega) (by omega)]; rfl
  obtain ⟨ra, hra, hral, hram⟩ := hsq.at hi'
  have hMd := hMx.ext eW
  obtain ⟨b1', hp1, hc1⟩ := hMd.slot hra
  obtain ⟨b2', hp2, hc2⟩ := hMd.cell hram (gM_get hra (k := i) (by omega))
  have hrn := hMd.rn hram
  have up : ∀ {os' : List Nat}, (∀ k, k ∈ os' ↔ k ∈ os \/ (k = i /\ gM rows i i = true)) -> ∀ k, k ∈ os' ↔ k < i + 1 /\ TC (ArcE x hs) k k := fun h k => by
   rw [h, hmem]
   constructor
   ·rintro (⟨h1, h2⟩ | ⟨rfl, h2⟩)
    ·exact ⟨by omega, h2⟩
    ·exact ⟨by omega, (hg k k).1 h2⟩
   ·rintro ⟨h1, h2⟩
    rcases Nat.lt_or_ge k i with h' | h'
    ·exact .inl ⟨h', h2⟩
    ·have : k = i := by omega
     subst this
     exact .inr ⟨rfl, (hg k k).2 h2⟩
  refine ⟨b1', 0, hp1, ⟨by dsimp only; omega, by dsimp only; omega⟩, ra.1, by dsimp only; rw [Int.toNat_natCast, Nat.zero_add]; exact hc1, b2', 0, hp2, ⟨by dsimp only; omega, by dsimp only; omega⟩, gM rows i i, by dsimp only; rw [Int.toNat_natCast, Nat.zero_add]; exact hc2, IfB.intro (fun hin => ⟨by decide, fun b22 w23 a23 => ?_⟩) fun hin => ⟨rfl, m - 1, by omega, i + 1, os, so, hi', by omega, by dsimp only; rw [hw], hsr, up fun k => ?_, hos, hbk, eW⟩⟩
  ·have e23 : Ext W w23 := a23.ch _
   have z23 := a23.size; have p23 := a23.here; have zW := eW.size
   refine (hos.ext e23).lit (new := [iv (i : Int)]) a23.new rfl (by intro v hv; rw [List.mem_singleton.1 hv]; rfl) rfl rfl (by omega) (by decide) fun s25 w26 ho26 hn26 hC26 hb26 => ⟨rfl, m - 1, by omega, i + 1, os ++ [i], s25, hi', by omega, by dsimp only; rw [hw], ?_, up fun k => ?_, by rw [List.map_append]; exact ho26, fun j hj => ?_, (eW.trans e23).chN hC26 fun j hj => hbk j hj⟩
   ·exact List.pairwise_append.2 ⟨hsr, List.pairwise_singleton _ _, fun a ha b hb => by rw [List.mem_singleton.1 hb]; exact ((hmem a).1 ha).1⟩
   ·rw [List.mem_append, List.mem_singleton]
    exact ⟨fun h => h.imp id fun h => ⟨h, hin⟩, fun h => h.imp id fun h => h.1⟩
   ·rcases hb26 j hj with h' | h'
    ·exact hbk j h'
    ·omega
  ·have hin : gM rows i i = false := hin
   exact ⟨.inl, fun h => h.elim id fun h => (by rw [hin] at h; cases h.2)⟩
 ·dsimp only at hge
  have hi' : i = hs.length := by omega
  subst hi'
  exact ⟨so, ys, os, rfl, hA, hsr, hmem, hos, E7.trans eW⟩
/-- A history may be, and its graph is good. -/
def GoodP (x : CatD) (hs : List Nd) : Prop := HMay x hs /\ ∃ r, FairR x hs r
theorem c33 {w : World} {v : CatV} {x : CatD} {t : Sl} {hs : List Nd} (h : CatM w v x) (hH : Hst w t hs) :
  CW Tryz.prog 33 #[cxV v, slV t] w fun r w' => ∃ b, r = .bool b /\ (b = true ↔ GoodP x hs) /\ Ext w w' := by
 refine F33_ok v t w _ fun b1 w2 a2 => ?_
 have e2 : Ext w w2 := a2.ch _
 refine ⟨v, cxN h a2.new (Ch.refl _ _), (c31 (h.ext e2) (hH.ext e2)).use ?_⟩
 rintro _ w7 ⟨r, rfl, hr, e7⟩
 have E7 := e2.trans e7
 refine ⟨r, rfl, IfB.intro (fun h1 => ⟨v, cxN h a2.new e7, (c39 (h.ext E7) (hH.ext E7) (hr.1 h1)).use ?_⟩) fun h1 => ⟨false, rfl, ⟨fun h => (by cases h), fun h' => ?_⟩, E7⟩⟩
 ·rintro _ w13 ⟨s14, ys, os, rfl, hA, hsr, hmem, ho, e13⟩
  have hn := ho.len
  rw [List.length_map, Nat.mul_one] at hn
  refine ⟨s14, rfl, _, rfl, ?_, E7.trans e13⟩
  rw [beq_iff_eq]
  have hM := hr.1 h1
  unfold GoodP
  rw [<- acyc_iff hM hA]
  constructor
  ·intro h0
   refine ⟨hM, fun i hi => ?_⟩
   have hos : os = [] := List.eq_nil_of_length_eq_zero (by omega)
   have := (hmem i).2 ⟨(TC.lt hi).1, hi⟩
   rw [hos] at this; cases this
  ·rintro ⟨_, h0⟩
   have hos : os = [] := by
    cases os with
    | nil => rfl
    | cons a os => exact absurd ((hmem a).1 (by simp)).2 (h0 a)
   have hn : s14.n = 0 := by rw [<- hn, hos]; rfl
   rw [hn]; rfl
 ·have h1 : r = false := h1
  rw [hr.2 h'.1] at h1; cases h1
end Go.Proofs.YtlpgdngcgbeegaaGreat.Gx
/- The document's order (gimmalref16). -/
namespace Go.Proofs.YtlpgdngcgbeegaaGreat.Gx
open Go
set_option linter.unusedSimpArgs false
set_option linter.unusedVariables false
theorem c40 {w : World} {v : CatV} {x : CatD} {t : Sl} {hs : List Nd} {r : Nat -> Nat} (h : CatM w v x) (hH : Hst w t hs) (hY : HMay x hs) (hF : FairR x hs r) :
  CW Tryz.prog 40 #[cxV v, slV t] w fun v' w' => ∃ (t' : Sl) (os : List Nat), v' = slV t' /\ (∀ ys out, ArcsP x hs ys -> ToldP ys hs.length out -> os = out) /\ OwS w' t' 1 (os.map fun k : Nat => iv (k : Int)) /\ Ext w w' := by
 have htn := hH.n
 have hl100 := hY.len
 refine F40_ok v t w _ fun b1 w2 a2 => ?_
 have e2 : Ext w w2 := a2.ch _
 refine ⟨v, cxN h a2.new (Ch.refl _ _), (c100 (h.ext e2) (hH.ext e2) hY).use ?_⟩
 rintro _ w7 ⟨s8, rows, ys, rfl, hA, hsq, hg, hMx, e7⟩
 have E7 := e2.trans e7
 have hrn := hMx.n
 have hsq1 := hsq.1
 refine ⟨s8, rfl, ⟨by omega, by omega, by omega, by omega⟩, fun b9 w10 a10 => ?_⟩
 rw [Int.toNat_natCast] at a10
 have e10 : Ext w7 w10 := a10.ch _
 have p10 := a10.here; have z10 := a10.size
 have hd0 := FnB.new a10
 rw [htn] at hd0
 refine ⟨fun m s W => ∃ out : List Nat, WRun (TC (ArcE x hs)) hs.length out /\ m + out.length = hs.length /\ OwS W s 1 (out.map fun k : Nat => iv (k : Int)) /\ (∀ j ∈ blk s, b9 < j) /\ FnB W b9 hs.length (fun j => .bool (decide (j ∈ out))) /\ Ext w7 W,
  ⟨hs.length, [], .nil, by simp, .nil _ _, by simp [blk], hd0.congr fun j _ => by simp, e10⟩, ?_⟩
 rintro m s W g ⟨out, hrun, hmo, hos, hbk, hfd, eW⟩
 have hsn := hos.len
 rw [List.length_map, Nat.mul_one] at hsn
 refine IfB.dec (fun hlt => ?_) fun hge => ?_
 ·have hol : out.length < hs.length := by omega
  refine ⟨fun m' z V => W = V /\ ∃ i : Nat, i <= hs.length /\ m' + i = hs.length /\ z = (s, (i : Int)) /\ ∀ j, j < i -> j ∈ out \/ ∃ k, k < hs.length /\ k ∉ out /\ TC (ArcE x hs) k j, ⟨hs.length, rfl, 0, Nat.zero_le _, rfl, rfl, fun j hj => absurd hj (Nat.not_lt_zero _)⟩, ?_⟩
  rintro m' _ _ g' ⟨rfl, i, hi, hmi, rfl, hlow⟩
  unfold F40j2
  refine IfB.dec (fun hli => ?_) fun hgi => ?_
  ·try dsimp only at hli
   have hi' : i < hs.length := by omega
   have hwi : IntKind.i64.wrap ((i : Int) + 1) = ((i + 1 : Nat) : Int) := by rw [wrap_of (by omega) (by omega)]; rfl
   refine ⟨b9, 0, rfl, ⟨by omega, by omega⟩, decide (i ∈ out), by dsimp only; rw [Nat.zero_add, Int.toNat_natCast]; exact hfd.get hi' rfl, fun m4 z V => W = V /\ ∃ (k : Nat) (rd : Bool), k <= hs.length /\ m4 + k = hs.length /\ z = (rd, (k : Int)) /\ (rd = true ↔ i ∉ out /\ ∀ k', k' < k -> k' ∈ out \/ ¬ TC (ArcE x hs) k' i), ⟨hs.length, rfl, 0, !decide (i ∈ out), Nat.zero_le _, rfl, rfl, by simp⟩, ?_⟩
   rintro m4 _ _ g4 ⟨rfl, k, rd, hk, hmk, rfl, hrd⟩
   unfold F40j3
   refine IfB.dec (fun hlk => ?_) fun hgk => ?_
   ·try dsimp only at hlk
    have hk' : k < hs.length := by omega
    have hwk : IntKind.i64.wrap ((k : Int) + 1) = ((k + 1 : Nat) : Int) := by rw [wrap_of (by omega) (by omega)]; rfl
    have up : ∀ {rd' : Bool}, (rd' = true ↔ rd = true /\ (k ∈ out \/ ¬ TC (ArcE x hs) k i)) -> (rd' = true ↔ i ∉ out /\ ∀ k', k' < k + 1 -> k' ∈ out \/ ¬ TC (ArcE x hs) k' i) := fun h => by
     rw [h, hrd]
     constructor
     ·rintro ⟨⟨h1, h2⟩, h3⟩
      refine ⟨h1, fun k' hk' => ?_⟩
      rcases Nat.lt_or_ge k' k with h' | h'
      ·exact h2 k' h'
      ·rw [show k' = k by omega]; exact h3
     ·rintro ⟨h1, h2⟩
      exact ⟨⟨h1, fun k' hk' => h2 k' (by omega)⟩, h2 k (by omega)⟩
    refine IfB.intro (fun hr1 => ?_) fun hr1 => ⟨rfl, m4 - 1, by omega, rfl, k + 1, false, hk', by omega, by dsimp only; rw [hwk], up ?_⟩
    ·have hr1 : rd = true := hr1
     refine ⟨b9, 0, rfl, ⟨by dsimp only; omega, by dsimp only; omega⟩, decide (k ∈ out), by dsimp only; rw [Nat.zero_add, Int.toNat_natCast]; exact hfd.get hk' rfl, IfB.intro (fun hko => ⟨rfl, m4 - 1, by omega, rfl, k + 1, true, hk', by omega, by dsimp only; rw [hwk], up ?_⟩) fun hko => ?_⟩
     ·have hko : k ∈ out := by simpa using hko
      exact ⟨fun _ => ⟨hr1, .inl hko⟩, fun _ => rfl⟩
     ·have hko : k ∉ out := by simpa using hko
      have hMd := hMx.ext eW
      obtain ⟨rk, hrk, hrkl, hrkm⟩ := hsq.at hk'
      obtain ⟨c1, hp1, hc1⟩ := hMd.slot hrk
      obtain ⟨c2, hp2, hc2⟩ := hMd.cell hrkm (gM_get hrk (k := i) (by omega))
      have hkn := hMd.rn hrkm
      refine ⟨c1, 0, hp1, ⟨by dsimp only; omega, by dsimp only; omega⟩, rk.1, by dsimp only; rw [Nat.zero_add, Int.toNat_natCast]; exact hc1, c2, 0, hp2, ⟨by dsimp only; omega, by dsimp only; omega⟩, gM rows k i, by dsimp only; rw [Nat.zero_add, Int.toNat_natCast]; exact hc2, rfl, m4 - 1, by omega, rfl, k + 1, !gM rows k i, hk', by omega, by dsimp only; rw [hwk], up ?_⟩
      rw [Bool.not_eq_true', <- Bool.not_eq_true, hg]
      exact ⟨fun h => ⟨hr1, .inr h⟩, fun h => h.2.resolve_left hko⟩
    ·have hr1 : rd = false := hr1
     rw [hr1]; simp
   ·try dsimp only at hgk
    have hkn : k = hs.length := by omega
    subst hkn
    refine IfB.intro (fun hr1 => ?_) fun hr1 => ⟨rfl, m' - 1, by omega, rfl, i + 1, hi', by omega, by dsimp only; rw [hwi], fun j hj => ?_⟩
    ·obtain ⟨hio, hall⟩ := hrd.1 hr1
     have hbV := hfd.lt
     refine ⟨b9, 0, rfl, ⟨by dsimp only; omega, by dsimp only; omega⟩, rfl, hfd.put hi' (by dsimp only; omega) rfl fun w49 hd49 hC49 => ⟨by decide, fun b50 w51 a51 => ?_⟩⟩
     have z49 := hC49.size
     have e51 : Ext w49 w51 := a51.ch _
     have z51 := a51.size; have p51 := a51.here
     have zW := eW.size
     have hos51 : OwS w51 s 1 (out.map fun k : Nat => iv (k : Int)) := (hos.ch hC49 fun j hj e => by have := hbk j hj; omega).ext e51
     refine hos51.lit (new := [iv (i : Int)]) a51.new rfl (by intro v hv; rw [List.mem_singleton.1 hv]; rfl) rfl rfl (by omega) (by decide) fun s53 w54 hos54 hn54 hC54 hb54 => ?_
     refine ⟨rfl, m - 1, by omega, out ++ [i], hrun.snoc hi' hio hall hlow, by rw [List.length_append, List.length_singleton]; omega, by rw [List.map_append]; exact hos54, fun j hj => ?_, ((hd49.ext e51).ch hC54 fun h => by have := hbk _ h; omega).congr fun j hj => ?_, ((eW.chN hC49 fun j e => by omega).trans e51).chN hC54 fun j hj => by have := hbk j hj; omega⟩
     ·rcases hb54 j hj with h' | h'
      ·exact hbk j h'
      ·omega
     ·by_cases h' : j = i
      ·simp [h']
      ·simp [h']
    ·have hr1 : rd = false := hr1
     rcases Nat.lt_or_ge j i with h' | h'
     ·exact hlow j h'
     ·have : j = i := by omega
      subst this
      by_cases hjo : j ∈ out
      ·exact .inl hjo
      ·refine .inr (Classical.byContradiction fun hno => ?_)
       have := hrd.2 ⟨hjo, fun k' hk' => by
        by_cases hko : k' ∈ out
        ·exact .inl hko
        ·exact .inr fun ht => hno ⟨k', hk', hko, ht⟩⟩
       rw [hr1] at this; cases this
  ·try dsimp only at hgi
   have hin : i = hs.length := by omega
   subst hin
   obtain ⟨i0, h1, h2, h3⟩ := ready_ex hY hF hol
   rcases hlow i0 h1 with h' | ⟨k, k1, k2, k3⟩
   ·exact absurd h' h2
   ·rcases h3 k k1 with h' | h'
    ·exact absurd h' k2
    ·exact absurd k3 h'
 ·exact ⟨s, out, rfl, fun ys' out' hA' hT' => hrun.full hY hA' (by omega) hT', hos, E7.trans eW⟩
end Go.Proofs.YtlpgdngcgbeegaaGreat.Gx
/- The document's Ints (gimmalref16). -/
namespace Go.Proofs.YtlpgdngcgbeegaaGreat.Gx
open Go
set_option linter.unusedSimpArgs false
set_option linter.unusedVariables false
theorem c25 {w : World} {s t : Sl} {xs ys : List Int} (hs : Rd w s 1 (xs.map iv)) (ht : Rd w t 1 (ys.map iv)) (hl : xs.length <= 1000000) :
  CW Tryz.prog 25 #[slV s, slV t] w fun v w' => v = .bool (decide (xs = ys)) /\ Ext w w' := by
 have hsn := rdI hs
 have htn := rdI ht
 refine F25_ok s t w _ (IfB.intro (fun hne => ⟨?_, Ch.refl _ _⟩) fun he => ?_)
 ·have : s.n ≠ t.n := fun e => by simp [e] at hne
  rw [decide_eq_false (fun e => this (by rw [hsn, htn, e]))]
 ·have he : s.n = t.n := by simp at he; omega
  refine ⟨fun m x W => ∃ i : Nat, i <= xs.length /\ m + i = xs.length /\ x = (i : Int) /\ Ext w W /\ xs.take i = ys.take i, ⟨xs.length, 0, Nat.zero_le _, rfl, rfl, Ch.refl _ _, rfl⟩, ?_⟩
  rintro m _ W g ⟨i, hi, hmi, rfl, hE, hsame⟩
  unfold F25j1
  refine IfB.dec (fun hlt => ?_) fun hge => ?_
  ·have hi' : i < xs.length := by omega
   have hx : xs[i]? = some xs[i] := List.getElem?_eq_getElem hi'
   have hy : ys[i]? = some (ys[i]'(by omega)) := List.getElem?_eq_getElem (by omega)
   generalize xs[i] = x at hx
   generalize ys[i]'_ = y at hy
   have ed := hE.trans (extDrew W)
   obtain ⟨b1, o1, hp1, hc1⟩ := rdI_get (hs.ext ed) hx
   obtain ⟨b2, o2, hp2, hc2⟩ := rdI_get (ht.ext ed) hy
   refine ⟨b1, o1, hp1, ⟨by omega, hlt⟩, x, by rw [Int.toNat_natCast]; exact hc1, b2, o2, hp2, ⟨by omega, by omega⟩, y, by rw [Int.toNat_natCast]; exact hc2, IfB.intro (fun hne => ⟨?_, ed⟩) fun hxy => ⟨rfl, m - 1, by omega, i + 1, hi', by omega, by rw [wrap_of (by omega) (by omega)]; rfl, ed, ?_⟩⟩
   ·have hne : x ≠ y := by simpa using hne
    rw [decide_eq_false (fun e => hne (by rw [e, hy] at hx; exact (Option.some.inj hx).symm))]
   ·have hxy : x = y := by simpa using hxy
    rw [take_succ_get hx, take_succ_get hy, hsame, hxy]
  ·have hi' : i = xs.length := by omega
   subst hi'
   rw [List.take_length, List.take_of_length_le (by omega)] at hsame
   exact ⟨by rw [decide_eq_true hsame], hE⟩
theorem mapIv (os : List Nat) : (os.map fun k : Nat => iv (k : Int)) = (os.map fun k : Nat => (k : Int)).map iv := by rw [List.map_map]; rfl
end Go.Proofs.YtlpgdngcgbeegaaGreat.Gx
/- Written by mkf.py: what is to be shown of functions, as Gx reckons it from their code. -/
namespace Go.Proofs.YtlpgdngcgbeegaaGreat.Gx
open Go
set_option linter.unusedVariables false
set_option maxRecDepth 100000
def F9k1 (w22 : World) (b1 : Nat) (t1 : Sl) (R : Value -> World -> Prop) (t17 : Bool) : Prop := ∃ (x24 : Sl × List Value), CellsN w22 b1 0 17 (Qy x24.fst :: x24.2) /\ Qv Tryz.prog 31 #[Value.agg { toList := Qy x24.fst :: x24.2 }, Qy t1] w22 fun t29 w28 => IfB (!t29) (∃ (x30 : Sl × List Value), CellsN w28 b1 0 17 (Qy x30.fst :: x30.2) /\ Qu Tryz.prog 37 #[Value.agg { toList := Qy x30.fst :: x30.2 }, Qy t1] w28 fun s35 w34 => IfB ((s35.2 : Int) == 0) (∃ (x36 : Sl × List Value), CellsN w34 b1 0 17 (Qy x36.fst :: x36.2) /\ Qu Tryz.prog 38 #[Value.agg { toList := Qy x36.fst :: x36.2 }, Qy t1] w34 fun s41 w40 => R (Value.bool ((s41.2 : Int) == 0)) w40) (R (Value.bool false) w34)) (∃ (x42 : Sl × List Value), CellsN w28.drew b1 0 17 (Qy x42.fst :: x42.2) /\ ∃ (x45 : Sl × List Value), CellsN w28.drew b1 0 17 (Qy x45.fst :: x45.2) /\ Qu Tryz.prog 38 #[Value.agg { toList := Qy x42.fst :: x42.2 }, Qy t1] w28.drew fun s50 w49 => CellsN w49 b1 0 17 (Qy x45.fst :: x45.2) /\ Qu Tryz.prog 39 #[Value.agg { toList := Qy x45.fst :: x45.2 }, Qy t1] w49 fun s55 w54 => Qv Tryz.prog 25 #[Qy s50, Qy s55] w54 fun t58 w57 => IfB (!t58) (R (Value.bool false) w57) (IfB (!t17) (∃ (x59 : Sl × List Value), CellsN w57 b1 0 17 (Qy x59.fst :: x59.2) /\ Qu Tryz.prog 37 #[Value.agg { toList := Qy x59.fst :: x59.2 }, Qy t1] w57 fun s64 w63 => R (Value.bool ((s64.2 : Int) == 0)) w63) (∃ (x65 : Sl × List Value), CellsN w57.drew b1 0 17 (Qy x65.fst :: x65.2) /\ ∃ (x68 : Sl × List Value), CellsN w57.drew b1 0 17 (Qy x68.fst :: x68.2) /\ Qu Tryz.prog 37 #[Value.agg { toList := Qy x65.fst :: x65.2 }, Qy t1] w57.drew fun s73 w72 => CellsN w72 b1 0 17 (Qy x68.fst :: x68.2) /\ Qu Tryz.prog 40 #[Value.agg { toList := Qy x68.fst :: x68.2 }, Qy t1] w72 fun s78 w77 => Qv Tryz.prog 25 #[Qy s73, Qy s78] w77 fun t81 w80 => R (Value.bool t81) w80)))
def F9 (t0 : Sl × List Value) (t1 : Sl) (w : World) (R : Value -> World -> Prop) : Prop := AllocP w (Obj.cells { toList := Qy t0.fst :: t0.2 } 26) fun b1 w2 => Qv Tryz.prog 28 #[] w2 fun t5 w4 => IfB (!t5) (R (Value.bool false) w4) (∃ (x6 : Sl × List Value), CellsN w4 b1 0 17 (Qy x6.fst :: x6.2) /\ Qv Tryz.prog 29 #[Value.agg { toList := Qy x6.fst :: x6.2 }, Qy t1] w4 fun t11 w10 => IfB t11 (R (Value.bool true) w10) (∃ (x12 : Sl × List Value), CellsN w10 b1 0 17 (Qy x12.fst :: x12.2) /\ Qv Tryz.prog 33 #[Value.agg { toList := Qy x12.fst :: x12.2 }, Qy t1] w10 fun t17 w16 => ∃ (x18 : Sl × List Value), CellsN w16 b1 0 17 (Qy x18.fst :: x18.2) /\ Qv Tryz.prog 34 #[Value.agg { toList := Qy x18.fst :: x18.2 }, Qy t1] w16 fun t23 w22 => IfB (!t23 == t17) (R (Value.bool false) w22) (F9k1 w22 b1 t1 R t17)))
theorem F9_ok (t0 : Sl × List Value) (t1 : Sl) (w : World) (R : Value -> World -> Prop) (h : F9 t0 t1 w R) : CW Tryz.prog 9 #[Value.agg { toList := Qy t0.fst :: t0.2 }, Qy t1] w R :=
 call_of tbOk mixed en9 Tryz.func9 rfl (.node (.nil) (.node (.nil) (.node (.nil) (.node (.nil) (.node (.nil) (.node (.nil) (.node (.node (.draw (.st 0 (.st 1 (.st 3 (.st 4 (.ac 2 [4, 3] (.ac 5 [] (.ac 6 [] (.st 7 (.fin)) (.non)) (.non)) (.non))))))) (.nil)) (.node (.nil) (.node (.draw (.st 0 (.st 1 (.st 3 (.st 4 (.ac 2 [4, 3] (.ac 5 [] (.ac 6 [] (.st 7 (.fin)) (.non)) (.non)) (.non))))))) (.nil)))))))))) (by kernel_rfl) (Nat.le_of_ble_eq_true (by kernel_rfl)) (Eq.mp (α := F9 t0 t1 w R) (by kernel_rfl) h)
end Go.Proofs.YtlpgdngcgbeegaaGreat.Gx
/- Package gimmallaw16: RsgArcs, RsgOrders. -/
namespace Go.Proofs.YtlpgdngcgbeegaaGreat.Gx
open Go
set_option linter.unusedSimpArgs false
set_option linter.unusedVariables false
theorem arr_plain {A : Nat -> Prop} {w : World} {e : Ty} {n : Nat} {f : e.den -> List Value} {Q : e.den -> Prop} {l : List e.den} {cs : List Value} (h : rep A w (.arr n e) l cs) (hp : ∀ x c, rep A w e x c -> c = f x /\ Q x) : l.length = n /\ cs = l.flatMap f /\ ∀ x ∈ l, Q x := by
 obtain ⟨hn, css, hl, hr, rfl⟩ := h
 have hi : ∀ (i : Nat) (hi : i < l.length), css[i]? = some (f l[i]) /\ Q l[i] := fun i hi => by
  have hc : css[i]? = some (css[i]'(by omega)) := List.getElem?_eq_getElem (by omega)
  obtain ⟨h1, h2⟩ := hp _ _ (hr i _ _ hc (List.getElem?_eq_getElem hi))
  exact ⟨by rw [hc, h1], h2⟩
 have hcs : css = l.map f := by
  apply List.ext_getElem?
  intro i
  by_cases h : i < l.length
  ·rw [(hi i h).1, List.getElem?_map, List.getElem?_eq_getElem h]; rfl
  ·rw [List.getElem?_eq_none (by omega), List.getElem?_eq_none (by rw [List.length_map]; omega)]
 refine ⟨hn, by rw [hcs, List.flatMap_def], fun x hx => ?_⟩
 obtain ⟨i, h, rfl⟩ := List.getElem_of_mem hx
 exact (hi i h).2
abbrev catOf (x : tyCat.den) : CatD := (x.1, x.2.flatten)
theorem rep_cat {A : Nat -> Prop} {w : World} {x : tyCat.den} {cs : List Value} (h : rep A w tyCat x cs) : ∃ v : CatV, cs = cxC v /\ CatM w v (catOf x) := by
 obtain ⟨c, d, rfl, h1, h2⟩ := h
 have h1 := rep_mono (B := fun _ => True) (fun _ _ => trivial) h1
 obtain ⟨s, rfl, _⟩ := id h1
 obtain ⟨k1, k2, k3⟩ := arr_plain (n := 4) (e := .arr 4 tyI) (f := fun r => r.map fun n => Value.int .i64 n) (Q := fun r => r.length = 4 /\ ∀ n ∈ r, -9223372036854775808 <= n /\ n <= 9223372036854775807) (l := x.2) h2 fun r c hr => by
  obtain ⟨g1, g2, g3⟩ := arr_plain (n := 4) (e := tyI) (f := fun n => [Value.int .i64 n]) (Q := fun n => -9223372036854775808 <= n /\ n <= 9223372036854775807) (l := r) hr fun n c hc => ⟨hc.1, hc.2.1, hc.2.2⟩
  refine ⟨by rw [g2, List.map_eq_flatMap], g1, g3⟩
 refine ⟨(s, d), rfl, h1, ?_, ?_, fun n hn => ?_⟩
 ·rw [k2]
  show List.flatMap _ x.2 = x.2.flatten.map _
  rw [List.map_flatten, List.flatMap_def]
 ·show x.2.flatten.length = 16
  rw [List.length_flatten]
  have : ∀ l : List (List Int), (∀ r ∈ l, r.length = 4) -> (l.map List.length).sum = l.length * 4 := fun l => by
   induction l with
   | nil => intro _; rfl
   | cons r l ih =>
    intro h
    rw [List.map_cons, List.sum_cons, ih fun q hq => h q (List.mem_cons_of_mem _ hq), h r (by simp), List.length_cons]; omega
  rw [this _ fun r hr => (k3 r hr).1]
  have k1 : x.2.length = 4 := k1
  omega
 ·obtain ⟨r, hr, hn⟩ := List.mem_flatten.1 hn
  exact (k3 r hr).2 n hn
theorem arr_eq {cs : Array Value} {l : List Value} (h : cs.toList = l) : cs = l.toArray := by rw [<- h]
theorem sortedN_ext : ∀ {xs ys : List Nat}, xs.Pairwise (· < ·) -> ys.Pairwise (· < ·) -> (∀ k, k ∈ xs ↔ k ∈ ys) -> xs = ys := fun {xs ys} h1 h2 h => by
 refine sorted_eq (key := fun n : Nat => (n : Int)) (h1.imp fun h => by omega) (h2.imp fun h => by omega) h
theorem rsgOrders (w : World) {x : tyCat.den} {cs : Array Value} (h0 : rep (fun _ => True) w tyCat x cs.toList) {l : List tyNd.den} {c1 : Value} (h1 : rep (fun _ => True) w (.sl tyNd) l [c1]) :
  CW Tryz.prog 9 #[.agg cs, c1] w fun v w' => v = .bool true /\ Ext w w' := by
 obtain ⟨v, e0, hC⟩ := rep_cat h0
 obtain ⟨t, hs, e1, hH⟩ := rep_hist h1
 simp only [List.cons.injEq, and_true] at e1
 subst e1
 rw [arr_eq e0]
 refine F9_ok v t w _ fun b1 w2 a2 => (c28 w2).use ?_
 rintro _ w4 ⟨rfl, e4⟩
 have e2 : Ext w w2 := a2.ch _
 have E4 := e2.trans e4
 refine ⟨true, rfl, IfB.no rfl ⟨v, cxN hC a2.new e4, (c29 (hC.ext E4) (hH.ext E4)).use ?_⟩⟩
 rintro _ w10 ⟨g, rfl, hg, e10⟩
 have x10 := e4.trans e10
 have E10 := E4.trans e10
 refine ⟨g, rfl, IfB.intro (fun _ => ⟨rfl, E10⟩) fun hg1 => ?_⟩
 obtain ⟨hS, hl⟩ := hg hg1
 refine ⟨v, cxN hC a2.new x10, (c33 (hC.ext E10) hS).use ?_⟩
 rintro _ w16 ⟨t17, rfl, ht17, e16⟩
 have x16 := x10.trans e16
 have E16 := E10.trans e16
 have hS16 := hS.ext e16
 refine ⟨t17, rfl, v, cxN hC a2.new x16, (c34 (hC.ext E16) hS16 (by omega)).use ?_⟩
 rintro _ w22 ⟨t23, rfl, hg1, hg2, e22⟩
 have x22 := x16.trans e22
 have E22 := E16.trans e22
 have hS22 := hS16.ext e22
 have ht23 : t23 = true ↔ GoodP (catOf x) hs := by
  constructor
  ·intro h
   have hM := hg1 h
   obtain ⟨ys, out, hA, hT, ho⟩ := hg2 hM
   exact ⟨hM, (told_iff hM hA hT).1 (ho.1 h)⟩
  ·rintro ⟨hM, hF⟩
   obtain ⟨ys, out, hA, hT, ho⟩ := hg2 hM
   exact ho.2 ((told_iff hM hA hT).2 hF)
 have hsame : t23 = t17 := by rw [Bool.eq_iff_iff, ht23, ht17]
 refine ⟨t23, rfl, IfB.no (by rw [hsame]; cases t17 <;> rfl) ?_⟩
 unfold F9k1
 refine ⟨v, cxN hC a2.new x22, (c31 (hC.ext E22) hS22).use ?_⟩
 rintro _ w28 ⟨m, rfl, hm, e28⟩
 have x28 := x22.trans e28
 have E28 := E22.trans e28
 have hS28 := hS22.ext e28
 have no : ∀ {b : Bool}, (!b) = false -> b = true := fun {b} h => by simpa using h
 refine ⟨m, rfl, IfB.intro (fun h2 => ?_) fun h2 => ?_⟩
 ·have hno : ¬ HMay (catOf x) hs := fun h' => by rw [hm.2 h'] at h2; cases h2
  refine ⟨v, cxN hC a2.new x28, (c37 (hC.ext E28) hS28 (by omega)).use ?_⟩
  rintro _ w34 ⟨s35, os, rfl, ho, hn, _, e34, _⟩
  have := hn hno
  subst this
  have hsn := ho.len
  have hsn : s35.n = 0 := by simpa using hsn.symm
  refine ⟨s35, rfl, IfB.yes (by rw [hsn]; rfl) ⟨v, cxN hC a2.new (x28.trans e34), (c38 (hC.ext (E28.trans e34)) (hS28.ext e34) (by omega)).use ?_⟩⟩
  rintro _ w40 ⟨s41, ys, os, rfl, hA, _, hmem, ho, e40, _⟩
  have hos : os = [] := by
   cases os with
   | nil => rfl
   | cons a os =>
    obtain ⟨_, h⟩ := (hmem a).1 (by simp)
    obtain ⟨c, ⟨k, hk⟩, _⟩ := h.last
    rw [hA.no hno] at hk; cases hk
  subst hos
  have hsn' := ho.len
  have hsn' : s41.n = 0 := by simpa using hsn'.symm
  refine ⟨s41, rfl, ?_, (E28.trans e34).trans e40⟩
  rw [hsn']; rfl
 have hM := hm.1 (no h2)
 have ed := extDrew w28
 refine ⟨v, cxN hC a2.new (x28.trans ed), v, cxN hC a2.new (x28.trans ed), (c38 (hC.ext (E28.trans ed)) (hS28.ext ed) (by omega)).use ?_⟩
 rintro _ w49 ⟨s50, ys, os, rfl, hA, hos, hmem, ho, e49, _⟩
 have E49 := (E28.trans ed).trans e49
 have x49 := (x28.trans ed).trans e49
 have hS49 := (hS28.ext ed).ext e49
 refine ⟨s50, rfl, cxN hC a2.new x49, (c39 (hC.ext E49) hS49 hM).use ?_⟩
 rintro _ w54 ⟨s55, ys', os', rfl, hA', hos', hmem', ho', e54⟩
 have hoo : os = os' := sortedN_ext hos hos' fun k => by
  rw [hmem, hmem']
  exact and_congr_right fun _ => ⟨TC.mono fun a b h => (hA.are hM a b).1 h, TC.mono fun a b h => (hA.are hM a b).2 h⟩
 subst hoo
 have r1 := (ho.ext e54).rd
 have r2 := ho'.rd
 rw [mapIv] at r1 r2
 have hol : os.length <= hs.length := by
  have := nodup_le (a := os) (b := List.range hs.length) (hos.imp fun h e => by omega) fun k hk => List.mem_range.2 ((hmem k).1 hk).1
  simpa using this
 refine ⟨s55, rfl, (c25 r1 r2 (by rw [List.length_map]; omega)).use ?_⟩
 rintro _ w57 ⟨rfl, e57⟩
 have x57 := (x49.trans e54).trans e57
 have E57 := (E49.trans e54).trans e57
 have hS57 := (hS49.ext e54).ext e57
 refine ⟨true, by rw [decide_eq_true rfl], IfB.no rfl (IfB.intro (fun h3 => ?_) fun h3 => ?_)⟩
 ·have hng : ¬ ∃ r, FairR (catOf x) hs r := fun h' => by rw [ht17.2 ⟨hM, h'⟩] at h3; cases h3
  refine ⟨v, cxN hC a2.new x57, (c37 (hC.ext E57) hS57 (by omega)).use ?_⟩
  rintro _ w63 ⟨s64, os2, rfl, ho2, _, hy, e63, _⟩
  obtain ⟨ys2, out, hA2, hT2, he⟩ := hy hM
  rw [if_neg fun h => hng ((told_iff hM hA2 hT2).1 h)] at he
  subst he
  have hsn := ho2.len
  have hsn : s64.n = 0 := by simpa using hsn.symm
  refine ⟨s64, rfl, ?_, E57.trans e63⟩
  rw [hsn]; rfl
 ·obtain ⟨_, r, hF⟩ := ht17.1 (no h3)
  have ed57 := extDrew w57
  refine ⟨v, cxN hC a2.new (x57.trans ed57), v, cxN hC a2.new (x57.trans ed57), (c37 (hC.ext (E57.trans ed57)) (hS57.ext ed57) (by omega)).use ?_⟩
  rintro _ w72 ⟨s73, os2, rfl, ho2, _, hy, e72, _⟩
  obtain ⟨ys2, out, hA2, hT2, he⟩ := hy hM
  rw [if_pos ((told_iff hM hA2 hT2).2 ⟨r, hF⟩)] at he
  subst he
  have E72 := (E57.trans ed57).trans e72
  refine ⟨s73, rfl, cxN hC a2.new ((x57.trans ed57).trans e72), (c40 (hC.ext E72) ((hS57.ext ed57).ext e72) hM hF).use ?_⟩
  rintro _ w77 ⟨s78, os3, rfl, hu, ho3, e77⟩
  have := hu ys2 os2 hA2 hT2
  subst this
  have r3 := (ho2.ext e77).rd
  have r4 := ho3.rd
  rw [mapIv] at r3 r4
  have hl3 := hT2.run.len
  refine ⟨s78, rfl, (c25 r3 r4 (by rw [List.length_map]; omega)).use ?_⟩
  rintro _ w80 ⟨rfl, e80⟩
  exact ⟨true, by rw [decide_eq_true rfl], rfl, (E72.trans e77).trans e80⟩
end Go.Proofs.YtlpgdngcgbeegaaGreat.Gx
/- gimmallaw16.RsgOrders returns true for all arguments, and leaves what was there as it was. No condition beyond the statement. -/
namespace Go.Proofs.YtlpgdngcgbeegaaGreat.rsgOrders
open Go.ChangeShapes Go.WideShapes Go.ChangeAt Go.RowKit
open Go.ChangeMaps (open_string shut_string)
set_option linter.unusedVariables false
theorem own : ownKnob Tryz.prog.godebug = none := by kernel_rfl
set_option maxRecDepth 100000 in
theorem lifted (os : Os) (started : os.Started) (H : Type) (enc : TypeId × Value -> H) :
  ReturnsInHanded {} Tryz.checked os 9 .any (Rows.rsgOrdersSpec.pre6 enc Tryz.prog Tryz.f9 Rows.rsgOrdersRow.domain false) (Rows.rsgOrdersSpec.post enc Tryz.prog Tryz.f9 false true false false) := by
 refine returnsInHanded_of_change (C := Tryz.checked) own started (by kernel_rfl) Tryz.func9
  (ChangeSpec.witness6 (enc := enc) (C := Tryz.checked) false ⟨#[], #[.agg #[.slice none 0 0, .int .i64 0, .int .i64 0, .int .i64 0, .int .i64 0, .int .i64 0, .int .i64 0, .int .i64 0, .int .i64 0, .int .i64 0, .int .i64 0, .int .i64 0, .int .i64 0, .int .i64 0, .int .i64 0, .int .i64 0, .int .i64 0], .slice none 0 0], []⟩ 8 (by kernel_rfl) (by kernel_rfl) (by kernel_rfl) (by kernel_rfl)) ?_
 intro W base args ds gs before hval0 hW hcnd _
 have hval : ∀ (j : Nat) t v, Tryz.f9.params[j]? = some t -> args[j]? = some v -> Value.okWide Tryz.prog W .any base t v := hval0
 have hW' := hW
 have hlt := hW.lt
 obtain ⟨p, q, hA0, hV, rfl, hfz, hnd⟩ := hW
 have hA : DataW.TrodAll enc Tryz.prog W 0 (fun _ => true) true Tryz.f9.params.toList args.toList ds p := hA0
 have hpar : Tryz.f9.params = #[26, 39] := rfl
 rw [hpar] at hA hval
 obtain ⟨v0, vs0, d0, ds0, p0, q0, hargs, rfl, rfl, h0, r0⟩ := trodAll_cons hA
 obtain ⟨v1, vs1, d1, ds1, p1, q1, rfl, rfl, rfl, h1, r1⟩ := trodAll_cons r0
 obtain ⟨rfl, rfl, rfl⟩ := trodAll_nil r1
 obtain rfl : args = #[v0, v1] := by cases args; simp_all
 obtain ⟨rfl, rfl⟩ := trodVars_none hV
 clear hA0 hval0
 obtain ⟨x0, e0⟩ := Gx.open_arg (d := 12) (ty := (.pair (.sl (.pair .str (.pair (.int .i64) (.pair (.sl (.pair (.sl (.pair (.int .i64) (.pair (.int .i64) (.pair (.int .i64) (.pair (.int .i64) (.pair (.pair (.int .i64) (.int .i64)) (.pair (.pair (.int .i64) (.int .i64)) (.int .i64)))))))) (.sl (.pair (.pair (.int .i64) (.int .i64)) (.pair (.pair (.int .i64) (.int .i64)) .bool))))) (.pair (.sl (.pair (.sl (.pair (.int .i64) (.pair (.int .i64) (.pair (.int .i64) (.pair (.int .i64) (.pair (.pair (.int .i64) (.int .i64)) (.pair (.pair (.int .i64) (.int .i64)) (.int .i64)))))))) (.sl (.pair (.pair (.int .i64) (.int .i64)) (.pair (.pair (.int .i64) (.int .i64)) .bool))))) .bool))))) (.arr 4 (.arr 4 (.int .i64))))) (by kernel_rfl) h0
 have f0 : v0 = .agg v0.cells := Gx.val_agg (hval 0 26 v0 rfl rfl) (.inl ⟨_, Tryz.underlying26⟩)
 obtain ⟨x1, e1⟩ := Gx.open_arg (d := 12) (ty := (.sl (.pair (.int .i64) (.pair (.int .i64) (.pair (.int .i64) (.pair .bool (.pair (.sl (.pair (.int .i64) (.int .i64))) (.sl (.pair (.int .i64) (.int .i64)))))))))) (by kernel_rfl) h1
 obtain ⟨c1, g1⟩ : ∃ c, v1.cells.toList = [c] := List.length_eq_one_iff.1 (Gx.rep_len e1)
 have f1 : v1 = c1 := Gx.val_of_cells (hval 1 39 v1 rfl rfl) (fun fs n e => by rw [Tryz.underlying39]; exact ⟨by simp, by simp⟩) g1
 rw [g1] at e1
 have call : Calls Tryz.prog 9 #[v0, v1] W fun e w' => e = .returned (.bool true) /\ Below W.heap.size W w' := by
  rw [f0, f1]
  refine (Gx.rsgOrders W e0 e1).calls.mono ?_
  rintro e w' ⟨v, rfl, rfl, hx⟩
  exact ⟨rfl, hx.below⟩
 refine call.mono fun e W' ⟨he, hg⟩ => ?_
 subst he
 have b1 : ∀ sp : Nat -> Bool, (∀ x ∈ p1, sp x.block = true) -> DataW.Trod enc Tryz.prog W' 0 sp true 39 v1 d1 p1 := fun sp hsp => Gx.trod_keep (by kernel_rfl) (by kernel_rfl) (by decide +kernel) h1 hg (fun x hx => hlt x (by simp [hx])) hsp
 have b0 : ∀ sp : Nat -> Bool, (∀ x ∈ p0, sp x.block = true) -> DataW.Trod enc Tryz.prog W' 0 sp true 26 v0 d0 p0 := fun sp hsp => Gx.trod_keep (by kernel_rfl) (by kernel_rfl) (by decide +kernel) h0 hg (fun x hx => hlt x (by simp [hx])) hsp
 exact ⟨_, rfl, Gx.post_of_below (pa := (p0 ++ (p1 ++ []))) (pv := []) hW' hg (fun _ _ _ => (trodAll_cons_mk (shut_bool Tryz.underlying4 _) trodAll_mk0)) (fun sp hsp => by rw [hpar]; exact (trodAll_cons_mk (b0 sp fun x hx => hsp x (by simp [hx])) (trodAll_cons_mk (b1 sp fun x hx => hsp x (by simp [hx])) trodAll_mk0))) (fun _ _ => rfl) (by simp)
  (ok_one (by kernel_rfl) rfl (okWide_bool_mk Tryz.underlying4 _))⟩
set_option maxRecDepth 100000
theorem ft1 : (laidOutB Tryz.checked.prog && mapsRowed Tryz.checked.prog) = true := by kernel_rfl
theorem ft2 : (Rows.rsgOrdersRow.inPlace == Tryz.checked.prog.inPlace 9) = true := by kernel_rfl
theorem ft3 : (Rows.rsgOrdersRow.unfollowed == Tryz.checked.prog.unfollowed 9) = true := by kernel_rfl
theorem ft4 : (Rows.rsgOrdersRow.named == Tryz.checked.prog.varsNamed 9) = true := by kernel_rfl
theorem ft6 : ((Tryz.checked.prog.stops == []) && (Tryz.checked.prog.stopKnobs == [])) = true := by kernel_rfl
theorem ft7 : (Rows.rsgOrdersRow.plainKeys == Tryz.checked.prog.plainKeys) = true := by kernel_rfl
theorem ft8 : Tryz.checked.prog.stopsHeard = true := by kernel_rfl
theorem ft9 : (Tryz.checked.prog.mayEnter && ((Rows.rsgOrdersRow.lifted == Tryz.checked.prog.liftsFinal) && (Tryz.checked.prog.make == some Rows.rsgOrdersRow.make))) = true := by kernel_rfl
theorem ft5 : (Rows.rsgOrdersRow.recurses == Tryz.checked.prog.recurses 9) = true := by
 have h : Tryz.checked.prog.unfollowed 9 = true := by have := ft3; rw [beq_iff_eq] at this; exact this.symm
 unfold Program.recurses; rw [h]; rfl
theorem facts : joinedFacts Tryz.checked.prog 9 Tryz.f9 Rows.rsgOrdersSpec Rows.rsgOrdersRow = true := by
 obtain ⟨h1, h2⟩ := Bool.and_eq_true_iff.1 ft1
 obtain ⟨h3, h4⟩ := Bool.and_eq_true_iff.1 ft6
 obtain ⟨h5, h6⟩ := Bool.and_eq_true_iff.1 ft9
 obtain ⟨h7, h8⟩ := Bool.and_eq_true_iff.1 h6
 unfold joinedFacts
 rw [h1, h2, ft2, ft3, ft4, ft5, h3, h4, ft7, ft8, h5, h7, h8]
 kernel_rfl
theorem over : Rows.rsgOrdersRow.holds Tryz.pinned (OpenSpec.ofChange Rows.rsgOrdersSpec) :=
 OpenClaim.holds_of_wide 9 Tryz.f9 rfl rfl rfl rfl rfl rfl rfl ⟨rfl, rfl, rfl, rfl, rfl⟩ rfl rfl rfl rfl rfl (by kernel_rfl) Tryz.func9 facts
  (of_decide_eq_true (by kernel_rfl)) (by unfold Func.isWrapper; first | (rw [if_pos (by decide +kernel)]; kernel_rfl) | (rw [if_neg (by decide +kernel)]; exact ⟨rfl, rfl⟩))
  (fun os started H enc _ => lifted os started H enc)
/-- The statement. -/
theorem proved : Rows.RsgOrdersSaid :=
 over
#print axioms proved
end Go.Proofs.YtlpgdngcgbeegaaGreat.rsgOrders
