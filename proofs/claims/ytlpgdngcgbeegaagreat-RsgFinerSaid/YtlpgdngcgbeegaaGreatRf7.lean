/- gimmallaw16.RsgFiner returns true for all arguments, and leaves what was there as it was. No condition beyond the statement. -/
/- Merged by pack.py: RefG, RefH, IntE, GxOP, RsgK, GxOQ, CloN, OrdN, RsgI, RsgL, RgFiner. -/
import Derived.Test.YtlpgdngcgbeegaaGreatRf1
import Derived.Test.YtlpgdngcgbeegaaGreatRf2
import Derived.Test.YtlpgdngcgbeegaaGreatRf3
import Derived.Test.YtlpgdngcgbeegaaGreatRf4
import Derived.Test.YtlpgdngcgbeegaaGreatRf5
import Derived.Test.YtlpgdngcgbeegaaGreatRf6
import Derived.Test.YtlpgdngcgbeegaaGreatRows
import Derived.WalkKit
import Derived.ProofKit
import Derived.OpenShut
import Derived.ShutString
import Derived.Below
import Derived.Carry
/- The document's ways, cycle, good, order (gimmalref16). -/
namespace Go.Proofs.YtlpgdngcgbeegaaGreat.Gx
open Go
set_option linter.unusedSimpArgs false
set_option linter.unusedVariables false
/-- Stages of the three loops: what is there lies between. -/
structure FwE (E : Nat -> Nat -> Prop) (n m i k : Nat) (rows : List MxR) : Prop where
 lo : ∀ a b, Fw E m a b -> gM rows a b = true
 hi : ∀ a b, gM rows a b = true -> TC E a b
 done : ∀ a b, b < n -> (a < i \/ (a = i /\ b < k)) -> Fw E (m + 1) a b -> gM rows a b = true
theorem FwE.next {E : Nat -> Nat -> Prop} {n m i k : Nat} {rows rows' : List MxR} (h : FwE E n m i k rows) (hle : ∀ a b, gM rows a b = true -> gM rows' a b = true) (hup : ∀ a b, gM rows' a b = true -> TC E a b)
  (hik : Fw E (m + 1) i k -> gM rows' i k = true) : FwE E n m i (k + 1) rows' :=
 ⟨fun a b hab => hle a b (h.lo a b hab), hup, fun a b hb hab hF => by
  by_cases he : a = i /\ b = k
  ·obtain ⟨rfl, rfl⟩ := he; exact hik hF
  ·exact hle a b (h.done a b hb (by omega) hF)⟩
theorem FwE.row {E : Nat -> Nat -> Prop} {n m i : Nat} {rows : List MxR} (h : FwE E n m i n rows) : FwE E n m (i + 1) 0 rows :=
 ⟨h.lo, h.hi, fun a b hb hab hF => h.done a b hb (by omega) hF⟩
theorem tc_lt {E : Nat -> Nat -> Prop} {n : Nat} (hE : ∀ a b, E a b -> a < n /\ b < n) {a b : Nat} (h : TC E a b) : a < n /\ b < n := by
 induction h with
 | one e => exact hE _ _ e
 | more _ e ih => exact ⟨ih.1, (hE _ _ e).2⟩
theorem FwE.stage {E : Nat -> Nat -> Prop} {n m : Nat} {rows : List MxR} (hE : ∀ a b, E a b -> a < n /\ b < n) (h : FwE E n m n 0 rows) : FwE E n (m + 1) 0 0 rows :=
 ⟨fun a b hab => h.done a b (tc_lt hE (Fw_tc hab)).2 (.inl (tc_lt hE (Fw_tc hab)).1) hab, h.hi, fun a b _ hab => by omega⟩
theorem c100 {w : World} {v : CatV} {x : CatD} {t : Sl} {hs : List Nd} (h : CatM w v x) (hH : Hst w t hs) (hY : HMay x hs) :
  CW Tryz.prog 100 #[cxV v, slV t] w fun r w' => ∃ t' rows ys, r = slV t' /\ ArcsP x hs ys /\ Sqr hs.length rows /\ (∀ i k, gM rows i k = true ↔ TC (ArcE x hs) i k) /\ Mx w' w.heap.size t' rows /\ Ext w w' := by
 have hn := hH.n
 have hl100 := hY.len
 refine F100_ok v t w _ fun b1 w2 a2 => ⟨⟨by omega, by omega, by omega, by omega⟩, fun b3 w4 a4 => ?_⟩
 have e2 : Ext w w2 := a2.ch _
 have e4 : Ext w2 w4 := a4.ch _
 have p2 := a2.here; have z2 := a2.size; have p4 := a4.here; have z4 := a4.size
 rw [Int.toNat_natCast, zc_all (v := Value.slice none 0 0) (by intro x hx; simpa using hx), hn] at a4
 obtain ⟨ts, hts⟩ : ∃ ts : Sl, ts = ⟨some ⟨b3, 0, none⟩, hs.length, hs.length⟩ := ⟨_, rfl⟩
 have hM0 : Mx w4 w.heap.size ts (List.replicate hs.length (⟨none, 0, 0⟩, [])) := by
  have hmem : ∀ r ∈ List.replicate hs.length ((⟨none, 0, 0⟩, []) : MxR), r = (⟨none, 0, 0⟩, []) := fun r hr => (List.mem_replicate.1 hr).2
  refine ⟨?_, fun r hr => ?_, fun r hr => ?_, fun a b r s _ hr _ => ?_, fun j hj => ?_, fun r hr => ?_⟩
  ·rw [hts]
   refine OwS.new (w := w2) (T := 70) ?_ (by simp)
   rw [List.map_replicate]
   simpa using a4
  ·rw [hmem r hr]; exact .nil _ _
  ·rw [hmem r hr]; simp [blk]
  ·rw [hmem r (List.mem_of_getElem? hr)]; simp [blk]
  ·rw [hts] at hj; simp [blk] at hj; omega
  ·rw [hmem r hr]; simp [blk]
 have hslot : ∀ {i : Nat}, i < hs.length -> (0 : Int) <= (i : Int) /\ (i : Int) < ((((t.2 : Int)).toNat : Nat) : Int) := fun {i} h => ⟨by omega, by omega⟩
 have w1 : ∀ {i : Nat}, i < hs.length -> IntKind.i64.wrap ((i : Int) + 1) = ((i + 1 : Nat) : Int) := fun {i} h => by rw [wrap_of (by omega) (by omega)]; rfl
 have hb1 : ts.p = some ⟨b3, 0, none⟩ := by rw [hts]
 have slot : ∀ {W : World} {rows : List MxR} {i : Nat} {r : MxR}, Mx W w.heap.size ts rows -> rows[i]? = some r -> W.cell? ⟨b3, 0 + (i : Int).toNat, none⟩ = some (slV r.1) := fun {W rows i r} hM hr => by
  obtain ⟨b, hp, hc⟩ := hM.slot hr
  rw [hb1] at hp; cases hp
  rw [Int.toNat_natCast, Nat.zero_add]; exact hc
 refine ⟨fun m z W => ∃ (i : Nat) (rows : List MxR), i <= hs.length /\ m + i = hs.length /\ z = (i : Int) /\ rows.length = hs.length /\ (∀ a r, rows[a]? = some r -> r.2.length = if a < i then hs.length else 0) /\ (∀ a b, gM rows a b = false) /\ Mx W w.heap.size ts rows /\ Ext w2 W,
  ⟨hs.length, 0, List.replicate hs.length (⟨none, 0, 0⟩, []), Nat.zero_le _, rfl, rfl, by simp, fun a r hr => ?_, fun a b => ?_, hM0, e4⟩, ?_⟩
 ·rw [(List.mem_replicate.1 (List.mem_of_getElem? hr)).2]; rfl
 ·unfold gM
  rw [List.getElem?_replicate]
  split
  ·rename_i r hr
   split at hr
   ·cases hr; simp
   ·cases hr
  ·rfl
 rintro m _ W g ⟨i, rows, hi, hmi, rfl, hrl, hrw, hg, hM, hE⟩
 unfold F100j1
 have zE := (e2.trans hE).size
 refine IfB.dec (fun hlt => ?_) fun hge => ?_
 ·have hi' : i < hs.length := by omega
  refine ⟨⟨by omega, by omega, by omega, by omega⟩, fun b12 w13 a12 => ?_⟩
  have p12 := a12.here; have z12 := a12.size
  have e12 : Ext W w13 := a12.ch _
  rw [Int.toNat_natCast, zc_all (v := Value.bool false) (by intro x hx; simpa using hx), hn] at a12
  have hrow : OwS w13 ⟨some ⟨b12, 0, none⟩, hs.length, hs.length⟩ 1 (bvs (List.replicate hs.length false)) := by
   refine OwS.new (w := W) (T := 4) ?_ (by simp)
   rw [show bvs (List.replicate hs.length false) = List.replicate hs.length (Value.bool false) from List.map_replicate]
   simpa using a12
  refine ⟨b3, 0, rfl, hslot hi', rfl, ?_⟩
  rw [Int.toNat_natCast, Int.toNat_natCast, hn]
  have hM13 := hM.ext e12
  have hbk : ∀ j ∈ blk (⟨some ⟨b12, 0, none⟩, hs.length, hs.length⟩ : Sl), j = b12 := fun j hj => by simpa [blk] using hj
  refine hM13.row' (by omega) hrow (fun j hj => by have := hbk j hj; omega) (fun j hj h => by have := hbk j hj; have := hM.own.lt j h; omega) (fun r hr j hj h => by have := hbk j hj; have := (hM.row r hr).lt j h; omega) hb1 fun w16 hM16 hC16 => ?_
  refine ⟨rfl, m - 1, by omega, i + 1, _, hi', by omega, w1 hi', by rw [List.length_set]; exact hrl, fun a r hr => ?_, fun a b => ?_, hM16, (hE.trans e12).chN hC16 fun j e => by omega⟩
  ·rw [List.getElem?_set] at hr
   by_cases hia : i = a
   ·subst hia
    rw [if_pos rfl, if_pos (by omega)] at hr
    cases hr
    rw [if_pos (by omega)]; exact List.length_replicate
   ·rw [if_neg hia] at hr
    rw [hrw a r hr]
    by_cases h : a < i
    ·rw [if_pos h, if_pos (by omega)]
    ·rw [if_neg h, if_neg (by omega)]
  ·rw [gM_row (by omega)]
   split
   ·rfl
   ·exact hg a b
 ·have hi' : i = hs.length := by omega
  subst hi'
  have hsq : Sqr hs.length rows := ⟨hrl, fun r hr => by
   obtain ⟨a, ha, e⟩ := List.getElem_of_mem hr
   have := hrw a r (by rw [List.getElem?_eq_getElem ha, e])
   rwa [if_pos (by omega)] at this⟩
  refine ⟨v, cxN h a2.new hE, (c32 (h.ext (e2.trans hE)) (hH.ext (e2.trans hE)) hY).use ?_⟩
  rintro _ w22 ⟨s23, ys, rfl, hA, ho, hyl, e22, hbs⟩
  have hsn := owsN aC_len (by omega) ho
  have E22 : Ext w w22 := (e2.trans hE).trans e22
  have z22 := E22.size
  have hold : ∀ r ∈ rows, ∀ j ∈ blk r.1, j < W.heap.size := fun r hr j hj => (hM.row r hr).lt j hj
  refine ⟨s23, rfl, fun m z V => ∃ (q : Nat) (rows : List MxR), q <= ys.length /\ m + q = ys.length /\ z = (q : Int) /\ Sqr hs.length rows /\ (∀ a b, gM rows a b = true ↔ ArE (ys.take q) a b) /\ (∀ r ∈ rows, ∀ j ∈ blk r.1, j < W.heap.size) /\ Mx V w.heap.size ts rows /\ Ch (fun j => w.heap.size <= j /\ j < W.heap.size) w22 V,
   ⟨ys.length, 0, rows, Nat.zero_le _, rfl, rfl, hsq, fun a b => ⟨fun h => (by rw [hg] at h; cases h), fun ⟨c, h⟩ => (by simp at h)⟩, hold, hM.ext e22, Ch.refl _ _⟩, ?_⟩
  rintro m _ V g ⟨q, rows2, hq, hmq, rfl, hsq2, hg2, hold2, hM2, hC2⟩
  have hE2 : Ext w V := E22.chN hC2 fun j hj => hj.1
  unfold F100j2
  refine IfB.dec (fun hlt => ?_) fun hge => ?_
  ·have hq' : q < ys.length := by omega
   have hx : ys[q]? = some ys[q] := List.getElem?_eq_getElem hq'
   have hxm : ys[q] ∈ ys := List.getElem_mem hq'
   have htk := take_succ_get hx
   generalize ys[q] = e at hx hxm htk
   obtain ⟨a, b, h1, h2, ha, hb, _⟩ := arc_of hY hA hxm
   obtain ⟨e1, f1, c⟩ := e
   dsimp only at h1 h2
   subst h1; subst h2
   have ed := extDrew V
   have hMd := hM2.ext ed
   have hRd := (ho.rd.ch hC2 fun j hj hF => by have := hbs j hj; omega).ext ed
   obtain ⟨pb, po, hpp, hcc⟩ := hRd.elem (i := q) (by omega) (by omega) (flatGet aC_len hx)
   obtain ⟨ra, hra, hral, hram⟩ := hsq2.at ha
   obtain ⟨bb, hpb, _⟩ := hMd.cell hram (gM_get hra (k := b) (by omega))
   have hrn := hMd.rn hram
   have hbq : (0 : Int) <= (q : Int) /\ (q : Int) < (s23.n : Int) := ⟨by omega, hlt⟩
   refine ⟨pb, po, hpp, hbq, (a : Int), by rw [Int.toNat_natCast]; exact hcc 0 _ rfl, b3, 0, rfl, hslot ha, ra.1, slot hMd hra, pb, po, hpp, hbq, (b : Int), by rw [Int.toNat_natCast]; exact hcc 1 _ rfl, bb, 0, hpb, ⟨by omega, by omega⟩, rfl, ?_⟩
   rw [Int.toNat_natCast]
   refine hMd.put hra (by omega) hpb fun w' hM' hC' => ⟨rfl, m - 1, by omega, q + 1, _, hq', by omega, by rw [wrap_of (by omega) (by omega)]; rfl, hsq2.set hra _, fun i k => ?_, fun r hr j hj => ?_, hM', (hC2.trans (ed.mono fun _ _ h => h.elim)).trans (hC'.mono fun j _ e => ⟨hMd.rnew ra hram j (by simp [blk, hpb, e]), hold2 ra hram j (by simp [blk, hpb, e])⟩)⟩
   ·rw [gM_set hra (by omega), htk]
    unfold ArE at hg2 ⊢
    constructor
    ·intro h
     split at h
     ·rename_i hab
      obtain ⟨rfl, rfl⟩ := hab
      exact ⟨c, by simp⟩
     ·obtain ⟨c', hc'⟩ := (hg2 i k).1 h
      exact ⟨c', List.mem_append.2 (.inl hc')⟩
    ·rintro ⟨c', hc'⟩
     split
     ·rfl
     ·rename_i hab
      rcases List.mem_append.1 hc' with h' | h'
      ·exact (hg2 i k).2 ⟨c', h'⟩
      ·have := List.mem_singleton.1 h'
       simp only [Prod.mk.injEq] at this
       exact absurd ⟨by omega, by omega⟩ hab
   ·rcases mem_set hr with rfl | ⟨a', _, ha'⟩
    ·exact hold2 ra hram j hj
    ·exact hold2 r (List.mem_of_getElem? ha') j hj
  ·have hq' : q = ys.length := by omega
   subst hq'
   rw [List.take_length] at hg2
   have hEE : ∀ a b, ArcE x hs a b -> a < hs.length /\ b < hs.length := fun a b h => h.lt
   have hF0 : FwE (ArcE x hs) hs.length 0 0 0 rows2 := ⟨fun a b h => (hg2 a b).2 ((hA.are hY a b).2 h), fun a b h => .one ((hA.are hY a b).1 ((hg2 a b).1 h)), fun a b _ hab => by omega⟩
   refine ⟨fun n z W' => ∃ (m : Nat) (rows : List MxR), m <= hs.length /\ n + m = hs.length /\ z = (m : Int) /\ Sqr hs.length rows /\ FwE (ArcE x hs) hs.length m 0 0 rows /\ Mx W' w.heap.size ts rows /\ Ext w W', ⟨hs.length, 0, rows2, Nat.zero_le _, rfl, rfl, hsq2, hF0, hM2, hE2⟩, ?_⟩
   rintro n _ w53 g ⟨m, rows3, hm, hnm, rfl, hsq3, hF3, hM3, hE3⟩
   unfold F100j3
   have hst : ∀ {i : Nat}, i < hs.length -> (0 : Int) <= (i : Int) /\ (i : Int) < (t.n : Int) := fun {i} h => ⟨by omega, by omega⟩
   refine IfB.dec (fun hlt => ?_) fun hge => ?_
   ·have hm' : m < hs.length := by omega
    refine ⟨fun q z W' => ∃ (i : Nat) (rows : List MxR), i <= hs.length /\ q + i = hs.length /\ z = (i : Int) /\ Sqr hs.length rows /\ FwE (ArcE x hs) hs.length m i 0 rows /\ Mx W' w.heap.size ts rows /\ Ext w W', ⟨hs.length, 0, rows3, Nat.zero_le _, rfl, rfl, hsq3, hF3, hM3, hE3⟩, ?_⟩
    rintro q _ w60 g ⟨i, rows4, hi, hqi, rfl, hsq4, hF4, hM4, hE4⟩
    refine IfB.dec (fun hlt2 => ?_) fun hge2 => ?_
    ·have hi' : i < hs.length := by omega
     refine ⟨fun s z W' => ∃ (k : Nat) (rows : List MxR), k <= hs.length /\ s + k = hs.length /\ z = (k : Int) /\ Sqr hs.length rows /\ FwE (ArcE x hs) hs.length m i k rows /\ Mx W' w.heap.size ts rows /\ Ext w W', ⟨hs.length, 0, rows4, Nat.zero_le _, rfl, rfl, hsq4, hF4, hM4, hE4⟩, ?_⟩
     rintro s _ w67 g ⟨k, rows5, hk, hsk, rfl, hsq5, hF5, hM5, hE5⟩
     unfold F100j5
     refine IfB.dec (fun hlt3 => ?_) fun hge3 => ?_
     ·have hk' : k < hs.length := by omega
      obtain ⟨ri, hri, hril, hrim⟩ := hsq5.at hi'
      obtain ⟨rm, hrm, hrml, hrmm⟩ := hsq5.at hm'
      have hin := hM5.rn hrim
      have hmn := hM5.rn hrmm
      obtain ⟨c1, hp1, hc1⟩ := hM5.cell hrim (gM_get hri (k := m) (by omega))
      obtain ⟨c2, hp2, hc2⟩ := hM5.cell hrmm (gM_get hrm (k := k) (by omega))
      have stay : (Fw (ArcE x hs) (m + 1) i k -> gM rows5 i k = true) -> ∃ b90, b90 < s /\ ∃ (k' : Nat) (rows : List MxR), k' <= hs.length /\ b90 + k' = hs.length /\ IntKind.i64.wrap ((k : Int) + 1) = (k' : Int) /\ Sqr hs.length rows /\ FwE (ArcE x hs) hs.length m i k' rows /\ Mx w67 w.heap.size ts rows /\ Ext w w67 := fun h =>
       ⟨s - 1, by omega, k + 1, rows5, hk', by omega, w1 hk', hsq5, hF5.next (fun _ _ h => h) hF5.hi h, hM5, hE5⟩
      refine ⟨b3, 0, rfl, hslot hi', ri.1, slot hM5 hri, c1, 0, hp1, ⟨by omega, by show (m : Int) < (ri.1.n : Int); omega⟩, gM rows5 i m, by rw [Int.toNat_natCast, Nat.zero_add]; exact hc1, IfB.intro (fun h1 => ?_) fun h1 => ⟨rfl, stay fun hF => ?_⟩⟩
      ·refine ⟨b3, 0, rfl, hslot hm', rm.1, slot hM5 hrm, c2, 0, hp2, ⟨by omega, by show (k : Int) < (rm.1.n : Int); omega⟩, gM rows5 m k, by rw [Int.toNat_natCast, Nat.zero_add]; exact hc2, IfB.intro (fun h2 => ?_) fun h2 => ⟨rfl, stay fun hF => ?_⟩⟩
       ·refine ⟨b3, 0, rfl, hslot hi', ri.1, slot hM5 hri, c1, 0, hp1, ⟨by omega, by show (k : Int) < (ri.1.n : Int); omega⟩, rfl, ?_⟩
        rw [Int.toNat_natCast]
        have hup := (hF5.hi _ _ h1).trans (hF5.hi _ _ h2)
        have hset := gM_set hri (k := k) (by omega) true
        refine hM5.put hri (by omega) hp1 fun w' hM' hC' => ⟨rfl, s - 1, by omega, k + 1, _, hk', by omega, w1 hk', hsq5.set hri _, hF5.next (fun a b h => ?_) (fun a b h => ?_) (fun _ => ?_), hM', hE5.chN hC' fun j e => hM5.rnew ri hrim j (by simp [blk, hp1, e])⟩
        ·rw [hset]; split
         ·rfl
         ·exact h
        ·rw [hset] at h
         split at h
         ·rename_i hab; rw [hab.1, hab.2]; exact hup
         ·exact hF5.hi a b h
        ·rw [hset, if_pos ⟨rfl, rfl⟩]
       ·rcases hF with hF | hF
        ·exact hF5.lo _ _ hF
        ·rw [hF5.lo _ _ hF.2] at h2; cases h2
      ·rcases hF with hF | hF
       ·exact hF5.lo _ _ hF
       ·rw [hF5.lo _ _ hF.1] at h1; cases h1
     ·have hk' : k = hs.length := by omega
      subst hk'
      exact ⟨rfl, q - 1, by omega, i + 1, rows5, hi', by omega, w1 hi', hsq5, hF5.row, hM5, hE5⟩
    ·have hi' : i = hs.length := by omega
     subst hi'
     exact ⟨rfl, n - 1, by omega, m + 1, rows4, hm', by omega, w1 hm', hsq4, hF4.stage hEE, hM4, hE4⟩
   ·have hm' : m = hs.length := by omega
    subst hm'
    refine ⟨ts, rows3, ys, ?_, hA, hsq3, fun a b => ⟨hF3.hi a b, fun h => hF3.lo a b ((Fw_iff fun a b h => (hEE a b h).2).2 h)⟩, hM3, hE3⟩
    rw [hts, Int.toNat_natCast, hn]
theorem c39 {w : World} {v : CatV} {x : CatD} {t : Sl} {hs : List Nd} (h : CatM w v x) (hH : Hst w t hs) (hY : HMay x hs) :
  CW Tryz.prog 39 #[cxV v, slV t] w fun r w' => ∃ (t' : Sl) (ys : List ArcD) (os : List Nat), r = slV t' /\ ArcsP x hs ys /\ os.Pairwise (· < ·) /\ (∀ i, i ∈ os ↔ i < hs.length /\ TC (ArcE x hs) i i) /\ OwS w' t' 1 (os.map fun k : Nat => iv (k : Int)) /\ Ext w w' := by
 have htn := hH.n
 have hl100 := hY.len
 refine F39_ok v t w _ fun b1 w2 a2 => ?_
 have e2 : Ext w w2 := a2.ch _
 refine ⟨v, cxN h a2.new (Ch.refl _ _), (c100 (h.ext e2) (hH.ext e2) hY).use ?_⟩
 rintro _ w7 ⟨s8, rows, ys, rfl, hA, hsq, hg, hMx, e7⟩
 have E7 := e2.trans e7
 have hsn := hMx.n
 have hsq1 := hsq.1
 refine ⟨s8, rfl, fun m z W => ∃ (i : Nat) (os : List Nat) (so : Sl), i <= hs.length /\ m + i = hs.length /\ z = (so, (i : Int)) /\ os.Pairwise (· < ·) /\ (∀ k, k ∈ os ↔ k < i /\ TC (ArcE x hs) k k) /\ OwS W so 1 (os.map fun k : Nat => iv (k : Int)) /\ (∀ j ∈ blk so, w7.heap.size <= j) /\ Ext w7 W,
  ⟨hs.length, 0, [], ⟨none, 0, 0⟩, Nat.zero_le _, rfl, rfl, .nil, by simp, .nil _ _, by simp [blk], Ch.refl _ _⟩, ?_⟩
 rintro m _ W g ⟨i, os, so, hi, hm, rfl, hsr, hmem, hos, hbk, eW⟩
 unfold F39j1
 have hosn := hos.len
 rw [List.length_map, Nat.mul_one] at hosn
 have hol : os.length <= i := by
  have := nodup_le (a := os) (b := List.range i) (hsr.imp fun h e => by omega) fun k hk => List.mem_range.2 ((hmem k).1 hk).1
  simpa using this
 refine IfB.dec (fun hlt => ?_) fun hge => ?_
 ·dsimp only at hlt
  have hi' : i < hs.length := by omega
  have hw : IntKind.i64.wrap ((i : Int) + 1) = ((i + 1 : Nat) : Int) := by rw [wrap_of (by omega) (by omega)]; rfl
  obtain ⟨ra, hra, hral, hram⟩ := hsq.at hi'
  have hMd := hMx.ext eW
  obtain ⟨b1', hp1, hc1⟩ := hMd.slot hra
  obtain ⟨b2', hp2, hc2⟩ := hMd.cell hram (gM_get hra (k := i) (by omega))
  have hrn := hMd.rn hram
  have up : ∀ {os' : List Nat}, (∀ k, k ∈ os' ↔ k ∈ os \/ (k = i /\ gM rows i i = true)) -> ∀ k, k ∈ os' ↔ k < i + 1 /\ TC (ArcE x hs) k k := fun h k => by
   rw [h, hmem]
   constructor
   ·rintro (⟨h1, h2⟩ | ⟨rfl, h2⟩)
    ·exact ⟨by omega, h2⟩
    ·exact ⟨by omega, (hg k k).1 h2⟩
   ·rintro ⟨h1, h2⟩
    rcases Nat.lt_or_ge k i with h' | h'
    ·exact .inl ⟨h', h2⟩
    ·have : k = i := by omega
     subst this
     exact .inr ⟨rfl, (hg k k).2 h2⟩
  refine ⟨b1', 0, hp1, ⟨by dsimp only; omega, by dsimp only; omega⟩, ra.1, by dsimp only; rw [Int.toNat_natCast, Nat.zero_add]; exact hc1, b2', 0, hp2, ⟨by dsimp only; omega, by dsimp only; omega⟩, gM rows i i, by dsimp only; rw [Int.toNat_natCast, Nat.zero_add]; exact hc2, IfB.intro (fun hin => ⟨by decide, fun b22 w23 a23 => ?_⟩) fun hin => ⟨rfl, m - 1, by omega, i + 1, os, so, hi', by omega, by dsimp only; rw [hw], hsr, up fun k => ?_, hos, hbk, eW⟩⟩
  ·have e23 : Ext W w23 := a23.ch _
   have z23 := a23.size; have p23 := a23.here; have zW := eW.size
   refine (hos.ext e23).lit (new := [iv (i : Int)]) a23.new rfl (by intro v hv; rw [List.mem_singleton.1 hv]; rfl) rfl rfl (by omega) (by decide) fun s25 w26 ho26 hn26 hC26 hb26 => ⟨rfl, m - 1, by omega, i + 1, os ++ [i], s25, hi', by omega, by dsimp only; rw [hw], ?_, up fun k => ?_, by rw [List.map_append]; exact ho26, fun j hj => ?_, (eW.trans e23).chN hC26 fun j hj => hbk j hj⟩
   ·exact List.pairwise_append.2 ⟨hsr, List.pairwise_singleton _ _, fun a ha b hb => by rw [List.mem_singleton.1 hb]; exact ((hmem a).1 ha).1⟩
   ·rw [List.mem_append, List.mem_singleton]
    exact ⟨fun h => h.imp id fun h => ⟨h, hin⟩, fun h => h.imp id fun h => h.1⟩
   ·rcases hb26 j hj with h' | h'
    ·exact hbk j h'
    ·omega
  ·have hin : gM rows i i = false := hin
   exact ⟨.inl, fun h => h.elim id fun h => (by rw [hin] at h; cases h.2)⟩
 ·dsimp only at hge
  have hi' : i = hs.length := by omega
  subst hi'
  exact ⟨so, ys, os, rfl, hA, hsr, hmem, hos, E7.trans eW⟩
/-- A history may be, and its graph is good. -/
def GoodP (x : CatD) (hs : List Nd) : Prop := HMay x hs /\ ∃ r, FairR x hs r
theorem c33 {w : World} {v : CatV} {x : CatD} {t : Sl} {hs : List Nd} (h : CatM w v x) (hH : Hst w t hs) :
  CW Tryz.prog 33 #[cxV v, slV t] w fun r w' => ∃ b, r = .bool b /\ (b = true ↔ GoodP x hs) /\ Ext w w' := by
 refine F33_ok v t w _ fun b1 w2 a2 => ?_
 have e2 : Ext w w2 := a2.ch _
 refine ⟨v, cxN h a2.new (Ch.refl _ _), (c31 (h.ext e2) (hH.ext e2)).use ?_⟩
 rintro _ w7 ⟨r, rfl, hr, e7⟩
 have E7 := e2.trans e7
 refine ⟨r, rfl, IfB.intro (fun h1 => ⟨v, cxN h a2.new e7, (c39 (h.ext E7) (hH.ext E7) (hr.1 h1)).use ?_⟩) fun h1 => ⟨false, rfl, ⟨fun h => (by cases h), fun h' => ?_⟩, E7⟩⟩
 ·rintro _ w13 ⟨s14, ys, os, rfl, hA, hsr, hmem, ho, e13⟩
  have hn := ho.len
  rw [List.length_map, Nat.mul_one] at hn
  refine ⟨s14, rfl, _, rfl, ?_, E7.trans e13⟩
  rw [beq_iff_eq]
  have hM := hr.1 h1
  unfold GoodP
  rw [<- acyc_iff hM hA]
  constructor
  ·intro h0
   refine ⟨hM, fun i hi => ?_⟩
   have hos : os = [] := List.eq_nil_of_length_eq_zero (by omega)
   have := (hmem i).2 ⟨(TC.lt hi).1, hi⟩
   rw [hos] at this; cases this
  ·rintro ⟨_, h0⟩
   have hos : os = [] := by
    cases os with
    | nil => rfl
    | cons a os => exact absurd ((hmem a).1 (by simp)).2 (h0 a)
   have hn : s14.n = 0 := by rw [<- hn, hos]; rfl
   rw [hn]; rfl
 ·have h1 : r = false := h1
  rw [hr.2 h'.1] at h1; cases h1
end Go.Proofs.YtlpgdngcgbeegaaGreat.Gx
/- The document's order (gimmalref16). -/
namespace Go.Proofs.YtlpgdngcgbeegaaGreat.Gx
open Go
set_option linter.unusedSimpArgs false
set_option linter.unusedVariables false
end Go.Proofs.YtlpgdngcgbeegaaGreat.Gx
/- The document's Ints (gimmalref16). -/
namespace Go.Proofs.YtlpgdngcgbeegaaGreat.Gx
open Go
set_option linter.unusedSimpArgs false
set_option linter.unusedVariables false
end Go.Proofs.YtlpgdngcgbeegaaGreat.Gx
/- Written by mkf.py: what is to be shown of functions, as Gx reckons it from their code. -/
namespace Go.Proofs.YtlpgdngcgbeegaaGreat.Gx
open Go
set_option linter.unusedVariables false
set_option maxRecDepth 100000
def F6j3 (b1 : Nat) (b3 : Nat) (b23 : Nat) (y26 : Nat -> Int -> World -> Prop) (b28 : Nat) (n29 : Int) (x37 : Int × Int) (y46 : Nat -> Int -> World -> Prop) (b48 : Nat) (n49 : Int) (w50 : World) : Prop := Qs w50 b1 (0 + 0) fun s53 => IfB (decide (n49 < (s53.n : Int))) (IfB (decide (n49 < 4)) ((0 <= n29 /\ n29 < ((4 : Nat) : Int)) /\ (0 <= n49 /\ n49 < ((4 : Nat) : Int)) /\ Qi w50.drew b1 (0 + 1 + n29.toNat * 4 + n49.toNat) fun n54 => (0 <= n29 /\ n29 < ((4 : Nat) : Int)) /\ (0 <= n49 /\ n49 < ((4 : Nat) : Int)) /\ ∃ n55 : Int, w50.drew.cell? ⟨b3, 0 + n29.toNat * 4 + n49.toNat, none⟩ = some (Value.int IntKind.u8 n55) /\ ¬x37.1 = 0 /\ (0 <= n29 /\ n29 < ((4 : Nat) : Int)) /\ (0 <= n49 /\ n49 < ((4 : Nat) : Int)) /\ #[Qz (bitsI BinOp.or IntKind.i64 n54 ((IntKind.i64.wrap n55).tmod x37.1))].size = 1 /\ StoreP w50.drew b23 (0 + 1 + n29.toNat * 4 + n49.toNat) [Qz (bitsI BinOp.or IntKind.i64 n54 ((IntKind.i64.wrap n55).tmod x37.1))] fun w56 => Qn y46 b48 (IntKind.i64.wrap (n49 + 1)) w56) (Qn y26 b28 (IntKind.i64.wrap (n29 + 1)) w50)) (Qn y26 b28 (IntKind.i64.wrap (n29 + 1)) w50)
def F6j2 (b1 : Nat) (b3 : Nat) (b23 : Nat) (y26 : Nat -> Int -> World -> Prop) (b28 : Nat) (n29 : Int) (y34 : Nat -> Int × Int -> World -> Prop) (b36 : Nat) (x37 : Int × Int) (w38 : World) : Prop := Qs w38 b1 (0 + 0) fun s41 => Qx s41.1 n29 (s41.2 : Int) fun b42 b43 => Qs w38 b42 (b43 + n29.toNat * 5 + 2) fun s44 => IfB (decide (x37.snd < (s44.n : Int))) (Qn y34 b36 (IntKind.i64.wrap (2 * x37.1), IntKind.i64.wrap (x37.2 + 1)) w38) (Ql (α := Int) 0 w38 fun y46 b48 n49 w50 => (F6j3 b1 b3 b23 y26 b28 n29 x37 y46 b48 n49 w50))
def F6k1 (w30 : World) (b23 : Nat) (t1 : Sl) (b1 : Nat) (t3 : Int) (R : Value -> World -> Prop) : Prop := ∃ (x72 : Sl × List Value), CellsN w30.drew b23 0 17 (Qy x72.fst :: x72.2) /\ Qv Tryz.prog 34 #[Value.agg { toList := Qy x72.fst :: x72.2 }, Qy t1] w30.drew fun t77 w76 => IfB t77 (∃ (x78 : Sl × List Value), CellsN w76 b1 0 17 (Qy x78.fst :: x78.2) /\ ¬IntKind.i64.wrap ((t1.2 : Int) + 1) = 0 /\ (0 <= (IntKind.i64.wrap t3).tmod (IntKind.i64.wrap ((t1.2 : Int) + 1)) /\ (IntKind.i64.wrap t3).tmod (IntKind.i64.wrap ((t1.2 : Int) + 1)) <= (t1.3 : Int)) /\ Qv Tryz.prog 34 #[Value.agg { toList := Qy x78.fst :: x78.2 }, Value.slice (slAddr t1.1 t1.3 0 6) ((IntKind.i64.wrap t3).tmod (IntKind.i64.wrap ((t1.2 : Int) + 1))).toNat t1.3] w76 fun t83 w82 => R (Value.bool t83) w82) (R (Value.bool false) w76)
def F6j1 (t1 : Sl) (t3 : Int) (R : Value -> World -> Prop) (b1 : Nat) (b3 : Nat) (b23 : Nat) (y26 : Nat -> Int -> World -> Prop) (b28 : Nat) (n29 : Int) (w30 : World) : Prop := Qs w30 b1 (0 + 0) fun s33 => IfB (decide (n29 < (s33.n : Int))) (IfB (decide (n29 < 4)) (Ql (α := Int × Int) (1, 1) w30 fun y34 b36 x37 w38 => (F6j2 b1 b3 b23 y26 b28 n29 y34 b36 x37 w38)) (F6k1 w30 b23 t1 b1 t3 R)) (F6k1 w30 b23 t1 b1 t3 R)
def F6 (t0 : Sl × List Value) (t1 : Sl) (t2 : List Value) (t3 : Int) (w : World) (R : Value -> World -> Prop) : Prop := AllocP w (Obj.cells { toList := Qy t0.fst :: t0.2 } 26) fun b1 w2 => AllocP w2 (Obj.cells { toList := t2 } 46) fun b3 w4 => Qv Tryz.prog 28 #[] w4 fun t7 w6 => IfB (!t7) (R (Value.bool false) w6) (∃ (x8 : Sl × List Value), CellsN w6 b1 0 17 (Qy x8.fst :: x8.2) /\ Qv Tryz.prog 29 #[Value.agg { toList := Qy x8.fst :: x8.2 }, Qy t1] w6 fun t13 w12 => IfB t13 (R (Value.bool true) w12) (∃ (x14 : Sl × List Value), CellsN w12 b1 0 17 (Qy x14.fst :: x14.2) /\ Qv Tryz.prog 33 #[Value.agg { toList := Qy x14.fst :: x14.2 }, Qy t1] w12 fun t19 w18 => IfB (!t19) (R (Value.bool true) w18) (∃ (x20 : Sl × List Value), CellsN w18 b1 0 17 (Qy x20.fst :: x20.2) /\ AllocP w18 (Obj.cells #[Value.slice none 0 0, Qz 0, Qz 0, Qz 0, Qz 0, Qz 0, Qz 0, Qz 0, Qz 0, Qz 0, Qz 0, Qz 0, Qz 0, Qz 0, Qz 0, Qz 0, Qz 0] 26) fun b23 w24 => (Array.mk (Qy x20.fst :: x20.2 )).size = 17 /\ StoreP w24 b23 0 (Qy x20.fst :: x20.2) fun w25 => Ql (α := Int) 0 w25 fun y26 b28 n29 w30 => (F6j1 t1 t3 R b1 b3 b23 y26 b28 n29 w30))))
theorem F6_ok (t0 : Sl × List Value) (t1 : Sl) (t2 : List Value) (t3 : Int) (w : World) (R : Value -> World -> Prop) (h : F6 t0 t1 t2 t3 w R) : CW Tryz.prog 6 #[Value.agg { toList := Qy t0.fst :: t0.2 }, Qy t1, Value.agg { toList := t2 }, Value.int IntKind.u8 t3] w R :=
 call_of tbOk mixed en6 Tryz.func6 rfl (.node (.nil) (.node (.nil) (.node (.nil) (.node (.nil) (.node (.node (.nil) (.loop [(10, .one (.int .i64))] [26, 27, 28, 29, 30, 31, 32, 33, 34, 11, 12, 37, 38, 39, 40, 41, 42, 43, 44, 45, 48, 49, 46, 47, 13, 50, 51, 52, 53, 54, 55, 56, 57, 58, 61, 62, 63, 64, 65, 66, 67, 68, 69, 70, 71, 72, 73, 74, 75, 76, 77, 78, 79, 80, 59, 60, 35, 36, 10] (.node (.nil) (.node (.node (.nil) (.node (.node (.nil) (.loop [(11, .one (.int .i64)), (12, .one (.int .i64))] [37, 38, 39, 40, 41, 42, 43, 44, 45, 48, 49, 11, 46, 47, 12] (.nil))) (.node (.nil) (.loop [(13, .one (.int .i64))] [50, 51, 52, 53, 54, 55, 56, 57, 58, 61, 62, 63, 64, 65, 66, 67, 68, 69, 70, 71, 72, 73, 74, 75, 76, 77, 78, 79, 80, 59, 60, 13] (.node (.nil) (.node (.draw (.st 0 (.st 1 (.st 2 (.st 3 (.st 4 (.st 5 (.st 6 (.st 7 (.st 8 (.st 9 (.st 10 (.st 11 (.st 12 (.st 13 (.st 14 (.st 15 (.st 16 (.st 17 (.st 18 (.st 19 (.ac 20 [] (.fin) (.non))))))))))))))))))))))) (.nil))))))) (.nil))))) (.node (.draw (.st 0 (.st 1 (.ac 2 [] (.st 3 (.st 4 (.st 5 (.st 6 (.st 7 (.st 8 (.st 9 (.st 10 (.st 11 (.st 12 (.ac 13 [] (.st 14 (.st 15 (.fin))) (.non)))))))))))) (.non))))) (.nil))))))) (by kernel_rfl) (Nat.le_of_ble_eq_true (by kernel_rfl)) (Eq.mp (α := F6 t0 t1 t2 t3 w R) (by kernel_rfl) h)
end Go.Proofs.YtlpgdngcgbeegaaGreat.Gx
/- Package gimmallaw16: RsgArcs, RsgOrders. -/
namespace Go.Proofs.YtlpgdngcgbeegaaGreat.Gx
open Go
set_option linter.unusedSimpArgs false
set_option linter.unusedVariables false
theorem arr_plain {A : Nat -> Prop} {w : World} {e : Ty} {n : Nat} {f : e.den -> List Value} {Q : e.den -> Prop} {l : List e.den} {cs : List Value} (h : rep A w (.arr n e) l cs) (hp : ∀ x c, rep A w e x c -> c = f x /\ Q x) : l.length = n /\ cs = l.flatMap f /\ ∀ x ∈ l, Q x := by
 obtain ⟨hn, css, hl, hr, rfl⟩ := h
 have hi : ∀ (i : Nat) (hi : i < l.length), css[i]? = some (f l[i]) /\ Q l[i] := fun i hi => by
  have hc : css[i]? = some (css[i]'(by omega)) := List.getElem?_eq_getElem (by omega)
  obtain ⟨h1, h2⟩ := hp _ _ (hr i _ _ hc (List.getElem?_eq_getElem hi))
  exact ⟨by rw [hc, h1], h2⟩
 have hcs : css = l.map f := by
  apply List.ext_getElem?
  intro i
  by_cases h : i < l.length
  ·rw [(hi i h).1, List.getElem?_map, List.getElem?_eq_getElem h]; rfl
  ·rw [List.getElem?_eq_none (by omega), List.getElem?_eq_none (by rw [List.length_map]; omega)]
 refine ⟨hn, by rw [hcs, List.flatMap_def], fun x hx => ?_⟩
 obtain ⟨i, h, rfl⟩ := List.getElem_of_mem hx
 exact (hi i h).2
abbrev catOf (x : tyCat.den) : CatD := (x.1, x.2.flatten)
theorem rep_cat {A : Nat -> Prop} {w : World} {x : tyCat.den} {cs : List Value} (h : rep A w tyCat x cs) : ∃ v : CatV, cs = cxC v /\ CatM w v (catOf x) := by
 obtain ⟨c, d, rfl, h1, h2⟩ := h
 have h1 := rep_mono (B := fun _ => True) (fun _ _ => trivial) h1
 obtain ⟨s, rfl, _⟩ := id h1
 obtain ⟨k1, k2, k3⟩ := arr_plain (n := 4) (e := .arr 4 tyI) (f := fun r => r.map fun n => Value.int .i64 n) (Q := fun r => r.length = 4 /\ ∀ n ∈ r, -9223372036854775808 <= n /\ n <= 9223372036854775807) (l := x.2) h2 fun r c hr => by
  obtain ⟨g1, g2, g3⟩ := arr_plain (n := 4) (e := tyI) (f := fun n => [Value.int .i64 n]) (Q := fun n => -9223372036854775808 <= n /\ n <= 9223372036854775807) (l := r) hr fun n c hc => ⟨hc.1, hc.2.1, hc.2.2⟩
  refine ⟨by rw [g2, List.map_eq_flatMap], g1, g3⟩
 refine ⟨(s, d), rfl, h1, ?_, ?_, fun n hn => ?_⟩
 ·rw [k2]
  show List.flatMap _ x.2 = x.2.flatten.map _
  rw [List.map_flatten, List.flatMap_def]
 ·show x.2.flatten.length = 16
  rw [List.length_flatten]
  have : ∀ l : List (List Int), (∀ r ∈ l, r.length = 4) -> (l.map List.length).sum = l.length * 4 := fun l => by
   induction l with
   | nil => intro _; rfl
   | cons r l ih =>
    intro h
    rw [List.map_cons, List.sum_cons, ih fun q hq => h q (List.mem_cons_of_mem _ hq), h r (by simp), List.length_cons]; omega
  rw [this _ fun r hr => (k3 r hr).1]
  have k1 : x.2.length = 4 := k1
  omega
 ·obtain ⟨r, hr, hn⟩ := List.mem_flatten.1 hn
  exact (k3 r hr).2 n hn
theorem arr_eq {cs : Array Value} {l : List Value} (h : cs.toList = l) : cs = l.toArray := by rw [<- h]
end Go.Proofs.YtlpgdngcgbeegaaGreat.Gx
/- Written by mkf.py: what is to be shown of functions, as Gx reckons it from their code. -/
namespace Go.Proofs.YtlpgdngcgbeegaaGreat.Gx
open Go
set_option linter.unusedVariables false
set_option maxRecDepth 100000
end Go.Proofs.YtlpgdngcgbeegaaGreat.Gx
/- slices.Clone of nodes. -/
namespace Go.Proofs.YtlpgdngcgbeegaaGreat.Gx
open Go
set_option linter.unusedSimpArgs false
set_option linter.unusedVariables false
end Go.Proofs.YtlpgdngcgbeegaaGreat.Gx
/- append(append([]api.Node{}, h...), n); what a slice argument's bytes are. -/
namespace Go.Proofs.YtlpgdngcgbeegaaGreat.Gx
open Go
set_option linter.unusedSimpArgs false
set_option linter.unusedVariables false
end Go.Proofs.YtlpgdngcgbeegaaGreat.Gx
/- Package rsg: Next; package gimmallaw16: RsgNext, RsgBack. -/
namespace Go.Proofs.YtlpgdngcgbeegaaGreat.Gx
open Go
set_option linter.unusedSimpArgs false
set_option linter.unusedVariables false
theorem goodB {x : CatD} {hs : List Nd} {b : Bool} (h1 : b = true -> HMay x hs) (h2 : HMay x hs -> ∃ ys out, ArcsP x hs ys /\ ToldP ys hs.length out /\ (b = true ↔ out.length = hs.length)) : b = true ↔ GoodP x hs := by
 constructor
 ·intro h
  have hM := h1 h
  obtain ⟨ys, out, hA, hT, ho⟩ := h2 hM
  exact ⟨hM, (told_iff hM hA hT).1 (ho.1 h)⟩
 ·rintro ⟨hM, hF⟩
  obtain ⟨ys, out, hA, hT, ho⟩ := h2 hM
  exact ho.2 ((told_iff hM hA hT).2 hF)
end Go.Proofs.YtlpgdngcgbeegaaGreat.Gx
/- Package gimmallaw16: RsgFiner. -/
namespace Go.Proofs.YtlpgdngcgbeegaaGreat.Gx
open Go
set_option linter.unusedSimpArgs false
set_option linter.unusedVariables false
theorem orMask {a b : Int} {k : Nat} (hk : k <= 19) (ha0 : 0 <= a) (ha : a < 2 ^ k) (hb0 : 0 <= b) (hb : b < 2 ^ k) : bitsI .or .i64 a b = ((a.toNat ||| b.toNat : Nat) : Int) /\ a.toNat ||| b.toNat < 2 ^ k := by
 obtain ⟨h1, h2⟩ := pow_range hk
 have hp : (2 : Int) ^ k = ((2 ^ k : Nat) : Int) := by rw [Int.natCast_pow]; rfl
 have h64 : ((2 ^ 64 : Nat) : Int) = 18446744073709551616 := rfl
 have h19 : (2 : Int) ^ 19 = 524288 := rfl
 have hor : a.toNat ||| b.toNat < 2 ^ k := Nat.or_lt_two_pow (by omega) (by omega)
 refine ⟨?_, hor⟩
 show IntKind.i64.wrap (((BitVec.ofInt 64 a ||| BitVec.ofInt 64 b).toNat : Nat) : Int) = _
 rw [BitVec.toNat_or, BitVec.toNat_ofInt, BitVec.toNat_ofInt]
 have e1 : (a % ((2 ^ 64 : Nat) : Int)).toNat = a.toNat := by rw [Int.emod_eq_of_lt ha0 (by omega)]
 have e2 : (b % ((2 ^ 64 : Nat) : Int)).toNat = b.toNat := by rw [Int.emod_eq_of_lt hb0 (by omega)]
 rw [e1, e2]
 exact wrap_of (by omega) (by omega)
/-- Breaks, some of them more. -/
structure FinB (x : CatD) (B : List Int) : Prop where
 len : B.length = 16
 br : ∀ c d, c < 4 -> d < 4 -> 0 <= B.getD (c * 4 + d) 0 /\ B.getD (c * 4 + d) 0 < topB x c d /\ ∀ i, (brk x c d).toNat.testBit i = true -> (B.getD (c * 4 + d) 0).toNat.testBit i = true
theorem topB_le {x : CatD} (h : CatOk x) (c d : Nat) : topB x c d <= 8 := by
 unfold topB
 split
 ·have := steps_le h c
  have := (pow_range (k := nSt x c - 1) (m := 3) (by omega)).2
  have e : (2 : Int) ^ 3 = 8 := rfl
  omega
 ·decide
theorem FinB.start {x : CatD} (h : CatOk x) (hl : x.2.length = 16) : FinB x x.2 :=
 ⟨hl, fun c d hc hd => ⟨(h.br c d hc hd).1, (h.br c d hc hd).2, fun i hi => hi⟩⟩
theorem getD_set {B : List Int} {k j : Nat} (hk : k < B.length) (v : Int) : (B.set k v).getD j 0 = if j = k then v else B.getD j 0 := by
 rw [List.getD_eq_getElem?_getD, List.getD_eq_getElem?_getD, List.getElem?_set]
 by_cases h : k = j
 ·rw [if_pos h, if_pos hk, if_pos h.symm]; rfl
 ·rw [if_neg h, if_neg fun e => h e.symm]
theorem FinB.set {x : CatD} {B : List Int} (h : FinB x B) {c d : Nat} (hc : c < 4) (hd : d < 4) {v : Int} (h1 : 0 <= v) (h2 : v < topB x c d) (h3 : ∀ i, (brk x c d).toNat.testBit i = true -> v.toNat.testBit i = true) : FinB x (B.set (c * 4 + d) v) := by
 refine ⟨by rw [List.length_set]; exact h.len, fun c' d' hc' hd' => ?_⟩
 rw [getD_set (by rw [h.len]; omega)]
 by_cases e : c' * 4 + d' = c * 4 + d
 ·have ec : c' = c := by omega
  have ed : d' = d := by omega
  subst ec; subst ed
  rw [if_pos rfl]
  exact ⟨h1, h2, h3⟩
 ·rw [if_neg e]
  exact h.br c' d' hc' hd'
theorem FinB.rng {x : CatD} {B : List Int} (hk : CatOk x) (h : FinB x B) : ∀ n ∈ B, 0 <= n /\ n <= 8 := fun n hn => by
 obtain ⟨j, hj, rfl⟩ := List.getElem_of_mem hn
 have hl := h.len
 have hb := h.br (j / 4) (j % 4) (by omega) (by omega)
 have e : j / 4 * 4 + j % 4 = j := by omega
 rw [e, List.getD_eq_getElem?_getD, List.getElem?_eq_getElem hj] at hb
 have hb1 : 0 <= B[j] := hb.1
 have hb2 : B[j] < topB x (j / 4) (j % 4) := hb.2.1
 have := topB_le hk (j / 4) (j % 4)
 omega
theorem FinB.cat {x : CatD} {B : List Int} (hk : CatOk x) (h : FinB x B) : CatOk (x.1, B) :=
 ⟨hk.n1, hk.n4, hk.cls, hk.names, fun c d hc hd => ⟨(h.br c d hc hd).1, (h.br c d hc hd).2.1⟩⟩
theorem FinB.brkB {x : CatD} {B : List Int} (hk : CatOk x) (h : FinB x B) (c d i : Nat) (hb : brkB x c d i = true) : brkB (x.1, B) c d i = true := by
 unfold Gx.brkB at hb ⊢
 simp only [Bool.and_eq_true, decide_eq_true_eq] at hb ⊢
 have := hk.n4
 exact ⟨hb.1, (h.br c d (by omega) (by omega)).2.2 i hb.2⟩
abbrev brC (s : Sl) (B : List Int) : List Value := slV s :: B.map fun n => Value.int .i64 n
theorem FinB.mem {x : CatD} {B : List Int} {v : CatV} {w : World} (hk : CatOk x) (h : FinB x B) (hC : CatM w v x) : CatM w (v.1, B.map fun n => Value.int .i64 n) (x.1, B) :=
 ⟨hC.cl, rfl, h.len, fun n hn => by have := h.rng hk n hn; omega⟩
theorem putB {W : World} {b : Nat} {T : TypeId} {s : Sl} {B : List Int} (hb : W.heap[b]? = some (.cells (brC s B).toArray T (0, 0))) {k : Nat} (hk : k < B.length) {o : Nat} (ho : o = k + 1) (v : Int) {K : World -> Prop} (hK : ∀ W', W'.heap[b]? = some (.cells (brC s (B.set k v)).toArray T (0, 0)) -> Ch (fun j => j = b) W W' -> K W') : StoreP W b o [Value.int .i64 v] K := by
 subst ho
 refine store_one hb (by simp; omega) rfl fun W' u => hK W' ?_ u.ch
 have := u.new
 rw [List.setIfInBounds_toArray, List.set_cons_succ, <- List.map_set] at this
 exact this
theorem rsgFiner (w : World) {x : tyCat.den} {cx : Array Value} (h0 : rep (fun _ => True) w tyCat x cx.toList) {l : List tyNd.den} {c1 : Value} (h1 : rep (fun _ => True) w (.sl tyNd) l [c1]) {mr : (Ty.arr 4 (.arr 4 (.int .u8))).den} {cm : Array Value} (h2 : rep (fun _ => True) w (.arr 4 (.arr 4 (.int .u8))) mr cm.toList) {cut : Int} {c3 : Value} (h3 : rep (fun _ => True) w (.int .u8) cut [c3]) :
  CW Tryz.prog 6 #[.agg cx, c1, .agg cm, c3] w fun v w' => v = .bool true /\ Ext w w' := by
 obtain ⟨v, e0, hC⟩ := rep_cat h0
 obtain ⟨t, hs, e1, hH⟩ := rep_hist h1
 obtain ⟨e3, hc0, hc1⟩ := h3
 have hc0 : 0 <= cut := hc0
 have hc1 : cut <= 255 := hc1
 obtain ⟨M, hM16, hMr, hcm⟩ : ∃ M : List Int, M.length = 16 /\ (∀ n ∈ M, 0 <= n /\ n <= 255) /\ cm.toList = M.map fun n => Value.int .u8 n := by
  obtain ⟨k1, k2, k3⟩ := arr_plain (n := 4) (e := .arr 4 (.int .u8)) (f := fun r => r.map fun n => Value.int .u8 n) (Q := fun r => r.length = 4 /\ ∀ n ∈ r, (0 : Int) <= n /\ n <= 255) (l := mr) h2 fun r c hr => by
   obtain ⟨g1, g2, g3⟩ := arr_plain (n := 4) (e := .int .u8) (f := fun n => [Value.int .u8 n]) (Q := fun n => (0 : Int) <= n /\ n <= 255) (l := r) hr fun n c hc => ⟨hc.1, hc.2.1, hc.2.2⟩
   exact ⟨by rw [g2, List.map_eq_flatMap], g1, g3⟩
  have mr' : ∃ m : List (List Int), m = mr := ⟨mr, rfl⟩
  obtain ⟨m, hm⟩ := mr'
  refine ⟨m.flatten, ?_, fun n hn => ?_, ?_⟩
  ·rw [List.length_flatten]
   have : ∀ l : List (List Int), (∀ r ∈ l, r.length = 4) -> (l.map List.length).sum = l.length * 4 := fun l => by
    induction l with
    | nil => intro _; rfl
    | cons r l ih =>
     intro h
     rw [List.map_cons, List.sum_cons, ih fun q hq => h q (List.mem_cons_of_mem _ hq), h r (by simp), List.length_cons]; omega
   rw [this _ fun r hr => (k3 r (by rw [<- hm]; exact hr)).1]
   have k1 : mr.length = 4 := k1
   rw [hm]; omega
  ·obtain ⟨r, hr, hn⟩ := List.mem_flatten.1 hn
   exact (k3 r (by rw [<- hm]; exact hr)).2 n hn
  ·rw [k2, hm]
   show List.flatMap _ mr = (List.flatten (α := Int) mr).map _
   rw [List.map_flatten, List.flatMap_def]
 simp only [List.cons.injEq, and_true] at e1 e3
 subst e1; subst e3
 rw [arr_eq e0, arr_eq hcm]
 refine F6_ok v t (M.map fun n => Value.int .u8 n) cut w _ fun b1 w2 a2 b3 w4 a4 => (c28 w4).use ?_
 rintro _ w6 ⟨rfl, e6⟩
 have e2 : Ext w w2 := a2.ch _
 have e4 : Ext w2 w4 := a4.ch _
 have E6 : Ext w w6 := (e2.trans e4).trans e6
 have hcx : ∀ {W : World}, Ext w4 W -> CellsN W b1 0 17 (cxC v) := fun e => cxN hC a2.new (e4.trans e)
 refine ⟨true, rfl, IfB.no rfl ⟨v, hcx e6, (c29 (hC.ext E6) (hH.ext E6)).use ?_⟩⟩
 rintro _ w12 ⟨g, rfl, hg, e12⟩
 have x12 := e6.trans e12
 have E12 := E6.trans e12
 refine ⟨g, rfl, IfB.intro (fun _ => ⟨rfl, E12⟩) fun hg1 => ?_⟩
 obtain ⟨hSt, hl⟩ := hg hg1
 have htn := hSt.n
 have hcap := hSt.cap
 refine ⟨v, hcx x12, (c33 (hC.ext E12) hSt).use ?_⟩
 rintro _ w18 ⟨q, rfl, hq, e18⟩
 have x18 := x12.trans e18
 have E18 := E12.trans e18
 refine ⟨q, rfl, IfB.intro (fun _ => ⟨rfl, E18⟩) fun hq1 => ?_⟩
 obtain ⟨hY, r, hF⟩ := hq.1 (by simpa using hq1)
 have hk := hY.cat
 have hn4 : (catOf x).1.length <= 4 := hk.n4
 have hvn : v.1.n = (catOf x).1.length := cat_cl hC
 have hl17 : (cxC v).length = 17 := by rw [List.length_cons, hC.br, List.length_map, hC.b16]
 refine ⟨v, hcx x18, fun b23 w24 a23 => ⟨hl17, store_all (vs := cxC v) a23.new hl17.symm (by
  intro y hy
  rcases List.mem_cons.1 hy with rfl | hy
  ·rfl
  ·rw [hC.br] at hy; obtain ⟨n, _, rfl⟩ := List.mem_map.1 hy; rfl) fun w25 u25 => ?_⟩⟩
 have p23 := a23.here; have z23 := a23.size; have z25 := u25.size
 have e25 : Ext w18 w25 := Ext.fresh a23 u25
 have hB0 : w25.heap[b23]? = some (.cells (brC v.1 (catOf x).2).toArray 26 (0, 0)) := by
  have := u25.new
  rw [show cxC v = brC v.1 (catOf x).2 by show slV v.1 :: v.2 = slV v.1 :: _; rw [hC.br]] at this
  exact this
 -- behind the loops
 have fin : ∀ {B : List Int} {V : World}, FinB (catOf x) B -> V.heap[b23]? = some (.cells (brC v.1 B).toArray 26 (0, 0)) -> Ext w18 V -> F6k1 V b23 t b1 cut (fun v w' => v = .bool true /\ Ext w w') := fun {B V} hB hV eV => by
  have edV := extDrew V
  have xV := eV.trans edV
  have EV := E18.trans xV
  have hyM := hB.mem hk (hC.ext EV)
  have hHV := (hSt.ext e18).ext xV
  unfold F6k1
  refine ⟨(v.1, B.map fun n => Value.int .i64 n), cxN hyM hV edV, (c34 hyM hHV (by omega)).use ?_⟩
  rintro _ w76 ⟨b, rfl, g1, g2, e76⟩
  have hb := goodB g1 g2
  have hYy : HMay ((catOf x).1, B) hs := hY.other (hB.cat hk) rfl
  have hbt : b = true := hb.2 ⟨hYy, r, hF.finer fun i k d h => InP.finer (x := catOf x) (y := ((catOf x).1, B)) rfl hYy (fun c d i => hB.brkB hk c d i) h⟩
  refine ⟨b, rfl, IfB.yes hbt ?_⟩
  obtain ⟨n, hn, hnl⟩ : ∃ n : Nat, (IntKind.i64.wrap cut).tmod (IntKind.i64.wrap ((t.2 : Int) + 1)) = (n : Int) /\ n <= hs.length := by
   rw [wrap_of (n := cut) (by omega) (by omega), wrap_of (by omega) (by omega)]
   have h1 := Int.tmod_nonneg ((t.2 : Int) + 1) hc0
   have h2 := Int.tmod_lt_of_pos cut (show (0 : Int) < (t.2 : Int) + 1 by omega)
   exact ⟨(cut.tmod ((t.2 : Int) + 1)).toNat, by omega, by omega⟩
  have x76 := xV.trans e76
  refine ⟨v, hcx (x18.trans x76), by rw [wrap_of (by omega) (by omega)]; omega, by rw [hn]; exact ⟨by omega, by omega⟩, ?_⟩
  rw [hn, Int.toNat_natCast, slAddr_zero]
  refine (c34 (t := ⟨t.p, n, t.c⟩) (hC.ext (E18.trans x76)) ((hHV.ext e76).cut (k := n) hnl) (by rw [List.length_take]; omega)).use ?_
  rintro _ w82 ⟨b', rfl, g3, g4, e82⟩
  exact ⟨b', rfl, by rw [(goodB g3 g4).2 ⟨hY.take n, r, hF.take n⟩], (E18.trans x76).trans e82⟩
 refine ⟨fun m z V => ∃ (c : Nat) (B : List Int), c <= (catOf x).1.length /\ m + c = (catOf x).1.length /\ z = (c : Int) /\ FinB (catOf x) B /\ V.heap[b23]? = some (.cells (brC v.1 B).toArray 26 (0, 0)) /\ Ext w18 V,
  ⟨_, 0, _, Nat.zero_le _, rfl, rfl, FinB.start hk hC.b16, hB0, e25⟩, ?_⟩
 rintro m _ V g ⟨c, B, hc, hmc, rfl, hB, hV, eV⟩
 unfold F6j1
 have q0 : ∀ {W : World}, Ext w18 W -> W.cell? ⟨b1, 0 + 0, none⟩ = some (slV v.1) := fun e => boxAt (cs := cxC v) a2.new 0 (e4.trans (x18.trans e))
 refine ⟨v.1, q0 eV, IfB.dec (fun hlt => IfB.dec (fun h4 => ?_) fun _ => fin hB hV eV) fun _ => fin hB hV eV⟩
 have hc' : c < (catOf x).1.length := by omega
 have hx : (catOf x).1[c]? = some (catOf x).1[c] := List.getElem?_eq_getElem hc'
 have hxm : (catOf x).1[c] ∈ (catOf x).1 := List.getElem_mem hc'
 have hns := nSt_of hx
 generalize (catOf x).1[c] = y at hx hxm hns
 have hyk := hk.cls y hxm
 have hy1 := hyk.l1
 have hy4 := hyk.l4
 have hwc : IntKind.i64.wrap ((c : Int) + 1) = ((c + 1 : Nat) : Int) := by rw [wrap_of (by omega) (by omega)]; rfl
 refine ⟨fun m' z V' => V = V' /\ ∃ i : Nat, 1 <= i /\ i <= y.2.2.1.length /\ m' + i = y.2.2.1.length /\ z = ((2 : Int) ^ (i - 1), (i : Int)), ⟨y.2.2.1.length - 1, rfl, 1, Nat.le_refl _, hy1, by omega, rfl⟩, ?_⟩
 rintro m' _ _ g' ⟨rfl, i, hi1, hin, hmi, rfl⟩
 unfold F6j2
 obtain ⟨pb, po, cv, hp, hcc, hcM⟩ := ClsR.at (SlR.ext hC.cl (E18.trans eV)) hx
 have hstn := hcM.st.n
 have hpow := pow_range (k := i - 1) (m := 3) (by omega)
 have e8 : (2 : Int) ^ 3 = 8 := rfl
 refine ⟨v.1, q0 eV, pb, po, hp, ⟨by omega, by omega⟩, cv.2.2.1, by rw [Int.toNat_natCast]; exact hcc 2 _ rfl, IfB.dec (fun hli => ?_) fun hgi => ?_⟩
 ·dsimp only at hli
  refine ⟨rfl, m' - 1, by omega, rfl, i + 1, by omega, by omega, by omega, ?_⟩
  dsimp only
  rw [wrap_of (by omega) (by omega), wrap_of (by omega) (by omega), show (2 : Int) * 2 ^ (i - 1) = 2 ^ (i + 1 - 1) by rw [show i + 1 - 1 = (i - 1) + 1 by omega, Int.pow_succ]; omega]
  rfl
 ·dsimp only at hgi
  have hii : i = y.2.2.1.length := by omega
  have hall : (2 : Int) ^ (i - 1) = 2 ^ (nSt (catOf x) c - 1) := by rw [hns, hii]
  refine ⟨fun m4 z V' => ∃ (d : Nat) (B' : List Int), d <= (catOf x).1.length /\ m4 + d = (catOf x).1.length /\ z = (d : Int) /\ FinB (catOf x) B' /\ V'.heap[b23]? = some (.cells (brC v.1 B').toArray 26 (0, 0)) /\ Ext w18 V', ⟨_, 0, B, Nat.zero_le _, rfl, rfl, hB, hV, eV⟩, ?_⟩
  rintro m4 _ V4 g4 ⟨d, B', hd, hmd, rfl, hB', hV4, eV4⟩
  unfold F6j3
  have out := (⟨rfl, m - 1, by omega, c + 1, B', by omega, by omega, hwc, hB', hV4, eV4⟩ : ([] : List Nat) = [] /\ ∃ b, b < m /\ ∃ (c' : Nat) (B : List Int), c' <= (catOf x).1.length /\ b + c' = (catOf x).1.length /\ IntKind.i64.wrap ((c : Int) + 1) = (c' : Int) /\ FinB (catOf x) B /\ V4.heap[b23]? = some (.cells (brC v.1 B).toArray 26 (0, 0)) /\ Ext w18 V4)
  refine ⟨v.1, q0 eV4, IfB.dec (fun hld => IfB.dec (fun hd4 => ?_) fun _ => out) fun _ => out⟩
  have hd' : d < (catOf x).1.length := by omega
  have ed4 := extDrew V4
  have hcd : c * 4 + d < M.length := by omega
  have hmx : M[c * 4 + d]? = some M[c * 4 + d] := List.getElem?_eq_getElem hcd
  have hmm := hMr _ (List.getElem_mem hcd)
  generalize M[c * 4 + d] = mv at hmx hmm
  have hbr := hk.br c d (by omega) (by omega)
  have htop : topB (catOf x) c d = 2 ^ (i - 1) := by
   unfold topB; rw [if_pos ⟨hc', hd'⟩, hall]
  have b4 : (0 : Int) <= (c : Int) /\ (c : Int) < ((4 : Nat) : Int) := ⟨by omega, by omega⟩
  have b5 : (0 : Int) <= (d : Int) /\ (d : Int) < ((4 : Nat) : Int) := ⟨by omega, by omega⟩
  have hwm : IntKind.i64.wrap mv = mv := wrap_of (by omega) (by omega)
  have r0 := Int.tmod_nonneg ((2 : Int) ^ (i - 1)) hmm.1
  have r1 := Int.tmod_lt_of_pos mv (show (0 : Int) < 2 ^ (i - 1) by omega)
  rw [htop] at hbr
  obtain ⟨ho1, ho2⟩ := orMask (k := i - 1) (by omega) hbr.1 hbr.2 r0 r1
  have hp2 : (2 : Int) ^ (i - 1) = ((2 ^ (i - 1) : Nat) : Int) := by rw [Int.natCast_pow]; rfl
  refine ⟨b4, b5, brk (catOf x) c d, by rw [Int.toNat_natCast, Int.toNat_natCast]; exact brk_box hC a2.new (e4.trans (x18.trans (eV4.trans ed4))) (by omega) (by omega), b4, b5, mv, ?_, by dsimp only; omega, b4, b5, rfl, ?_⟩
  ·rw [Int.toNat_natCast, Int.toNat_natCast, cell_of (Ext.at (x18.trans (eV4.trans ed4)) a4.new), Nat.zero_add]
   show (M.map fun n => Value.int .u8 n).toArray[c * 4 + d]? = _
   rw [List.getElem?_toArray, List.getElem?_map, hmx]; rfl
  ·rw [hwm, ho1, Int.toNat_natCast, Int.toNat_natCast]
   refine putB (Ext.at ed4 hV4) (k := c * 4 + d) (by rw [hB'.len]; omega) (by omega) _ fun V5 hV5 hC5 => ⟨rfl, m4 - 1, by omega, d + 1, _, by omega, by omega, by rw [wrap_of (by omega) (by omega)]; rfl, hB'.set (by omega) (by omega) (by omega) (by rw [htop]; omega) (fun j hj => ?_), hV5, (eV4.trans ed4).chN hC5 fun j e => by omega⟩
   rw [Int.toNat_natCast, Nat.testBit_or, hj]; rfl
end Go.Proofs.YtlpgdngcgbeegaaGreat.Gx
/- gimmallaw16.RsgFiner returns true for all arguments, and leaves what was there as it was. No condition beyond the statement. -/
namespace Go.Proofs.YtlpgdngcgbeegaaGreat.rsgFiner
open Go.ChangeShapes Go.WideShapes Go.ChangeAt Go.RowKit
open Go.ChangeMaps (open_string shut_string)
set_option linter.unusedVariables false
theorem own : ownKnob Tryz.prog.godebug = none := by kernel_rfl
set_option maxRecDepth 100000 in
theorem lifted (os : Os) (started : os.Started) (H : Type) (enc : TypeId × Value -> H) :
  ReturnsInHanded {} Tryz.checked os 6 .any (Rows.rsgFinerSpec.pre6 enc Tryz.prog Tryz.f6 Rows.rsgFinerRow.domain false) (Rows.rsgFinerSpec.post enc Tryz.prog Tryz.f6 false true false false) := by
 refine returnsInHanded_of_change (C := Tryz.checked) own started (by kernel_rfl) Tryz.func6
  (ChangeSpec.witness6 (enc := enc) (C := Tryz.checked) false ⟨#[], #[.agg #[.slice none 0 0, .int .i64 0, .int .i64 0, .int .i64 0, .int .i64 0, .int .i64 0, .int .i64 0, .int .i64 0, .int .i64 0, .int .i64 0, .int .i64 0, .int .i64 0, .int .i64 0, .int .i64 0, .int .i64 0, .int .i64 0, .int .i64 0], .slice none 0 0, .agg #[.int .u8 0, .int .u8 0, .int .u8 0, .int .u8 0, .int .u8 0, .int .u8 0, .int .u8 0, .int .u8 0, .int .u8 0, .int .u8 0, .int .u8 0, .int .u8 0, .int .u8 0, .int .u8 0, .int .u8 0, .int .u8 0], .int .u8 0], []⟩ 8 (by kernel_rfl) (by kernel_rfl) (by kernel_rfl) (by kernel_rfl)) ?_
 intro W base args ds gs before hval0 hW hcnd _
 have hval : ∀ (j : Nat) t v, Tryz.f6.params[j]? = some t -> args[j]? = some v -> Value.okWide Tryz.prog W .any base t v := hval0
 have hW' := hW
 have hlt := hW.lt
 obtain ⟨p, q, hA0, hV, rfl, hfz, hnd⟩ := hW
 have hA : DataW.TrodAll enc Tryz.prog W 0 (fun _ => true) true Tryz.f6.params.toList args.toList ds p := hA0
 have hpar : Tryz.f6.params = #[26, 39, 46, 5] := rfl
 rw [hpar] at hA hval
 obtain ⟨v0, vs0, d0, ds0, p0, q0, hargs, rfl, rfl, h0, r0⟩ := trodAll_cons hA
 obtain ⟨v1, vs1, d1, ds1, p1, q1, rfl, rfl, rfl, h1, r1⟩ := trodAll_cons r0
 obtain ⟨v2, vs2, d2, ds2, p2, q2, rfl, rfl, rfl, h2, r2⟩ := trodAll_cons r1
 obtain ⟨v3, vs3, d3, ds3, p3, q3, rfl, rfl, rfl, h3, r3⟩ := trodAll_cons r2
 obtain ⟨rfl, rfl, rfl⟩ := trodAll_nil r3
 obtain rfl : args = #[v0, v1, v2, v3] := by cases args; simp_all
 obtain ⟨rfl, rfl⟩ := trodVars_none hV
 clear hA0 hval0
 obtain ⟨x0, e0⟩ := Gx.open_arg (d := 12) (ty := (.pair (.sl (.pair .str (.pair (.int .i64) (.pair (.sl (.pair (.sl (.pair (.int .i64) (.pair (.int .i64) (.pair (.int .i64) (.pair (.int .i64) (.pair (.pair (.int .i64) (.int .i64)) (.pair (.pair (.int .i64) (.int .i64)) (.int .i64)))))))) (.sl (.pair (.pair (.int .i64) (.int .i64)) (.pair (.pair (.int .i64) (.int .i64)) .bool))))) (.pair (.sl (.pair (.sl (.pair (.int .i64) (.pair (.int .i64) (.pair (.int .i64) (.pair (.int .i64) (.pair (.pair (.int .i64) (.int .i64)) (.pair (.pair (.int .i64) (.int .i64)) (.int .i64)))))))) (.sl (.pair (.pair (.int .i64) (.int .i64)) (.pair (.pair (.int .i64) (.int .i64)) .bool))))) .bool))))) (.arr 4 (.arr 4 (.int .i64))))) (by kernel_rfl) h0
 have f0 : v0 = .agg v0.cells := Gx.val_agg (hval 0 26 v0 rfl rfl) (.inl ⟨_, Tryz.underlying26⟩)
 obtain ⟨x1, e1⟩ := Gx.open_arg (d := 12) (ty := (.sl (.pair (.int .i64) (.pair (.int .i64) (.pair (.int .i64) (.pair .bool (.pair (.sl (.pair (.int .i64) (.int .i64))) (.sl (.pair (.int .i64) (.int .i64)))))))))) (by kernel_rfl) h1
 obtain ⟨c1, g1⟩ : ∃ c, v1.cells.toList = [c] := List.length_eq_one_iff.1 (Gx.rep_len e1)
 have f1 : v1 = c1 := Gx.val_of_cells (hval 1 39 v1 rfl rfl) (fun fs n e => by rw [Tryz.underlying39]; exact ⟨by simp, by simp⟩) g1
 rw [g1] at e1
 obtain ⟨x2, e2⟩ := Gx.open_arg (d := 12) (ty := (.arr 4 (.arr 4 (.int .u8)))) (by kernel_rfl) h2
 have f2 : v2 = .agg v2.cells := Gx.val_agg (hval 2 46 v2 rfl rfl) (.inr ⟨_, _, Tryz.underlying46⟩)
 obtain ⟨x3, e3⟩ := Gx.open_arg (d := 12) (ty := (.int .u8)) (by kernel_rfl) h3
 obtain ⟨c3, g3⟩ : ∃ c, v3.cells.toList = [c] := List.length_eq_one_iff.1 (Gx.rep_len e3)
 have f3 : v3 = c3 := Gx.val_of_cells (hval 3 5 v3 rfl rfl) (fun fs n e => by rw [Tryz.underlying5]; exact ⟨by simp, by simp⟩) g3
 rw [g3] at e3
 have call : Calls Tryz.prog 6 #[v0, v1, v2, v3] W fun e w' => e = .returned (.bool true) /\ Below W.heap.size W w' := by
  rw [f0, f1, f2, f3]
  refine (Gx.rsgFiner W e0 e1 e2 e3).calls.mono ?_
  rintro e w' ⟨v, rfl, rfl, hx⟩
  exact ⟨rfl, hx.below⟩
 refine call.mono fun e W' ⟨he, hg⟩ => ?_
 subst he
 have b3 : ∀ sp : Nat -> Bool, (∀ x ∈ p3, sp x.block = true) -> DataW.Trod enc Tryz.prog W' 0 sp true 5 v3 d3 p3 := fun sp hsp => Gx.trod_keep (by kernel_rfl) (by kernel_rfl) (by decide +kernel) h3 hg (fun x hx => hlt x (by simp [hx])) hsp
 have b2 : ∀ sp : Nat -> Bool, (∀ x ∈ p2, sp x.block = true) -> DataW.Trod enc Tryz.prog W' 0 sp true 46 v2 d2 p2 := fun sp hsp => Gx.trod_keep (by kernel_rfl) (by kernel_rfl) (by decide +kernel) h2 hg (fun x hx => hlt x (by simp [hx])) hsp
 have b1 : ∀ sp : Nat -> Bool, (∀ x ∈ p1, sp x.block = true) -> DataW.Trod enc Tryz.prog W' 0 sp true 39 v1 d1 p1 := fun sp hsp => Gx.trod_keep (by kernel_rfl) (by kernel_rfl) (by decide +kernel) h1 hg (fun x hx => hlt x (by simp [hx])) hsp
 have b0 : ∀ sp : Nat -> Bool, (∀ x ∈ p0, sp x.block = true) -> DataW.Trod enc Tryz.prog W' 0 sp true 26 v0 d0 p0 := fun sp hsp => Gx.trod_keep (by kernel_rfl) (by kernel_rfl) (by decide +kernel) h0 hg (fun x hx => hlt x (by simp [hx])) hsp
 exact ⟨_, rfl, Gx.post_of_below (pa := (p0 ++ (p1 ++ (p2 ++ (p3 ++ []))))) (pv := []) hW' hg (fun _ _ _ => (trodAll_cons_mk (shut_bool Tryz.underlying4 _) trodAll_mk0)) (fun sp hsp => by rw [hpar]; exact (trodAll_cons_mk (b0 sp fun x hx => hsp x (by simp [hx])) (trodAll_cons_mk (b1 sp fun x hx => hsp x (by simp [hx])) (trodAll_cons_mk (b2 sp fun x hx => hsp x (by simp [hx])) (trodAll_cons_mk (b3 sp fun x hx => hsp x (by simp [hx])) trodAll_mk0))))) (fun _ _ => rfl) (by simp)
  (ok_one (by kernel_rfl) rfl (okWide_bool_mk Tryz.underlying4 _))⟩
set_option maxRecDepth 100000
theorem ft1 : (laidOutB Tryz.checked.prog && mapsRowed Tryz.checked.prog) = true := by kernel_rfl
theorem ft2 : (Rows.rsgFinerRow.inPlace == Tryz.checked.prog.inPlace 6) = true := by kernel_rfl
theorem ft3 : (Rows.rsgFinerRow.unfollowed == Tryz.checked.prog.unfollowed 6) = true := by kernel_rfl
theorem ft4 : (Rows.rsgFinerRow.named == Tryz.checked.prog.varsNamed 6) = true := by kernel_rfl
theorem ft6 : ((Tryz.checked.prog.stops == []) && (Tryz.checked.prog.stopKnobs == [])) = true := by kernel_rfl
theorem ft7 : (Rows.rsgFinerRow.plainKeys == Tryz.checked.prog.plainKeys) = true := by kernel_rfl
theorem ft8 : Tryz.checked.prog.stopsHeard = true := by kernel_rfl
theorem ft9 : (Tryz.checked.prog.mayEnter && ((Rows.rsgFinerRow.lifted == Tryz.checked.prog.liftsFinal) && (Tryz.checked.prog.make == some Rows.rsgFinerRow.make))) = true := by kernel_rfl
theorem ft5 : (Rows.rsgFinerRow.recurses == Tryz.checked.prog.recurses 6) = true := by
 have h : Tryz.checked.prog.unfollowed 6 = true := by have := ft3; rw [beq_iff_eq] at this; exact this.symm
 unfold Program.recurses; rw [h]; rfl
theorem facts : joinedFacts Tryz.checked.prog 6 Tryz.f6 Rows.rsgFinerSpec Rows.rsgFinerRow = true := by
 obtain ⟨h1, h2⟩ := Bool.and_eq_true_iff.1 ft1
 obtain ⟨h3, h4⟩ := Bool.and_eq_true_iff.1 ft6
 obtain ⟨h5, h6⟩ := Bool.and_eq_true_iff.1 ft9
 obtain ⟨h7, h8⟩ := Bool.and_eq_true_iff.1 h6
 unfold joinedFacts
 rw [h1, h2, ft2, ft3, ft4, ft5, h3, h4, ft7, ft8, h5, h7, h8]
 kernel_rfl
theorem over : Rows.rsgFinerRow.holds Tryz.pinned (OpenSpec.ofChange Rows.rsgFinerSpec) :=
 OpenClaim.holds_of_wide 6 Tryz.f6 rfl rfl rfl rfl rfl rfl rfl ⟨rfl, rfl, rfl, rfl, rfl⟩ rfl rfl rfl rfl rfl (by kernel_rfl) Tryz.func6 facts
  (of_decide_eq_true (by kernel_rfl)) (by unfold Func.isWrapper; first | (rw [if_pos (by decide +kernel)]; kernel_rfl) | (rw [if_neg (by decide +kernel)]; exact ⟨rfl, rfl⟩))
  (fun os started H enc _ => lifted os started H enc)
/-- The statement. -/
theorem proved : Rows.RsgFinerSaid :=
 over
#print axioms proved
end Go.Proofs.YtlpgdngcgbeegaaGreat.rsgFiner
