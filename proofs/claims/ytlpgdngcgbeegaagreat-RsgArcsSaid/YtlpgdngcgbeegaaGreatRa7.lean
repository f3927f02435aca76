/- gimmallaw16.RsgArcs returns true for all arguments, and leaves what was there as it was. No condition beyond the statement. -/
/- Merged by pack.py: FairP, FairQ, AlvC, GxOM, AlvD, RsgH, GxOL, RefE, RefF, GxON, RefG, RefH, IntE, GxOP, RsgK, RgArcs. -/
import Derived.Test.YtlpgdngcgbeegaaGreatRa1
import Derived.Test.YtlpgdngcgbeegaaGreatRa2
import Derived.Test.YtlpgdngcgbeegaaGreatRa3
import Derived.Test.YtlpgdngcgbeegaaGreatRa4
import Derived.Test.YtlpgdngcgbeegaaGreatRa5
import Derived.Test.YtlpgdngcgbeegaaGreatRa6
import Derived.Test.YtlpgdngcgbeegaaGreatRows
import Derived.WalkKit
import Derived.ProofKit
import Derived.OpenShut
import Derived.ShutString
import Derived.Below
import Derived.Carry
/- Plain: a history's graph has no circle just if there is a fair order. -/
namespace Go.Proofs.YtlpgdngcgbeegaaGreat.Gx
open Go
set_option linter.unusedSimpArgs false
set_option linter.unusedVariables false
theorem least {P : Nat -> Prop} : ∀ {n k : Nat}, k <= n -> P k -> ∃ f, P f /\ ∀ j, P j -> f <= j := by
 intro n
 induction n with
 | zero => intro k hk h; exact ⟨k, h, fun j _ => by omega⟩
 | succ n ih =>
  intro k hk h
  by_cases hx : ∃ j, j <= n /\ P j
  ·obtain ⟨j, hj, hp⟩ := hx; exact ih hj hp
  ·refine ⟨k, h, fun j hj => ?_⟩
   rcases Nat.lt_or_ge j k with h' | h'
   ·exact absurd ⟨j, by omega, hj⟩ hx
   ·exact h'
theorem greatest {P : Nat -> Prop} {n k : Nat} (h : P k) (hb : ∀ j, P j -> j < n) : ∃ l, P l /\ ∀ j, P j -> j <= l := by
 obtain ⟨m, ⟨j, hj, hm⟩, hmin⟩ := least (P := fun m => ∃ j, P j /\ m + j = n) (n := n) (k := n - k) (by omega) ⟨k, h, by have := hb k h; omega⟩
 refine ⟨j, hj, fun i hi => ?_⟩
 have h1 := hb i hi
 have h2 := hmin (n - i) ⟨i, hi, by omega⟩
 omega
theorem get_lt {α : Type} {l : List α} {i : Nat} {a : α} (h : l[i]? = some a) : i < l.length := (List.getElem?_eq_some_iff.1 h).1
theorem InP.sym {x : CatD} {hs : List Nd} (hM : HMay x hs) {i k : Nat} {d : Int} (h : InP x hs i k d) : InP x hs k i d := by
 rcases h with rfl | ⟨a, b, ha, hb, h1, h2, h3, h4⟩
 ·exact .inl rfl
 ·exact .inr ⟨b, a, hb, ha, h1.symm, h3, h2, by rw [hM.cls hb ha h1.symm]; exact h4.symm⟩
theorem InP.tr {x : CatD} {hs : List Nd} (hM : HMay x hs) {i j k : Nat} {d : Int} (h : InP x hs i j d) (g : InP x hs j k d) : InP x hs i k d := by
 rcases h with rfl | ⟨a, b, ha, hb, h1, h2, h3, h4⟩
 ·exact g
 ·rcases g with rfl | ⟨b', c, hb', hc, g1, g2, g3, g4⟩
  ·exact .inr ⟨a, b, ha, hb, h1, h2, h3, h4⟩
  ·rw [hb] at hb'; cases hb'
   exact .inr ⟨a, c, ha, hc, h1.trans g1, h2, g3, h4.trans (by rw [hM.cls ha hb h1]; exact g4)⟩
theorem InP.saga {x : CatD} {hs : List Nd} {i k : Nat} {d : Int} {a : Nd} (h : InP x hs i k d) (ha : hs[i]? = some a) : ∃ b, hs[k]? = some b /\ b.v.1 = a.v.1 := by
 rcases h with rfl | ⟨a', b, ha', hb, h1, _⟩
 ·exact ⟨a, ha, rfl⟩
 ·rw [ha] at ha'; cases ha'; exact ⟨b, hb, h1.symm⟩
theorem LstP.ex {x : CatD} {hs : List Nd} {i : Nat} (hi : i < hs.length) (d : Int) : ∃ l, LstP x hs i d l := greatest (P := fun k => InP x hs i k d) (.inl rfl) fun _ h => h.lt hi
theorem FstP.ex {x : CatD} {hs : List Nd} {i : Nat} (hi : i < hs.length) (d : Int) : ∃ l, FstP x hs i d l := least (P := fun k => InP x hs i k d) (Nat.le_refl i) (.inl rfl)
def ArcE (x : CatD) (hs : List Nd) (a b : Nat) : Prop := ∃ c : Int, ArcIn x hs ((a : Int), (b : Int), c)
theorem arc_own {x : CatD} {hs : List Nd} : ∀ {n i k : Nat} {m nd : Nd}, i <= n -> hs[k]? = some m -> hs[i]? = some nd -> m.v.1 = nd.v.1 -> k < i -> TC (ArcE x hs) k i := by
 intro n
 induction n with
 | zero => intro i k m nd h1 h2 h3 h4 h5; omega
 | succ n ih =>
  intro i k m nd h1 h2 h3 h4 h5
  obtain ⟨j, ⟨hj, nj, hnj, hsj⟩, hmax⟩ := greatest (P := fun j => j < i /\ ∃ nj, hs[j]? = some nj /\ nj.v.1 = nd.v.1) (n := i) (k := k) ⟨h5, m, h2, h4⟩ fun j h => h.1
  have harc : ArcE x hs j i := ⟨1, i, get_lt h3, .inl ⟨_, ⟨nd, h3, .inr ⟨j, nj, hj, hnj, hsj, rfl, fun q mq g1 g2 g3 g4 => by have := hmax q ⟨g2, mq, g3, g4⟩; omega⟩⟩, by simp⟩⟩
  have hkj := hmax k ⟨h5, m, h2, h4⟩
  rcases Nat.lt_or_ge k j with h | h
  ·exact (ih (by omega) h2 hnj (h4.trans hsj.symm) h).more harc
  ·have : k = j := by omega
   subst this; exact .one harc
theorem arc_btw {x : CatD} {hs : List Nd} {i k l f : Nat} {ni nk : Nd} (hd : Dp hs i k) (hi : hs[i]? = some ni) (hk : hs[k]? = some nk) (hne : nk.v.1 ≠ ni.v.1) (hl : LstP x hs k ni.v.2.1 l) (hf : FstP x hs i nk.v.2.1 f) : ArcE x hs k i /\ ArcE x hs l i /\ ArcE x hs k f := by
 have h0 : BtwP x hs k i [((k : Int), (i : Int), 2), ((l : Int), (i : Int), 3), ((k : Int), (f : Int), 4)] := ⟨nk, ni, l, f, hk, hi, hl, hf, rfl⟩
 have h1 : ∀ e, e ∈ [((k : Int), (i : Int), (2 : Int)), ((l : Int), (i : Int), 3), ((k : Int), (f : Int), 4)] -> ArcIn x hs e := fun e he => ⟨i, get_lt hi, .inr ⟨k, _, hd, ⟨ni, nk, hi, hk, hne⟩, h0, he⟩⟩
 exact ⟨⟨2, h1 _ (by simp)⟩, ⟨3, h1 _ (by simp)⟩, ⟨4, h1 _ (by simp)⟩⟩
theorem arc_inv {x : CatD} {hs : List Nd} {a b : Nat} (h : ArcE x hs a b) : (∃ m n, a < b /\ hs[a]? = some m /\ hs[b]? = some n /\ m.v.1 = n.v.1) \/ ∃ i k ni nk l f, Dp hs i k /\ hs[i]? = some ni /\ hs[k]? = some nk /\ nk.v.1 ≠ ni.v.1 /\ LstP x hs k ni.v.2.1 l /\ FstP x hs i nk.v.2.1 f /\ ((a = k /\ b = i) \/ (a = l /\ b = i) \/ (a = k /\ b = f)) := by
 obtain ⟨c, i, hi, h⟩ := h
 rcases h with ⟨xs, ⟨n, hn, h⟩, he⟩ | ⟨k, xs, hd, ⟨ni, nk, h1, h2, h3⟩, ⟨nk', ni', l, f, g1, g2, g3, g4, rfl⟩, he⟩
 ·rcases h with ⟨rfl, _⟩ | ⟨k, m, k1, k2, k3, rfl, _⟩
  ·cases he
  ·have := List.mem_singleton.1 he
   simp only [Prod.mk.injEq] at this
   have ea : a = k := by omega
   have eb : b = i := by omega
   subst ea eb
   exact .inl ⟨m, n, k1, k2, hn, k3⟩
 ·rw [h2] at g1; rw [h1] at g2; cases g1; cases g2
  refine .inr ⟨i, k, ni, nk, l, f, hd, h1, h2, h3, g3, g4, ?_⟩
  simp only [List.mem_cons, List.not_mem_nil, or_false, Prod.mk.injEq] at he
  omega
structure FairR (x : CatD) (hs : List Nd) (r : Nat -> Nat) : Prop where
 inj : ∀ i j, i < hs.length -> j < hs.length -> r i = r j -> i = j
 keep : ∀ i k, EdP hs i k -> r k < r i
 fair : ∀ o a b u no na, hs[o]? = some no -> hs[a]? = some na -> na.v.1 ≠ no.v.1 -> InP x hs a b no.v.2.1 -> r a <= r o -> r o <= r b -> InP x hs a u no.v.2.1 -> ¬ (Dp hs o u \/ Dp hs u o)
theorem dp_rank {hs : List Nd} {r : Nat -> Nat} (h : ∀ i k, EdP hs i k -> r k < r i) {i k : Nat} (hd : Dp hs i k) : r k < r i := by
 induction hd with
 | one e => exact h _ _ e
 | more _ e ih => have := h _ _ e; omega
theorem FairR.arc {x : CatD} {hs : List Nd} {r : Nat -> Nat} (hM : HMay x hs) (h : FairR x hs r) {a b : Nat} (e : ArcE x hs a b) : r a < r b := by
 rcases arc_inv e with ⟨m, n, h1, h2, h3, h4⟩ | ⟨i, k, ni, nk, l, f, hd, hi, hk, hne, hl, hf, hab⟩
 ·exact h.keep _ _ ⟨h1, n, m, h3, h2, .inl h4.symm⟩
 ·have hki := dp_rank h.keep hd
  rcases hab with ⟨rfl, rfl⟩ | ⟨rfl, rfl⟩ | ⟨rfl, rfl⟩
  ·exact hki
  ·apply Nat.lt_of_not_le; intro hle
   exact h.fair b k a k ni nk hi hk hne hl.1 (by omega) hle (.inl rfl) (.inl hd)
  ·apply Nat.lt_of_not_le; intro hle
   obtain ⟨nf, hnf, hsf⟩ := hf.1.saga hi
   exact h.fair a b i i nk nf hk hnf (by rw [hsf]; exact fun e => hne e.symm) (hf.1.sym hM) hle (by omega) (hf.1.sym hM) (.inr hd)
theorem tc_rank {E : Nat -> Nat -> Prop} {r : Nat -> Nat} (h : ∀ a b, E a b -> r a < r b) {a b : Nat} (t : TC E a b) : r a < r b := by
 induction t with
 | one e => exact h _ _ e
 | more _ e ih => have := h _ _ e; omega
theorem fair_of {x : CatD} {hs : List Nd} {r : Nat -> Nat} (hM : HMay x hs) (inj : ∀ i j, i < hs.length -> j < hs.length -> r i = r j -> i = j) (hr : ∀ a b, ArcE x hs a b -> r a < r b) : FairR x hs r := by
 have own : ∀ {k i : Nat} {m n : Nd}, hs[k]? = some m -> hs[i]? = some n -> m.v.1 = n.v.1 -> k < i -> r k < r i := fun h1 h2 h3 h4 => tc_rank hr (arc_own (Nat.le_refl _) h1 h2 h3 h4)
 have dp : ∀ {i k : Nat}, Dp hs i k -> k < hs.length -> i < hs.length -> r k < r i := fun {i k} hd hk hi => by
  have hlt := Dp_lt hd
  have gi : hs[i]? = some hs[i] := List.getElem?_eq_getElem hi
  have gk : hs[k]? = some hs[k] := List.getElem?_eq_getElem hk
  by_cases he : hs[k].v.1 = hs[i].v.1
  ·exact own gk gi he hlt
  ·obtain ⟨l, hl⟩ := LstP.ex (x := x) hk hs[i].v.2.1
   obtain ⟨f, hf⟩ := FstP.ex (x := x) hi hs[k].v.2.1
   exact hr _ _ (arc_btw hd gi gk he hl hf).1
 refine ⟨inj, fun i k h => ?_, fun o a b u no na ho ha hne hab h1 h2 hau hd => ?_⟩
 ·obtain ⟨hlt, a, b, ga, gb, _⟩ := id h
  exact dp (.one h) (get_lt gb) (get_lt ga)
 ·obtain ⟨nu, hu, hsu⟩ := hau.saga ha
  obtain ⟨nb, hb, hsb⟩ := hab.saga ha
  rcases hd with hd | hd
  ·obtain ⟨l, hl⟩ := LstP.ex (x := x) (get_lt hu) no.v.2.1
   obtain ⟨f, hf⟩ := FstP.ex (x := x) (get_lt ho) nu.v.2.1
   have h3 := hr _ _ (arc_btw hd ho hu (by rw [hsu]; exact hne) hl hf).2.1
   have hbl := hl.2 b ((hau.sym hM).tr hM hab)
   obtain ⟨nl, hnl, hsl⟩ := hl.1.saga hu
   rcases Nat.lt_or_ge b l with h' | h'
   ·have := own hb hnl (hsb.trans (hsu.symm.trans hsl.symm)) h'; omega
   ·have : b = l := by omega
    subst this; omega
  ·obtain ⟨l, hl⟩ := LstP.ex (x := x) (get_lt ho) nu.v.2.1
   obtain ⟨f, hf⟩ := FstP.ex (x := x) (get_lt hu) no.v.2.1
   have h3 := hr _ _ (arc_btw hd hu ho (by rw [hsu]; exact fun e => hne e.symm) hl hf).2.2
   have hfa := hf.2 a (hau.sym hM)
   obtain ⟨nf, hnf, hsf⟩ := hf.1.saga hu
   rcases Nat.lt_or_ge f a with h' | h'
   ·have := own hnf ha (hsf.trans hsu) h'; omega
   ·have : f = a := by omega
    subst this; omega
def pos : List Nat -> Nat -> Nat
 | [], _ => 0
 | x :: l, i => if x = i then 0 else pos l i + 1
theorem pos_mem : ∀ {p : List Nat} {a : Nat} (q : List Nat), a ∈ p -> pos (p ++ q) a < p.length
 | x :: p, a, q, h => by
  rw [List.cons_append, pos, List.length_cons]
  by_cases e : x = a
  ·rw [if_pos e]; omega
  ·rw [if_neg e]
   have := pos_mem (p := p) q ((List.mem_cons.1 h).resolve_left fun h => e h.symm)
   omega
theorem pos_not : ∀ {p : List Nat} {b : Nat} (q : List Nat), b ∉ p -> pos (p ++ b :: q) b = p.length
 | [], b, q, _ => by rw [List.nil_append, pos, if_pos rfl]; rfl
 | x :: p, b, q, h => by
  rw [List.cons_append, pos, if_neg (fun e => h (by rw [e]; exact List.mem_cons_self ..)), pos_not q fun h' => h (List.mem_cons_of_mem _ h'), List.length_cons]
theorem pos_get : ∀ {l : List Nat} {a : Nat}, a ∈ l -> l[pos l a]? = some a
 | x :: l, a, h => by
  rw [pos]
  by_cases e : x = a
  ·rw [if_pos e, e]; rfl
  ·rw [if_neg e, List.getElem?_cons_succ]
   exact pos_get ((List.mem_cons.1 h).resolve_left fun h => e h.symm)
theorem full_mem {out : List Nat} {n : Nat} (hn : out.Nodup) (hl : ∀ i ∈ out, i < n) (h : out.length = n) {i : Nat} (hi : i < n) : i ∈ out := by
 refine Classical.byContradiction fun hno => ?_
 have := nodup_le (a := i :: out) (b := List.range n) (List.nodup_cons.2 ⟨hno, hn⟩) fun j hj => by
  rcases List.mem_cons.1 hj with rfl | hj
  ·exact List.mem_range.2 hi
  ·exact List.mem_range.2 (hl j hj)
 rw [List.length_cons, List.length_range] at this
 omega
theorem full_miss {out : List Nat} {n : Nat} (h : out.length < n) : ∃ i, i < n /\ i ∉ out := by
 refine Classical.byContradiction fun hno => ?_
 have := nodup_le (a := List.range n) (b := out) List.nodup_range fun j hj => Classical.byContradiction fun h' => hno ⟨j, List.mem_range.1 hj, h'⟩
 rw [List.length_range] at this
 omega
theorem holds_pos {arcs : List ArcD} {out : List Nat} {j : Nat} : 0 < holds arcs out j ↔ ∃ e ∈ arcs, e.2.1 = (j : Int) /\ ∀ k ∈ out, e.1 ≠ (k : Int) := by
 unfold holds
 rw [List.countP_pos_iff]
 refine exists_congr fun e => and_congr_right fun _ => ?_
 unfold holdB
 rw [Bool.and_eq_true, beq_iff_eq, Bool.not_eq_true']
 refine and_congr_right fun _ => ⟨fun h k hk he => ?_, fun h => ?_⟩
 ·rw [List.any_eq_false] at h
  exact h k hk (beq_iff_eq.2 he)
 ·rw [List.any_eq_false]
  exact fun k hk he => h k hk (beq_iff_eq.1 he)
theorem told_rank {arcs : List ArcD} {n : Nat} {out : List Nat} (hT : ToldP arcs n out) (hl : out.length = n) {a b : Nat} {c : Int} (he : ((a : Int), (b : Int), c) ∈ arcs) (hb : b < n) : pos out a < pos out b := by
 have hnd := hT.run.nodup
 obtain ⟨p, q, hpq⟩ := List.append_of_mem (full_mem hnd.1 hnd.2 hl hb)
 obtain ⟨h1, h2, h3, _⟩ := hT.run.at hpq
 have : ¬ 0 < holds arcs p b := by omega
 rw [holds_pos] at this
 have ha : a ∈ p := Classical.byContradiction fun h => this ⟨_, he, rfl, fun k hk e => h (by rw [show a = k from Int.ofNat.inj e]; exact hk)⟩
 rw [hpq, pos_not q h2]
 exact pos_mem _ ha
theorem told_full {arcs : List ArcD} {n : Nat} {out : List Nat} (hT : ToldP arcs n out) {r : Nat -> Nat} (hr : ∀ e ∈ arcs, ∃ a b : Nat, e.1 = (a : Int) /\ e.2.1 = (b : Int) /\ a < n /\ r a < r b) : out.length = n := by
 have hlen := hT.run.len
 refine Classical.byContradiction fun hne => ?_
 obtain ⟨i0, h0, h0'⟩ := full_miss (out := out) (n := n) (by omega)
 obtain ⟨m, ⟨i, hi, hio, rfl⟩, hmin⟩ := least (P := fun m => ∃ i, i < n /\ i ∉ out /\ r i = m) (Nat.le_refl _) ⟨i0, h0, h0', rfl⟩
 obtain ⟨e, he, h1, h2⟩ := holds_pos.1 ((hT.all i hi).resolve_left hio)
 obtain ⟨a, b, ha, hb, han, hab⟩ := hr e he
 have : b = i := Int.ofNat.inj (hb.symm.trans h1)
 subst this
 have := hmin (r a) ⟨a, han, fun h => h2 a h ha, rfl⟩
 omega
theorem arc_of {x : CatD} {hs : List Nd} {ys : List ArcD} (hM : HMay x hs) (hA : ArcsP x hs ys) {e : ArcD} (he : e ∈ ys) : ∃ a b : Nat, e.1 = (a : Int) /\ e.2.1 = (b : Int) /\ a < hs.length /\ b < hs.length /\ ArcE x hs a b := by
 have h := (hA.mem hM e).1 he
 obtain ⟨⟨h1, h2⟩, ⟨h3, h4⟩, _⟩ := h.q
 obtain ⟨e1, e2, e3⟩ := e
 obtain ⟨a, rfl⟩ := Int.eq_ofNat_of_zero_le h1
 obtain ⟨b, rfl⟩ := Int.eq_ofNat_of_zero_le h3
 exact ⟨a, b, rfl, rfl, by dsimp only at h2; omega, by dsimp only at h4; omega, e3, h⟩
theorem ArcE.lt {x : CatD} {hs : List Nd} {a b : Nat} (h : ArcE x hs a b) : a < hs.length /\ b < hs.length := by
 obtain ⟨c, h⟩ := h
 have := h.q
 dsimp only at this
 omega
theorem told_fair {x : CatD} {hs : List Nd} {ys : List ArcD} {out : List Nat} (hM : HMay x hs) (hA : ArcsP x hs ys) (hT : ToldP ys hs.length out) (hl : out.length = hs.length) : FairR x hs (pos out) := by
 have hnd := hT.run.nodup
 refine fair_of hM (fun i j hi hj e => ?_) fun a b ⟨c, h⟩ => told_rank hT hl ((hA.mem hM _).2 h) (ArcE.lt ⟨c, h⟩).2
 have h1 := pos_get (full_mem hnd.1 hnd.2 hl hi)
 have h2 := pos_get (full_mem hnd.1 hnd.2 hl hj)
 rw [e, h2] at h1
 exact (Option.some.inj h1).symm
theorem told_iff {x : CatD} {hs : List Nd} {ys : List ArcD} {out : List Nat} (hM : HMay x hs) (hA : ArcsP x hs ys) (hT : ToldP ys hs.length out) : out.length = hs.length ↔ ∃ r, FairR x hs r :=
 ⟨fun h => ⟨_, told_fair hM hA hT h⟩, fun ⟨r, h⟩ => told_full hT (r := r) fun e he => by
  obtain ⟨a, b, h1, h2, h3, h4, h5⟩ := arc_of hM hA he
  exact ⟨a, b, h1, h2, h3, h.arc hM h5⟩⟩
theorem take_get {hs : List Nd} {m i : Nat} {a : Nd} (h : (hs.take m)[i]? = some a) : i < m /\ hs[i]? = some a := by
 rw [List.getElem?_take] at h
 split at h
 ·exact ⟨‹_›, h⟩
 ·cases h
theorem HMay.take {x : CatD} {hs : List Nd} (h : HMay x hs) (m : Nat) : HMay x (hs.take m) := by
 refine ⟨h.cat, by have := h.len; rw [List.length_take]; omega, fun i n hn => ?_⟩
 obtain ⟨h1, h2⟩ := take_get hn
 have := h.ok i n h2
 unfold lastOwn at this ⊢
 rw [List.take_take, Nat.min_eq_left (by omega)]
 exact this
end Go.Proofs.YtlpgdngcgbeegaaGreat.Gx
/- Plain: the document's order is what is told; a history in the order in which it is. -/
namespace Go.Proofs.YtlpgdngcgbeegaaGreat.Gx
open Go
set_option linter.unusedSimpArgs false
set_option linter.unusedVariables false
end Go.Proofs.YtlpgdngcgbeegaaGreat.Gx
/- The catalogue of the documents' examples, as data and in memory. -/
namespace Go.Proofs.YtlpgdngcgbeegaaGreat.Gx
open Go
set_option linter.unusedSimpArgs false
set_option linter.unusedVariables false
theorem SlR.mk {w : World} {e : Ty} {s : Sl} {l : List e.den} {css : List (List Value)} (hl : css.length = l.length) (hr : ∀ (i : Nat) c x, css[i]? = some c -> l[i]? = some x -> rep (fun _ => True) w e x c) (hR : Rd w s e.sz css.flatten) (hn : s.n = l.length) (hc : s.n <= s.c) (hm : s.c <= maxLen) : SlR w e s l :=
 ⟨s, rfl, hn, hc, hm, fun _ _ _ => trivial, css, hl, hr, hR⟩
theorem rdBlk {w : World} {b n sz : Nat} {arr : Array Value} {T : TypeId} {cs : List Value} (h : w.heap[b]? = some (.cells arr T (0, 0))) (hs : arr.toList = cs) (hl : cs.length = n * sz) : Rd w ⟨some ⟨b, 0, none⟩, n, n⟩ sz cs :=
 ⟨hl, hl, cellsAt_of h fun i v hv => by rw [Nat.zero_add, <- Array.getElem?_toList, hs]; exact hv⟩
abbrev strA : ByteArray := ByteArray.mk (Array.mk [(97 : UInt8)])
abbrev insA : InsD := (5, 0, 0, 0, (0, 0), (0, 0), 0)
abbrev stpA : StpD := ([insA], [])
abbrev clsA : ClsD := (strA, 0, [stpA, stpA], [([], []), ([], [])], false)
abbrev catA : CatD := ([clsA], List.replicate 16 0)
theorem insA_ok : InsOk insA 0 := ⟨by decide, by decide, by decide, by decide, by decide, by decide, by decide, by decide, by decide, by decide, fun h => absurd h (by decide), fun h => absurd h (by decide)⟩
theorem stpA_ok : CodeOk stpA.1 0 /\ FootOk stpA.2 0 :=
 ⟨⟨by decide, by decide, by decide, by decide, fun x hx => by rw [List.mem_singleton.1 hx]; exact insA_ok⟩, by decide, by decide, by decide, fun s hs => by cases hs⟩
theorem clsA_ok : ClsOk clsA := by
 refine ⟨by decide, by decide, by decide, by decide, by decide, by decide, rfl, fun s hs => ?_, fun s hs => ?_⟩
 ·simp only [List.mem_cons, List.not_mem_nil, or_false] at hs
  rcases hs with rfl | rfl <;> exact stpA_ok
 ·simp only [List.mem_cons, List.not_mem_nil, or_false] at hs
  rcases hs with rfl | rfl <;> exact ⟨.inl rfl, by decide, by decide, by decide, fun s hs => by cases hs⟩
theorem brkA (c d : Nat) : brk catA c d = 0 := by
 unfold brk
 dsimp only
 rw [List.getD_eq_getElem?_getD, List.getElem?_replicate]
 split <;> rfl
theorem catA_ok : CatOk catA := by
 refine ⟨by decide, by decide, fun c hc => ?_, fun i k a b hk ha hb => ?_, fun c d hc hd => ?_⟩
 ·rw [List.mem_singleton.1 hc]; exact clsA_ok
 ·have := get_lt ha
  have h1 : catA.1.length = 1 := rfl
  omega
 ·rw [brkA]
  refine ⟨Int.le_refl _, ?_⟩
  unfold topB
  split
  ·exact Int.pow_pos (by decide)
  ·decide
theorem brkBA (c d i : Nat) : brkB catA c d i = false := by
 unfold brkB
 rw [brkA]
 simp
theorem rep_insA (w : World) : rep (fun _ => True) w tyIns insA (insC insA) :=
 ⟨[_], _, rfl, ⟨rfl, by decide⟩, [_], _, rfl, ⟨rfl, by decide⟩, [_], _, rfl, ⟨rfl, by decide⟩, [_], _, rfl, ⟨rfl, by decide⟩, [_, _], _, rfl, ⟨[_], [_], rfl, ⟨rfl, by decide⟩, rfl, by decide⟩, [_, _], _, rfl, ⟨[_], [_], rfl, ⟨rfl, by decide⟩, rfl, by decide⟩, rfl, by decide⟩
theorem one_le_max : 1 <= maxLen := by decide +kernel
theorem two_le_max : 2 <= maxLen := by decide +kernel
theorem SlR.nil (w : World) (e : Ty) : SlR w e ⟨none, 0, 0⟩ [] :=
 SlR.mk (css := []) rfl (fun i c x h => by cases h) (OwS.nil w e.sz).rd rfl (Nat.le_refl _) (Nat.zero_le _)
theorem SlR.one {w : World} {e : Ty} {b : Nat} {x : e.den} {c : List Value} {T : TypeId} (hb : w.heap[b]? = some (.cells c.toArray T (0, 0))) (hx : rep (fun _ => True) w e x c) : SlR w e ⟨some ⟨b, 0, none⟩, 1, 1⟩ [x] := by
 refine SlR.mk (css := [c]) rfl (fun i c' x' hc hx' => ?_) (rdBlk hb (by simp) (by have := rep_len hx; simp; omega)) rfl (Nat.le_refl _) one_le_max
 cases i with
 | zero => cases hc; cases hx'; exact hx
 | succ i => cases hc
theorem SlR.two {w : World} {e : Ty} {b : Nat} {x y : e.den} {c d : List Value} {T : TypeId} (hb : w.heap[b]? = some (.cells (c ++ d).toArray T (0, 0))) (hx : rep (fun _ => True) w e x c) (hy : rep (fun _ => True) w e y d) : SlR w e ⟨some ⟨b, 0, none⟩, 2, 2⟩ [x, y] := by
 refine SlR.mk (css := [c, d]) rfl (fun i c' x' hc hx' => ?_) (rdBlk hb (by simp) (by have := rep_len hx; have := rep_len hy; simp; omega)) rfl (Nat.le_refl _) two_le_max
 match i, hc, hx' with
 | 0, hc, hx' => cases hc; cases hx'; exact hx
 | 1, hc, hx' => cases hc; cases hx'; exact hy
/-- The catalogue in memory. -/
theorem catA_mem {w : World} {b1 b8 b10 b12 : Nat} {T1 T8 T10 T12 : TypeId} (h1 : w.heap[b1]? = some (.cells (insC insA).toArray T1 (0, 0)))
  (h8 : w.heap[b8]? = some (.cells #[slV ⟨some ⟨b1, 0, none⟩, 1, 1⟩, slV ⟨none, 0, 0⟩, slV ⟨some ⟨b1, 0, none⟩, 1, 1⟩, slV ⟨none, 0, 0⟩] T8 (0, 0)))
  (h10 : w.heap[b10]? = some (.cells { toList := zc #[slV ⟨none, 0, 0⟩, slV ⟨none, 0, 0⟩] 2 } T10 (0, 0)))
  (h12 : w.heap[b12]? = some (.cells (clsC (strA, 0, ⟨some ⟨b8, 0, none⟩, 2, 2⟩, ⟨some ⟨b10, 0, none⟩, 2, 2⟩, false)).toArray T12 (0, 0))) :
  CatM w (⟨some ⟨b12, 0, none⟩, 1, 1⟩, List.replicate 16 (.int .i64 0)) catA := by
 have r1 : rep (fun _ => True) w tyStp stpA [slV ⟨some ⟨b1, 0, none⟩, 1, 1⟩, slV ⟨none, 0, 0⟩] := ⟨[_], [_], rfl, SlR.one h1 (rep_insA w), SlR.nil w tySpT⟩
 have r0 : rep (fun _ => True) w tyStp ([], []) [slV ⟨none, 0, 0⟩, slV ⟨none, 0, 0⟩] := ⟨[_], [_], rfl, SlR.nil w tyIns, SlR.nil w tySpT⟩
 have hz : zc #[slV ⟨none, 0, 0⟩, slV ⟨none, 0, 0⟩] 2 = [slV ⟨none, 0, 0⟩, slV ⟨none, 0, 0⟩] ++ [slV ⟨none, 0, 0⟩, slV ⟨none, 0, 0⟩] := by
  rw [zc_all (v := slV ⟨none, 0, 0⟩) (by intro x hx; simpa using hx)]; rfl
 rw [hz] at h10
 have rc : rep (fun _ => True) w tyCls clsA (clsC (strA, 0, ⟨some ⟨b8, 0, none⟩, 2, 2⟩, ⟨some ⟨b10, 0, none⟩, 2, 2⟩, false)) :=
  ⟨[_], _, rfl, ⟨rfl, one_le_max⟩, [_], _, rfl, ⟨rfl, by decide⟩, [_], _, rfl, SlR.two (e := tyStp) (c := [_, _]) (d := [_, _]) h8 r1 r1, [_], _, rfl, SlR.two (e := tyStp) (c := [_, _]) (d := [_, _]) h10 r0 r0, rfl⟩
 exact ⟨SlR.one h12 rc, rfl, rfl, fun n hn => by rw [(List.mem_replicate.1 hn).2]; omega⟩
theorem ne_of_size {W : World} {b b' : Nat} {arr arr' : Array Value} {T T' : TypeId} {q q' : Nat × Nat} (h : W.heap[b]? = some (.cells arr T q)) (h' : W.heap[b']? = some (.cells arr' T' q')) (hs : arr.size ≠ arr'.size) : b ≠ b' := fun e => by
 subst e
 rw [h] at h'
 cases h'
 exact hs rfl
theorem cxA_one (v : Sl) : One (cxC (v, List.replicate 16 (.int .i64 0))) := by
 intro x hx
 rcases List.mem_cons.1 hx with rfl | hx
 ·rfl
 ·rw [(List.mem_replicate.1 hx).2]; rfl
/-- The catalogue is put into its box. -/
theorem alvFin {w W : World} {b1 bS bC bK bX : Nat} {T1 TS TC TK TX : TypeId} {arr : Array Value} {K : World -> Prop} (E : Ext w W) (hb : w.heap.size <= bX)
  (h1 : W.heap[b1]? = some (.cells (insC insA).toArray T1 (0, 0)))
  (hS : W.heap[bS]? = some (.cells #[slV ⟨some ⟨b1, 0, none⟩, 1, 1⟩, slV ⟨none, 0, 0⟩, slV ⟨some ⟨b1, 0, none⟩, 1, 1⟩, slV ⟨none, 0, 0⟩] TS (0, 0)))
  (hC : W.heap[bC]? = some (.cells { toList := zc #[slV ⟨none, 0, 0⟩, slV ⟨none, 0, 0⟩] 2 } TC (0, 0)))
  (hK : W.heap[bK]? = some (.cells (clsC (strA, 0, ⟨some ⟨bS, 0, none⟩, 2, 2⟩, ⟨some ⟨bC, 0, none⟩, 2, 2⟩, false)).toArray TK (0, 0)))
  (hX : W.heap[bX]? = some (.cells arr TX (0, 0))) (hs : arr.size = 17)
  (hG : ∀ w', Ext w w' -> w'.heap[bX]? = some (.cells (cxC (⟨some ⟨bK, 0, none⟩, 1, 1⟩, List.replicate 16 (.int .i64 0))).toArray TX (0, 0)) -> CatM w' (⟨some ⟨bK, 0, none⟩, 1, 1⟩, List.replicate 16 (.int .i64 0)) catA -> K w') :
  StoreP W bX 0 (cxC (⟨some ⟨bK, 0, none⟩, 1, 1⟩, List.replicate 16 (.int .i64 0))) K := by
 have hz : (zc #[slV ⟨none, 0, 0⟩, slV ⟨none, 0, 0⟩] 2).length = 4 := by rw [zc_len]; rfl
 refine store_all hX (by rw [hs]; rfl) (cxA_one _) fun w' u => hG w' (E.chN u.ch fun j e => by omega) u.new (catA_mem (u.at h1 ?_) (u.at hS ?_) (u.at hC ?_) (u.at hK ?_))
 ·exact ne_of_size h1 hX (by rw [hs]; decide)
 ·exact ne_of_size hS hX (by rw [hs]; exact (by decide : 4 ≠ 17))
 ·exact ne_of_size hC hX (by rw [hs]; show (zc #[slV ⟨none, 0, 0⟩, slV ⟨none, 0, 0⟩] 2).length ≠ 17; omega)
 ·exact ne_of_size hK hX (by rw [hs]; simp)
end Go.Proofs.YtlpgdngcgbeegaaGreat.Gx
/- Written by mkf.py: what is to be shown of functions, as Gx reckons it from their code. -/
namespace Go.Proofs.YtlpgdngcgbeegaaGreat.Gx
open Go
def GxOMby0 : ByteArray := (ByteArray.mk (Array.mk ([(97 : UInt8)] )))
set_option linter.unusedVariables false
set_option maxRecDepth 100000
def F28k1 (w27 : World) (b14 : Nat) (b21 : Nat) (R : Value -> World -> Prop) : Prop := ∃ (x29 : Sl × List Value), CellsN w27 b14 0 17 (Qy x29.fst :: x29.2) /\ Qv Tryz.prog 34 #[Value.agg { toList := Qy x29.fst :: x29.2 }, Value.slice (some ⟨b21, 0, none⟩) 4 4] w27 fun t34 w33 => R (Value.bool !t34) w33
def F28 (w : World) (R : Value -> World -> Prop) : Prop := 1 * 9 <= 16777216 /\ AllocP w (Obj.cells #[Qz 5, Qz 0, Qz 0, Qz 0, Qz 0, Qz 0, Qz 0, Qz 0, Qz 0] 95) fun b1 w2 => AllocP w2 (Obj.cells #[Value.slice none 0 0, Value.slice none 0 0] 99) fun b3 w4 => #[Value.slice (some ⟨b1, 0, none⟩) 1 1, Value.slice none 0 0].size = 2 /\ StoreP w4 b3 0 [Value.slice (some ⟨b1, 0, none⟩) 1 1, Value.slice none 0 0] fun w5 => ∃ (x6 : Sl × Sl), CellsAt w5.drew b3 0 [Qy x6.fst, Qy x6.snd] /\ ∃ (x7 : Sl × Sl), CellsAt w5.drew b3 0 [Qy x7.fst, Qy x7.snd] /\ (2 * 2 <= 16777216 /\ AllocP w5.drew (Obj.cells #[Qy x6.fst, Qy x6.snd, Qy x7.fst, Qy x7.snd] 99) fun b8 w9 => (((0 : Int) <= 2 /\ (2 : Int) <= 2 /\ (2 : Int) <= 281474976710656 /\ ((48 : Nat) : Int) * (2 : Int) <= 281474976710656) /\ AllocP w9 (Obj.cells { toList := zc #[Value.slice none 0 0, Value.slice none 0 0] (Int.toNat 2) } 99) fun b10 w11 => (1 * 5 <= 16777216 /\ AllocP w11 (Obj.cells #[Value.string GxOMby0, Qz 0, Value.slice (some ⟨b8, 0, none⟩) 2 2, Value.slice (some ⟨b10, 0, none⟩) (Int.toNat 2) (Int.toNat 2), Value.bool false] 49) fun b12 w13 => AllocP w13 (Obj.cells #[Value.slice none 0 0, Qz 0, Qz 0, Qz 0, Qz 0, Qz 0, Qz 0, Qz 0, Qz 0, Qz 0, Qz 0, Qz 0, Qz 0, Qz 0, Qz 0, Qz 0, Qz 0] 26) fun b14 w15 => #[Value.slice (some ⟨b12, 0, none⟩) 1 1, Qz 0, Qz 0, Qz 0, Qz 0, Qz 0, Qz 0, Qz 0, Qz 0, Qz 0, Qz 0, Qz 0, Qz 0, Qz 0, Qz 0, Qz 0, Qz 0].size = 17 /\ StoreP w15 b14 0 [Value.slice (some ⟨b12, 0, none⟩) 1 1, Qz 0, Qz 0, Qz 0, Qz 0, Qz 0, Qz 0, Qz 0, Qz 0, Qz 0, Qz 0, Qz 0, Qz 0, Qz 0, Qz 0, Qz 0, Qz 0] fun w16 => 1 * 2 <= 16777216 /\ AllocP w16 (Obj.cells #[Qz 5, Qz 5] 101) fun b17 w18 => 1 * 2 <= 16777216 /\ AllocP w18 (Obj.cells #[Qz 6, Qz 6] 101) fun b19 w20 => 4 * 6 <= 16777216 /\ AllocP w20 (Obj.cells #[Qz 1, Qz 0, Qz 0, Value.bool false, Value.slice none 0 0, Value.slice (some ⟨b17, 0, none⟩) 1 1, Qz 2, Qz 0, Qz 0, Value.bool false, Value.slice none 0 0, Value.slice (some ⟨b17, 0, none⟩) 1 1, Qz 2, Qz 0, Qz 1, Value.bool false, Value.slice none 0 0, Value.slice (some ⟨b19, 0, none⟩) 1 1, Qz 1, Qz 0, Qz 1, Value.bool false, Value.slice none 0 0, Value.slice (some ⟨b19, 0, none⟩) 1 1] 53) fun b21 w22 => ∃ (x23 : Sl × List Value), CellsN w22.drew b14 0 17 (Qy x23.fst :: x23.2) /\ ((0 : Int) <= 3 /\ 3 <= ((4 : Nat) : Int)) /\ Qv Tryz.prog 34 #[Value.agg { toList := Qy x23.fst :: x23.2 }, Value.slice (slAddr (some ⟨b21, 0, none⟩) 4 0 6) (Int.toNat 3) 4] w22.drew fun t28 w27 => IfB t28 (F28k1 w27 b14 b21 R) (R (Value.bool false) w27)) /\ AllocP w11 (Obj.cells #[Value.slice none 0 0, Qz 0, Qz 0, Qz 0, Qz 0, Qz 0, Qz 0, Qz 0, Qz 0, Qz 0, Qz 0, Qz 0, Qz 0, Qz 0, Qz 0, Qz 0, Qz 0] 26) fun b35 w36 => 1 * 5 <= 16777216 /\ AllocP w36 (Obj.cells #[Value.string GxOMby0, Qz 0, Value.slice (some ⟨b8, 0, none⟩) 2 2, Value.slice (some ⟨b10, 0, none⟩) (Int.toNat 2) (Int.toNat 2), Value.bool false] 49) fun b37 w38 => #[Value.slice (some ⟨b37, 0, none⟩) 1 1, Qz 0, Qz 0, Qz 0, Qz 0, Qz 0, Qz 0, Qz 0, Qz 0, Qz 0, Qz 0, Qz 0, Qz 0, Qz 0, Qz 0, Qz 0, Qz 0].size = 17 /\ StoreP w38 b35 0 [Value.slice (some ⟨b37, 0, none⟩) 1 1, Qz 0, Qz 0, Qz 0, Qz 0, Qz 0, Qz 0, Qz 0, Qz 0, Qz 0, Qz 0, Qz 0, Qz 0, Qz 0, Qz 0, Qz 0, Qz 0] fun w39 => 1 * 2 <= 16777216 /\ AllocP w39 (Obj.cells #[Qz 5, Qz 5] 101) fun b40 w41 => 1 * 2 <= 16777216 /\ AllocP w41 (Obj.cells #[Qz 6, Qz 6] 101) fun b42 w43 => 4 * 6 <= 16777216 /\ AllocP w43 (Obj.cells #[Qz 1, Qz 0, Qz 0, Value.bool false, Value.slice none 0 0, Value.slice (some ⟨b40, 0, none⟩) 1 1, Qz 2, Qz 0, Qz 0, Value.bool false, Value.slice none 0 0, Value.slice (some ⟨b40, 0, none⟩) 1 1, Qz 2, Qz 0, Qz 1, Value.bool false, Value.slice none 0 0, Value.slice (some ⟨b42, 0, none⟩) 1 1, Qz 1, Qz 0, Qz 1, Value.bool false, Value.slice none 0 0, Value.slice (some ⟨b42, 0, none⟩) 1 1] 53) fun b44 w45 => ∃ (x46 : Sl × List Value), CellsN w45.drew b35 0 17 (Qy x46.fst :: x46.2) /\ ((0 : Int) <= 3 /\ 3 <= ((4 : Nat) : Int)) /\ Qv Tryz.prog 34 #[Value.agg { toList := Qy x46.fst :: x46.2 }, Value.slice (slAddr (some ⟨b44, 0, none⟩) 4 0 6) (Int.toNat 3) 4] w45.drew fun t51 w50 => IfB t51 (F28k1 w50 b35 b44 R) (R (Value.bool false) w50)) /\ AllocP w9 (Obj.cells #[Value.slice none 0 0, Qz 0, Qz 0, Qz 0, Qz 0, Qz 0, Qz 0, Qz 0, Qz 0, Qz 0, Qz 0, Qz 0, Qz 0, Qz 0, Qz 0, Qz 0, Qz 0] 26) fun b58 w59 => ((0 : Int) <= 2 /\ (2 : Int) <= 2 /\ (2 : Int) <= 281474976710656 /\ ((48 : Nat) : Int) * (2 : Int) <= 281474976710656) /\ AllocP w59 (Obj.cells { toList := zc #[Value.slice none 0 0, Value.slice none 0 0] (Int.toNat 2) } 99) fun b60 w61 => 1 * 5 <= 16777216 /\ AllocP w61 (Obj.cells #[Value.string GxOMby0, Qz 0, Value.slice (some ⟨b8, 0, none⟩) 2 2, Value.slice (some ⟨b60, 0, none⟩) (Int.toNat 2) (Int.toNat 2), Value.bool false] 49) fun b62 w63 => #[Value.slice (some ⟨b62, 0, none⟩) 1 1, Qz 0, Qz 0, Qz 0, Qz 0, Qz 0, Qz 0, Qz 0, Qz 0, Qz 0, Qz 0, Qz 0, Qz 0, Qz 0, Qz 0, Qz 0, Qz 0].size = 17 /\ StoreP w63 b58 0 [Value.slice (some ⟨b62, 0, none⟩) 1 1, Qz 0, Qz 0, Qz 0, Qz 0, Qz 0, Qz 0, Qz 0, Qz 0, Qz 0, Qz 0, Qz 0, Qz 0, Qz 0, Qz 0, Qz 0, Qz 0] fun w64 => 1 * 2 <= 16777216 /\ AllocP w64 (Obj.cells #[Qz 5, Qz 5] 101) fun b65 w66 => 1 * 2 <= 16777216 /\ AllocP w66 (Obj.cells #[Qz 6, Qz 6] 101) fun b67 w68 => 4 * 6 <= 16777216 /\ AllocP w68 (Obj.cells #[Qz 1, Qz 0, Qz 0, Value.bool false, Value.slice none 0 0, Value.slice (some ⟨b65, 0, none⟩) 1 1, Qz 2, Qz 0, Qz 0, Value.bool false, Value.slice none 0 0, Value.slice (some ⟨b65, 0, none⟩) 1 1, Qz 2, Qz 0, Qz 1, Value.bool false, Value.slice none 0 0, Value.slice (some ⟨b67, 0, none⟩) 1 1, Qz 1, Qz 0, Qz 1, Value.bool false, Value.slice none 0 0, Value.slice (some ⟨b67, 0, none⟩) 1 1] 53) fun b69 w70 => ∃ (x71 : Sl × List Value), CellsN w70.drew b58 0 17 (Qy x71.fst :: x71.2) /\ ((0 : Int) <= 3 /\ 3 <= ((4 : Nat) : Int)) /\ Qv Tryz.prog 34 #[Value.agg { toList := Qy x71.fst :: x71.2 }, Value.slice (slAddr (some ⟨b69, 0, none⟩) 4 0 6) (Int.toNat 3) 4] w70.drew fun t76 w75 => IfB t76 (F28k1 w75 b58 b69 R) (R (Value.bool false) w75)) /\ (((0 : Int) <= 2 /\ (2 : Int) <= 2 /\ (2 : Int) <= 281474976710656 /\ ((48 : Nat) : Int) * (2 : Int) <= 281474976710656) /\ AllocP w5.drew (Obj.cells { toList := zc #[Value.slice none 0 0, Value.slice none 0 0] (Int.toNat 2) } 99) fun b83 w84 => CellsAt w84 b3 0 [Qy x7.fst, Qy x7.snd] /\ CellsAt w84 b3 0 [Qy x6.fst, Qy x6.snd] /\ (2 * 2 <= 16777216 /\ AllocP w84 (Obj.cells #[Qy x6.fst, Qy x6.snd, Qy x7.fst, Qy x7.snd] 99) fun b85 w86 => (1 * 5 <= 16777216 /\ AllocP w86 (Obj.cells #[Value.string GxOMby0, Qz 0, Value.slice (some ⟨b85, 0, none⟩) 2 2, Value.slice (some ⟨b83, 0, none⟩) (Int.toNat 2) (Int.toNat 2), Value.bool false] 49) fun b87 w88 => AllocP w88 (Obj.cells #[Value.slice none 0 0, Qz 0, Qz 0, Qz 0, Qz 0, Qz 0, Qz 0, Qz 0, Qz 0, Qz 0, Qz 0, Qz 0, Qz 0, Qz 0, Qz 0, Qz 0, Qz 0] 26) fun b89 w90 => #[Value.slice (some ⟨b87, 0, none⟩) 1 1, Qz 0, Qz 0, Qz 0, Qz 0, Qz 0, Qz 0, Qz 0, Qz 0, Qz 0, Qz 0, Qz 0, Qz 0, Qz 0, Qz 0, Qz 0, Qz 0].size = 17 /\ StoreP w90 b89 0 [Value.slice (some ⟨b87, 0, none⟩) 1 1, Qz 0, Qz 0, Qz 0, Qz 0, Qz 0, Qz 0, Qz 0, Qz 0, Qz 0, Qz 0, Qz 0, Qz 0, Qz 0, Qz 0, Qz 0, Qz 0] fun w91 => 1 * 2 <= 16777216 /\ AllocP w91 (Obj.cells #[Qz 5, Qz 5] 101) fun b92 w93 => 1 * 2 <= 16777216 /\ AllocP w93 (Obj.cells #[Qz 6, Qz 6] 101) fun b94 w95 => 4 * 6 <= 16777216 /\ AllocP w95 (Obj.cells #[Qz 1, Qz 0, Qz 0, Value.bool false, Value.slice none 0 0, Value.slice (some ⟨b92, 0, none⟩) 1 1, Qz 2, Qz 0, Qz 0, Value.bool false, Value.slice none 0 0, Value.slice (some ⟨b92, 0, none⟩) 1 1, Qz 2, Qz 0, Qz 1, Value.bool false, Value.slice none 0 0, Value.slice (some ⟨b94, 0, none⟩) 1 1, Qz 1, Qz 0, Qz 1, Value.bool false, Value.slice none 0 0, Value.slice (some ⟨b94, 0, none⟩) 1 1] 53) fun b96 w97 => ∃ (x98 : Sl × List Value), CellsN w97.drew b89 0 17 (Qy x98.fst :: x98.2) /\ ((0 : Int) <= 3 /\ 3 <= ((4 : Nat) : Int)) /\ Qv Tryz.prog 34 #[Value.agg { toList := Qy x98.fst :: x98.2 }, Value.slice (slAddr (some ⟨b96, 0, none⟩) 4 0 6) (Int.toNat 3) 4] w97.drew fun t103 w102 => IfB t103 (F28k1 w102 b89 b96 R) (R (Value.bool false) w102)) /\ AllocP w86 (Obj.cells #[Value.slice none 0 0, Qz 0, Qz 0, Qz 0, Qz 0, Qz 0, Qz 0, Qz 0, Qz 0, Qz 0, Qz 0, Qz 0, Qz 0, Qz 0, Qz 0, Qz 0, Qz 0] 26) fun b110 w111 => 1 * 5 <= 16777216 /\ AllocP w111 (Obj.cells #[Value.string GxOMby0, Qz 0, Value.slice (some ⟨b85, 0, none⟩) 2 2, Value.slice (some ⟨b83, 0, none⟩) (Int.toNat 2) (Int.toNat 2), Value.bool false] 49) fun b112 w113 => #[Value.slice (some ⟨b112, 0, none⟩) 1 1, Qz 0, Qz 0, Qz 0, Qz 0, Qz 0, Qz 0, Qz 0, Qz 0, Qz 0, Qz 0, Qz 0, Qz 0, Qz 0, Qz 0, Qz 0, Qz 0].size = 17 /\ StoreP w113 b110 0 [Value.slice (some ⟨b112, 0, none⟩) 1 1, Qz 0, Qz 0, Qz 0, Qz 0, Qz 0, Qz 0, Qz 0, Qz 0, Qz 0, Qz 0, Qz 0, Qz 0, Qz 0, Qz 0, Qz 0, Qz 0] fun w114 => 1 * 2 <= 16777216 /\ AllocP w114 (Obj.cells #[Qz 5, Qz 5] 101) fun b115 w116 => 1 * 2 <= 16777216 /\ AllocP w116 (Obj.cells #[Qz 6, Qz 6] 101) fun b117 w118 => 4 * 6 <= 16777216 /\ AllocP w118 (Obj.cells #[Qz 1, Qz 0, Qz 0, Value.bool false, Value.slice none 0 0, Value.slice (some ⟨b115, 0, none⟩) 1 1, Qz 2, Qz 0, Qz 0, Value.bool false, Value.slice none 0 0, Value.slice (some ⟨b115, 0, none⟩) 1 1, Qz 2, Qz 0, Qz 1, Value.bool false, Value.slice none 0 0, Value.slice (some ⟨b117, 0, none⟩) 1 1, Qz 1, Qz 0, Qz 1, Value.bool false, Value.slice none 0 0, Value.slice (some ⟨b117, 0, none⟩) 1 1] 53) fun b119 w120 => ∃ (x121 : Sl × List Value), CellsN w120.drew b110 0 17 (Qy x121.fst :: x121.2) /\ ((0 : Int) <= 3 /\ 3 <= ((4 : Nat) : Int)) /\ Qv Tryz.prog 34 #[Value.agg { toList := Qy x121.fst :: x121.2 }, Value.slice (slAddr (some ⟨b119, 0, none⟩) 4 0 6) (Int.toNat 3) 4] w120.drew fun t126 w125 => IfB t126 (F28k1 w125 b110 b119 R) (R (Value.bool false) w125)) /\ AllocP w84 (Obj.cells #[Value.slice none 0 0, Qz 0, Qz 0, Qz 0, Qz 0, Qz 0, Qz 0, Qz 0, Qz 0, Qz 0, Qz 0, Qz 0, Qz 0, Qz 0, Qz 0, Qz 0, Qz 0] 26) fun b133 w134 => CellsAt w134 b3 0 [Qy x7.fst, Qy x7.snd] /\ CellsAt w134 b3 0 [Qy x6.fst, Qy x6.snd] /\ 2 * 2 <= 16777216 /\ AllocP w134 (Obj.cells #[Qy x6.fst, Qy x6.snd, Qy x7.fst, Qy x7.snd] 99) fun b135 w136 => 1 * 5 <= 16777216 /\ AllocP w136 (Obj.cells #[Value.string GxOMby0, Qz 0, Value.slice (some ⟨b135, 0, none⟩) 2 2, Value.slice (some ⟨b83, 0, none⟩) (Int.toNat 2) (Int.toNat 2), Value.bool false] 49) fun b137 w138 => #[Value.slice (some ⟨b137, 0, none⟩) 1 1, Qz 0, Qz 0, Qz 0, Qz 0, Qz 0, Qz 0, Qz 0, Qz 0, Qz 0, Qz 0, Qz 0, Qz 0, Qz 0, Qz 0, Qz 0, Qz 0].size = 17 /\ StoreP w138 b133 0 [Value.slice (some ⟨b137, 0, none⟩) 1 1, Qz 0, Qz 0, Qz 0, Qz 0, Qz 0, Qz 0, Qz 0, Qz 0, Qz 0, Qz 0, Qz 0, Qz 0, Qz 0, Qz 0, Qz 0, Qz 0] fun w139 => 1 * 2 <= 16777216 /\ AllocP w139 (Obj.cells #[Qz 5, Qz 5] 101) fun b140 w141 => 1 * 2 <= 16777216 /\ AllocP w141 (Obj.cells #[Qz 6, Qz 6] 101) fun b142 w143 => 4 * 6 <= 16777216 /\ AllocP w143 (Obj.cells #[Qz 1, Qz 0, Qz 0, Value.bool false, Value.slice none 0 0, Value.slice (some ⟨b140, 0, none⟩) 1 1, Qz 2, Qz 0, Qz 0, Value.bool false, Value.slice none 0 0, Value.slice (some ⟨b140, 0, none⟩) 1 1, Qz 2, Qz 0, Qz 1, Value.bool false, Value.slice none 0 0, Value.slice (some ⟨b142, 0, none⟩) 1 1, Qz 1, Qz 0, Qz 1, Value.bool false, Value.slice none 0 0, Value.slice (some ⟨b142, 0, none⟩) 1 1] 53) fun b144 w145 => ∃ (x146 : Sl × List Value), CellsN w145.drew b133 0 17 (Qy x146.fst :: x146.2) /\ ((0 : Int) <= 3 /\ 3 <= ((4 : Nat) : Int)) /\ Qv Tryz.prog 34 #[Value.agg { toList := Qy x146.fst :: x146.2 }, Value.slice (slAddr (some ⟨b144, 0, none⟩) 4 0 6) (Int.toNat 3) 4] w145.drew fun t151 w150 => IfB t151 (F28k1 w150 b133 b144 R) (R (Value.bool false) w150)) /\ AllocP w5.drew (Obj.cells #[Value.slice none 0 0, Qz 0, Qz 0, Qz 0, Qz 0, Qz 0, Qz 0, Qz 0, Qz 0, Qz 0, Qz 0, Qz 0, Qz 0, Qz 0, Qz 0, Qz 0, Qz 0] 26) fun b158 w159 => CellsAt w159 b3 0 [Qy x7.fst, Qy x7.snd] /\ CellsAt w159 b3 0 [Qy x6.fst, Qy x6.snd] /\ (2 * 2 <= 16777216 /\ AllocP w159 (Obj.cells #[Qy x6.fst, Qy x6.snd, Qy x7.fst, Qy x7.snd] 99) fun b160 w161 => ((0 : Int) <= 2 /\ (2 : Int) <= 2 /\ (2 : Int) <= 281474976710656 /\ ((48 : Nat) : Int) * (2 : Int) <= 281474976710656) /\ AllocP w161 (Obj.cells { toList := zc #[Value.slice none 0 0, Value.slice none 0 0] (Int.toNat 2) } 99) fun b162 w163 => 1 * 5 <= 16777216 /\ AllocP w163 (Obj.cells #[Value.string GxOMby0, Qz 0, Value.slice (some ⟨b160, 0, none⟩) 2 2, Value.slice (some ⟨b162, 0, none⟩) (Int.toNat 2) (Int.toNat 2), Value.bool false] 49) fun b164 w165 => #[Value.slice (some ⟨b164, 0, none⟩) 1 1, Qz 0, Qz 0, Qz 0, Qz 0, Qz 0, Qz 0, Qz 0, Qz 0, Qz 0, Qz 0, Qz 0, Qz 0, Qz 0, Qz 0, Qz 0, Qz 0].size = 17 /\ StoreP w165 b158 0 [Value.slice (some ⟨b164, 0, none⟩) 1 1, Qz 0, Qz 0, Qz 0, Qz 0, Qz 0, Qz 0, Qz 0, Qz 0, Qz 0, Qz 0, Qz 0, Qz 0, Qz 0, Qz 0, Qz 0, Qz 0] fun w166 => 1 * 2 <= 16777216 /\ AllocP w166 (Obj.cells #[Qz 5, Qz 5] 101) fun b167 w168 => 1 * 2 <= 16777216 /\ AllocP w168 (Obj.cells #[Qz 6, Qz 6] 101) fun b169 w170 => 4 * 6 <= 16777216 /\ AllocP w170 (Obj.cells #[Qz 1, Qz 0, Qz 0, Value.bool false, Value.slice none 0 0, Value.slice (some ⟨b167, 0, none⟩) 1 1, Qz 2, Qz 0, Qz 0, Value.bool false, Value.slice none 0 0, Value.slice (some ⟨b167, 0, none⟩) 1 1, Qz 2, Qz 0, Qz 1, Value.bool false, Value.slice none 0 0, Value.slice (some ⟨b169, 0, none⟩) 1 1, Qz 1, Qz 0, Qz 1, Value.bool false, Value.slice none 0 0, Value.slice (some ⟨b169, 0, none⟩) 1 1] 53) fun b171 w172 => ∃ (x173 : Sl × List Value), CellsN w172.drew b158 0 17 (Qy x173.fst :: x173.2) /\ ((0 : Int) <= 3 /\ 3 <= ((4 : Nat) : Int)) /\ Qv Tryz.prog 34 #[Value.agg { toList := Qy x173.fst :: x173.2 }, Value.slice (slAddr (some ⟨b171, 0, none⟩) 4 0 6) (Int.toNat 3) 4] w172.drew fun t178 w177 => IfB t178 (F28k1 w177 b158 b171 R) (R (Value.bool false) w177)) /\ ((0 : Int) <= 2 /\ (2 : Int) <= 2 /\ (2 : Int) <= 281474976710656 /\ ((48 : Nat) : Int) * (2 : Int) <= 281474976710656) /\ AllocP w159 (Obj.cells { toList := zc #[Value.slice none 0 0, Value.slice none 0 0] (Int.toNat 2) } 99) fun b185 w186 => CellsAt w186 b3 0 [Qy x7.fst, Qy x7.snd] /\ CellsAt w186 b3 0 [Qy x6.fst, Qy x6.snd] /\ 2 * 2 <= 16777216 /\ AllocP w186 (Obj.cells #[Qy x6.fst, Qy x6.snd, Qy x7.fst, Qy x7.snd] 99) fun b187 w188 => 1 * 5 <= 16777216 /\ AllocP w188 (Obj.cells #[Value.string GxOMby0, Qz 0, Value.slice (some ⟨b187, 0, none⟩) 2 2, Value.slice (some ⟨b185, 0, none⟩) (Int.toNat 2) (Int.toNat 2), Value.bool false] 49) fun b189 w190 => #[Value.slice (some ⟨b189, 0, none⟩) 1 1, Qz 0, Qz 0, Qz 0, Qz 0, Qz 0, Qz 0, Qz 0, Qz 0, Qz 0, Qz 0, Qz 0, Qz 0, Qz 0, Qz 0, Qz 0, Qz 0].size = 17 /\ StoreP w190 b158 0 [Value.slice (some ⟨b189, 0, none⟩) 1 1, Qz 0, Qz 0, Qz 0, Qz 0, Qz 0, Qz 0, Qz 0, Qz 0, Qz 0, Qz 0, Qz 0, Qz 0, Qz 0, Qz 0, Qz 0, Qz 0] fun w191 => 1 * 2 <= 16777216 /\ AllocP w191 (Obj.cells #[Qz 5, Qz 5] 101) fun b192 w193 => 1 * 2 <= 16777216 /\ AllocP w193 (Obj.cells #[Qz 6, Qz 6] 101) fun b194 w195 => 4 * 6 <= 16777216 /\ AllocP w195 (Obj.cells #[Qz 1, Qz 0, Qz 0, Value.bool false, Value.slice none 0 0, Value.slice (some ⟨b192, 0, none⟩) 1 1, Qz 2, Qz 0, Qz 0, Value.bool false, Value.slice none 0 0, Value.slice (some ⟨b192, 0, none⟩) 1 1, Qz 2, Qz 0, Qz 1, Value.bool false, Value.slice none 0 0, Value.slice (some ⟨b194, 0, none⟩) 1 1, Qz 1, Qz 0, Qz 1, Value.bool false, Value.slice none 0 0, Value.slice (some ⟨b194, 0, none⟩) 1 1] 53) fun b196 w197 => ∃ (x198 : Sl × List Value), CellsN w197.drew b158 0 17 (Qy x198.fst :: x198.2) /\ ((0 : Int) <= 3 /\ 3 <= ((4 : Nat) : Int)) /\ Qv Tryz.prog 34 #[Value.agg { toList := Qy x198.fst :: x198.2 }, Value.slice (slAddr (some ⟨b196, 0, none⟩) 4 0 6) (Int.toNat 3) 4] w197.drew fun t203 w202 => IfB t203 (F28k1 w202 b158 b196 R) (R (Value.bool false) w202)
theorem F28_ok (w : World) (R : Value -> World -> Prop) (h : F28  w R) : CW Tryz.prog 28 #[] w R :=
 call_of tbOk mixed en28 Tryz.func28 rfl (.node (.nil) (.node (.nil) (.node (.draw (.st 0 (.st 1 (.ac 2 [] (.ac 3 [] (.st 4 (.ac 5 [] (.st 6 (.ac 7 [6] (.ac 8 [] (.fin) (.non)) (.non))) (.ac 7 [4] (.ac 5 [] (.st 6 (.ac 8 [] (.fin) (.non))) (.non)) (.non)))) (.ac 7 [] (.ac 3 [] (.st 4 (.ac 5 [] (.st 6 (.ac 8 [] (.fin) (.non))) (.non))) (.non)) (.non))) (.ac 3 [1, 0] (.ac 2 [] (.st 4 (.ac 5 [] (.st 6 (.ac 7 [6] (.ac 8 [] (.fin) (.non)) (.non))) (.ac 7 [4] (.ac 5 [] (.st 6 (.ac 8 [] (.fin) (.non))) (.non)) (.non)))) (.ac 7 [1, 0] (.ac 2 [] (.st 4 (.ac 5 [] (.st 6 (.ac 8 [] (.fin) (.non))) (.non))) (.non)) (.non))) (.ac 7 [1, 0] (.ac 2 [] (.ac 3 [] (.st 4 (.ac 5 [] (.st 6 (.ac 8 [] (.fin) (.non))) (.non))) (.non)) (.ac 3 [1, 0] (.ac 2 [] (.st 4 (.ac 5 [] (.st 6 (.ac 8 [] (.fin) (.non))) (.non))) (.non)) (.non))) (.non))))))) (.node (.nil) (.node (.nil) (.node (.draw (.st 0 (.st 1 (.st 2 (.ac 3 [] (.st 4 (.st 5 (.st 6 (.ac 7 [] (.st 8 (.st 9 (.st 10 (.fin)))) (.non))))) (.non)))))) (.nil))))))) (by kernel_rfl) (Nat.le_of_ble_eq_true (by kernel_rfl)) (Eq.mp (α := F28  w R) (by kernel_rfl) h)
def F5j1 (R : Value -> World -> Prop) (s17 : Sl) (s29 : Sl) (y30 : Nat -> Int -> World -> Prop) (b32 : Nat) (n33 : Int) (w34 : World) : Prop := IfB (decide (n33 < (s17.n : Int))) (Qx s17.1 n33 (s17.2 : Int) fun b37 b38 => ∃ (x39 : Int × Int × Int), CellsAt w34.drew b37 (b38 + n33.toNat * 3) (lC44 x39) /\ Qx s29.1 n33 (s29.2 : Int) fun b40 b41 => ∃ (x42 : Int × Int × Int), CellsAt w34.drew b40 (b41 + n33.toNat * 3) (lC44 x42) /\ ∃ t43 : Bool, EqAt Tryz.prog 44 ((.agg (lC44 x39).toArray)) ((.agg (lC44 x42).toArray)) t43 /\ IfB (!t43) (R (Value.bool false) w34.drew) (Qn y30 b32 (IntKind.i64.wrap (n33 + 1)) w34.drew)) (R (Value.bool true) w34)
def F5 (t0 : Sl × List Value) (t1 : Sl) (w : World) (R : Value -> World -> Prop) : Prop := AllocP w (Obj.cells { toList := Qy t0.fst :: t0.2 } 26) fun b1 w2 => Qv Tryz.prog 28 #[] w2 fun t5 w4 => IfB (!t5) (R (Value.bool false) w4) (∃ (x6 : Sl × List Value), CellsN w4 b1 0 17 (Qy x6.fst :: x6.2) /\ Qv Tryz.prog 29 #[Value.agg { toList := Qy x6.fst :: x6.2 }, Qy t1] w4 fun t11 w10 => IfB t11 (R (Value.bool true) w10) (∃ (x12 : Sl × List Value), CellsN w10 b1 0 17 (Qy x12.fst :: x12.2) /\ Qu Tryz.prog 30 #[Value.agg { toList := Qy x12.fst :: x12.2 }, Qy t1] w10 fun s17 w16 => ∃ (x18 : Sl × List Value), CellsN w16 b1 0 17 (Qy x18.fst :: x18.2) /\ Qv Tryz.prog 31 #[Value.agg { toList := Qy x18.fst :: x18.2 }, Qy t1] w16 fun t23 w22 => IfB (!t23) (R (Value.bool ((s17.2 : Int) == 0)) w22) (∃ (x24 : Sl × List Value), CellsN w22 b1 0 17 (Qy x24.fst :: x24.2) /\ Qu Tryz.prog 32 #[Value.agg { toList := Qy x24.fst :: x24.2 }, Qy t1] w22 fun s29 w28 => IfB ((s17.2 : Int) != (s29.2 : Int)) (R (Value.bool false) w28) (Ql (α := Int) 0 w28 fun y30 b32 n33 w34 => (F5j1 R s17 s29 y30 b32 n33 w34)))))
theorem F5_ok (t0 : Sl × List Value) (t1 : Sl) (w : World) (R : Value -> World -> Prop) (h : F5 t0 t1 w R) : CW Tryz.prog 5 #[Value.agg { toList := Qy t0.fst :: t0.2 }, Qy t1] w R :=
 call_of tbOk mixed en5 Tryz.func5 rfl (.node (.nil) (.node (.nil) (.node (.nil) (.node (.nil) (.node (.nil) (.node (.nil) (.node (.nil) (.node (.node (.nil) (.loop [(7, .one (.int .i64))] [31, 32, 33, 34, 37, 38, 39, 40, 41, 42, 43, 44, 45, 4, 35, 36, 7] (.node (.nil) (.node (.node (.draw (.st 0 (.st 1 (.st 2 (.st 3 (.st 4 (.st 5 (.st 6 (.st 7 (.st 8 (.fin))))))))))) (.nil)) (.nil))))) (.nil))))))))) (by kernel_rfl) (Nat.le_of_ble_eq_true (by kernel_rfl)) (Eq.mp (α := F5 t0 t1 w R) (by kernel_rfl) h)
end Go.Proofs.YtlpgdngcgbeegaaGreat.Gx
/- Package gimmallaw16: the document's example. -/
namespace Go.Proofs.YtlpgdngcgbeegaaGreat.Gx
open Go
set_option linter.unusedSimpArgs false
set_option linter.unusedVariables false
def alvH (s5 s6 : Sl) : List Nd := [⟨(1, 0, 0, false, nilS, s5), [], [(5, 5)]⟩, ⟨(2, 0, 0, false, nilS, s5), [], [(5, 5)]⟩, ⟨(2, 0, 1, false, nilS, s6), [], [(6, 6)]⟩, ⟨(1, 0, 1, false, nilS, s6), [], [(6, 6)]⟩]
theorem alvH_may (s5 s6 : Sl) : HMay catA (alvH s5 s6) := by
 have h5 : SpsOk [(5, 5)] := ⟨by decide, fun s hs => by rw [List.mem_singleton.1 hs]; unfold mayS; omega⟩
 have h6 : SpsOk [(6, 6)] := ⟨by decide, fun s hs => by rw [List.mem_singleton.1 hs]; unfold mayS; omega⟩
 have h0 : SpsOk [] := ⟨by decide, fun s hs => by cases hs⟩
 refine ⟨catA_ok, (by decide : 4 <= 100), fun i n hn => ?_⟩
 match i, hn with
 | 0, hn => cases hn; exact ⟨(by decide : (0 : Int) <= 1), (by decide : (0 : Int) <= 0), (by decide : (0 : Int) < 1), (by decide : (0 : Int) <= 0), h0, h5, (⟨rfl, rfl⟩ : nextP none _ _)⟩
 | 1, hn => cases hn; exact ⟨(by decide : (0 : Int) <= 2), (by decide : (0 : Int) <= 0), (by decide : (0 : Int) < 1), (by decide : (0 : Int) <= 0), h0, h5, (⟨rfl, rfl⟩ : nextP none _ _)⟩
 | 2, hn => cases hn; exact ⟨(by decide : (0 : Int) <= 2), (by decide : (0 : Int) <= 0), (by decide : (0 : Int) < 1), (by decide : (0 : Int) <= 1), h0, h6, (⟨rfl, rfl, (by decide : (1 : Int) < 2)⟩ : nextP (some ⟨(2, 0, 0, false, nilS, s5), [], [(5, 5)]⟩) ⟨(2, 0, 1, false, nilS, s6), [], [(6, 6)]⟩ _)⟩
 | 3, hn => cases hn; exact ⟨(by decide : (0 : Int) <= 1), (by decide : (0 : Int) <= 0), (by decide : (0 : Int) < 1), (by decide : (0 : Int) <= 1), h0, h6, (⟨rfl, rfl, (by decide : (1 : Int) < 2)⟩ : nextP (some ⟨(1, 0, 0, false, nilS, s5), [], [(5, 5)]⟩) ⟨(1, 0, 1, false, nilS, s6), [], [(6, 6)]⟩ _)⟩
theorem alvH_get (s5 s6 : Sl) {i : Nat} {n : Nd} (h : (alvH s5 s6)[i]? = some n) : (i = 0 /\ n.v.1 = 1) \/ (i = 1 /\ n.v.1 = 2) \/ (i = 2 /\ n.v.1 = 2) \/ (i = 3 /\ n.v.1 = 1) := by
 match i, h with
 | 0, h => cases h; exact .inl ⟨rfl, rfl⟩
 | 1, h => cases h; exact .inr (.inl ⟨rfl, rfl⟩)
 | 2, h => cases h; exact .inr (.inr (.inl ⟨rfl, rfl⟩))
 | 3, h => cases h; exact .inr (.inr (.inr ⟨rfl, rfl⟩))
theorem alvH_good (s5 s6 : Sl) : FairR catA ((alvH s5 s6).take 3) id := by
 refine ⟨fun i j _ _ e => e, fun i k e => e.1, fun o a b u no na ho ha hne hab h1 h2 hau hd => ?_⟩
 obtain ⟨nb, hb, hsb⟩ := hab.saga ha
 have k1 := alvH_get s5 s6 (take_get ho).2
 have k2 := alvH_get s5 s6 (take_get ha).2
 have k3 := alvH_get s5 s6 (take_get hb).2
 have l1 := (take_get ho).1; have l2 := (take_get ha).1; have l3 := (take_get hb).1
 have h1 : a <= o := h1
 have h2 : o <= b := h2
 omega
theorem alvH_bad (s5 s6 : Sl) (r : Nat -> Nat) : ¬ FairR catA (alvH s5 s6) r := by
 intro h
 have m5 : hasS [(5, 5)] 5 := ⟨_, List.mem_singleton.2 rfl, by unfold mayS; omega, by omega, by omega⟩
 have m6 : hasS [(6, 6)] 6 := ⟨_, List.mem_singleton.2 rfl, by unfold mayS; omega, by omega, by omega⟩
 have h10 : EdP (alvH s5 s6) 1 0 := ⟨by omega, _, _, rfl, rfl, .inr ⟨by simp, .inr (.inl ⟨5, m5, m5⟩)⟩⟩
 have h21 : EdP (alvH s5 s6) 2 1 := ⟨by omega, _, _, rfl, rfl, .inl rfl⟩
 have h32 : EdP (alvH s5 s6) 3 2 := ⟨by omega, _, _, rfl, rfl, .inr ⟨by simp, .inr (.inl ⟨6, m6, m6⟩)⟩⟩
 have k1 := h.keep _ _ h10
 have k2 := h.keep _ _ h21
 have k3 := h.keep _ _ h32
 have u0 : ∀ c d k, unitN catA c d k = 0 := fun c d k => by
  induction k with
  | zero => rfl
  | succ k ih => rw [unitN, ih, brkBA]; rfl
 have hin : InP catA (alvH s5 s6) 0 3 0 := .inr ⟨_, _, rfl, rfl, rfl, rfl, rfl, by unfold uN; rw [u0, u0]⟩
 exact h.fair 1 0 3 0 _ _ rfl rfl (by simp) hin (by omega) (by omega) (.inl rfl) (.inl (.one h10))
/-- Behind the catalogue. -/
def Alv16T (w : World) (b : Nat) (R : Value -> World -> Prop) : Prop :=
  1 * 2 <= 16777216 /\ AllocP w (Obj.cells #[Value.int IntKind.i64 5, Value.int IntKind.i64 5] 101) fun (b17 : Nat) (w18 : World) =>
  1 * 2 <= 16777216 /\ AllocP w18 (Obj.cells #[Value.int IntKind.i64 6, Value.int IntKind.i64 6] 101) fun (b19 : Nat) (w20 : World) =>
  4 * 6 <= 16777216 /\ AllocP w20 (Obj.cells #[Value.int IntKind.i64 1, Value.int IntKind.i64 0, Value.int IntKind.i64 0, Value.bool false, Value.slice none 0 0, Value.slice (some ⟨b17, 0, none⟩) 1 1, Value.int IntKind.i64 2, Value.int IntKind.i64 0, Value.int IntKind.i64 0, Value.bool false, Value.slice none 0 0, Value.slice (some ⟨b17, 0, none⟩) 1 1, Value.int IntKind.i64 2, Value.int IntKind.i64 0, Value.int IntKind.i64 1, Value.bool false, Value.slice none 0 0, Value.slice (some ⟨b19, 0, none⟩) 1 1, Value.int IntKind.i64 1, Value.int IntKind.i64 0, Value.int IntKind.i64 1, Value.bool false, Value.slice none 0 0, Value.slice (some ⟨b19, 0, none⟩) 1 1] 53) fun (b21 : Nat) (w22 : World) =>
  ∃ (x23 : Sl × List Value), CellsN w22.drew b 0 17 (Value.slice x23.fst.1 x23.fst.2 x23.fst.3 :: x23.2) /\ ((0 : Int) <= 3 /\ 3 <= ((4 : Nat) : Int)) /\
  CX Tryz.prog 34 #[Value.agg { toList := Value.slice x23.fst.1 x23.fst.2 x23.fst.3 :: x23.2 }, Value.slice (slAddr (some ⟨b21, 0, none⟩) 4 0 6) (Int.toNat 3) 4] w22.drew fun (v26 : Value) (w27 : World) =>
  ∃ t28 : Bool, v26 = Value.bool t28 /\ IfB t28 (F28k1 w27 b b21 R) (R (Value.bool false) w27)
theorem alv16 {w : World} {b : Nat} {T : TypeId} {v : CatV} (hb : w.heap[b]? = some (.cells (cxC v).toArray T (0, 0))) (hC : CatM w v catA) {R : Value -> World -> Prop} (hR : ∀ w', Ext w w' -> R (.bool true) w') :
  Alv16T w b R := by
 refine ⟨by decide, fun b17 w18 a17 => ⟨by decide, fun b19 w20 a19 => ⟨by decide, fun b21 w22 a21 => ?_⟩⟩⟩
 have e20 : Ext w18 w20 := a19.ch _
 have e22 : Ext w20 w22 := a21.ch _
 have E22 : Ext w w22 := ((a17.ch _).trans e20).trans e22
 obtain ⟨s5, hs5⟩ : ∃ s : Sl, s = ⟨some ⟨b17, 0, none⟩, 1, 1⟩ := ⟨_, rfl⟩
 obtain ⟨s6, hs6⟩ : ∃ s : Sl, s = ⟨some ⟨b19, 0, none⟩, 1, 1⟩ := ⟨_, rfl⟩
 have r5 : Rd w22 s5 2 ([((5, 5) : Spn)].flatMap sv) := by rw [hs5]; exact (((OwS.new (cs := [((5, 5) : Spn)].flatMap sv) (n := 1) (sz := 2) a17 rfl).ext e20).ext e22).rd
 have r6 : Rd w22 s6 2 ([((6, 6) : Spn)].flatMap sv) := by rw [hs6]; exact ((OwS.new (cs := [((6, 6) : Spn)].flatMap sv) (n := 1) (sz := 2) a19 rfl).ext e22).rd
 have rn : Rd w22 nilS 2 (([] : List Spn).flatMap sv) := (OwS.nil w22 2).rd
 have hH : Hst w22 ⟨some ⟨b21, 0, none⟩, 4, 4⟩ (alvH s5 s6) := by
  refine ⟨?_, fun n hn => ?_, (by decide : 4 <= 1000000), Nat.le_refl _⟩
  ·rw [hs5, hs6]; exact (OwS.new (n := 4) (sz := 6) a21 rfl).rd
  ·unfold alvH at hn
   simp only [List.mem_cons, List.not_mem_nil, or_false] at hn
   rcases hn with rfl | rfl | rfl | rfl
   ·exact ⟨rn, r5, by simp, by simp⟩
   ·exact ⟨rn, r5, by simp, by simp⟩
   ·exact ⟨rn, r6, by simp, by simp⟩
   ·exact ⟨rn, r6, by simp, by simp⟩
 have hM := alvH_may s5 s6
 have ed := extDrew w22
 have ED : Ext w w22.drew := E22.trans ed
 refine ⟨v, cxN hC hb ED, ⟨by omega, by omega⟩, ?_⟩
 rw [slAddr_zero]
 refine (c34 (hC.ext ED) ((hH.ext ed).cut (k := 3) (by decide : 3 <= 4)) (by rw [List.length_take]; omega)).use ?_
 rintro _ w27 ⟨r, rfl, _, hr, e27⟩
 obtain ⟨ys, out, hA, hT, hbo⟩ := hr (hM.take 3)
 have hrt : r = true := hbo.2 ((told_iff (hM.take 3) hA hT).2 ⟨id, alvH_good s5 s6⟩)
 have E27 : Ext w w27 := ED.trans e27
 refine ⟨r, rfl, IfB.yes hrt ?_⟩
 unfold F28k1
 refine ⟨v, cxN hC hb E27, (c34 (hC.ext E27) ((hH.ext ed).ext e27) (by decide : 4 <= 1000)).use ?_⟩
 rintro _ w33 ⟨r', rfl, _, hr', e33⟩
 obtain ⟨ys', out', hA', hT', hbo'⟩ := hr' hM
 have hrf : r' = false := by
  cases r' with
  | false => rfl
  | true =>
   obtain ⟨q, hq⟩ := (told_iff hM hA' hT').1 (hbo'.1 rfl)
   exact absurd hq (alvH_bad s5 s6 q)
 refine ⟨r', rfl, ?_⟩
 rw [hrf]
 exact hR w33 (E27.trans e33)
theorem c28 (w : World) : CW Tryz.prog 28 #[] w fun v w' => v = .bool true /\ Ext w w' := by
 refine F28_ok w _ ⟨by decide, fun b1 w2 a1 => fun b3 w4 a3 => ⟨rfl, store_all (vs := [slV ⟨some ⟨b1, 0, none⟩, 1, 1⟩, slV ⟨none, 0, 0⟩]) a3.new rfl (by intro v hv; simp at hv; rcases hv with rfl | rfl <;> rfl) fun w5 u5 => ?_⟩⟩
 have e2 : Ext w w2 := a1.ch _
 have e5 : Ext w2 w5 := Ext.fresh a3 u5
 have ed := extDrew w5
 have h1 := Ext.at (e5.trans ed) a1.new
 have E0 : Ext w w5.drew := (e2.trans e5).trans ed
 have hbx : ∀ {W : World}, Ext w5 W -> CellsAt W b3 0 [slV ⟨some ⟨b1, 0, none⟩, 1, 1⟩, slV ⟨none, 0, 0⟩] := fun e => boxAll (cs := [slV ⟨some ⟨b1, 0, none⟩, 1, 1⟩, slV ⟨none, 0, 0⟩]) u5.new e
 refine ⟨(⟨some ⟨b1, 0, none⟩, 1, 1⟩, ⟨none, 0, 0⟩), hbx ed, (⟨some ⟨b1, 0, none⟩, 1, 1⟩, ⟨none, 0, 0⟩), hbx ed, ?_⟩
 have z0 := E0.size
 have fin : ∀ {bX bK : Nat} {TX : TypeId} (w' : World), Ext w w' -> w'.heap[bX]? = some (.cells (cxC (⟨some ⟨bK, 0, none⟩, 1, 1⟩, List.replicate 16 (.int .i64 0))).toArray TX (0, 0)) -> CatM w' (⟨some ⟨bK, 0, none⟩, 1, 1⟩, List.replicate 16 (.int .i64 0)) catA -> Alv16T w' bX (fun v w' => v = .bool true /\ Ext w w') := fun w' e hx hM => alv16 hx hM fun w'' e' => ⟨rfl, e.trans e'⟩
 refine ⟨⟨by decide, fun bS wS aS => ⟨⟨by decide, fun bC wC aC => ⟨⟨by decide, fun bK wK aK bX wX aX => ⟨rfl, alvFin (((((E0).trans (aS.ch _)).trans (aC.ch _)).trans (aK.ch _)).trans (aX.ch _)) (by have := aS.size; have := aS.here; have := aC.size; have := aC.here; have := aK.size; have := aK.here; have := aX.size; have := aX.here; omega) (aX.at (aK.at (aC.at (aS.at (h1))))) (aX.at (aK.at (aC.at (aS.new)))) (aX.at (aK.at (aC.new))) (aX.at (aK.new)) (aX.new) rfl fin⟩⟩,
  fun bX wX aX => ⟨by decide, fun bK wK aK => ⟨rfl, alvFin (((((E0).trans (aS.ch _)).trans (aC.ch _)).trans (aX.ch _)).trans (aK.ch _)) (by have := aS.size; have := aS.here; have := aC.size; have := aC.here; have := aX.size; have := aX.here; have := aK.size; have := aK.here; omega) (aK.at (aX.at (aC.at (aS.at (h1))))) (aK.at (aX.at (aC.at (aS.new)))) (aK.at (aX.at (aC.new))) (aK.new) (aK.at (aX.new)) rfl fin⟩⟩⟩⟩,
  fun bX wX aX => ⟨by decide, fun bC wC aC => ⟨by decide, fun bK wK aK => ⟨rfl, alvFin (((((E0).trans (aS.ch _)).trans (aX.ch _)).trans (aC.ch _)).trans (aK.ch _)) (by have := aS.size; have := aS.here; have := aX.size; have := aX.here; have := aC.size; have := aC.here; have := aK.size; have := aK.here; omega) (aK.at (aC.at (aX.at (aS.at (h1))))) (aK.at (aC.at (aX.at (aS.new)))) (aK.at (aC.new)) (aK.new) (aK.at (aC.at (aX.new))) rfl fin⟩⟩⟩⟩⟩,
  ⟨by decide, fun bC wC aC => ⟨hbx (ed.trans (aC.ch _)), hbx (ed.trans (aC.ch _)), ⟨by decide, fun bS wS aS => ⟨⟨by decide, fun bK wK aK bX wX aX => ⟨rfl, alvFin (((((E0).trans (aC.ch _)).trans (aS.ch _)).trans (aK.ch _)).trans (aX.ch _)) (by have := aC.size; have := aC.here; have := aS.size; have := aS.here; have := aK.size; have := aK.here; have := aX.size; have := aX.here; omega) (aX.at (aK.at (aS.at (aC.at (h1))))) (aX.at (aK.at (aS.new))) (aX.at (aK.at (aS.at (aC.new)))) (aX.at (aK.new)) (aX.new) rfl fin⟩⟩,
  fun bX wX aX => ⟨by decide, fun bK wK aK => ⟨rfl, alvFin (((((E0).trans (aC.ch _)).trans (aS.ch _)).trans (aX.ch _)).trans (aK.ch _)) (by have := aC.size; have := aC.here; have := aS.size; have := aS.here; have := aX.size; have := aX.here; have := aK.size; have := aK.here; omega) (aK.at (aX.at (aS.at (aC.at (h1))))) (aK.at (aX.at (aS.new))) (aK.at (aX.at (aS.at (aC.new)))) (aK.new) (aK.at (aX.new)) rfl fin⟩⟩⟩⟩,
  fun bX wX aX => ⟨hbx ((ed.trans (aC.ch _)).trans (aX.ch _)), hbx ((ed.trans (aC.ch _)).trans (aX.ch _)), by decide, fun bS wS aS => ⟨by decide, fun bK wK aK => ⟨rfl, alvFin (((((E0).trans (aC.ch _)).trans (aX.ch _)).trans (aS.ch _)).trans (aK.ch _)) (by have := aC.size; have := aC.here; have := aX.size; have := aX.here; have := aS.size; have := aS.here; have := aK.size; have := aK.here; omega) (aK.at (aS.at (aX.at (aC.at (h1))))) (aK.at (aS.new)) (aK.at (aS.at (aX.at (aC.new)))) (aK.new) (aK.at (aS.at (aX.new))) rfl fin⟩⟩⟩⟩⟩,
  fun bX wX aX => ⟨hbx (ed.trans (aX.ch _)), hbx (ed.trans (aX.ch _)), ⟨by decide, fun bS wS aS => ⟨by decide, fun bC wC aC => ⟨by decide, fun bK wK aK => ⟨rfl, alvFin (((((E0).trans (aX.ch _)).trans (aS.ch _)).trans (aC.ch _)).trans (aK.ch _)) (by have := aX.size; have := aX.here; have := aS.size; have := aS.here; have := aC.size; have := aC.here; have := aK.size; have := aK.here; omega) (aK.at (aC.at (aS.at (aX.at (h1))))) (aK.at (aC.at (aS.new))) (aK.at (aC.new)) (aK.new) (aK.at (aC.at (aS.at (aX.new)))) rfl fin⟩⟩⟩⟩,
  by decide, fun bC wC aC => ⟨hbx ((ed.trans (aX.ch _)).trans (aC.ch _)), hbx ((ed.trans (aX.ch _)).trans (aC.ch _)), by decide, fun bS wS aS => ⟨by decide, fun bK wK aK => ⟨rfl, alvFin (((((E0).trans (aX.ch _)).trans (aC.ch _)).trans (aS.ch _)).trans (aK.ch _)) (by have := aX.size; have := aX.here; have := aC.size; have := aC.here; have := aS.size; have := aS.here; have := aK.size; have := aK.here; omega) (aK.at (aS.at (aC.at (aX.at (h1))))) (aK.at (aS.new)) (aK.at (aS.at (aC.new))) (aK.new) (aK.at (aS.at (aC.at (aX.new)))) rfl fin⟩⟩⟩⟩⟩
end Go.Proofs.YtlpgdngcgbeegaaGreat.Gx
/- Package rsg: ways, Cycle. -/
namespace Go.Proofs.YtlpgdngcgbeegaaGreat.Gx
open Go
set_option linter.unusedSimpArgs false
set_option linter.unusedVariables false
end Go.Proofs.YtlpgdngcgbeegaaGreat.Gx
/- Written by mkf.py: what is to be shown of functions, as Gx reckons it from their code. -/
namespace Go.Proofs.YtlpgdngcgbeegaaGreat.Gx
open Go
set_option linter.unusedVariables false
set_option maxRecDepth 100000
def F32j6 (t1 : Sl) (b1 : Nat) (n11 : Int) (n43 : Int) (x65 : Int × Int × Int) (y69 : Int × Int -> World -> Prop) (n80 : Int) (w81 : World) : Prop := IfB (decide (x65.fst < 0)) (∃ (x84 : Sl × List Value), CellsN w81.drew b1 0 17 (Qy x84.fst :: x84.2) /\ Qx t1.1 n43 (t1.2 : Int) fun b87 b88 => Qi w81.drew b87 (b88 + n43.toNat * 6 + 1) fun n89 => Qv Tryz.prog 94 #[Value.agg { toList := Qy x84.fst :: x84.2 }, Qy t1, Qz n11, Qz x65.snd.2, Qz n89] w81.drew fun t92 w91 => IfB t92 (([] : List Nat) = [] /\ y69 (x65.snd.2, n80) w91) (([] : List Nat) = [] /\ y69 (x65.1, n80) w91)) (([] : List Nat) = [] /\ y69 (x65.1, n80) w81.drew)
def F32j5 (t1 : Sl) (b1 : Nat) (b6 : Nat) (n11 : Int) (y40 : Nat -> Int -> World -> Prop) (b42 : Nat) (n43 : Int) (y62 : Nat -> Int × Int × Int -> World -> Prop) (b64 : Nat) (x65 : Int × Int × Int) (w66 : World) : Prop := IfB (decide (x65.snd.snd < (t1.n : Int))) (∃ (y69 : Int × Int -> World -> Prop), (∃ (y70 : Int -> World -> Prop), (∃ (x71 : Sl × List Value), CellsN w66.drew b1 0 17 (Qy x71.fst :: x71.2) /\ Qx t1.1 n11 (t1.2 : Int) fun b74 b75 => Qi w66.drew b74 (b75 + n11.toNat * 6 + 1) fun n76 => Qv Tryz.prog 94 #[Value.agg { toList := Qy x71.fst :: x71.2 }, Qy t1, Qz n43, Qz x65.snd.2, Qz n76] w66.drew fun t79 w78 => IfB t79 (([] : List Nat) = [] /\ y70 x65.snd.2 w78) (([] : List Nat) = [] /\ y70 x65.snd.1 w78)) /\ ∀ (n80 : Int) (w81 : World) (y82 : Nat -> Value), y70 n80 w81 -> (F32j6 t1 b1 n11 n43 x65 y69 n80 w81)) /\ ∀ (x93 : Int × Int) (w94 : World) (y95 : Nat -> Value), y69 x93 w94 -> Qn y62 b64 (x93.1, x93.2, IntKind.i64.wrap (x65.snd.2 + 1)) w94) ((0 <= x65.snd.1 /\ x65.snd.1 < ((100 : Nat) : Int)) /\ (0 <= n11 /\ n11 < ((100 : Nat) : Int)) /\ ((0 : Int) <= 3 /\ 3 < ((5 : Nat) : Int)) /\ #[Value.bool true].size = 1 /\ StoreP w66 b6 (0 + Int.toNat x65.snd.1 * 500 + n11.toNat * 5 + Int.toNat 3) [Value.bool true] fun w98 => (0 <= n43 /\ n43 < ((100 : Nat) : Int)) /\ (0 <= x65.1 /\ x65.1 < ((100 : Nat) : Int)) /\ ((0 : Int) <= 4 /\ 4 < ((5 : Nat) : Int)) /\ #[Value.bool true].size = 1 /\ StoreP w98 b6 (0 + n43.toNat * 500 + x65.1.toNat * 5 + Int.toNat 4) [Value.bool true] fun w99 => Qn y40 b42 (IntKind.i64.wrap (n43 + 1)) w99)
def F32j4 (t1 : Sl) (b1 : Nat) (s5 : Sl) (b6 : Nat) (y8 : Nat -> Int -> World -> Prop) (b10 : Nat) (n11 : Int) (y40 : Nat -> Int -> World -> Prop) (b42 : Nat) (n43 : Int) (w44 : World) : Prop := IfB (decide (n43 < (t1.n : Int))) (Qx t1.1 n43 (t1.2 : Int) fun b47 b48 => Qi w44.drew b47 (b48 + n43.toNat * 6 + 0) fun n49 => Qx t1.1 n11 (t1.2 : Int) fun b50 b51 => Qi w44.drew b50 (b51 + n11.toNat * 6 + 0) fun n52 => IfB (n49 == n52) (Qn y40 b42 (IntKind.i64.wrap (n43 + 1)) w44.drew) (Qx s5.1 n11 (s5.2 : Int) fun b54 b55 => Qs w44.drew b54 (b55 + n11.toNat) fun s56 => Qx s56.1 n43 (s56.2 : Int) fun b57 b58 => Qb w44.drew b57 (b58 + n43.toNat) fun t59 => IfB (!t59) (Qn y40 b42 (IntKind.i64.wrap (n43 + 1)) w44.drew) ((0 <= n43 /\ n43 < ((100 : Nat) : Int)) /\ (0 <= n11 /\ n11 < ((100 : Nat) : Int)) /\ ((0 : Int) <= 2 /\ 2 < ((5 : Nat) : Int)) /\ #[Value.bool true].size = 1 /\ StoreP w44.drew b6 (0 + n43.toNat * 500 + n11.toNat * 5 + Int.toNat 2) [Value.bool true] fun w61 => Ql (α := Int × Int × Int) ((-1 : Int), (-1 : Int), 0) w61 fun y62 b64 x65 w66 => (F32j5 t1 b1 b6 n11 y40 b42 n43 y62 b64 x65 w66)))) (Qn y8 b10 (IntKind.i64.wrap (n11 + 1)) w44)
def F32j2 (t1 : Sl) (b1 : Nat) (s5 : Sl) (b6 : Nat) (y8 : Nat -> Int -> World -> Prop) (b10 : Nat) (n11 : Int) (y15 : Nat -> Int × Int -> World -> Prop) (b17 : Nat) (x18 : Int × Int) (w19 : World) : Prop := IfB (decide (x18.snd < n11)) (∃ (y22 : Int -> World -> Prop), (Qx t1.1 x18.2 (t1.2 : Int) fun b23 b24 => Qi w19.drew b23 (b24 + x18.2.toNat * 6 + 0) fun n25 => Qx t1.1 n11 (t1.2 : Int) fun b26 b27 => Qi w19.drew b26 (b27 + n11.toNat * 6 + 0) fun n28 => IfB (n25 == n28) (([] : List Nat) = [] /\ y22 x18.2 w19.drew) (([] : List Nat) = [] /\ y22 x18.1 w19.drew)) /\ ∀ (n29 : Int) (w30 : World) (y31 : Nat -> Value), y22 n29 w30 -> Qn y15 b17 (n29, IntKind.i64.wrap (x18.2 + 1)) w30) (∃ (y34 : Unit -> World -> Prop), IfB (decide (0 <= x18.fst)) ((0 <= x18.1 /\ x18.1 < ((100 : Nat) : Int)) /\ (0 <= n11 /\ n11 < ((100 : Nat) : Int)) /\ ((0 : Int) <= 1 /\ 1 < ((5 : Nat) : Int)) /\ #[Value.bool true].size = 1 /\ StoreP w19 b6 (0 + x18.1.toNat * 500 + n11.toNat * 5 + Int.toNat 1) [Value.bool true] fun w35 => ([] : List Nat) = [] /\ y34 PUnit.unit w35) (([] : List Nat) = [] /\ y34 PUnit.unit w19) /\ ∀ (y36 : Unit) (w37 : World) (y38 : Nat -> Value), y34 y36 w37 -> Ql (α := Int) 0 w37 fun y40 b42 n43 w44 => (F32j4 t1 b1 s5 b6 y8 b10 n11 y40 b42 n43 w44))
def F32j9 (b6 : Nat) (x105 : Sl × Int) (y109 : Nat -> Sl × Int -> World -> Prop) (b111 : Nat) (x112 : Sl × Int) (y116 : Nat -> Sl × Int -> World -> Prop) (b118 : Nat) (x119 : Sl × Int) (w120 : World) : Prop := IfB (decide (x119.snd < 5)) (∃ (y123 : Sl -> World -> Prop), ((0 <= x105.2 /\ x105.2 < ((100 : Nat) : Int)) /\ (0 <= x112.2 /\ x112.2 < ((100 : Nat) : Int)) /\ (0 <= x119.2 /\ x119.2 < ((5 : Nat) : Int)) /\ Qb w120 b6 (0 + x105.2.toNat * 500 + x112.2.toNat * 5 + x119.2.toNat) fun t124 => IfB t124 (1 * 3 <= 16777216 /\ AllocP w120 (Obj.cells #[Qz x105.2, Qz x112.2, Qz x119.2] 44) fun b125 w126 => ∃ (l127 : List Value), ReadC w126 (some ⟨b125, 0, none⟩) (1 * 3) l127 /\ AppendP tt44 44 w126 x119.fst.1 x119.fst.2 x119.fst.3 1 l127 fun s128 w129 => ([] : List Nat) = [] /\ y123 { p := s128.1, n := s128.2, c := s128.3 } w129) (([] : List Nat) = [] /\ y123 { p := x119.fst.1, n := x119.fst.2, c := x119.fst.3 } w120)) /\ ∀ (s130 : Sl) (w131 : World) (y132 : Nat -> Value), y123 s130 w131 -> Qn y116 b118 ({ p := s130.1, n := s130.2, c := s130.3 }, IntKind.i64.wrap (x119.2 + 1)) w131) (Qn y109 b111 ({ p := x119.fst.1, n := x119.fst.2, c := x119.fst.3 }, IntKind.i64.wrap (x112.2 + 1)) w120)
def F32j8 (t1 : Sl) (b6 : Nat) (y102 : Nat -> Sl × Int -> World -> Prop) (b104 : Nat) (x105 : Sl × Int) (y109 : Nat -> Sl × Int -> World -> Prop) (b111 : Nat) (x112 : Sl × Int) (w113 : World) : Prop := IfB (decide (x112.snd < (t1.n : Int))) (Ql (α := Sl × Int) ({ p := x112.fst.1, n := x112.fst.2, c := x112.fst.3 }, 1) w113 fun y116 b118 x119 w120 => (F32j9 b6 x105 y109 b111 x112 y116 b118 x119 w120)) (Qn y102 b104 ({ p := x112.fst.1, n := x112.fst.2, c := x112.fst.3 }, IntKind.i64.wrap (x105.2 + 1)) w113)
def F32j1 (t1 : Sl) (R : Value -> World -> Prop) (b1 : Nat) (s5 : Sl) (b6 : Nat) (y8 : Nat -> Int -> World -> Prop) (b10 : Nat) (n11 : Int) (w12 : World) : Prop := IfB (decide (n11 < (t1.n : Int))) (Ql (α := Int × Int) ((-1 : Int), 0) w12 fun y15 b17 x18 w19 => (F32j2 t1 b1 s5 b6 y8 b10 n11 y15 b17 x18 w19)) (Ql (α := Sl × Int) ({ p := none, n := 0, c := 0 }, 0) w12 fun y102 b104 x105 w106 => IfB (decide (x105.snd < (t1.n : Int))) (Ql (α := Sl × Int) ({ p := x105.fst.1, n := x105.fst.2, c := x105.fst.3 }, 0) w106 fun y109 b111 x112 w113 => (F32j8 t1 b6 y102 b104 x105 y109 b111 x112 w113)) (R (Qy x105.fst) w106))
def F32 (t0 : Sl × List Value) (t1 : Sl) (w : World) (R : Value -> World -> Prop) : Prop := AllocP w (Obj.cells { toList := Qy t0.fst :: t0.2 } 26) fun b1 w2 => Qu Tryz.prog 93 #[Qy t1] w2 fun s5 w4 => AllocP w4 (Obj.cells (Array.replicate 50000 (Value.bool false)) 115) fun b6 w7 => Ql (α := Int) 0 w7 fun y8 b10 n11 w12 => (F32j1 t1 R b1 s5 b6 y8 b10 n11 w12)
theorem F32_ok (t0 : Sl × List Value) (t1 : Sl) (w : World) (R : Value -> World -> Prop) (h : F32 t0 t1 w R) : CW Tryz.prog 32 #[Value.agg { toList := Qy t0.fst :: t0.2 }, Qy t1] w R :=
 call_of tbOk mixed en32 Tryz.func32 rfl (.node (.nil) (.node (.nil) (.node (.nil) (.node (.nil) (.node (.node (.nil) (.loop [(8, .one (.int .i64))] [23, 24, 25, 9, 10, 28, 29, 30, 33, 34, 35, 36, 37, 38, 39, 40, 41, 42, 43, 44, 31, 32, 45, 46, 47, 48, 49, 50, 51, 11, 52, 53, 54, 57, 58, 59, 60, 61, 62, 63, 64, 65, 66, 67, 68, 69, 70, 71, 72, 73, 74, 75, 76, 77, 78, 79, 80, 81, 82, 12, 13, 14, 83, 84, 85, 88, 89, 90, 91, 92, 93, 94, 95, 96, 97, 98, 99, 100, 101, 102, 103, 104, 105, 106, 107, 108, 109, 110, 111, 112, 113, 86, 87, 114, 115, 116, 117, 118, 119, 120, 121, 122, 123, 55, 56, 26, 27, 8] (.node (.nil) (.node (.node (.nil) (.node (.node (.nil) (.loop [(9, .one (.int .i64)), (10, .one (.int .i64))] [28, 29, 30, 33, 34, 35, 36, 37, 38, 39, 40, 41, 42, 43, 44, 9, 31, 32, 10] (.node (.nil) (.join [(9, .one (.int .i64))] [33, 34, 35, 36, 37, 38, 39, 40, 41, 42, 43, 44, 9] (.node (.draw (.st 0 (.st 1 (.st 2 (.st 3 (.st 4 (.st 5 (.st 6 (.st 7 (.st 8 (.st 9 (.st 10 (.fin))))))))))))) (.nil)) (.nil))))) (.join [] [45, 46, 47, 48, 49, 50, 51] (.nil) (.node (.nil) (.loop [(11, .one (.int .i64))] [52, 53, 54, 57, 58, 59, 60, 61, 62, 63, 64, 65, 66, 67, 68, 69, 70, 71, 72, 73, 74, 75, 76, 77, 78, 79, 80, 81, 82, 12, 13, 14, 83, 84, 85, 88, 89, 90, 91, 92, 93, 94, 95, 96, 97, 98, 99, 100, 101, 102, 103, 104, 105, 106, 107, 108, 109, 110, 111, 112, 113, 86, 87, 114, 115, 116, 117, 118, 119, 120, 121, 122, 123, 55, 56, 11] (.node (.nil) (.node (.node (.node (.draw (.st 0 (.st 1 (.st 2 (.st 3 (.st 4 (.st 5 (.st 6 (.st 7 (.st 8 (.st 9 (.st 10 (.st 11 (.st 12 (.st 13 (.st 14 (.st 15 (.st 16 (.st 17 (.st 18 (.st 19 (.st 20 (.fin))))))))))))))))))))))) (.nil)) (.node (.nil) (.node (.nil) (.node (.node (.nil) (.loop [(12, .one (.int .i64)), (13, .one (.int .i64)), (14, .one (.int .i64))] [83, 84, 85, 88, 89, 90, 91, 92, 93, 94, 95, 96, 97, 98, 13, 99, 100, 101, 102, 103, 104, 105, 106, 107, 108, 109, 110, 111, 112, 113, 12, 86, 87, 14] (.node (.nil) (.join [(12, .one (.int .i64)), (13, .one (.int .i64))] [88, 89, 90, 91, 92, 93, 94, 95, 96, 97, 98, 13, 99, 100, 101, 102, 103, 104, 105, 106, 107, 108, 109, 110, 111, 112, 113, 12] (.join [(13, .one (.int .i64))] [88, 89, 90, 91, 92, 93, 94, 95, 96, 97, 98, 13] (.node (.draw (.st 0 (.st 1 (.st 2 (.st 3 (.st 4 (.st 5 (.st 6 (.st 7 (.st 8 (.ac 9 [] (.fin) (.non)))))))))))) (.nil)) (.node (.draw (.st 0 (.st 1 (.st 2 (.st 3 (.st 4 (.st 5 (.st 6 (.st 7 (.st 8 (.st 9 (.st 10 (.st 11 (.ac 12 [] (.st 13 (.fin)) (.non))))))))))))))) (.nil))) (.nil))))) (.nil))))) (.nil)))))))) (.nil))))) (.node (.nil) (.node (.node (.nil) (.loop [(15, .one (.sl)), (16, .one (.int .i64))] [124, 125, 126, 17, 129, 130, 131, 18, 134, 135, 138, 139, 140, 141, 142, 143, 144, 145, 146, 147, 148, 149, 150, 151, 15, 136, 137, 132, 133, 127, 128, 16] (.node (.nil) (.node (.node (.nil) (.loop [(15, .one (.sl)), (17, .one (.int .i64))] [129, 130, 131, 18, 134, 135, 138, 139, 140, 141, 142, 143, 144, 145, 146, 147, 148, 149, 150, 151, 15, 136, 137, 132, 133, 17] (.node (.nil) (.node (.node (.nil) (.loop [(15, .one (.sl)), (18, .one (.int .i64))] [134, 135, 138, 139, 140, 141, 142, 143, 144, 145, 146, 147, 148, 149, 150, 151, 15, 136, 137, 18] (.node (.nil) (.join [(15, .one (.sl))] [138, 139, 140, 141, 142, 143, 144, 145, 146, 147, 148, 149, 150, 151, 15] (.nil) (.nil))))) (.nil))))) (.nil))))) (.nil)))))))) (by kernel_rfl) (Nat.le_of_ble_eq_true (by kernel_rfl)) (Eq.mp (α := F32 t0 t1 w R) (by kernel_rfl) h)
end Go.Proofs.YtlpgdngcgbeegaaGreat.Gx
/- The document's arcs: its table. -/
namespace Go.Proofs.YtlpgdngcgbeegaaGreat.Gx
open Go
set_option linter.unusedSimpArgs false
set_option linter.unusedVariables false
/-- A table [100][100][5]bool in memory. -/
def Tb3 (W : World) (b : Nat) (S : Nat -> Nat -> Nat -> Prop) : Prop := ∃ (bs : List Bool) (T : TypeId), bs.length = 50000 /\ W.heap[b]? = some (.cells (bs.map Value.bool).toArray T (0, 0)) /\ ∀ i k m, i < 100 -> k < 100 -> m < 5 -> (bs[i * 500 + k * 5 + m]? = some true ↔ S i k m)
theorem Tb3.ext {W W' : World} {b : Nat} {S : Nat -> Nat -> Nat -> Prop} (h : Tb3 W b S) (e : Ext W W') : Tb3 W' b S := by
 obtain ⟨bs, T, h1, h2, h3⟩ := h
 exact ⟨bs, T, h1, e.at h2, h3⟩
theorem Tb3.iff {W : World} {b : Nat} {S S' : Nat -> Nat -> Nat -> Prop} (h : Tb3 W b S) (e : ∀ i k m, S i k m ↔ S' i k m) : Tb3 W b S' := by
 obtain ⟨bs, T, h1, h2, h3⟩ := h
 exact ⟨bs, T, h1, h2, fun i k m a b c => (h3 i k m a b c).trans (e i k m)⟩
theorem repl_bool (n : Nat) : Array.replicate n (Value.bool false) = ((List.replicate n false).map Value.bool).toArray := by
 rw [List.map_replicate, List.toArray_replicate]
theorem Tb3.new {w w' : World} {b : Nat} {T : TypeId} {n : Nat} (hn : n = 50000) (a : IsAlloc w (.cells (Array.replicate n (Value.bool false)) T (0, 0)) b w') : Tb3 w' b fun _ _ _ => False := by
 refine ⟨List.replicate n false, T, by rw [List.length_replicate, hn], by rw [<- repl_bool]; exact a.new, fun i k m _ _ _ => ⟨fun h => ?_, fun h => h.elim⟩⟩
 rw [List.getElem?_replicate] at h
 split at h <;> cases h
theorem Tb3.put {W : World} {b : Nat} {S : Nat -> Nat -> Nat -> Prop} (h : Tb3 W b S) {i k m : Nat} (hi : i < 100) (hk : k < 100) (hm : m < 5) {o : Nat} (ho : o = i * 500 + k * 5 + m) {K : World -> Prop} (hK : ∀ W', Tb3 W' b (fun i' k' m' => S i' k' m' \/ i' = i /\ k' = k /\ m' = m) -> Ch (fun j => j = b) W W' -> K W') : StoreP W b o [Value.bool true] K := by
 obtain ⟨bs, T, h1, h2, h3⟩ := h
 subst ho
 refine store_one h2 (by rw [List.size_toArray, List.length_map, h1]; omega) rfl fun W' u => hK W' ⟨bs.set (i * 500 + k * 5 + m) true, T, by rw [List.length_set, h1], ?_, fun i' k' m' a b c => ?_⟩ u.ch
 ·rw [List.map_set, <- List.setIfInBounds_toArray]; exact u.new
 ·rw [List.getElem?_set]
  by_cases e : i * 500 + k * 5 + m = i' * 500 + k' * 5 + m'
  ·rw [if_pos e, if_pos (by rw [h1]; omega)]
   exact ⟨fun _ => .inr ⟨by omega, by omega, by omega⟩, fun _ => rfl⟩
  ·rw [if_neg e, h3 i' k' m' a b c]
   exact ⟨.inl, fun h => h.elim id fun h => absurd (by rw [h.1, h.2.1, h.2.2]) e⟩
theorem Tb3.get {W : World} {b : Nat} {S : Nat -> Nat -> Nat -> Prop} (h : Tb3 W b S) {i k m : Nat} (hi : i < 100) (hk : k < 100) (hm : m < 5) {o : Nat} (ho : o = i * 500 + k * 5 + m) : ∃ t : Bool, W.cell? ⟨b, o, none⟩ = some (.bool t) /\ (t = true ↔ S i k m) := by
 obtain ⟨bs, T, h1, h2, h3⟩ := h
 subst ho
 have hl : i * 500 + k * 5 + m < bs.length := by rw [h1]; omega
 refine ⟨bs[i * 500 + k * 5 + m], by rw [cell_of h2, List.getElem?_toArray, List.getElem?_map, List.getElem?_eq_getElem hl]; rfl, ?_⟩
 rw [<- h3 i k m hi hk hm, List.getElem?_eq_getElem hl, Option.some.injEq]
end Go.Proofs.YtlpgdngcgbeegaaGreat.Gx
/- The document's arcs. -/
namespace Go.Proofs.YtlpgdngcgbeegaaGreat.Gx
open Go
set_option linter.unusedSimpArgs false
set_option linter.unusedVariables false
abbrev arcN (a b m : Nat) : ArcD := ((a : Int), (b : Int), (m : Int))
theorem InP.self (x : CatD) (hs : List Nd) (i : Nat) (d : Int) : InP x hs i i d := .inl rfl
/-- Arcs as numbers. -/
theorem arcN_own {hs : List Nd} {i k : Nat} {m n : Nd} (hn : hs[i]? = some n) (h1 : k < i) (h2 : hs[k]? = some m) (h3 : m.v.1 = n.v.1) (h4 : ∀ j m, k < j -> j < i -> hs[j]? = some m -> m.v.1 ≠ n.v.1) (a b c : Nat) : (∃ xs, OwnA hs i xs /\ arcN a b c ∈ xs) ↔ a = k /\ b = i /\ c = 1 := by
 have h0 : OwnA hs i [((k : Int), (i : Int), 1)] := ⟨n, hn, .inr ⟨k, m, h1, h2, h3, rfl, h4⟩⟩
 constructor
 ·rintro ⟨xs, hx, he⟩
  rw [hx.uniq h0] at he
  have := List.mem_singleton.1 he
  simp only [Prod.mk.injEq] at this
  omega
 ·rintro ⟨rfl, rfl, rfl⟩
  exact ⟨_, h0, by simp⟩
theorem arcN_no {hs : List Nd} {i : Nat} {n : Nd} (hn : hs[i]? = some n) (h : ∀ k m, k < i -> hs[k]? = some m -> m.v.1 ≠ n.v.1) (a b c : Nat) : ¬ ∃ xs, OwnA hs i xs /\ arcN a b c ∈ xs := by
 rintro ⟨xs, hx, he⟩
 rw [hx.uniq ⟨n, hn, .inl ⟨rfl, h⟩⟩] at he
 cases he
theorem arcN_btw {x : CatD} {hs : List Nd} {k i l f : Nat} {nk ni : Nd} (h1 : hs[k]? = some nk) (h2 : hs[i]? = some ni) (h3 : LstP x hs k ni.v.2.1 l) (h4 : FstP x hs i nk.v.2.1 f) (a b c : Nat) : (∃ xs, BtwP x hs k i xs /\ arcN a b c ∈ xs) ↔ (a = k /\ b = i /\ c = 2) \/ (a = l /\ b = i /\ c = 3) \/ (a = k /\ b = f /\ c = 4) := by
 have h0 : BtwP x hs k i [((k : Int), (i : Int), 2), ((l : Int), (i : Int), 3), ((k : Int), (f : Int), 4)] := ⟨nk, ni, l, f, h1, h2, h3, h4, rfl⟩
 constructor
 ·rintro ⟨xs, hx, he⟩
  rw [hx.uniq h0] at he
  simp only [List.mem_cons, List.not_mem_nil, or_false, Prod.mk.injEq] at he
  omega
 ·intro h
  refine ⟨_, h0, ?_⟩
  rcases h with ⟨rfl, rfl, rfl⟩ | ⟨rfl, rfl, rfl⟩ | ⟨rfl, rfl, rfl⟩ <;> simp
/-- What is found up to the node i, and of the node i up to k. -/
def S1 (x : CatD) (hs : List Nd) (i a b c : Nat) : Prop := ∃ i', i' < i /\ ArcI x hs i' (arcN a b c)
def S2 (x : CatD) (hs : List Nd) (i k a b c : Nat) : Prop := S1 x hs i a b c \/ (∃ xs, OwnA hs i xs /\ arcN a b c ∈ xs) \/ ∃ k', k' < k /\ Dp hs i k' /\ TwoP hs i k' /\ ∃ xs, BtwP x hs k' i xs /\ arcN a b c ∈ xs
theorem S2_zero (x : CatD) (hs : List Nd) (i a b c : Nat) : S2 x hs i 0 a b c ↔ S1 x hs i a b c \/ ∃ xs, OwnA hs i xs /\ arcN a b c ∈ xs :=
 ⟨fun h => h.elim .inl fun h => h.elim .inr fun ⟨k, hk, _⟩ => absurd hk (Nat.not_lt_zero _), fun h => h.elim .inl fun h => .inr (.inl h)⟩
theorem S2_no {x : CatD} {hs : List Nd} {i k : Nat} (h : ¬ (Dp hs i k /\ TwoP hs i k)) (a b c : Nat) : S2 x hs i k a b c ↔ S2 x hs i (k + 1) a b c := by
 unfold S2
 refine or_congr_right (or_congr_right ⟨fun ⟨k', hk, hh⟩ => ⟨k', by omega, hh⟩, fun ⟨k', hk, hh⟩ => ?_⟩)
 rcases Nat.lt_or_ge k' k with h' | h'
 ·exact ⟨k', h', hh⟩
 ·have : k' = k := by omega
  subst this
  exact absurd ⟨hh.1, hh.2.1⟩ h
theorem S2_yes {x : CatD} {hs : List Nd} {i k : Nat} (h1 : Dp hs i k) (h2 : TwoP hs i k) (a b c : Nat) : S2 x hs i (k + 1) a b c ↔ S2 x hs i k a b c \/ ∃ xs, BtwP x hs k i xs /\ arcN a b c ∈ xs := by
 unfold S2
 constructor
 ·rintro (h | h | ⟨k', hk, hh⟩)
  ·exact .inl (.inl h)
  ·exact .inl (.inr (.inl h))
  ·rcases Nat.lt_or_ge k' k with h' | h'
   ·exact .inl (.inr (.inr ⟨k', h', hh⟩))
   ·have : k' = k := by omega
    subst this
    exact .inr hh.2.2
 ·rintro ((h | h | ⟨k', hk, hh⟩) | h)
  ·exact .inl h
  ·exact .inr (.inl h)
  ·exact .inr (.inr ⟨k', by omega, hh⟩)
  ·exact .inr (.inr ⟨k, by omega, h1, h2, h⟩)
theorem S2_all {x : CatD} {hs : List Nd} {i n : Nat} (hn : i <= n) (a b c : Nat) : S2 x hs i n a b c ↔ S1 x hs (i + 1) a b c := by
 unfold S2 S1
 constructor
 ·rintro (⟨i', h1, h2⟩ | h | ⟨k', hk, h1, h2, xs, h3, h4⟩)
  ·exact ⟨i', by omega, h2⟩
  ·exact ⟨i, by omega, .inl h⟩
  ·exact ⟨i, by omega, .inr ⟨k', xs, h1, h2, h3, h4⟩⟩
 ·rintro ⟨i', h1, h2⟩
  rcases Nat.lt_or_ge i' i with h' | h'
  ·exact .inl ⟨i', h', h2⟩
  ·have : i' = i := by omega
   subst this
   rcases h2 with h2 | ⟨k, xs, h3, h4, h5, h6⟩
   ·exact .inr (.inl h2)
   ·exact .inr (.inr ⟨k, by have := Dp_lt h3; omega, h3, h4, xs, h5, h6⟩)
theorem Tb3.ch {F : Nat -> Prop} {W W' : World} {b : Nat} {S : Nat -> Nat -> Nat -> Prop} (h : Tb3 W b S) (e : Ch F W W') (hF : ¬ F b) : Tb3 W' b S := by
 obtain ⟨bs, T, h1, h2, h3⟩ := h
 exact ⟨bs, T, h1, e.at h2 hF, h3⟩
/-- The arcs so far. -/
structure OutP (x : CatD) (hs : List Nd) (ys : List ArcD) (B : Int) : Prop where
 srt : ys.Pairwise fun a b => SfA.key a < SfA.key b
 mem : ∀ e, e ∈ ys ↔ ArcIn x hs e /\ SfA.key e < B
theorem OutP.to {x : CatD} {hs : List Nd} {ys : List ArcD} {B B' : Int} (h : OutP x hs ys B) (e : ∀ e, ArcIn x hs e -> (SfA.key e < B ↔ SfA.key e < B')) : OutP x hs ys B' := ⟨h.srt, fun a => (h.mem a).trans ⟨fun k => ⟨k.1, (e a k.1).1 k.2⟩, fun k => ⟨k.1, (e a k.1).2 k.2⟩⟩⟩
theorem OutP.add {x : CatD} {hs : List Nd} {ys : List ArcD} {a : ArcD} {B : Int} (h : OutP x hs ys B) (ha : ArcIn x hs a) (hk : SfA.key a = B) (hl : hs.length <= 100) : OutP x hs (ys ++ [a]) (B + 1) := by
 refine ⟨List.pairwise_append.2 ⟨h.srt, List.pairwise_singleton _ _, fun y hy z hz => ?_⟩, fun e => ?_⟩
 ·rw [List.mem_singleton.1 hz, hk]; exact ((h.mem y).1 hy).2
 ·rw [List.mem_append, h.mem, List.mem_singleton]
  constructor
  ·rintro (⟨h1, h2⟩ | rfl)
   ·exact ⟨h1, by omega⟩
   ·exact ⟨ha, by omega⟩
  ·rintro ⟨h1, h2⟩
   rcases (by omega : SfA.key e < B \/ B <= SfA.key e) with h' | h'
   ·exact .inl ⟨h1, h'⟩
   ·exact .inr (arcKey_inj (h1.Q hl) (ha.Q hl) (by omega))
theorem OutP.skip {x : CatD} {hs : List Nd} {ys : List ArcD} {a : ArcD} {B : Int} (h : OutP x hs ys B) (ha : ¬ ArcIn x hs a) (hq : SfA.Q a) (hk : SfA.key a = B) (hl : hs.length <= 100) : OutP x hs ys (B + 1) := by
 refine h.to fun e he => ⟨fun h => by omega, fun h' => ?_⟩
 rcases (by omega : SfA.key e < B \/ B <= SfA.key e) with h'' | h''
 ·exact h''
 ·exact absurd (arcKey_inj (he.Q hl) hq (by omega) ▸ he) ha
set_option maxRecDepth 20000 in
theorem c32 {w : World} {v : CatV} {x : CatD} {t : Sl} {hs : List Nd} (h : CatM w v x) (hH : Hst w t hs) (hM : HMay x hs) :
  CW Tryz.prog 32 #[cxV v, slV t] w fun r w' => ∃ t' ys, r = slV t' /\ ArcsP x hs ys /\ OwS w' t' 3 (ys.flatMap aC) /\ ys.length <= 100000 /\ Ext w w' /\ ∀ j ∈ blk t', w.heap.size <= j := by
 have htn := hH.n
 have hl100 := hM.len
 refine F32_ok v t w _ fun b1 w2 a2 => ?_
 have e2 : Ext w w2 := a2.ch _
 refine (c93 (hH.ext e2) (by omega)).use ?_
 rintro _ w4 ⟨td, rows, rfl, hsq, hgm, hMx, e4⟩
 have E4 : Ext w w4 := e2.trans e4
 refine ⟨td, rfl, fun b6 w7 a7 => ?_⟩
 have p7 := a7.here
 have z4 := E4.size
 have hT0 := Tb3.new (n := 50000) rfl a7
 refine ⟨fun m z W => ∃ i : Nat, i <= hs.length /\ m + i = hs.length /\ z = (i : Int) /\ Tb3 W b6 (S1 x hs i) /\ Ext w4 W, ⟨hs.length, 0, Nat.zero_le _, rfl, rfl, hT0.iff fun a b c => ⟨fun h => h.elim, fun ⟨_, h, _⟩ => absurd h (Nat.not_lt_zero _)⟩, a7.ch _⟩, ?_⟩
 rintro m _ W g ⟨i, hi, hm, rfl, hT, eW⟩
 unfold F32j1
 refine IfB.dec (fun hlt => ?_) fun hge => ?_
 ·have hi' : i < hs.length := by omega
  have gi : hs[i]? = some hs[i] := List.getElem?_eq_getElem hi'
  generalize hs[i] = ni at gi
  have oi := hM.ok i ni gi
  have hbi : (0 : Int) <= (i : Int) /\ (i : Int) < (t.n : Int) := ⟨by omega, hlt⟩
  have hb100 : (0 : Int) <= (i : Int) /\ (i : Int) < ((100 : Nat) : Int) := ⟨by omega, by omega⟩
  refine ⟨fun m' z V => ∃ (k : Nat) (la : Int), k <= i /\ m' + k = i /\ z = (la, (k : Int)) /\ ((la = -1 /\ ∀ j n, j < k -> hs[j]? = some n -> n.v.1 ≠ ni.v.1) \/ ∃ (l : Nat) (nl : Nd), la = (l : Int) /\ l < k /\ hs[l]? = some nl /\ nl.v.1 = ni.v.1 /\ ∀ j n, l < j -> j < k -> hs[j]? = some n -> n.v.1 ≠ ni.v.1) /\ Tb3 V b6 (S1 x hs i) /\ Ext w4 V,
   ⟨i, 0, -1, Nat.zero_le _, rfl, rfl, .inl ⟨rfl, fun j n hj => absurd hj (Nat.not_lt_zero _)⟩, hT, eW⟩, ?_⟩
  rintro m' _ V g' ⟨k, la, hk, hmk, rfl, hla, hTV, eV⟩
  unfold F32j2
  refine IfB.dec (fun hl2 => ?_) fun hg2 => ?_
  ·dsimp only at hl2
   have hk' : k < hs.length := by omega
   have gk : hs[k]? = some hs[k] := List.getElem?_eq_getElem hk'
   generalize hs[k] = nk at gk
   have ed := extDrew V
   have eD : Ext w4 V.drew := eV.trans ed
   obtain ⟨pa, oa, hpa, hca⟩ := (hH.ext (E4.trans eD)).at gk
   obtain ⟨pb, ob, hpb, hcb⟩ := (hH.ext (E4.trans eD)).at gi
   refine ⟨fun n W' => W' = V.drew /\ n = if nk.v.1 = ni.v.1 then (k : Int) else la, ⟨pa, oa, hpa, ⟨by dsimp only; omega, by dsimp only; omega⟩, nk.v.1, by dsimp only; rw [Int.toNat_natCast]; exact hca 0 _ rfl, pb, ob, hpb, hbi, ni.v.1, by rw [Int.toNat_natCast]; exact hcb 0 _ rfl, IfB.intro (fun hq => ⟨rfl, rfl, ?_⟩) fun hq => ⟨rfl, rfl, ?_⟩⟩, ?_⟩
   ·rw [if_pos (by simpa using hq)]
   ·rw [if_neg (by simpa using hq)]
   rintro n _ g2 ⟨rfl, rfl⟩
   refine ⟨rfl, m' - 1, by omega, k + 1, _, by omega, by omega, by dsimp only; rw [wrap_of (by omega) (by omega)]; rfl, ?_, hTV.ext ed, eD⟩
   by_cases hq : nk.v.1 = ni.v.1
   ·rw [if_pos hq]
    exact .inr ⟨k, nk, rfl, by omega, gk, hq, fun j n h1 h2 => by omega⟩
   ·rw [if_neg hq]
    rcases hla with ⟨h1, h2⟩ | ⟨l, nl, h1, h2, h3, h4, h5⟩
    ·refine .inl ⟨h1, fun j n hj hn => ?_⟩
     rcases Nat.lt_or_ge j k with h' | h'
     ·exact h2 j n h' hn
     ·have : j = k := by omega
      subst this
      rw [gk] at hn; cases hn; exact hq
    ·refine .inr ⟨l, nl, h1, by omega, h3, h4, fun j n hj hj2 hn => ?_⟩
     rcases Nat.lt_or_ge j k with h' | h'
     ·exact h5 j n hj h' hn
     ·have : j = k := by omega
      subst this
      rw [gk] at hn; cases hn; exact hq
  ·dsimp only at hg2
   have hki : k = i := by omega
   subst hki
   refine ⟨fun _ W' => Tb3 W' b6 (S2 x hs k 0) /\ Ext w4 W', ?_, ?_⟩
   ·refine IfB.dec (fun hl => ?_) fun hl => ?_
    ·dsimp only at hl
     rcases hla with ⟨h1, _⟩ | ⟨l, nl, rfl, h2, h3, h4, h5⟩
     ·omega
     refine ⟨⟨by dsimp only; omega, by dsimp only; omega⟩, hb100, by decide, rfl, hTV.put (i := l) (k := k) (m := 1) (by omega) (by omega) (by omega) (by dsimp only; rw [Int.toNat_natCast, Int.toNat_natCast, Nat.zero_add]; rfl) fun W' hT' hC' => ⟨rfl, hT'.iff fun a b c => ?_, eV.chN hC' fun j e => by omega⟩⟩
     rw [S2_zero, arcN_own gi h2 h3 h4 h5]
    ·dsimp only at hl
     rcases hla with ⟨_, h2⟩ | ⟨l, nl, rfl, _⟩
     ·refine ⟨rfl, hTV.iff fun a b c => ?_, eV⟩
      rw [S2_zero]
      exact ⟨.inl, fun h => h.elim id fun h => absurd h (arcN_no gi h2 a b c)⟩
     ·omega
   rintro _ w37 g2 ⟨hT37, e37⟩
   refine ⟨fun m' z V => ∃ q : Nat, q <= hs.length /\ m' + q = hs.length /\ z = (q : Int) /\ Tb3 V b6 (S2 x hs k q) /\ Ext w4 V, ⟨hs.length, 0, Nat.zero_le _, rfl, rfl, hT37, e37⟩, ?_⟩
   rintro m4 _ V4 g4 ⟨q, hq, hmq, rfl, hTq, eq4⟩
   unfold F32j4
   refine IfB.dec (fun hl4 => ?_) fun hg4 => ?_
   ·have hq' : q < hs.length := by omega
    have gq : hs[q]? = some hs[q] := List.getElem?_eq_getElem hq'
    generalize hs[q] = nq at gq
    have oq := hM.ok q nq gq
    have hbq : (0 : Int) <= (q : Int) /\ (q : Int) < (t.n : Int) := ⟨by omega, hl4⟩
    have hq100 : (0 : Int) <= (q : Int) /\ (q : Int) < ((100 : Nat) : Int) := ⟨by omega, by omega⟩
    have ed := extDrew V4
    have eD : Ext w4 V4.drew := eq4.trans ed
    obtain ⟨pa, oa, hpa, hca⟩ := (hH.ext (E4.trans eD)).at gq
    obtain ⟨pb, ob, hpb, hcb⟩ := (hH.ext (E4.trans eD)).at gi
    have hw : IntKind.i64.wrap ((q : Int) + 1) = ((q + 1 : Nat) : Int) := by rw [wrap_of (by omega) (by omega)]; rfl
    refine ⟨pa, oa, hpa, hbq, nq.v.1, by rw [Int.toNat_natCast]; exact hca 0 _ rfl, pb, ob, hpb, hbi, ni.v.1, by rw [Int.toNat_natCast]; exact hcb 0 _ rfl, IfB.intro (fun hs1 => ⟨rfl, m4 - 1, by omega, q + 1, hq', by omega, hw, (hTq.ext ed).iff (S2_no fun hh => ?_), eD⟩) fun hs1 => ?_⟩
    ·have hs1 : nq.v.1 = ni.v.1 := by simpa using hs1
     obtain ⟨a', b', h1, h2, h3⟩ := hh.2
     rw [gi] at h1; rw [gq] at h2; cases h1; cases h2
     exact h3 hs1
    have hs1 : nq.v.1 ≠ ni.v.1 := by simpa using hs1
    have hMd := hMx.ext eD
    obtain ⟨rr, hrr, hrl, hrm⟩ := hsq.at hi'
    obtain ⟨c1, hc1, hcell⟩ := hMd.slot hrr
    obtain ⟨c2, hc2, hcell2⟩ := hMd.cell hrm (gM_get hrr (show q < rr.2.length by omega))
    have hrn := hMd.rn hrm
    have htd := hMd.n
    have hrl2 := hsq.1
    refine ⟨c1, 0, hc1, ⟨by omega, by omega⟩, rr.1, by rw [Int.toNat_natCast, Nat.zero_add]; exact hcell, c2, 0, hc2, ⟨by omega, by omega⟩, gM rows k q, by rw [Int.toNat_natCast, Nat.zero_add]; exact hcell2, IfB.intro (fun hd => ⟨rfl, m4 - 1, by omega, q + 1, hq', by omega, hw, (hTq.ext ed).iff (S2_no fun hh => ?_), eD⟩) fun hd => ?_⟩
    ·rw [(hgm k q).2 hh.1] at hd; cases hd
    have hd : Dp hs k q := (hgm k q).1 (by simpa using hd)
    have h2P : TwoP hs k q := ⟨ni, nq, gi, gq, hs1⟩
    refine ⟨hq100, hb100, by decide, rfl, (hTq.ext ed).put (i := q) (k := k) (m := 2) (by omega) (by omega) (by omega) (by rw [Int.toNat_natCast, Int.toNat_natCast, Nat.zero_add]; rfl) fun w61 hT61 hC61 => ?_⟩
    have e61 : Ext w4 w61 := eD.chN hC61 fun j e => by omega
    have hq61 : Ch (fun _ => False) w4 w61 := e61
    refine ⟨fun m5 z V => ∃ (r : Nat) (fi en : Int), r <= hs.length /\ m5 + r = hs.length /\ z = (fi, en, (r : Int)) /\
     ((fi = -1 /\ ∀ j, j < r -> ¬ InP x hs k j nq.v.2.1) \/ ∃ f : Nat, fi = (f : Int) /\ f < r /\ InP x hs k f nq.v.2.1 /\ ∀ j, j < f -> ¬ InP x hs k j nq.v.2.1) /\
     ((en = -1 /\ ∀ j, j < r -> ¬ InP x hs q j ni.v.2.1) \/ ∃ l : Nat, en = (l : Int) /\ l < r /\ InP x hs q l ni.v.2.1 /\ ∀ j, l < j -> j < r -> ¬ InP x hs q j ni.v.2.1) /\ Tb3 V b6 (fun a b c => S2 x hs k q a b c \/ a = q /\ b = k /\ c = 2) /\ Ext w4 V,
     ⟨hs.length, 0, -1, -1, Nat.zero_le _, rfl, rfl, .inl ⟨rfl, fun j hj => absurd hj (Nat.not_lt_zero _)⟩, .inl ⟨rfl, fun j hj => absurd hj (Nat.not_lt_zero _)⟩, hT61, e61⟩, ?_⟩
    rintro m5 _ V5 g5 ⟨r, fi, en, hr, hmr, rfl, hfi, hen, hT5, e5⟩
    unfold F32j5
    refine IfB.dec (fun hl5 => ?_) fun hg5 => ?_
    ·dsimp only at hl5
     have hr' : r < hs.length := by omega
     have x27 : ∀ {U : World}, Ext w4 U -> Ext w2 U := fun e => e4.trans e
     -- end
     refine ⟨fun y W' => (∃ fi' en' : Int, y = (fi', en') /\ ((fi' = -1 /\ ∀ j, j < r + 1 -> ¬ InP x hs k j nq.v.2.1) \/ ∃ f : Nat, fi' = (f : Int) /\ f < r + 1 /\ InP x hs k f nq.v.2.1 /\ ∀ j, j < f -> ¬ InP x hs k j nq.v.2.1) /\
      ((en' = -1 /\ ∀ j, j < r + 1 -> ¬ InP x hs q j ni.v.2.1) \/ ∃ l : Nat, en' = (l : Int) /\ l < r + 1 /\ InP x hs q l ni.v.2.1 /\ ∀ j, l < j -> j < r + 1 -> ¬ InP x hs q j ni.v.2.1)) /\ Tb3 W' b6 (fun a b c => S2 x hs k q a b c \/ a = q /\ b = k /\ c = 2) /\ Ext w4 W',
      ⟨fun n W' => ((n = -1 /\ ∀ j, j < r + 1 -> ¬ InP x hs q j ni.v.2.1) \/ ∃ l : Nat, n = (l : Int) /\ l < r + 1 /\ InP x hs q l ni.v.2.1 /\ ∀ j, l < j -> j < r + 1 -> ¬ InP x hs q j ni.v.2.1) /\ Tb3 W' b6 (fun a b c => S2 x hs k q a b c \/ a = q /\ b = k /\ c = 2) /\ Ext w4 W', ?_, ?_⟩, ?_⟩
     ·have ed5 := extDrew V5
      have eD5 : Ext w4 V5.drew := e5.trans ed5
      obtain ⟨pc, oc, hpc, hcc⟩ := (hH.ext (E4.trans eD5)).at gi
      refine ⟨v, cxN h a2.new (x27 eD5), pc, oc, hpc, hbi, ni.v.2.1, by rw [Int.toNat_natCast]; exact hcc 1 _ rfl, (c94 (h.ext (E4.trans eD5)) (hH.ext (E4.trans eD5)) hM hq' hr' ni.v.2.1).use ?_⟩
      rintro _ w78 ⟨rb, rfl, hrb, e78⟩
      have e5' : Ext w4 w78 := eD5.trans e78
      refine ⟨rb, rfl, IfB.intro (fun hh => ⟨rfl, .inr ⟨r, rfl, by omega, hrb.1 hh, fun j h1 h2 => by omega⟩, (hT5.ext ed5).ext e78, e5'⟩) fun hh => ⟨rfl, ?_, (hT5.ext ed5).ext e78, e5'⟩⟩
      have hno : ¬ InP x hs q r ni.v.2.1 := fun h' => by have hh : rb = false := hh; rw [hrb.2 h'] at hh; cases hh
      have up : ∀ {lo : Nat}, (∀ j, lo <= j -> j < r -> ¬ InP x hs q j ni.v.2.1) -> ∀ j, lo <= j -> j < r + 1 -> ¬ InP x hs q j ni.v.2.1 := fun h0 j h1 h2 => by
       rcases Nat.lt_or_ge j r with h' | h'
       ·exact h0 j h1 h'
       ·have : j = r := by omega
        subst this; exact hno
      rcases hen with ⟨h1, h2⟩ | ⟨l, h1, h2, h3, h4⟩
      ·exact .inl ⟨h1, fun j hj => up (lo := 0) (fun j _ => h2 j) j (Nat.zero_le _) hj⟩
      ·exact .inr ⟨l, h1, by omega, h3, fun j hj => up (lo := l + 1) (fun j h => h4 j h) j hj⟩
     ·rintro en' w81 g6 ⟨hen', hT81, e81⟩
      unfold F32j6
      have ed6 := extDrew w81
      have eD6 : Ext w4 w81.drew := e81.trans ed6
      refine IfB.dec (fun hneg => ?_) fun hpos => ?_
      ·dsimp only at hneg
       obtain ⟨h1, h2⟩ : fi = -1 /\ ∀ j, j < r -> ¬ InP x hs k j nq.v.2.1 := by
        rcases hfi with h' | ⟨f, h', _⟩
        ·exact h'
        ·omega
       obtain ⟨pc, oc, hpc, hcc⟩ := (hH.ext (E4.trans eD6)).at gq
       refine ⟨v, cxN h a2.new (x27 eD6), pc, oc, hpc, hbq, nq.v.2.1, by rw [Int.toNat_natCast]; exact hcc 1 _ rfl, (c94 (h.ext (E4.trans eD6)) (hH.ext (E4.trans eD6)) hM hi' hr' nq.v.2.1).use ?_⟩
       rintro _ w91 ⟨rb, rfl, hrb, e91⟩
       refine ⟨rb, rfl, IfB.intro (fun hh => ⟨rfl, ⟨(r : Int), en', rfl, .inr ⟨r, rfl, by omega, hrb.1 hh, h2⟩, hen'⟩, (hT81.ext ed6).ext e91, eD6.trans e91⟩) fun hh => ⟨rfl, ⟨fi, en', rfl, .inl ⟨h1, fun j hj => ?_⟩, hen'⟩, (hT81.ext ed6).ext e91, eD6.trans e91⟩⟩
       rcases Nat.lt_or_ge j r with h' | h'
       ·exact h2 j h'
       ·have : j = r := by omega
        subst this
        exact fun h' => by have hh : rb = false := hh; rw [hrb.2 h'] at hh; cases hh
      ·dsimp only at hpos
       refine ⟨rfl, ⟨fi, en', rfl, ?_, hen'⟩, hT81.ext ed6, eD6⟩
       rcases hfi with ⟨h', _⟩ | ⟨f, h1, h2, h3, h4⟩
       ·omega
       ·exact .inr ⟨f, h1, by omega, h3, h4⟩
     ·rintro _ w94 g7 ⟨⟨fi', en', rfl, hfi', hen'⟩, hT94, e94⟩
      exact ⟨rfl, m5 - 1, by omega, r + 1, fi', en', hr', by omega, by dsimp only; rw [wrap_of (by omega) (by omega)]; rfl, hfi', hen', hT94, e94⟩
    ·dsimp only at hg5
     have hrn' : r = hs.length := by omega
     subst hrn'
     obtain ⟨f, rfl, hf1, hf2, hf3⟩ : ∃ f : Nat, fi = (f : Int) /\ f < hs.length /\ InP x hs k f nq.v.2.1 /\ ∀ j, j < f -> ¬ InP x hs k j nq.v.2.1 := by
      rcases hfi with ⟨_, h'⟩ | h'
      ·exact absurd (InP.self x hs k _) (h' k hi')
      ·exact h'
     obtain ⟨l, rfl, hl1, hl2, hl3⟩ : ∃ l : Nat, en = (l : Int) /\ l < hs.length /\ InP x hs q l ni.v.2.1 /\ ∀ j, l < j -> j < hs.length -> ¬ InP x hs q j ni.v.2.1 := by
      rcases hen with ⟨_, h'⟩ | h'
      ·exact absurd (InP.self x hs q _) (h' q hq')
      ·exact h'
     have hF : FstP x hs k nq.v.2.1 f := ⟨hf2, fun j hj => Nat.le_of_not_lt fun h' => hf3 j h' hj⟩
     have hL : LstP x hs q ni.v.2.1 l := ⟨hl2, fun j hj => Nat.le_of_not_lt fun h' => hl3 j h' (hj.lt hq') hj⟩
     refine ⟨⟨by dsimp only; omega, by dsimp only; omega⟩, hb100, by decide, rfl, hT5.put (i := l) (k := k) (m := 3) (by omega) (by omega) (by omega) (by dsimp only; rw [Int.toNat_natCast, Int.toNat_natCast, Nat.zero_add]; rfl) fun w98 hT98 hC98 => ⟨hq100, ⟨by dsimp only; omega, by dsimp only; omega⟩, by decide, rfl, hT98.put (i := q) (k := f) (m := 4) (by omega) (by omega) (by omega) (by dsimp only; rw [Int.toNat_natCast, Int.toNat_natCast, Nat.zero_add]; rfl) fun w99 hT99 hC99 => ⟨rfl, m4 - 1, by omega, q + 1, hq', by omega, hw, hT99.iff fun a b c => ?_, (e5.chN hC98 fun j e => by omega).chN hC99 fun j e => by omega⟩⟩⟩
     rw [S2_yes hd h2P, arcN_btw gq gi hL hF]
     constructor
     ·rintro (((h' | h') | h') | h')
      ·exact .inl h'
      ·exact .inr (.inl h')
      ·exact .inr (.inr (.inl h'))
      ·exact .inr (.inr (.inr h'))
     ·rintro (h' | h' | h' | h')
      ·exact .inl (.inl (.inl h'))
      ·exact .inl (.inl (.inr h'))
      ·exact .inl (.inr h')
      ·exact .inr h'
   ·have hq' : q = hs.length := by omega
    subst hq'
    exact ⟨rfl, m - 1, by omega, k + 1, hi', by omega, by rw [wrap_of (by omega) (by omega)]; rfl, hTq.iff (S2_all (by omega)), eq4⟩
 ·have hi' : i = hs.length := by omega
  subst hi'
  have z7 : w4.heap.size = b6 := p7.symm
  have eb : ∀ {V V' : World} {F : Nat -> Prop}, Ext w4 V -> Ch F V V' -> (∀ j, F j -> b6 < j) -> Ext w4 V' := fun e c hF => e.chN c fun j hj => by have := hF j hj; omega
  refine ⟨fun m z V => ∃ (i : Nat) (so : Sl) (ys : List ArcD), i <= hs.length /\ m + i = hs.length /\ z = (so, (i : Int)) /\ OutP x hs ys ((i : Int) * 1000000 + 1) /\ OwS V so 3 (ys.flatMap aC) /\ ys.length <= i * 400 /\ (∀ j ∈ blk so, b6 < j) /\ Tb3 V b6 (S1 x hs hs.length) /\ Ext w4 V /\ b6 < V.heap.size,
   ⟨hs.length, 0, ⟨none, 0, 0⟩, [], Nat.zero_le _, rfl, rfl, ⟨.nil, fun e => ⟨fun h => (by cases h), fun ⟨h1, h2⟩ => ?_⟩⟩, .nil _ _, by simp, by simp [blk], hT, eW, ?_⟩, ?_⟩
  ·have := h1.q; unfold SfA.key at h2; omega
  ·obtain ⟨_, _, _, hb, _⟩ := hT
   exact heap_lt hb
  rintro m1 _ W1 g1 ⟨i, so, ys, hi1, hm1, rfl, hOut, hos, hyl, hbk, hT1, eW1, hbW⟩
  refine IfB.dec (fun hl1 => ?_) fun hg1 => ?_
  ·dsimp only at hl1
   refine ⟨fun m z V => ∃ (k : Nat) (so : Sl) (ys : List ArcD), k <= hs.length /\ m + k = hs.length /\ z = (so, (k : Int)) /\ OutP x hs ys ((i : Int) * 1000000 + (k : Int) * 1000 + 1) /\ OwS V so 3 (ys.flatMap aC) /\ ys.length <= i * 400 + k * 4 /\ (∀ j ∈ blk so, b6 < j) /\ Tb3 V b6 (S1 x hs hs.length) /\ Ext w4 V /\ b6 < V.heap.size,
    ⟨hs.length, 0, so, ys, Nat.zero_le _, rfl, rfl, hOut.to fun e _ => by omega, hos, by omega, hbk, hT1, eW1, hbW⟩, ?_⟩
   rintro m2 _ W2 g2 ⟨k, so2, ys2, hk2, hm2, rfl, hOut2, hos2, hyl2, hbk2, hT2, eW2, hbW2⟩
   unfold F32j8
   refine IfB.dec (fun hl2 => ?_) fun hg2 => ?_
   ·dsimp only at hl2
    refine ⟨fun m z V => ∃ (c : Nat) (so : Sl) (ys : List ArcD), 1 <= c /\ c <= 5 /\ m + c = 5 /\ z = (so, (c : Int)) /\ OutP x hs ys ((i : Int) * 1000000 + (k : Int) * 1000 + (c : Int)) /\ OwS V so 3 (ys.flatMap aC) /\ ys.length + 1 <= i * 400 + k * 4 + c /\ (∀ j ∈ blk so, b6 < j) /\ Tb3 V b6 (S1 x hs hs.length) /\ Ext w4 V /\ b6 < V.heap.size,
     ⟨4, 1, so2, ys2, by omega, by omega, rfl, rfl, hOut2, hos2, by omega, hbk2, hT2, eW2, hbW2⟩, ?_⟩
    rintro m3 _ W3 g3 ⟨c, so3, ys3, hc1, hc5, hm3, rfl, hOut3, hos3, hyl3, hbk3, hT3, eW3, hbW3⟩
    unfold F32j9
    have hon := owsN aC_len (by omega) hos3
    refine IfB.dec (fun hl3 => ?_) fun hg3 => ?_
    ·dsimp only at hl3
     obtain ⟨tb', htc, hts⟩ := hT3.get (i := i) (k := k) (m := c) (by omega) (by omega) (by omega) rfl
     have hQ : SfA.Q (arcN i k c) := ⟨⟨by dsimp only; omega, by dsimp only; omega⟩, ⟨by dsimp only; omega, by dsimp only; omega⟩, by dsimp only; omega, by dsimp only; omega⟩
     refine ⟨fun s V => ∃ ys : List ArcD, OutP x hs ys ((i : Int) * 1000000 + (k : Int) * 1000 + (c : Int) + 1) /\ OwS V s 3 (ys.flatMap aC) /\ ys.length <= i * 400 + k * 4 + c /\ (∀ j ∈ blk s, b6 < j) /\ Tb3 V b6 (S1 x hs hs.length) /\ Ext w4 V /\ b6 < V.heap.size,
      ⟨⟨by dsimp only; omega, by dsimp only; omega⟩, ⟨by dsimp only; omega, by dsimp only; omega⟩, ⟨by dsimp only; omega, by dsimp only; omega⟩, tb', by dsimp only; rw [Int.toNat_natCast, Int.toNat_natCast, Int.toNat_natCast, Nat.zero_add]; exact htc, IfB.intro (fun ht => ⟨by decide, fun b125 w126 a126 => ?_⟩) fun ht => ⟨rfl, ys3, hOut3.skip (a := arcN i k c) (fun h' => ?_) hQ rfl hl100, hos3, by omega, hbk3, hT3, eW3, hbW3⟩⟩, ?_⟩
     ·have e126 : Ext W3 w126 := a126.ch _
      have z126 := a126.size
      refine (hos3.ext e126).lit (new := aC (arcN i k c)) a126.new rfl (aC_one _) rfl rfl (by omega) (by decide) fun s' w' ho' hn' hC' hbk' => ⟨rfl, ys3 ++ [arcN i k c], hOut3.add (hts.1 ht) rfl hl100, by rw [List.flatMap_append, List.flatMap_singleton]; exact ho', by rw [List.length_append, List.length_singleton]; omega, fun j hj => ?_, (hT3.ext e126).ch hC' fun hj => by have := hbk3 _ hj; omega, eb (eW3.trans e126) hC' hbk3, by have := hC'.size; omega⟩
      rcases hbk' j hj with h' | h'
      ·exact hbk3 j h'
      ·omega
     ·have ht : tb' = false := ht
      rw [hts.2 h'] at ht; cases ht
     rintro s130 w131 g4 ⟨ys4, hOut4, hos4, hyl4, hbk4, hT4, eW4, hbW4⟩
     have hcz : (i : Int) * 1000000 + (k : Int) * 1000 + (c : Int) + 1 = (i : Int) * 1000000 + (k : Int) * 1000 + ((c + 1 : Nat) : Int) := by omega
     rw [hcz] at hOut4
     exact ⟨rfl, m3 - 1, by omega, c + 1, s130, ys4, by omega, by omega, by omega, by dsimp only; rw [wrap_of (by omega) (by omega)]; rfl, hOut4, hos4, by omega, hbk4, hT4, eW4, hbW4⟩
    ·dsimp only at hg3
     have hcc : c = 5 := by omega
     subst hcc
     refine ⟨rfl, m2 - 1, by omega, k + 1, so3, ys3, by omega, by omega, by dsimp only; rw [wrap_of (by omega) (by omega)]; rfl, hOut3.to fun e he => ?_, hos3, by omega, hbk3, hT3, eW3, hbW3⟩
     have := he.q; unfold SfA.key; omega
   ·dsimp only at hg2
    have hkk : k = hs.length := by omega
    subst hkk
    refine ⟨rfl, m1 - 1, by omega, i + 1, so2, ys2, by omega, by omega, by dsimp only; rw [wrap_of (by omega) (by omega)]; rfl, hOut2.to fun e he => ?_, hos2, by omega, hbk2, hT2, eW2, hbW2⟩
    have := he.q; unfold SfA.key; omega
  ·dsimp only at hg1
   have hii : i = hs.length := by omega
   subst hii
   refine ⟨so, ys, rfl, ⟨hOut.srt, fun _ e => (hOut.mem e).trans ⟨fun h => h.1, fun h => ⟨h, ?_⟩⟩, fun hno => absurd hM hno⟩, hos, by omega, E4.trans eW1, fun j hj => by have := hbk j hj; omega⟩
   have := h.q; unfold SfA.key; omega
end Go.Proofs.YtlpgdngcgbeegaaGreat.Gx
/- Written by mkf.py: what is to be shown of functions, as Gx reckons it from their code. -/
namespace Go.Proofs.YtlpgdngcgbeegaaGreat.Gx
open Go
set_option linter.unusedVariables false
set_option maxRecDepth 100000
end Go.Proofs.YtlpgdngcgbeegaaGreat.Gx
/- The document's ways, cycle, good, order (gimmalref16). -/
namespace Go.Proofs.YtlpgdngcgbeegaaGreat.Gx
open Go
set_option linter.unusedSimpArgs false
set_option linter.unusedVariables false
end Go.Proofs.YtlpgdngcgbeegaaGreat.Gx
/- The document's order (gimmalref16). -/
namespace Go.Proofs.YtlpgdngcgbeegaaGreat.Gx
open Go
set_option linter.unusedSimpArgs false
set_option linter.unusedVariables false
end Go.Proofs.YtlpgdngcgbeegaaGreat.Gx
/- The document's Ints (gimmalref16). -/
namespace Go.Proofs.YtlpgdngcgbeegaaGreat.Gx
open Go
set_option linter.unusedSimpArgs false
set_option linter.unusedVariables false
end Go.Proofs.YtlpgdngcgbeegaaGreat.Gx
/- Written by mkf.py: what is to be shown of functions, as Gx reckons it from their code. -/
namespace Go.Proofs.YtlpgdngcgbeegaaGreat.Gx
open Go
set_option linter.unusedVariables false
set_option maxRecDepth 100000
end Go.Proofs.YtlpgdngcgbeegaaGreat.Gx
/- Package gimmallaw16: RsgArcs, RsgOrders. -/
namespace Go.Proofs.YtlpgdngcgbeegaaGreat.Gx
open Go
set_option linter.unusedSimpArgs false
set_option linter.unusedVariables false
theorem arr_plain {A : Nat -> Prop} {w : World} {e : Ty} {n : Nat} {f : e.den -> List Value} {Q : e.den -> Prop} {l : List e.den} {cs : List Value} (h : rep A w (.arr n e) l cs) (hp : ∀ x c, rep A w e x c -> c = f x /\ Q x) : l.length = n /\ cs = l.flatMap f /\ ∀ x ∈ l, Q x := by
 obtain ⟨hn, css, hl, hr, rfl⟩ := h
 have hi : ∀ (i : Nat) (hi : i < l.length), css[i]? = some (f l[i]) /\ Q l[i] := fun i hi => by
  have hc : css[i]? = some (css[i]'(by omega)) := List.getElem?_eq_getElem (by omega)
  obtain ⟨h1, h2⟩ := hp _ _ (hr i _ _ hc (List.getElem?_eq_getElem hi))
  exact ⟨by rw [hc, h1], h2⟩
 have hcs : css = l.map f := by
  apply List.ext_getElem?
  intro i
  by_cases h : i < l.length
  ·rw [(hi i h).1, List.getElem?_map, List.getElem?_eq_getElem h]; rfl
  ·rw [List.getElem?_eq_none (by omega), List.getElem?_eq_none (by rw [List.length_map]; omega)]
 refine ⟨hn, by rw [hcs, List.flatMap_def], fun x hx => ?_⟩
 obtain ⟨i, h, rfl⟩ := List.getElem_of_mem hx
 exact (hi i h).2
abbrev catOf (x : tyCat.den) : CatD := (x.1, x.2.flatten)
theorem rep_cat {A : Nat -> Prop} {w : World} {x : tyCat.den} {cs : List Value} (h : rep A w tyCat x cs) : ∃ v : CatV, cs = cxC v /\ CatM w v (catOf x) := by
 obtain ⟨c, d, rfl, h1, h2⟩ := h
 have h1 := rep_mono (B := fun _ => True) (fun _ _ => trivial) h1
 obtain ⟨s, rfl, _⟩ := id h1
 obtain ⟨k1, k2, k3⟩ := arr_plain (n := 4) (e := .arr 4 tyI) (f := fun r => r.map fun n => Value.int .i64 n) (Q := fun r => r.length = 4 /\ ∀ n ∈ r, -9223372036854775808 <= n /\ n <= 9223372036854775807) (l := x.2) h2 fun r c hr => by
  obtain ⟨g1, g2, g3⟩ := arr_plain (n := 4) (e := tyI) (f := fun n => [Value.int .i64 n]) (Q := fun n => -9223372036854775808 <= n /\ n <= 9223372036854775807) (l := r) hr fun n c hc => ⟨hc.1, hc.2.1, hc.2.2⟩
  refine ⟨by rw [g2, List.map_eq_flatMap], g1, g3⟩
 refine ⟨(s, d), rfl, h1, ?_, ?_, fun n hn => ?_⟩
 ·rw [k2]
  show List.flatMap _ x.2 = x.2.flatten.map _
  rw [List.map_flatten, List.flatMap_def]
 ·show x.2.flatten.length = 16
  rw [List.length_flatten]
  have : ∀ l : List (List Int), (∀ r ∈ l, r.length = 4) -> (l.map List.length).sum = l.length * 4 := fun l => by
   induction l with
   | nil => intro _; rfl
   | cons r l ih =>
    intro h
    rw [List.map_cons, List.sum_cons, ih fun q hq => h q (List.mem_cons_of_mem _ hq), h r (by simp), List.length_cons]; omega
  rw [this _ fun r hr => (k3 r hr).1]
  have k1 : x.2.length = 4 := k1
  omega
 ·obtain ⟨r, hr, hn⟩ := List.mem_flatten.1 hn
  exact (k3 r hr).2 n hn
theorem arr_eq {cs : Array Value} {l : List Value} (h : cs.toList = l) : cs = l.toArray := by rw [<- h]
theorem rsgArcs (w : World) {x : tyCat.den} {cs : Array Value} (h0 : rep (fun _ => True) w tyCat x cs.toList) {l : List tyNd.den} {c1 : Value} (h1 : rep (fun _ => True) w (.sl tyNd) l [c1]) :
  CW Tryz.prog 5 #[.agg cs, c1] w fun v w' => v = .bool true /\ Ext w w' := by
 obtain ⟨v, e0, hC⟩ := rep_cat h0
 obtain ⟨t, hs, e1, hH⟩ := rep_hist h1
 simp only [List.cons.injEq, and_true] at e1
 subst e1
 rw [arr_eq e0]
 refine F5_ok v t w _ fun b1 w2 a2 => (c28 w2).use ?_
 rintro _ w4 ⟨rfl, e4⟩
 have e2 : Ext w w2 := a2.ch _
 have E4 := e2.trans e4
 refine ⟨true, rfl, IfB.no rfl ⟨v, cxN hC a2.new e4, (c29 (hC.ext E4) (hH.ext E4)).use ?_⟩⟩
 rintro _ w10 ⟨g, rfl, hg, e10⟩
 have x10 := e4.trans e10
 have E10 := E4.trans e10
 refine ⟨g, rfl, IfB.intro (fun _ => ⟨rfl, E10⟩) fun hg1 => ?_⟩
 obtain ⟨hS, hl⟩ := hg hg1
 refine ⟨v, cxN hC a2.new x10, (c30 (hC.ext E10) hS).use ?_⟩
 rintro _ w16 ⟨s17, ys, rfl, hA, ho, hyl, e16, _⟩
 have x16 := x10.trans e16
 have E16 := E10.trans e16
 have hsn := owsN aC_len (by omega) ho
 refine ⟨s17, rfl, v, cxN hC a2.new x16, (c31 (hC.ext E16) (hS.ext e16)).use ?_⟩
 rintro _ w22 ⟨m, rfl, hm, e22⟩
 have x22 := x16.trans e22
 have E22 := E16.trans e22
 refine ⟨m, rfl, IfB.intro (fun h2 => ?_) fun h2 => ?_⟩
 ·have hno : ¬ HMay (catOf x) hs := fun h' => by rw [hm.2 h'] at h2; cases h2
  have := hA.no hno
  subst this
  refine ⟨?_, E22⟩
  rw [hsn]; rfl
 have hM := hm.1 (by simpa using h2)
 refine ⟨v, cxN hC a2.new x22, (c32 (hC.ext E22) ((hS.ext e16).ext e22) hM).use ?_⟩
 rintro _ w28 ⟨s29, zs, rfl, hZ, hoz, hzl, e28, _⟩
 have := hA.uniq hZ
 subst this
 have hzn := owsN aC_len (by omega) hoz
 have E28 := E22.trans e28
 refine ⟨s29, rfl, IfB.no (by simp; omega) ⟨fun m z W => ∃ i : Nat, i <= ys.length /\ m + i = ys.length /\ z = (i : Int) /\ Ext w28 W, ⟨ys.length, 0, Nat.zero_le _, rfl, rfl, Ch.refl _ _⟩, ?_⟩⟩
 rintro m _ W g ⟨i, hi, hmi, rfl, eW⟩
 unfold F5j1
 refine IfB.dec (fun hlt => ?_) fun hge => ⟨rfl, E28.trans eW⟩
 have hi' : i < ys.length := by omega
 have hx : ys[i]? = some ys[i] := List.getElem?_eq_getElem hi'
 generalize ys[i] = e at hx
 have ed := extDrew W
 obtain ⟨pa, oa, hpa, hca⟩ := (((ho.ext e22).ext e28).rd.ext (eW.trans ed)).elem (i := i) (by omega) (by omega) (flatGet aC_len hx)
 obtain ⟨pb, ob, hpb, hcb⟩ := (hoz.rd.ext (eW.trans ed)).elem (i := i) (by omega) (by omega) (flatGet aC_len hx)
 exact ⟨pa, oa, hpa, ⟨by omega, hlt⟩, e, by rw [Int.toNat_natCast]; exact hca, pb, ob, hpb, ⟨by omega, by omega⟩, e, by rw [Int.toNat_natCast]; exact hcb, _, eqArc e e, IfB.no (by simp) ⟨rfl, m - 1, by omega, i + 1, hi', by omega, by rw [wrap_of (by omega) (by omega)]; rfl, eW.trans ed⟩⟩
end Go.Proofs.YtlpgdngcgbeegaaGreat.Gx
/- gimmallaw16.RsgArcs returns true for all arguments, and leaves what was there as it was. No condition beyond the statement. -/
namespace Go.Proofs.YtlpgdngcgbeegaaGreat.rsgArcs
open Go.ChangeShapes Go.WideShapes Go.ChangeAt Go.RowKit
open Go.ChangeMaps (open_string shut_string)
set_option linter.unusedVariables false
theorem own : ownKnob Tryz.prog.godebug = none := by kernel_rfl
set_option maxRecDepth 100000 in
theorem lifted (os : Os) (started : os.Started) (H : Type) (enc : TypeId × Value -> H) :
  ReturnsInHanded {} Tryz.checked os 5 .any (Rows.rsgArcsSpec.pre6 enc Tryz.prog Tryz.f5 Rows.rsgArcsRow.domain false) (Rows.rsgArcsSpec.post enc Tryz.prog Tryz.f5 false true false false) := by
 refine returnsInHanded_of_change (C := Tryz.checked) own started (by kernel_rfl) Tryz.func5
  (ChangeSpec.witness6 (enc := enc) (C := Tryz.checked) false ⟨#[], #[.agg #[.slice none 0 0, .int .i64 0, .int .i64 0, .int .i64 0, .int .i64 0, .int .i64 0, .int .i64 0, .int .i64 0, .int .i64 0, .int .i64 0, .int .i64 0, .int .i64 0, .int .i64 0, .int .i64 0, .int .i64 0, .int .i64 0, .int .i64 0], .slice none 0 0], []⟩ 8 (by kernel_rfl) (by kernel_rfl) (by kernel_rfl) (by kernel_rfl)) ?_
 intro W base args ds gs before hval0 hW hcnd _
 have hval : ∀ (j : Nat) t v, Tryz.f5.params[j]? = some t -> args[j]? = some v -> Value.okWide Tryz.prog W .any base t v := hval0
 have hW' := hW
 have hlt := hW.lt
 obtain ⟨p, q, hA0, hV, rfl, hfz, hnd⟩ := hW
 have hA : DataW.TrodAll enc Tryz.prog W 0 (fun _ => true) true Tryz.f5.params.toList args.toList ds p := hA0
 have hpar : Tryz.f5.params = #[26, 39] := rfl
 rw [hpar] at hA hval
 obtain ⟨v0, vs0, d0, ds0, p0, q0, hargs, rfl, rfl, h0, r0⟩ := trodAll_cons hA
 obtain ⟨v1, vs1, d1, ds1, p1, q1, rfl, rfl, rfl, h1, r1⟩ := trodAll_cons r0
 obtain ⟨rfl, rfl, rfl⟩ := trodAll_nil r1
 obtain rfl : args = #[v0, v1] := by cases args; simp_all
 obtain ⟨rfl, rfl⟩ := trodVars_none hV
 clear hA0 hval0
 obtain ⟨x0, e0⟩ := Gx.open_arg (d := 12) (ty := (.pair (.sl (.pair .str (.pair (.int .i64) (.pair (.sl (.pair (.sl (.pair (.int .i64) (.pair (.int .i64) (.pair (.int .i64) (.pair (.int .i64) (.pair (.pair (.int .i64) (.int .i64)) (.pair (.pair (.int .i64) (.int .i64)) (.int .i64)))))))) (.sl (.pair (.pair (.int .i64) (.int .i64)) (.pair (.pair (.int .i64) (.int .i64)) .bool))))) (.pair (.sl (.pair (.sl (.pair (.int .i64) (.pair (.int .i64) (.pair (.int .i64) (.pair (.int .i64) (.pair (.pair (.int .i64) (.int .i64)) (.pair (.pair (.int .i64) (.int .i64)) (.int .i64)))))))) (.sl (.pair (.pair (.int .i64) (.int .i64)) (.pair (.pair (.int .i64) (.int .i64)) .bool))))) .bool))))) (.arr 4 (.arr 4 (.int .i64))))) (by kernel_rfl) h0
 have f0 : v0 = .agg v0.cells := Gx.val_agg (hval 0 26 v0 rfl rfl) (.inl ⟨_, Tryz.underlying26⟩)
 obtain ⟨x1, e1⟩ := Gx.open_arg (d := 12) (ty := (.sl (.pair (.int .i64) (.pair (.int .i64) (.pair (.int .i64) (.pair .bool (.pair (.sl (.pair (.int .i64) (.int .i64))) (.sl (.pair (.int .i64) (.int .i64)))))))))) (by kernel_rfl) h1
 obtain ⟨c1, g1⟩ : ∃ c, v1.cells.toList = [c] := List.length_eq_one_iff.1 (Gx.rep_len e1)
 have f1 : v1 = c1 := Gx.val_of_cells (hval 1 39 v1 rfl rfl) (fun fs n e => by rw [Tryz.underlying39]; exact ⟨by simp, by simp⟩) g1
 rw [g1] at e1
 have call : Calls Tryz.prog 5 #[v0, v1] W fun e w' => e = .returned (.bool true) /\ Below W.heap.size W w' := by
  rw [f0, f1]
  refine (Gx.rsgArcs W e0 e1).calls.mono ?_
  rintro e w' ⟨v, rfl, rfl, hx⟩
  exact ⟨rfl, hx.below⟩
 refine call.mono fun e W' ⟨he, hg⟩ => ?_
 subst he
 have b1 : ∀ sp : Nat -> Bool, (∀ x ∈ p1, sp x.block = true) -> DataW.Trod enc Tryz.prog W' 0 sp true 39 v1 d1 p1 := fun sp hsp => Gx.trod_keep (by kernel_rfl) (by kernel_rfl) (by decide +kernel) h1 hg (fun x hx => hlt x (by simp [hx])) hsp
 have b0 : ∀ sp : Nat -> Bool, (∀ x ∈ p0, sp x.block = true) -> DataW.Trod enc Tryz.prog W' 0 sp true 26 v0 d0 p0 := fun sp hsp => Gx.trod_keep (by kernel_rfl) (by kernel_rfl) (by decide +kernel) h0 hg (fun x hx => hlt x (by simp [hx])) hsp
 exact ⟨_, rfl, Gx.post_of_below (pa := (p0 ++ (p1 ++ []))) (pv := []) hW' hg (fun _ _ _ => (trodAll_cons_mk (shut_bool Tryz.underlying4 _) trodAll_mk0)) (fun sp hsp => by rw [hpar]; exact (trodAll_cons_mk (b0 sp fun x hx => hsp x (by simp [hx])) (trodAll_cons_mk (b1 sp fun x hx => hsp x (by simp [hx])) trodAll_mk0))) (fun _ _ => rfl) (by simp)
  (ok_one (by kernel_rfl) rfl (okWide_bool_mk Tryz.underlying4 _))⟩
set_option maxRecDepth 100000
theorem ft1 : (laidOutB Tryz.checked.prog && mapsRowed Tryz.checked.prog) = true := by kernel_rfl
theorem ft2 : (Rows.rsgArcsRow.inPlace == Tryz.checked.prog.inPlace 5) = true := by kernel_rfl
theorem ft3 : (Rows.rsgArcsRow.unfollowed == Tryz.checked.prog.unfollowed 5) = true := by kernel_rfl
theorem ft4 : (Rows.rsgArcsRow.named == Tryz.checked.prog.varsNamed 5) = true := by kernel_rfl
theorem ft6 : ((Tryz.checked.prog.stops == []) && (Tryz.checked.prog.stopKnobs == [])) = true := by kernel_rfl
theorem ft7 : (Rows.rsgArcsRow.plainKeys == Tryz.checked.prog.plainKeys) = true := by kernel_rfl
theorem ft8 : Tryz.checked.prog.stopsHeard = true := by kernel_rfl
theorem ft9 : (Tryz.checked.prog.mayEnter && ((Rows.rsgArcsRow.lifted == Tryz.checked.prog.liftsFinal) && (Tryz.checked.prog.make == some Rows.rsgArcsRow.make))) = true := by kernel_rfl
theorem ft5 : (Rows.rsgArcsRow.recurses == Tryz.checked.prog.recurses 5) = true := by
 have h : Tryz.checked.prog.unfollowed 5 = true := by have := ft3; rw [beq_iff_eq] at this; exact this.symm
 unfold Program.recurses; rw [h]; rfl
theorem facts : joinedFacts Tryz.checked.prog 5 Tryz.f5 Rows.rsgArcsSpec Rows.rsgArcsRow = true := by
 obtain ⟨h1, h2⟩ := Bool.and_eq_true_iff.1 ft1
 obtain ⟨h3, h4⟩ := Bool.and_eq_true_iff.1 ft6
 obtain ⟨h5, h6⟩ := Bool.and_eq_true_iff.1 ft9
 obtain ⟨h7, h8⟩ := Bool.and_eq_true_iff.1 h6
 unfold joinedFacts
 rw [h1, h2, ft2, ft3, ft4, ft5, h3, h4, ft7, ft8, h5, h7, h8]
 kernel_rfl
theorem over : Rows.rsgArcsRow.holds Tryz.pinned (OpenSpec.ofChange Rows.rsgArcsSpec) :=
 OpenClaim.holds_of_wide 5 Tryz.f5 rfl rfl rfl rfl rfl rfl rfl ⟨rfl, rfl, rfl, rfl, rfl⟩ rfl rfl rfl rfl rfl (by kernel_rfl) Tryz.func5 facts
  (of_decide_eq_true (by kernel_rfl)) (by unfold Func.isWrapper; first | (rw [if_pos (by decide +kernel)]; kernel_rfl) | (rw [if_neg (by decide +kernel)]; exact ⟨rfl, rfl⟩))
  (fun os started H enc _ => lifted os started H enc)
/-- The statement. -/
theorem proved : Rows.RsgArcsSaid :=
 over
#print axioms proved
end Go.Proofs.YtlpgdngcgbeegaaGreat.rsgArcs
