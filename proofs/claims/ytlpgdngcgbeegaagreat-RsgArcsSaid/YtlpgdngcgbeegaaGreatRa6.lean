/- Merged by pack.py: GreA, GxOJ, RsgA, GxOK, SrA, RsgB, ArcC, RsgC, RsgD, RsgE, RsgF, RsgG. -/
import Derived.Test.YtlpgdngcgbeegaaGreatRa1
import Derived.Test.YtlpgdngcgbeegaaGreatRa2
import Derived.Test.YtlpgdngcgbeegaaGreatRa3
import Derived.Test.YtlpgdngcgbeegaaGreatRa4
import Derived.Test.YtlpgdngcgbeegaaGreatRa5
/- Packages gimmallaw11, 12, 14, 16: what is more than statements look at. -/
namespace Go.Proofs.YtlpgdngcgbeegaaGreat.Gx
open Go
set_option linter.unusedSimpArgs false
set_option linter.unusedVariables false
theorem stC_all (ss : List (Sl × Sl)) : One (ss.flatMap stC) := by
 intro v hv
 obtain ⟨x, _, hx⟩ := List.mem_flatMap.1 hv
 exact stC_one x v hx
theorem stC_flat (ss : List (Sl × Sl)) : (ss.flatMap stC).length = ss.length * 2 := flatLen stC_len ss
theorem c134 {w : World} {v : ClsV} {x : ClsD} (h : ClsM w v x) : CW Tryz.prog 134 #[clV v] w fun r w' => ∃ b, r = .bool b /\ Ext w w' := by
 refine F134_ok v w _ fun b1 w2 a2 => ?_
 have e2 : Ext w w2 := a2.ch _
 have q := fun {W : World} (o : Nat) (e : Ext w2 W) => boxAt (cs := clsC v) a2.new o e
 have r2 := Ch.refl (fun _ => False) w2
 obtain ⟨ss, hs1, hs2, hs3⟩ := h.st.list
 obtain ⟨cs, hc1, hc2, hc3⟩ := h.co.list
 have hsn := rdN stC_len (by omega) hs2
 have hcn := rdN stC_len (by omega) hc2
 refine ⟨_, q 0 r2, IfB.dec (fun _ => ⟨true, rfl, e2⟩) fun _ => ⟨_, q 2 r2, IfB.dec (fun _ => ⟨true, rfl, e2⟩) fun g1 => ⟨_, q 3 r2, IfB.dec (fun _ => ⟨true, rfl, e2⟩) fun g2 => ?_⟩⟩⟩
 have g1 : ¬ (20 : Int) < (v.2.2.1.n : Int) := g1
 have g2 : ¬ (20 : Int) < (v.2.2.2.1.n : Int) := g2
 have ed := extDrew w2
 refine ⟨_, q 2 ed, _, q 3 ed, by decide, fun b8 w9 a8 => ?_⟩
 have e9 : Ext w2 w9 := ed.trans (a8.ch _)
 have E9 : Ext w w9 := e2.trans e9
 have p8 := a8.here; have z8 := a8.size; have z2 := a2.size; have p2 := a2.here
 have zd : w2.drew.heap.size = w2.heap.size := rfl
 have r9 : Rd w9 v.2.2.1 2 (ss.flatMap stC) := hs2.ext E9
 refine ⟨q 3 e9, q 2 e9, _, r9.2, OwS.append (s := ⟨some ⟨b8, 0, none⟩, 0, 0⟩) (cs := []) (new := ss.flatMap stC) (sz := 2) (cnt := v.2.2.1.n) (OwS.new (cs := []) (n := 0) a8 rfl) rfl rfl (by rw [stC_flat, hsn]) (stC_all ss) ⟨by dsimp only; omega, Nat.le_trans (Nat.mul_le_mul (show 2 * (0 + v.2.2.1.n) <= 1000 by omega) (show _ <= 100000 by decide)) (by decide)⟩ fun s11 w12 ho hn hC hb _ => ?_⟩
 have e12 : Ext w2 w12 := e9.chN hC fun j hj => by
  have : j = b8 := by simpa [blk] using hj
  omega
 have E12 : Ext w w12 := e2.trans e12
 have r12 : Rd w12 v.2.2.2.1 2 (cs.flatMap stC) := hc2.ext E12
 rw [List.nil_append] at ho
 dsimp only at hn
 refine ⟨q 3 e12, _, r12.2, OwS.append (new := cs.flatMap stC) (cnt := v.2.2.2.1.n) ho rfl rfl (by rw [stC_flat, hcn]) (stC_all cs) ⟨by omega, Nat.le_trans (Nat.mul_le_mul (show 2 * (s11.n + v.2.2.2.1.n) <= 1000 by omega) (show _ <= 100000 by decide)) (by decide)⟩ fun s14 w15 ho' hn' hC' hb' _ => ?_⟩
 have zz := E9.size
 have e15 : Ext w w15 := E12.chN hC' fun j hj => by
  rcases hb j hj with h' | h'
  ·have : j = b8 := by simpa [blk] using h'
   have := e2.size; omega
  ·omega
 rw [<- List.flatMap_append] at ho'
 have hl := rdN stC_len (by omega) ho'.rd
 have hla : (ss ++ cs).length = ss.length + cs.length := List.length_append
 refine ⟨fun m z W => ∃ i : Nat, i <= (ss ++ cs).length /\ m + i = (ss ++ cs).length /\ z = (i : Int) /\ W = w15, ⟨_, 0, Nat.zero_le _, rfl, rfl, rfl⟩, ?_⟩
 rintro m _ _ g ⟨i, hi, hm, rfl, rfl⟩
 unfold F134j1
 refine IfB.dec (fun hlt => ?_) fun _ => ⟨false, rfl, e15⟩
 have hi' : i < (ss ++ cs).length := by omega
 have hx : (ss ++ cs)[i]? = some (ss ++ cs)[i] := List.getElem?_eq_getElem hi'
 generalize (ss ++ cs)[i] = y at hx
 obtain ⟨b, o, hp, hc⟩ := ho'.rd.elem (i := i) (by omega) (by omega) (flatGet stC_len hx)
 exact ⟨b, o, hp, ⟨by omega, hlt⟩, y.1, by rw [Int.toNat_natCast]; exact hc 0 _ rfl, IfB.dec (fun _ => ⟨true, rfl, e15⟩) fun _ => ⟨b, o, hp, ⟨by omega, hlt⟩, y.2, by rw [Int.toNat_natCast]; exact hc 1 _ rfl, IfB.dec (fun _ => ⟨true, rfl, e15⟩) fun _ => ⟨rfl, m - 1, by omega, i + 1, hi', by omega, by rw [wrap_of (by omega) (by omega)]; rfl, rfl⟩⟩⟩
theorem c71 {w : World} {v : CatV} {x : CatD} (h : CatM w v x) : CW Tryz.prog 71 #[cxV v] w fun r w' => ∃ b, r = .bool b /\ Ext w w' := by
 have hn := cat_cl h
 have hcap := h.cl.cap
 have hml := maxLen_le
 refine F71_ok v w _ fun b1 w2 a2 => ?_
 have e2 : Ext w w2 := a2.ch _
 have q := fun {W : World} (e : Ext w2 W) => boxAt (cs := cxC v) a2.new 0 e
 refine ⟨fun m z W => ∃ i : Nat, i <= x.1.length /\ m + i = x.1.length /\ z = (i : Int) /\ Ext w2 W, ⟨_, 0, Nat.zero_le _, rfl, rfl, Ch.refl _ _⟩, ?_⟩
 rintro m _ W g ⟨i, hi, hm, rfl, e⟩
 unfold F71j1
 refine ⟨_, q e, IfB.dec (fun hlt => ?_) fun _ => ⟨_, q e, _, rfl, e2.trans e⟩⟩
 have hlt : (i : Int) < (v.1.n : Int) := hlt
 have hi' : i < x.1.length := by omega
 have hx : x.1[i]? = some x.1[i] := List.getElem?_eq_getElem hi'
 generalize x.1[i] = y at hx
 obtain ⟨b, o, cv, hp, hc, hM⟩ := ClsR.at (SlR.ext h.cl (e2.trans e)) hx
 refine ⟨_, q e, b, o, hp, ⟨by omega, hlt⟩, cv, by rw [Int.toNat_natCast]; exact hc, (c134 hM).use ?_⟩
 rintro _ w16 ⟨r, rfl, e16⟩
 exact ⟨r, rfl, IfB.intro (fun _ => ⟨true, rfl, (e2.trans e).trans e16⟩) fun _ => ⟨rfl, m - 1, by omega, i + 1, hi', by omega, by rw [wrap_of (by omega) (by omega)]; rfl, e.trans e16⟩⟩
theorem c82 {w : World} {v : CatV} {x : CatD} {t : Sl} {hs : List Nd} (h : CatM w v x) (hH : HIn w t hs) :
  CW Tryz.prog 82 #[cxV v, slV t] w fun r w' => ∃ b, r = .bool b /\ (b = false -> hs.length <= 110 /\ ∀ n ∈ hs, n.rs.length <= 60 /\ n.ws.length <= 60) /\ Ext w w' := by
 have hn := hH.n
 have hml := maxLen_le
 have hlen := hH.len
 refine F82_ok v t w _ fun b1 w2 a2 => ?_
 have e2 : Ext w w2 := a2.ch _
 refine ⟨fun m z W => ∃ i : Nat, i <= hs.length /\ m + i = hs.length /\ z = (i : Int) /\ (∀ n ∈ hs.take i, n.rs.length <= 60 /\ n.ws.length <= 60) /\ Ext w2 W, ⟨_, 0, Nat.zero_le _, rfl, rfl, by simp, Ch.refl _ _⟩, ?_⟩
 rintro m _ W g ⟨i, hi, hm, rfl, ha, e⟩
 have yes : ∀ {V : World}, Ext w V -> ∃ b, Value.bool true = .bool b /\ (b = false -> hs.length <= 110 /\ ∀ n ∈ hs, n.rs.length <= 60 /\ n.ws.length <= 60) /\ Ext w V := fun e => ⟨true, rfl, fun h => (by cases h), e⟩
 unfold F82j1
 refine IfB.dec (fun hlt => ?_) fun hge => ?_
 ·have hi' : i < hs.length := by omega
  have hx : hs[i]? = some hs[i] := List.getElem?_eq_getElem hi'
  have hxm : hs[i] ∈ hs := List.getElem_mem hi'
  have htk := take_succ_get hx
  generalize hs[i] = y at hx hxm htk
  obtain ⟨b, o, hp, hc⟩ := (hH.ext (e2.trans e)).rd.elem (i := i) (by omega) (by omega) (flatGet nL_len hx)
  obtain ⟨hr, hw⟩ := (hH.nd y hxm).rn
  refine ⟨b, o, hp, ⟨by omega, hlt⟩, y.v.2.2.2.2.1, by rw [Int.toNat_natCast]; exact hc 4 _ rfl, IfB.dec (fun _ => yes (e2.trans e)) fun g1 => ⟨b, o, hp, ⟨by omega, hlt⟩, y.v.2.2.2.2.2, by rw [Int.toNat_natCast]; exact hc 5 _ rfl, IfB.dec (fun _ => yes (e2.trans e)) fun g2 => ⟨rfl, m - 1, by omega, i + 1, hi', by omega, by rw [wrap_of (by omega) (by omega)]; rfl, ?_, e⟩⟩⟩
  rw [htk]; intro z hz
  rcases List.mem_append.1 hz with hz | hz
  ·exact ha z hz
  ·rw [List.mem_singleton.1 hz]
   have g1 : ¬ (60 : Int) < (y.v.2.2.2.2.1.n : Int) := g1
   have g2 : ¬ (60 : Int) < (y.v.2.2.2.2.2.n : Int) := g2
   omega
 ·have hi' : i = hs.length := by omega
  subst hi'
  rw [List.take_length] at ha
  refine ⟨v, cxN h a2.new e, (c71 (h.ext (e2.trans e))).use ?_⟩
  rintro _ w21 ⟨r, rfl, e21⟩
  refine ⟨r, rfl, IfB.intro (fun _ => yes ((e2.trans e).trans e21)) fun _ => ⟨_, rfl, fun hf => ⟨?_, ha⟩, (e2.trans e).trans e21⟩⟩
  rw [decide_eq_false_iff_not] at hf
  omega
theorem c29 {w : World} {v : CatV} {x : CatD} {t : Sl} {hs : List Nd} (h : CatM w v x) (hH : HIn w t hs) :
  CW Tryz.prog 29 #[cxV v, slV t] w fun r w' => ∃ b, r = .bool b /\ (b = false -> Hst w' t hs /\ hs.length <= 24) /\ Ext w w' := by
 have hn := hH.n
 have hml := maxLen_le
 refine F29_ok v t w _ fun b1 w2 a2 => ?_
 have e2 : Ext w w2 := a2.ch _
 have yes : ∀ {V : World}, Ext w V -> ∃ b, Value.bool true = .bool b /\ (b = false -> Hst V t hs /\ hs.length <= 24) /\ Ext w V := fun e => ⟨true, rfl, fun h => (by cases h), e⟩
 refine ⟨v, cxN h a2.new (Ch.refl _ _), (c82 (h.ext e2) (hH.ext e2)).use ?_⟩
 rintro _ w7 ⟨r, rfl, hr, e7⟩
 have e27 := e2.trans e7
 have h7 := hH.ext e27
 refine ⟨r, rfl, IfB.intro (fun _ => yes e27) fun g1 => (c83 h7.rd (fun n hn => (h7.nd n hn).rn) (Nat.le_trans hH.len hml)).use ?_⟩
 rintro _ _ ⟨r2, rfl, hr2, rfl⟩
 refine ⟨r2, rfl, IfB.intro (fun _ => yes e27) fun g2 => ⟨_, rfl, fun hf => ⟨h7.hst fun h' => ?_, ?_⟩, e27⟩⟩
 ·rw [hr2.2 h'] at g2; cases g2
 ·rw [decide_eq_false_iff_not] at hf
  omega
end Go.Proofs.YtlpgdngcgbeegaaGreat.Gx
/- Written by mkf.py: what is to be shown of functions, as Gx reckons it from their code. -/
namespace Go.Proofs.YtlpgdngcgbeegaaGreat.Gx
open Go
set_option linter.unusedVariables false
set_option maxRecDepth 100000
def F154k1 (t1 : Sl) (x21 : Int × Int × Int) (w22 : World) (t2 : Int) (b20 : Nat) (y18 : Nat -> Int × Int × Int -> World -> Prop) (x17 : Int × Int × Bool) : Prop := Qx t1.1 x21.snd.2 (t1.2 : Int) fun b25 b26 => ∃ (x27 : Int × Int × Int × Bool × Sl × Sl), CellsAt w22 b25 (b26 + Int.toNat x21.snd.2 * 6) (lC53 x27) /\ AllocP w22 (Obj.cells #[Qz 0, Qz 0, Qz 0, Value.bool false, Value.slice none 0 0, Value.slice none 0 0] 53) fun b28 w29 => (lC53 x27).toArray.size = 6 /\ StoreP w29 b28 0 (lC53 x27) fun w30 => Qi w30.drew b28 (0 + 0) fun n31 => Qx t1.1 t2 (t1.2 : Int) fun b32 b33 => Qi w30.drew b32 (b33 + t2.toNat * 6 + 0) fun n34 => IfB (n31 != n34) (Qn y18 b20 (x21.1, x21.snd.1, IntKind.i64.wrap (x21.snd.2 + 1)) w30.drew) (Qb w30.drew b28 (0 + 3) fun t36 => IfB t36 (Qn y18 b20 (x21.1, x21.snd.1, IntKind.i64.wrap (x21.snd.2 + 1)) w30.drew) (Qi w30.drew b28 (0 + 2) fun n38 => IfB (decide (n38 < x17.fst)) (Qn y18 b20 (x21.1, x21.snd.1, IntKind.i64.wrap (x21.snd.2 + 1)) w30.drew) (Qi w30.drew b28 (0 + 2) fun n40 => IfB (decide (x17.snd.fst < n40)) (Qn y18 b20 (x21.1, x21.snd.1, IntKind.i64.wrap (x21.snd.2 + 1)) w30.drew) (Qn y18 b20 (if x21.snd.snd < x21.fst then x21.snd.2 else x21.1, if x21.snd.fst < x21.snd.snd then x21.snd.2 else x21.snd.1, IntKind.i64.wrap (x21.snd.2 + 1)) w30.drew))))
def F154j1 (t1 : Sl) (t2 : Int) (R : Value -> World -> Prop) (x17 : Int × Int × Bool) (y18 : Nat -> Int × Int × Int -> World -> Prop) (b20 : Nat) (x21 : Int × Int × Int) (w22 : World) : Prop := IfB (decide (x21.snd.snd < (t1.n : Int))) (F154k1 t1 x21 w22 t2 b20 y18 x17) (R (Value.tuple #[Qz x21.1, Qz x21.snd.1]) w22)
def F154 (t0 : Sl × List Value) (t1 : Sl) (t2 : Int) (t3 : Int) (w : World) (R : Value -> World -> Prop) : Prop := AllocP w (Obj.cells { toList := Qy t0.fst :: t0.2 } 26) fun b1 w2 => Qx t1.1 t2 (t1.2 : Int) fun b3 b4 => Qb w2 b3 (b4 + t2.toNat * 6 + 3) fun t5 => IfB t5 (R (Value.tuple #[Qz t2, Qz t2]) w2) (∃ (x6 : Sl × List Value), CellsN w2.drew b1 0 17 (Qy x6.fst :: x6.2) /\ Qx t1.1 t2 (t1.2 : Int) fun b9 b10 => Qi w2.drew b9 (b10 + t2.toNat * 6 + 1) fun n11 => Qx t1.1 t2 (t1.2 : Int) fun b12 b13 => Qi w2.drew b12 (b13 + t2.toNat * 6 + 2) fun n14 => CX Tryz.prog 136 #[Value.agg { toList := Qy x6.fst :: x6.2 }, Qz n11, Qz t3, Qz n14] w2.drew fun v15 w16 => ∃ (x17 : Int × Int × Bool), v15 = Value.tuple #[Qz x17.1, Qz x17.snd.1, Value.bool x17.snd.2] /\ Ql (α := Int × Int × Int) (t2, t2, 0) w16 fun y18 b20 x21 w22 => (F154j1 t1 t2 R x17 y18 b20 x21 w22))
theorem F154_ok (t0 : Sl × List Value) (t1 : Sl) (t2 : Int) (t3 : Int) (w : World) (R : Value -> World -> Prop) (h : F154 t0 t1 t2 t3 w R) : CW Tryz.prog 154 #[Value.agg { toList := Qy t0.fst :: t0.2 }, Qy t1, Qz t2, Qz t3] w R :=
 call_of tbOk mixed en154 Tryz.func154 rfl (.node (.nil) (.node (.nil) (.node (.draw (.st 0 (.st 1 (.st 2 (.st 3 (.st 4 (.st 5 (.st 6 (.st 7 (.st 8 (.st 9 (.st 10 (.st 11 (.ac 12 [] (.st 13 (.st 14 (.st 15 (.st 16 (.st 17 (.st 18 (.st 19 (.fin)))))))) (.non))))))))))))))) (.node (.nil) (.node (.node (.nil) (.loop [(13, .one (.int .i64)), (14, .one (.int .i64)), (45, .one (.int .i64))] [46, 47, 48, 49, 16, 15, 50, 51, 52, 53, 54, 55, 56, 57, 58, 59, 60, 61, 62, 63, 64, 65, 66, 67, 68, 69, 70, 71, 72, 73, 74, 75, 76, 77, 78, 79, 13, 14, 80, 45] (.node (.nil) (.node (.nil) (.node (.node (.nil) (.node (.node (.draw (.st 0 (.st 1 (.st 2 (.st 3 (.st 4 (.st 5 (.st 6 (.st 7 (.st 8 (.st 9 (.st 10 (.st 11 (.st 12 (.st 13 (.st 14 (.st 15 (.st 16 (.st 17 (.st 18 (.st 19 (.st 20 (.st 21 (.st 22 (.st 23 (.fin)))))))))))))))))))))))))) (.nil)) (.nil))) (.nil)))))) (.nil)))))) (by kernel_rfl) (Nat.le_of_ble_eq_true (by kernel_rfl)) (Eq.mp (α := F154 t0 t1 t2 t3 w R) (by kernel_rfl) h)
noncomputable def R86_0 : Code := codeAt [1, 0, 1, 0] (bodyOf Tryz.f86)
def R86_0a : An := .node (.draw (.st 0 (.st 1 (.st 2 (.st 3 (.st 4 (.st 5 (.st 6 (.st 7 (.fin)))))))))) (.nil)
theorem R86_0ok1 : okC tb Tryz.f86.ntmps (rA R86_0) .nil = true := by kernel_rfl
theorem R86_0ok2 : okC tb Tryz.f86.ntmps (rB R86_0) R86_0a = true := by kernel_rfl
theorem R86_0okp : (rP R86_0).toList.all (fun p => Nat.blt p Tryz.f86.ntmps) = true := by kernel_rfl
def F86 (t0 : Sl) (t1 : Int) (w : World) (R : Value -> World -> Prop) : Prop := AllocP w (Obj.cells #[Qy t0] 39) fun b1 w2 => AllocP w2 (Obj.cells #[Qz t1] 3) fun b3 w4 => AllocP w4 (Obj.cells #[Value.slice none 0 0] 41) fun b5 w6 => Qs w6 b1 0 fun s7 => Qi w6 b3 0 fun n8 => (0 <= n8 /\ n8 <= (s7.3 : Int)) /\ CX Tryz.prog 153 #[Value.slice (slAddr s7.1 s7.3 0 6) n8.toNat s7.3] w6 fun v9 w10 => ∃ (x11 : Nat × Array Value), v9 = Value.func (Fn.func x11.1) #[] x11.2 /\ ∀ (y12 : Nat -> Value), RangeP Tryz.prog tb (nat_lit 25) none R86_0a (rG R86_0) (rP R86_0) (rA R86_0) (rB R86_0) (frC y12 [(2, Value.pointer (some ⟨b1, 0, none⟩)), (3, Value.pointer (some ⟨b3, 0, none⟩)), (4, Value.pointer (some ⟨b5, 0, none⟩)), (10, Value.func (Fn.func x11.1) #[] x11.2)]) [] w10 (fun (l13 : List Nat) (w14 : World) => #[Value.slice none 0 0].size = 1 /\ StoreP w14 b5 0 [Value.slice none 0 0] fun w15 => marksP w15 l13 fun w16 => Qs w16 b5 0 fun s17 => R (Qy s17) w16) (fun (l18 : List Nat) (w19 : World) => marksP w19 l18 fun w20 => Qs w20 b5 0 fun s21 => R (Qy s21) w20) fun (b22 : Nat) (l23 : List Nat) (w24 : World) => match b22.beq 0 with | true => #[Value.slice none 0 0].size = 1 /\ StoreP w24 b5 0 [Value.slice none 0 0] fun w26 => marksP w26 l23 fun w27 => Qs w27 b5 0 fun s28 => R (Qy s28) w27 | false => False
theorem F86_ok (t0 : Sl) (t1 : Int) (w : World) (R : Value -> World -> Prop) (h : F86 t0 t1 w R) : CW Tryz.prog 86 #[Qy t0, Qz t1] w R :=
 call_of tbOk mixed en86 Tryz.func86 rfl (.node (.nil) (.node (.node (.nil) (.rng [(2, .one (.box)), (3, .one (.box)), (4, .one (.box)), (10, .one (.clo))] (.node (.draw (.st 0 (.st 1 (.st 2 (.st 3 (.st 4 (.st 5 (.st 6 (.st 7 (.fin)))))))))) (.nil)))) (.nil))) (by kernel_rfl) (Nat.le_of_ble_eq_true (by kernel_rfl)) (Eq.mp (α := F86 t0 t1 w R) (by kernel_rfl) h)
def F86b0 (t2 : Nat) (t3 : Nat) (t4 : Nat) (t10 : Nat × Array Value) (x11 : Int) (x12 : Int × Int × Int × Bool × Sl × Sl) (l D n₀ : Nat) (Jn : World -> Prop) (Jx : Code -> World -> Prop) (W : World) : Prop :=  AllocP W (Obj.cells #[Qz 0, Qz 0, Qz 0, Value.bool false, Value.slice none 0 0, Value.slice none 0 0] 53) fun b1 w2 => (lC53 x12).toArray.size = 6 /\ StoreP w2 b1 0 (lC53 x12) fun w3 => ([] : List Nat) = [] /\ (w3.1[l]? = W.1[l]? /\ w3.1[D]? = W.1[D]?) /\ ∀ (w12 : World), Stb n₀ w3 w12 -> Its w3 w12 -> (∃ y15 : Loop, w12.1[l]? = some (Obj.loop y15)) -> Qi w12.drew b1 (0 + 0) fun n19 => ∃ s20 : Sl, w12.drew.cell? ⟨t2, 0, none⟩ = some (Qy s20) /\ ∃ n21 : Int, w12.drew.cell? ⟨t3, 0, none⟩ = some (Qz n21) /\ Qx s20.1 n21 (s20.2 : Int) fun b22 b23 => Qi w12.drew b22 (b23 + n21.toNat * 6 + 0) fun n24 => IfB (n19 == n24) (∃ n25 : Int, w12.drew.cell? ⟨t3, 0, none⟩ = some (Qz n25) /\ 1 * 3 <= 16777216 /\ AllocP w12.drew (Obj.cells #[Qz x11, Qz n25, Qz 1] 44) fun b26 w27 => #[Value.slice (some ⟨b26, 0, none⟩) 1 1].size = 1 /\ StoreP w27 t4 0 [Value.slice (some ⟨b26, 0, none⟩) 1 1] fun w28 => (w28.1[l]? = w12.1[l]? /\ w28.1[D]? = w12.1[D]?) /\ Jx Code.ret w28) ((w12.drew.1[l]? = w12.1[l]? /\ w12.drew.1[D]? = w12.1[D]?) /\ Jn w12.drew)
theorem F86b0_ok (t2 : Nat) (t3 : Nat) (t4 : Nat) (t10 : Nat × Array Value) (x11 : Int) (x12 : Int × Int × Int × Bool × Sl × Sl) (l D n₀ : Nat) (Jn : World -> Prop) (Jx : Code -> World -> Prop) (W : World) {g : Nat -> Value} (h : F86b0 t2 t3 t4 t10 x11 x12 l D n₀ Jn Jx W) :
  BodyP Tryz.prog tb Tryz.f86.ntmps l D n₀ R86_0a (rP R86_0) (rA R86_0) (rB R86_0) (frC g [(2, Value.pointer (some ⟨t2, 0, none⟩)), (3, Value.pointer (some ⟨t3, 0, none⟩)), (4, Value.pointer (some ⟨t4, 0, none⟩)), (10, Value.func (Fn.func t10.1) #[] t10.2)]) Jn Jx [Value.int IntKind.i64 x11, (.agg (lC53 x12).toArray)] W :=
 Eq.mp (α := F86b0 t2 t3 t4 t10 x11 x12 l D n₀ Jn Jx W) (by kernel_rfl) h
def F87 (t0 : Sl × List Value) (t1 : Sl) (t2 : Int) (t3 : Int) (w : World) (R : Value -> World -> Prop) : Prop := AllocP w (Obj.cells { toList := Qy t0.fst :: t0.2 } 26) fun b1 w2 => ∃ (x3 : Sl × List Value), CellsN w2.drew b1 0 17 (Qy x3.fst :: x3.2) /\ Qx t1.1 t3 (t1.2 : Int) fun b6 b7 => Qi w2.drew b6 (b7 + t3.toNat * 6 + 1) fun n8 => CX Tryz.prog 154 #[Value.agg { toList := Qy x3.fst :: x3.2 }, Qy t1, Qz t2, Qz n8] w2.drew fun v9 w10 => ∃ (x11 : Int × Int), v9 = Value.tuple #[Qz x11.1, Qz x11.2] /\ ∃ (x12 : Sl × List Value), CellsN w10.drew b1 0 17 (Qy x12.fst :: x12.2) /\ Qx t1.1 t2 (t1.2 : Int) fun b15 b16 => Qi w10.drew b15 (b16 + t2.toNat * 6 + 1) fun n17 => CX Tryz.prog 154 #[Value.agg { toList := Qy x12.fst :: x12.2 }, Qy t1, Qz t3, Qz n17] w10.drew fun v18 w19 => ∃ (x20 : Int × Int), v18 = Value.tuple #[Qz x20.1, Qz x20.2] /\ 3 * 3 <= 16777216 /\ AllocP w19 (Obj.cells #[Qz t2, Qz t3, Qz 2, Qz x11.2, Qz t3, Qz 3, Qz t2, Qz x20.1, Qz 4] 44) fun b21 w22 => R (Value.slice (some ⟨b21, 0, none⟩) 3 3) w22
theorem F87_ok (t0 : Sl × List Value) (t1 : Sl) (t2 : Int) (t3 : Int) (w : World) (R : Value -> World -> Prop) (h : F87 t0 t1 t2 t3 w R) : CW Tryz.prog 87 #[Value.agg { toList := Qy t0.fst :: t0.2 }, Qy t1, Qz t2, Qz t3] w R :=
 call_of tbOk mixed en87 Tryz.func87 rfl (.node (.nil) (.node (.draw (.st 0 (.st 1 (.st 2 (.st 3 (.st 4 (.st 5 (.st 6 (.st 7 (.ac 8 [] (.st 9 (.st 10 (.st 11 (.st 12 (.st 13 (.fin)))))) (.non))))))))))) (.node (.draw (.st 0 (.st 1 (.st 2 (.st 3 (.st 4 (.st 5 (.st 6 (.st 7 (.ac 8 [] (.st 9 (.st 10 (.st 11 (.st 12 (.st 13 (.fin)))))) (.non))))))))))) (.nil)))) (by kernel_rfl) (Nat.le_of_ble_eq_true (by kernel_rfl)) (Eq.mp (α := F87 t0 t1 t2 t3 w R) (by kernel_rfl) h)
def F157j1 (t0 : Sl) (R : Value -> World -> Prop) (y1 : Nat -> Int -> World -> Prop) (b3 : Nat) (n4 : Int) (w5 : World) : Prop := IfB (decide (n4 < (t0.n : Int))) (Qx t0.1 n4 (t0.2 : Int) fun b8 b9 => Qi w5 b8 (b9 + n4.toNat) fun n10 => IfB (n10 != 0) (R (Qz n10) w5) (Qn y1 b3 (IntKind.i64.wrap (n4 + 1)) w5)) (R (Qz 0) w5)
def F157 (t0 : Sl) (w : World) (R : Value -> World -> Prop) : Prop := Ql (α := Int) 0 w fun y1 b3 n4 w5 => (F157j1 t0 R y1 b3 n4 w5)
theorem F157_ok (t0 : Sl) (w : World) (R : Value -> World -> Prop) (h : F157 t0 w R) : CW Tryz.prog 157 #[Qy t0] w R :=
 call_of tbOk mixed en157 Tryz.func157 rfl (.node (.nil) (.node (.nil) (.node (.node (.nil) (.loop [(8, .one (.int .i64))] [9, 10, 11, 5, 12, 13, 14, 15, 2, 16, 8] (.nil))) (.nil)))) (by kernel_rfl) (Nat.le_of_ble_eq_true (by kernel_rfl)) (Eq.mp (α := F157 t0 w R) (by kernel_rfl) h)
def F89 (t0 : Int × Int × Int) (t1 : Int × Int × Int) (w : World) (R : Value -> World -> Prop) : Prop := AllocP w (Obj.cells (lC44 t0).toArray 44) fun b1 w2 => AllocP w2 (Obj.cells (lC44 t1).toArray 44) fun b3 w4 => Qi w4.drew b1 (0 + 0) fun n5 => Qi w4.drew b3 (0 + 0) fun n6 => Qi w4.drew b1 (0 + 1) fun n7 => Qi w4.drew b3 (0 + 1) fun n8 => Qi w4.drew b1 (0 + 2) fun n9 => Qi w4.drew b3 (0 + 2) fun n10 => Qw Tryz.prog 158 #[Qz n5, Qz n6] w4.drew fun n13 w12 => w12.cell? ⟨b3, 0 + 2, none⟩ = some (Qz n10) /\ w12.cell? ⟨b1, 0 + 2, none⟩ = some (Qz n9) /\ w12.cell? ⟨b3, 0 + 1, none⟩ = some (Qz n8) /\ w12.cell? ⟨b1, 0 + 1, none⟩ = some (Qz n7) /\ Qw Tryz.prog 158 #[Qz n7, Qz n8] w12 fun n16 w15 => w15.cell? ⟨b3, 0 + 2, none⟩ = some (Qz n10) /\ w15.cell? ⟨b1, 0 + 2, none⟩ = some (Qz n9) /\ Qw Tryz.prog 158 #[Qz n9, Qz n10] w15 fun n19 w18 => 3 * 1 <= 16777216 /\ AllocP w18 (Obj.cells #[Qz n13, Qz n16, Qz n19] 3) fun b20 w21 => Qw Tryz.prog 157 #[Value.slice (some ⟨b20, 0, none⟩) 3 3] w21 fun n24 w23 => R (Qz n24) w23
theorem F89_ok (t0 : Int × Int × Int) (t1 : Int × Int × Int) (w : World) (R : Value -> World -> Prop) (h : F89 t0 t1 w R) : CW Tryz.prog 89 #[(.agg (lC44 t0).toArray), (.agg (lC44 t1).toArray)] w R :=
 call_of tbOk mixed en89 Tryz.func89 rfl (.node (.nil) (.node (.draw (.st 0 (.st 1 (.st 2 (.st 3 (.st 5 (.st 6 (.st 7 (.st 8 (.st 10 (.st 11 (.st 12 (.st 13 (.ac 4 [13, 12, 11, 10, 8, 7, 6, 5] (.ac 9 [13, 12, 11, 10] (.ac 14 [] (.ac 15 [] (.ac 16 [] (.st 17 (.fin)) (.non)) (.non)) (.non)) (.non)) (.non))))))))))))))) (.nil))) (by kernel_rfl) (Nat.le_of_ble_eq_true (by kernel_rfl)) (Eq.mp (α := F89 t0 t1 w R) (by kernel_rfl) h)
def F90j2 (t0 : Sl) (R : Value -> World -> Prop) (n4 : Int) (y15 : Nat -> Int × Int -> World -> Prop) (b17 : Nat) (x18 : Int × Int) (w19 : World) : Prop := IfB (decide (x18.snd < (((t0.n - n4.toNat : Nat) : Int) : Int))) (Qx (slAddr t0.1 t0.3 n4.toNat 3) x18.2 ((t0.2 - n4.toNat : Nat) : Int) fun b22 b23 => ∃ (x24 : Int × Int × Int), CellsAt w19.drew b22 (b23 + x18.2.toNat * 3) (lC44 x24) /\ Qx (slAddr t0.1 t0.3 n4.toNat 3) (IntKind.i64.wrap (x18.2 - 1)) ((t0.2 - n4.toNat : Nat) : Int) fun b25 b26 => ∃ (x27 : Int × Int × Int), CellsAt w19.drew b25 (b26 + (IntKind.i64.wrap (x18.2 - 1)).toNat * 3) (lC44 x27) /\ ∃ t28 : Bool, EqAt Tryz.prog 44 ((.agg (lC44 x24).toArray)) ((.agg (lC44 x27).toArray)) t28 /\ IfB (!t28) (Qx (slAddr t0.1 t0.3 n4.toNat 3) x18.2 ((t0.2 - n4.toNat : Nat) : Int) fun b29 b30 => ∃ (x31 : Int × Int × Int), CellsAt w19.drew b29 (b30 + x18.2.toNat * 3) (lC44 x31) /\ Qx t0.1 x18.1 (t0.2 : Int) fun b32 b33 => (lC44 x31).toArray.size = 3 /\ StoreP w19.drew b32 (b33 + x18.1.toNat * 3) (lC44 x31) fun w34 => Qn y15 b17 (IntKind.i64.wrap (x18.1 + 1), IntKind.i64.wrap (x18.2 + 1)) w34) (Qn y15 b17 (x18.1, IntKind.i64.wrap (x18.2 + 1)) w19.drew)) ((0 <= x18.1 /\ x18.1 <= (t0.2 : Int)) /\ match slAddr t0.1 t0.3 x18.1.toNat 3 with | none => (0 <= x18.1 /\ x18.1 <= (t0.3 : Int)) /\ R (Value.slice (slAddr t0.1 t0.3 0 3) x18.1.toNat t0.3) w19 | some ({ block := b38, off := b39, spot := none } : Addr) => StoreP w19 b38 b39 (zc #[Qz 0, Qz 0, Qz 0] (t0.2 - x18.1.toNat)) fun w40 => (0 <= x18.1 /\ x18.1 <= (t0.3 : Int)) /\ R (Value.slice (slAddr t0.1 t0.3 0 3) x18.1.toNat t0.3) w40 | some y41 => False)
def F90j1 (t0 : Sl) (R : Value -> World -> Prop) (y1 : Nat -> Int -> World -> Prop) (b3 : Nat) (n4 : Int) (w5 : World) : Prop := IfB (decide (n4 < (t0.n : Int))) (Qx t0.1 n4 (t0.2 : Int) fun b8 b9 => ∃ (x10 : Int × Int × Int), CellsAt w5.drew b8 (b9 + n4.toNat * 3) (lC44 x10) /\ Qx t0.1 (IntKind.i64.wrap (n4 - 1)) (t0.2 : Int) fun b11 b12 => ∃ (x13 : Int × Int × Int), CellsAt w5.drew b11 (b12 + (IntKind.i64.wrap (n4 - 1)).toNat * 3) (lC44 x13) /\ ∃ t14 : Bool, EqAt Tryz.prog 44 ((.agg (lC44 x10).toArray)) ((.agg (lC44 x13).toArray)) t14 /\ IfB t14 ((0 <= n4 /\ n4 <= (t0.2 : Int)) /\ Ql (α := Int × Int) (n4, 1) w5.drew fun y15 b17 x18 w19 => (F90j2 t0 R n4 y15 b17 x18 w19)) (Qn y1 b3 (IntKind.i64.wrap (n4 + 1)) w5.drew)) (R (Qy t0) w5)
def F90 (t0 : Sl) (w : World) (R : Value -> World -> Prop) : Prop := IfB (decide ((t0.n : Int) < 2)) (R (Qy t0) w) (Ql (α := Int) 1 w fun y1 b3 n4 w5 => (F90j1 t0 R y1 b3 n4 w5))
theorem F90_ok (t0 : Sl) (w : World) (R : Value -> World -> Prop) (h : F90 t0 w R) : CW Tryz.prog 90 #[Qy t0] w R :=
 call_of tbOk mixed en90 Tryz.func90 rfl (.node (.nil) (.node (.nil) (.node (.node (.nil) (.loop [(3, .one (.int .i64))] [10, 11, 12, 13, 16, 17, 18, 19, 20, 21, 22, 23, 24, 25, 26, 27, 28, 4, 5, 29, 30, 31, 32, 35, 36, 37, 38, 39, 40, 41, 42, 43, 44, 45, 46, 47, 48, 49, 50, 51, 52, 53, 3, 33, 34, 54, 55, 56, 57, 58, 59, 2, 14, 15] (.node (.nil) (.node (.node (.draw (.st 0 (.st 1 (.st 2 (.st 3 (.st 4 (.st 5 (.st 6 (.st 7 (.st 8 (.st 9 (.fin)))))))))))) (.node (.node (.nil) (.node (.node (.nil) (.loop [(3, .one (.int .i64)), (5, .one (.int .i64))] [29, 30, 31, 32, 35, 36, 37, 38, 39, 40, 41, 42, 43, 44, 45, 46, 47, 48, 49, 50, 51, 52, 53, 3, 33, 34, 5] (.node (.nil) (.node (.node (.draw (.st 0 (.st 1 (.st 2 (.st 3 (.st 4 (.st 5 (.st 6 (.st 7 (.st 8 (.st 9 (.fin)))))))))))) (.nil)) (.nil))))) (.nil))) (.nil))) (.nil))))) (.nil)))) (by kernel_rfl) (Nat.le_of_ble_eq_true (by kernel_rfl)) (Eq.mp (α := F90 t0 w R) (by kernel_rfl) h)
def F30j2 (t1 : Sl) (b1 : Nat) (y12 : Nat -> Sl × Int -> World -> Prop) (b14 : Nat) (x15 : Sl × Int) (s21 : Sl) (y28 : Nat -> Sl × Int -> World -> Prop) (b30 : Nat) (x31 : Sl × Int) (w32 : World) : Prop := IfB (decide (x31.snd < (s21.n : Int))) (Qx s21.1 x31.2 (s21.2 : Int) fun b35 b36 => Qi w32 b35 (b36 + x31.2.toNat) fun n37 => Qx t1.1 n37 (t1.2 : Int) fun b38 b39 => Qi w32.drew b38 (b39 + n37.toNat * 6 + 0) fun n40 => Qx t1.1 x15.2 (t1.2 : Int) fun b41 b42 => Qi w32.drew b41 (b42 + x15.2.toNat * 6 + 0) fun n43 => IfB (n40 != n43) (∃ (x44 : Sl × List Value), CellsN w32.drew b1 0 17 (Qy x44.fst :: x44.2) /\ Qu Tryz.prog 87 #[Value.agg { toList := Qy x44.fst :: x44.2 }, Qy t1, Qz n37, Qz x15.2] w32.drew fun s49 w48 => ∃ (l50 : List Value), ReadC w48 s49.1 (s49.2 * 3) l50 /\ AppendP tt44 44 w48 x31.fst.1 x31.fst.2 x31.fst.3 s49.2 l50 fun s51 w52 => Qn y28 b30 ({ p := s51.1, n := s51.2, c := s51.3 }, IntKind.i64.wrap (x31.2 + 1)) w52) (Qn y28 b30 ({ p := x31.fst.1, n := x31.fst.2, c := x31.fst.3 }, IntKind.i64.wrap (x31.2 + 1)) w32.drew)) (Qn y12 b14 ({ p := x31.fst.1, n := x31.fst.2, c := x31.fst.3 }, IntKind.i64.wrap (x15.2 + 1)) w32)
def F30j1 (t1 : Sl) (R : Value -> World -> Prop) (b1 : Nat) (s11 : Sl) (y12 : Nat -> Sl × Int -> World -> Prop) (b14 : Nat) (x15 : Sl × Int) (w16 : World) : Prop := IfB (decide (x15.snd < (s11.n : Int))) (Qx s11.1 x15.2 (s11.2 : Int) fun b19 b20 => Qs w16 b19 (b20 + x15.2.toNat) fun s21 => Qu Tryz.prog 86 #[Qy t1, Qz x15.2] w16 fun s24 w23 => ∃ (l25 : List Value), ReadC w23 s24.1 (s24.2 * 3) l25 /\ AppendP tt44 44 w23 x15.fst.1 x15.fst.2 x15.fst.3 s24.2 l25 fun s26 w27 => Ql (α := Sl × Int) ({ p := s26.1, n := s26.2, c := s26.3 }, 0) w27 fun y28 b30 x31 w32 => (F30j2 t1 b1 y12 b14 x15 s21 y28 b30 x31 w32)) (CX Tryz.prog 88 #[Qy x15.fst, Value.func (Fn.func 89) #[] #[]] w16 fun v56 w57 => ∃ y58 : Unit, v56 = Value.tuple #[] /\ Qu Tryz.prog 90 #[Qy x15.fst] w57 fun s61 w60 => R (Qy s61) w60)
def F30 (t0 : Sl × List Value) (t1 : Sl) (w : World) (R : Value -> World -> Prop) : Prop := AllocP w (Obj.cells { toList := Qy t0.fst :: t0.2 } 26) fun b1 w2 => ∃ (x3 : Sl × List Value), CellsN w2 b1 0 17 (Qy x3.fst :: x3.2) /\ Qv Tryz.prog 84 #[Value.agg { toList := Qy x3.fst :: x3.2 }, Qy t1] w2 fun t8 w7 => IfB (!t8) (R (Value.slice none 0 0) w7) (Qu Tryz.prog 85 #[Qy t1] w7 fun s11 w10 => Ql (α := Sl × Int) ({ p := none, n := 0, c := 0 }, 0) w10 fun y12 b14 x15 w16 => (F30j1 t1 R b1 s11 y12 b14 x15 w16))
theorem F30_ok (t0 : Sl × List Value) (t1 : Sl) (w : World) (R : Value -> World -> Prop) (h : F30 t0 t1 w R) : CW Tryz.prog 30 #[Value.agg { toList := Qy t0.fst :: t0.2 }, Qy t1] w R :=
 call_of tbOk mixed en30 Tryz.func30 rfl (.node (.nil) (.node (.nil) (.node (.nil) (.node (.node (.nil) (.loop [(5, .one (.sl)), (17, .one (.int .i64))] [18, 19, 20, 21, 6, 7, 22, 23, 24, 25, 26, 5, 27, 28, 29, 30, 31, 32, 9, 33, 34, 35, 36, 37, 38, 39, 40, 41, 42, 43, 44, 45, 46, 47, 48, 49, 50, 51, 52, 17] (.node (.nil) (.node (.nil) (.node (.node (.nil) (.node (.nil) (.node (.nil) (.loop [(5, .one (.sl)), (29, .one (.int .i64))] [30, 31, 32, 9, 33, 34, 35, 36, 37, 38, 39, 40, 41, 42, 43, 44, 45, 46, 47, 48, 49, 50, 5, 51, 29] (.node (.nil) (.node (.nil) (.node (.node (.nil) (.node (.draw (.st 0 (.st 1 (.st 2 (.st 3 (.st 4 (.st 5 (.st 6 (.st 7 (.st 8 (.st 9 (.st 10 (.fin))))))))))))) (.nil))) (.nil)))))))) (.nil)))))) (.nil))))) (by kernel_rfl) (Nat.le_of_ble_eq_true (by kernel_rfl)) (Eq.mp (α := F30 t0 t1 w R) (by kernel_rfl) h)
def F95j4 (t0 : Int) (t1 : Sl) (b1 : Nat) (y26 : Nat -> Sl -> World -> Prop) (b28 : Nat) (x36 : Sl × Int) (s54 : Sl) (y56 : Nat -> Int -> World -> Prop) (b58 : Nat) (n59 : Int) (w60 : World) : Prop := IfB (decide (n59 < (t1.n : Int))) (Qx t1.1 n59 (t1.2 : Int) fun b63 b64 => ∃ (x65 : Int × Int × Int), CellsAt w60 b63 (b64 + n59.toNat * 3) (lC44 x65) /\ AllocP w60 (Obj.cells #[Qz 0, Qz 0, Qz 0] 44) fun b66 w67 => (lC44 x65).toArray.size = 3 /\ StoreP w67 b66 0 (lC44 x65) fun w68 => Qi w68 b66 (0 + 0) fun n69 => IfB (n69 == x36.2) (Qi w68 b66 (0 + 1) fun n70 => Qx (some ⟨b1, 0, none⟩) n70 (t0.toNat : Int) fun b71 b72 => Qi w68 b71 (b72 + n70.toNat) fun n73 => Qx (some ⟨b1, 0, none⟩) n70 (t0.toNat : Int) fun b74 b75 => #[Qz (IntKind.i64.wrap (n73 - 1))].size = 1 /\ StoreP w68 b74 (b75 + n70.toNat) [Qz (IntKind.i64.wrap (n73 - 1))] fun w76 => Qn y56 b58 (IntKind.i64.wrap (n59 + 1)) w76) (Qn y56 b58 (IntKind.i64.wrap (n59 + 1)) w68)) (Qn y26 b28 { p := s54.1, n := s54.2, c := s54.3 } w60)
def F95j3 (t0 : Int) (t1 : Sl) (R : Value -> World -> Prop) (b1 : Nat) (b24 : Nat) (y26 : Nat -> Sl -> World -> Prop) (b28 : Nat) (y33 : Nat -> Sl × Int -> World -> Prop) (b35 : Nat) (x36 : Sl × Int) (w37 : World) : Prop := IfB (decide (x36.snd < t0)) (Qx (some ⟨b24, 0, none⟩) x36.2 (t0.toNat : Int) fun b40 b41 => Qb w37 b40 (b41 + x36.2.toNat) fun t42 => IfB t42 (Qn y33 b35 ({ p := x36.fst.1, n := x36.fst.2, c := x36.fst.3 }, IntKind.i64.wrap (x36.2 + 1)) w37) (Qx (some ⟨b1, 0, none⟩) x36.2 (t0.toNat : Int) fun b44 b45 => Qi w37 b44 (b45 + x36.2.toNat) fun n46 => IfB (decide (0 < n46)) (Qn y33 b35 ({ p := x36.fst.1, n := x36.fst.2, c := x36.fst.3 }, IntKind.i64.wrap (x36.2 + 1)) w37) (Qx (some ⟨b24, 0, none⟩) x36.2 (t0.toNat : Int) fun b48 b49 => #[Value.bool true].size = 1 /\ StoreP w37 b48 (b49 + x36.2.toNat) [Value.bool true] fun w50 => 1 * 1 <= 16777216 /\ AllocP w50 (Obj.cells #[Qz x36.2] 3) fun b51 w52 => ∃ (l53 : List Value), ReadC w52 (some ⟨b51, 0, none⟩) (1 * 1) l53 /\ AppendP tt3 3 w52 x36.fst.1 x36.fst.2 x36.fst.3 1 l53 fun s54 w55 => Ql (α := Int) 0 w55 fun y56 b58 n59 w60 => (F95j4 t0 t1 b1 y26 b28 x36 s54 y56 b58 n59 w60)))) (R (Qy x36.fst) w37)
def F95j1 (t0 : Int) (t1 : Sl) (R : Value -> World -> Prop) (b1 : Nat) (y3 : Nat -> Int -> World -> Prop) (b5 : Nat) (n6 : Int) (w7 : World) : Prop := IfB (decide (n6 < (t1.n : Int))) (Qx t1.1 n6 (t1.2 : Int) fun b10 b11 => ∃ (x12 : Int × Int × Int), CellsAt w7 b10 (b11 + n6.toNat * 3) (lC44 x12) /\ AllocP w7 (Obj.cells #[Qz 0, Qz 0, Qz 0] 44) fun b13 w14 => (lC44 x12).toArray.size = 3 /\ StoreP w14 b13 0 (lC44 x12) fun w15 => Qi w15 b13 (0 + 1) fun n16 => Qx (some ⟨b1, 0, none⟩) n16 (t0.toNat : Int) fun b17 b18 => Qi w15 b17 (b18 + n16.toNat) fun n19 => Qx (some ⟨b1, 0, none⟩) n16 (t0.toNat : Int) fun b20 b21 => #[Qz (IntKind.i64.wrap (n19 + 1))].size = 1 /\ StoreP w15 b20 (b21 + n16.toNat) [Qz (IntKind.i64.wrap (n19 + 1))] fun w22 => Qn y3 b5 (IntKind.i64.wrap (n6 + 1)) w22) ((0 <= t0 /\ t0 <= t0 /\ t0 <= 281474976710656 /\ ((1 : Nat) : Int) * t0 <= 281474976710656) /\ AllocP w7 (Obj.cells { toList := zc #[Value.bool false] t0.toNat } 4) fun b24 w25 => Ql (α := Sl) ({ p := none, n := 0, c := 0 }) w25 fun y26 b28 s29 w30 => Ql (α := Sl × Int) ({ p := s29.1, n := s29.2, c := s29.3 }, 0) w30 fun y33 b35 x36 w37 => (F95j3 t0 t1 R b1 b24 y26 b28 y33 b35 x36 w37))
def F95 (t0 : Int) (t1 : Sl) (w : World) (R : Value -> World -> Prop) : Prop := (0 <= t0 /\ t0 <= t0 /\ t0 <= 281474976710656 /\ ((8 : Nat) : Int) * t0 <= 281474976710656) /\ AllocP w (Obj.cells { toList := zc #[Qz 0] t0.toNat } 3) fun b1 w2 => Ql (α := Int) 0 w2 fun y3 b5 n6 w7 => (F95j1 t0 t1 R b1 y3 b5 n6 w7)
theorem F95_ok (t0 : Int) (t1 : Sl) (w : World) (R : Value -> World -> Prop) (h : F95 t0 t1 w R) : CW Tryz.prog 95 #[Qz t0, Qy t1] w R :=
 call_of tbOk mixed en95 Tryz.func95 rfl (.node (.nil) (.node (.nil) (.node (.node (.nil) (.loop [(17, .one (.int .i64))] [18, 19, 20, 7, 21, 22, 23, 24, 25, 26, 27, 28, 17] (.nil))) (.node (.nil) (.node (.nil) (.node (.nil) (.loop [(8, .one (.sl))] [31, 32, 33, 34, 10, 35, 36, 37, 38, 39, 40, 41, 42, 43, 44, 45, 46, 47, 48, 49, 50, 51, 52, 8, 53, 54, 55, 56, 57, 58, 12, 59, 60, 61, 62, 63, 64, 65, 66, 67, 68, 69, 70, 71, 72, 4] (.node (.node (.nil) (.loop [(8, .one (.sl)), (32, .one (.int .i64))] [33, 34, 10, 35, 36, 37, 38, 39, 40, 41, 42, 43, 44, 45, 46, 47, 48, 49, 50, 51, 52, 8, 53, 54, 55, 56, 57, 58, 12, 59, 60, 61, 62, 63, 64, 65, 66, 67, 68, 69, 70, 71, 32] (.node (.nil) (.node (.nil) (.node (.node (.nil) (.node (.nil) (.node (.nil) (.node (.nil) (.node (.node (.nil) (.loop [(55, .one (.int .i64))] [56, 57, 58, 12, 59, 60, 61, 62, 63, 64, 65, 66, 67, 68, 69, 70, 55] (.nil))) (.nil)))))) (.nil)))))) (.nil))))))))) (by kernel_rfl) (Nat.le_of_ble_eq_true (by kernel_rfl)) (Eq.mp (α := F95 t0 t1 w R) (by kernel_rfl) h)
def F34 (t0 : Sl × List Value) (t1 : Sl) (w : World) (R : Value -> World -> Prop) : Prop := AllocP w (Obj.cells { toList := Qy t0.fst :: t0.2 } 26) fun b1 w2 => ∃ (x3 : Sl × List Value), CellsN w2 b1 0 17 (Qy x3.fst :: x3.2) /\ Qv Tryz.prog 84 #[Value.agg { toList := Qy x3.fst :: x3.2 }, Qy t1] w2 fun t8 w7 => IfB t8 (∃ (x9 : Sl × List Value), CellsN w7 b1 0 17 (Qy x9.fst :: x9.2) /\ Qu Tryz.prog 30 #[Value.agg { toList := Qy x9.fst :: x9.2 }, Qy t1] w7 fun s14 w13 => Qu Tryz.prog 95 #[Qz (t1.2 : Int), Qy s14] w13 fun s17 w16 => R (Value.bool ((s17.2 : Int) == (t1.2 : Int))) w16) (R (Value.bool false) w7)
theorem F34_ok (t0 : Sl × List Value) (t1 : Sl) (w : World) (R : Value -> World -> Prop) (h : F34 t0 t1 w R) : CW Tryz.prog 34 #[Value.agg { toList := Qy t0.fst :: t0.2 }, Qy t1] w R :=
 call_of tbOk mixed en34 Tryz.func34 rfl (.nil) (by kernel_rfl) (Nat.le_of_ble_eq_true (by kernel_rfl)) (Eq.mp (α := F34 t0 t1 w R) (by kernel_rfl) h)
end Go.Proofs.YtlpgdngcgbeegaaGreat.Gx
/- Package rsg: first and last node of a unit. -/
namespace Go.Proofs.YtlpgdngcgbeegaaGreat.Gx
open Go
set_option linter.unusedSimpArgs false
set_option linter.unusedVariables false
/-- A saga has one class. -/
theorem own_class {x : CatD} {hs : List Nd} (h : HMay x hs) (s : Int) : ∀ i, i <= hs.length -> match lastOwn hs i s with
  | none => ∀ k b, k < i -> hs[k]? = some b -> b.v.1 ≠ s
  | some m => ∀ k b, k < i -> hs[k]? = some b -> b.v.1 = s -> b.v.2.1 = m.v.2.1 := by
 intro i
 induction i with
 | zero =>
  intro _
  have : lastOwn hs 0 s = none := by unfold lastOwn ownL; simp
  rw [this]
  exact fun k b hk => absurd hk (Nat.not_lt_zero _)
 | succ i ih =>
  intro hi
  have ih := ih (by omega)
  have hx : hs[i]? = some hs[i] := List.getElem?_eq_getElem (by omega)
  generalize hs[i] = y at hx
  have hnx := (h.ok i y hx).nx
  rw [lastOwn_succ hx]
  by_cases hys : y.v.1 = s
  ·rw [if_pos hys]
   intro k b hk hb hbs
   rcases Nat.lt_or_ge k i with h' | h'
   ·rw [hys] at hnx
    cases hl : lastOwn hs i s with
    | none => rw [hl] at ih; exact absurd hbs (ih k b h' hb)
    | some m =>
     rw [hl] at ih hnx
     exact (ih k b h' hb hbs).trans hnx.1.symm
   ·have : k = i := by omega
    subst this
    rw [hx] at hb; cases hb; rfl
  ·rw [if_neg hys]
   have old : ∀ k b, k < i + 1 -> hs[k]? = some b -> b.v.1 = s -> k < i := fun k b hk hb hbs => by
    rcases Nat.lt_or_ge k i with h' | h'
    ·exact h'
    ·have : k = i := by omega
     subst this
     rw [hx] at hb; cases hb; exact absurd hbs hys
   cases hl : lastOwn hs i s with
   | none =>
    rw [hl] at ih
    intro k b hk hb hbs
    exact ih k b (old k b hk hb hbs) hb hbs
   | some m =>
    rw [hl] at ih
    intro k b hk hb hbs
    exact ih k b (old k b hk hb hbs) hb hbs
theorem HMay.cls {x : CatD} {hs : List Nd} (h : HMay x hs) {i k : Nat} {a b : Nd} (ha : hs[i]? = some a) (hb : hs[k]? = some b) (he : a.v.1 = b.v.1) : a.v.2.1 = b.v.2.1 := by
 have hia := (List.getElem?_eq_some_iff.1 ha).1
 have hkb := (List.getElem?_eq_some_iff.1 hb).1
 have := own_class h b.v.1 hs.length (Nat.le_refl _)
 cases hl : lastOwn hs hs.length b.v.1 with
 | none => rw [hl] at this; exact absurd rfl (this k b hkb hb)
 | some m => rw [hl] at this; exact (this i a hia ha he).trans (this k b hkb hb rfl).symm
/-- First and last of a unit. -/
def FstP (x : CatD) (hs : List Nd) (i : Nat) (d : Int) (f : Nat) : Prop := InP x hs i f d /\ ∀ k, InP x hs i k d -> f <= k
def LstP (x : CatD) (hs : List Nd) (i : Nat) (d : Int) (l : Nat) : Prop := InP x hs i l d /\ ∀ k, InP x hs i k d -> k <= l
theorem InP.lt {x : CatD} {hs : List Nd} {i k : Nat} {d : Int} (h : InP x hs i k d) (hi : i < hs.length) : k < hs.length := by
 rcases h with rfl | ⟨_, b, _, hb, _⟩
 ·exact hi
 ·exact (List.getElem?_eq_some_iff.1 hb).1
theorem uN_of {x : CatD} {c d : Int} (hc : 0 <= c) (hd : 0 <= d) (k : Nat) : uN x c d k = unitN x c.toNat d.toNat k := by unfold uN; rw [if_pos ⟨hc, hd⟩]
theorem c154 {w : World} {v : CatV} {x : CatD} {t : Sl} {hs : List Nd} (h : CatM w v x) (hH : Hst w t hs) (hM : HMay x hs) {i : Nat} (hi : i < hs.length) {d : Int} (hd : 0 <= d /\ d < (x.1.length : Int)) :
  CW Tryz.prog 154 #[cxV v, slV t, iv i, iv d] w fun r w' => ∃ f l : Nat, r = .tuple #[iv f, iv l] /\ FstP x hs i d f /\ LstP x hs i d l /\ Ext w w' := by
 have htn := hH.n
 have hl100 := hM.len
 have ha : hs[i]? = some hs[i] := List.getElem?_eq_getElem hi
 generalize hs[i] = a at ha
 have sa := hM.step ha
 have oa := hM.ok i a ha
 have hbd : (0 : Int) <= (i : Int) /\ (i : Int) < (t.n : Int) := ⟨by omega, by omega⟩
 refine F154_ok v t (i : Int) d w _ fun b1 w2 a2 => ?_
 have e2 : Ext w w2 := a2.ch _
 obtain ⟨p1, o1, hp1, hc1⟩ := (hH.ext e2).at ha
 refine ⟨p1, o1, hp1, hbd, a.v.2.2.2.1, by rw [Int.toNat_natCast]; exact hc1 3 _ rfl, IfB.intro (fun h1 => ⟨i, i, rfl, ⟨.inl rfl, fun k hk => ?_⟩, ⟨.inl rfl, fun k hk => ?_⟩, e2⟩) fun h1 => ?_⟩
 ·rcases hk with rfl | ⟨a', b', ha', _, _, hb', _⟩
  ·exact Nat.le_refl _
  ·rw [ha] at ha'; cases ha'; rw [h1] at hb'; cases hb'
 ·rcases hk with rfl | ⟨a', b', ha', _, _, hb', _⟩
  ·exact Nat.le_refl _
  ·rw [ha] at ha'; cases ha'; rw [h1] at hb'; cases hb'
 have ed := extDrew w2
 have E2 := e2.trans ed
 obtain ⟨p2, o2, hp2, hc2⟩ := (hH.ext E2).at ha
 refine ⟨v, cxN h a2.new ed, p2, o2, hp2, hbd, a.v.2.1, by rw [Int.toNat_natCast]; exact hc2 1 _ rfl, p2, o2, hp2, hbd, a.v.2.2.1, by rw [Int.toNat_natCast]; exact hc2 2 _ rfl, (c136 (h.ext E2) hM.cat a.v.2.1 d a.v.2.2.1).use ?_⟩
 rintro _ w16 ⟨lo, up, b, rfl, hb, hlu, e16⟩
 have E16 := E2.trans e16
 obtain ⟨l, u, rfl, rfl, hB⟩ := hlu (hb.2 ⟨⟨oa.c0, oa.cn⟩, hd, sa.1, sa.2.1⟩)
 have hin : ∀ {k : Nat} {n : Nd}, hs[k]? = some n -> (InP x hs i k d ↔ n.v.1 = a.v.1 /\ n.v.2.2.2.1 = false /\ (l : Int) <= n.v.2.2.1 /\ n.v.2.2.1 <= (u : Int)) := fun {k n} hn => by
  have sn := hM.step hn
  have key : n.v.1 = a.v.1 -> (uN x a.v.2.1 d a.v.2.2.1.toNat = uN x a.v.2.1 d n.v.2.2.1.toNat ↔ (l : Int) <= n.v.2.2.1 /\ n.v.2.2.1 <= (u : Int)) := fun he => by
   have hcl := hM.cls hn ha he
   rw [uN_of oa.c0 hd.1, uN_of oa.c0 hd.1, eq_comm, hB.iff (by rw [<- hcl]; omega)]
   omega
  constructor
  ·rintro (rfl | ⟨a', b', ha', hb', h2, h3, h4, h5⟩)
   ·rw [ha] at hn; cases hn
    have := hB.l; have := hB.h
    exact ⟨rfl, h1, by omega, by omega⟩
   ·rw [ha] at ha'; rw [hn] at hb'
    cases ha'; cases hb'
    exact ⟨h2.symm, h4, (key h2.symm).1 h5⟩
  ·rintro ⟨h2, h3, h4⟩
   exact .inr ⟨a, n, ha, hn, h2.symm, h1, h3, (key h2).2 h4⟩
 refine ⟨((l : Int), (u : Int), b), rfl, fun m z W => ∃ k f e : Nat, k <= hs.length /\ m + k = hs.length /\ z = ((f : Int), (e : Int), (k : Int)) /\ (InP x hs i f d /\ InP x hs i e d /\ ∀ j, j < k -> InP x hs i j d -> f <= j /\ j <= e) /\ Ext w W, ⟨hs.length, 0, i, i, Nat.zero_le _, rfl, rfl, ⟨.inl rfl, .inl rfl, fun j hj => absurd hj (Nat.not_lt_zero _)⟩, E16⟩, ?_⟩
 rintro m _ W g ⟨k, f, e, hk, hm, rfl, ⟨hf, he, hall⟩, eW⟩
 unfold F154j1
 refine IfB.dec (fun hlt => ?_) fun hge => ?_
 ·dsimp only at hlt
  have hk' : k < hs.length := by omega
  have hn : hs[k]? = some hs[k] := List.getElem?_eq_getElem hk'
  generalize hs[k] = n at hn
  have hbk : (0 : Int) <= (k : Int) /\ (k : Int) < (t.n : Int) := ⟨by omega, by omega⟩
  obtain ⟨p3, o3, hp3, hc3⟩ := (hH.ext eW).at hn
  unfold F154k1
  refine ⟨p3, o3, hp3, hbk, n.v, by dsimp only; rw [Int.toNat_natCast]; exact hc3, fun b28 w29 a29 => ⟨rfl, store_all (vs := nC n.v) a29.new rfl (nC_one n.v) fun w30 u30 => ?_⟩⟩
  have e30 : Ext W w30 := Ext.fresh a29 u30
  have ed30 := extDrew w30
  have E30 : Ext w w30.drew := (eW.trans e30).trans ed30
  have q := fun (o : Nat) => boxAt (cs := nC n.v) u30.new o ed30
  obtain ⟨p4, o4, hp4, hc4⟩ := (hH.ext E30).at ha
  have hw : IntKind.i64.wrap ((k : Int) + 1) = ((k + 1 : Nat) : Int) := by rw [wrap_of (by omega) (by omega)]; rfl
  have step : ∀ {f' e' : Nat}, (InP x hs i f' d /\ InP x hs i e' d /\ ∀ j, j < k + 1 -> InP x hs i j d -> f' <= j /\ j <= e') -> ([] : List Nat) = [] /\ ∃ b, b < m /\ ∃ k' f e : Nat, k' <= hs.length /\ b + k' = hs.length /\ ((f' : Int), (e' : Int), IntKind.i64.wrap ((k : Int) + 1)) = ((f : Int), (e : Int), (k' : Int)) /\ (InP x hs i f d /\ InP x hs i e d /\ ∀ j, j < k' -> InP x hs i j d -> f <= j /\ j <= e) /\ Ext w w30.drew := fun {f' e'} hh => ⟨rfl, m - 1, by omega, k + 1, f', e', hk', by omega, by rw [hw], hh, E30⟩
  have skip := fun (hno : ¬ InP x hs i k d) => step (f' := f) (e' := e) ⟨hf, he, fun j hj hj' => by
   rcases Nat.lt_or_ge j k with h' | h'
   ·exact hall j h' hj'
   ·exact absurd hj' (by rw [show j = k by omega]; exact hno)⟩
  refine ⟨_, q 0, p4, o4, hp4, hbd, a.v.1, by rw [Int.toNat_natCast]; exact hc4 0 _ rfl, IfB.intro (fun g1 => skip fun k' => ?_) fun g1 => ⟨_, q 3, IfB.intro (fun g2 => skip fun k' => ?_) fun g2 => ⟨_, q 2, IfB.dec (fun g3 => skip fun k' => ?_) fun g3 => ⟨_, q 2, IfB.dec (fun g4 => skip fun k' => ?_) fun g4 => ?_⟩⟩⟩⟩
  ·have g1 : n.v.1 ≠ a.v.1 := by simpa using g1
   exact g1 ((hin hn).1 k').1
  ·rw [((hin hn).1 k').2.1] at g2; cases g2
  ·have := ((hin hn).1 k').2.2.1
   dsimp only at g3; omega
  ·have := ((hin hn).1 k').2.2.2
   dsimp only at g4; omega
  ·have g1 : n.v.1 = a.v.1 := by simpa using g1
   dsimp only at g3 g4
   have hik : InP x hs i k d := (hin hn).2 ⟨g1, g2, by omega, by omega⟩
   have em : (if (k : Int) < (f : Int) then (k : Int) else (f : Int)) = ((min f k : Nat) : Int) := by split <;> omega
   have eM : (if (e : Int) < (k : Int) then (k : Int) else (e : Int)) = ((max e k : Nat) : Int) := by split <;> omega
   dsimp only
   rw [em, eM]
   refine step ⟨?_, ?_, fun j hj hj' => ?_⟩
   ·rcases Nat.le_total f k with h' | h'
    ·rw [Nat.min_eq_left h']; exact hf
    ·rw [Nat.min_eq_right h']; exact hik
   ·rcases Nat.le_total e k with h' | h'
    ·rw [Nat.max_eq_right h']; exact hik
    ·rw [Nat.max_eq_left h']; exact he
   ·rcases Nat.lt_or_ge j k with h' | h'
    ·have := hall j h' hj'; omega
    ·omega
 ·dsimp only at hge
  have hk' : k = hs.length := by omega
  subst hk'
  exact ⟨f, e, rfl, ⟨hf, fun j hj => (hall j (hj.lt hi) hj).1⟩, ⟨he, fun j hj => (hall j (hj.lt hi) hj).2⟩, eW⟩
end Go.Proofs.YtlpgdngcgbeegaaGreat.Gx
/- Written by mkf.py: what is to be shown of functions, as Gx reckons it from their code. -/
namespace Go.Proofs.YtlpgdngcgbeegaaGreat.Gx
open Go
set_option linter.unusedVariables false
set_option maxRecDepth 100000
def F88 (t0 : Sl) (t1 : Nat × Array Value) (w : World) (R : Value -> World -> Prop) : Prop := CX Tryz.prog 156 #[Value.int IntKind.u64 (IntKind.u64.wrap (t0.2 : Int))] w fun v1 w2 => ∃ n3 : Int, v1 = Qz n3 /\ CX Tryz.prog 155 #[Qy t0, Qz 0, Qz (t0.2 : Int), Qz n3, Value.func (Fn.func t1.1) #[] t1.2] w2 fun v4 w5 => ∃ y6 : Unit, v4 = Value.tuple #[] /\ R (Value.tuple #[]) w5
theorem F88_ok (t0 : Sl) (t1 : Nat × Array Value) (w : World) (R : Value -> World -> Prop) (h : F88 t0 t1 w R) : CW Tryz.prog 88 #[Qy t0, Value.func (Fn.func t1.1) #[] t1.2] w R :=
 call_of tbOk mixed en88 Tryz.func88 rfl (.nil) (by kernel_rfl) (Nat.le_of_ble_eq_true (by kernel_rfl)) (Eq.mp (α := F88 t0 t1 w R) (by kernel_rfl) h)
def F155k2 (t0 : Sl) (x4 : Int × Int × Int × Bool × Bool) (x56 : Int × Bool) (n18 : Int) (t4 : Nat × Array Value) (w55 : World) (b3 : Nat) (y1 : Nat -> Int × Int × Int × Bool × Bool -> World -> Prop) : Prop := CX Tryz.prog 155 #[Qy t0, Qz x4.1, Qz x56.1, Qz n18, Value.func (Fn.func t4.1) #[] t4.2] w55 fun v57 w58 => ∃ y59 : Unit, v57 = Value.tuple #[] /\ Qn y1 b3 (IntKind.i64.wrap (x56.1 + 1), x4.snd.1, n18, decide (IntKind.i64.wrap ((IntKind.i64.wrap (x4.snd.fst - x4.fst)).tdiv 8) <= IntKind.i64.wrap (x56.fst - x4.fst)), x56.2) w58
def F155k1 (t0 : Sl) (x56 : Int × Bool) (x4 : Int × Int × Int × Bool × Bool) (n18 : Int) (t4 : Nat × Array Value) (w55 : World) (b3 : Nat) (y1 : Nat -> Int × Int × Int × Bool × Bool -> World -> Prop) : Prop := CX Tryz.prog 155 #[Qy t0, Qz (IntKind.i64.wrap (x56.1 + 1)), Qz x4.snd.1, Qz n18, Value.func (Fn.func t4.1) #[] t4.2] w55 fun v61 w62 => ∃ y63 : Unit, v61 = Value.tuple #[] /\ Qn y1 b3 (x4.1, x56.1, n18, decide (IntKind.i64.wrap ((IntKind.i64.wrap (x4.snd.fst - x4.fst)).tdiv 8) <= IntKind.i64.wrap (x4.snd.fst - x56.fst)), x56.2) w62
def F155j4 (t0 : Sl) (t4 : Nat × Array Value) (y1 : Nat -> Int × Int × Int × Bool × Bool -> World -> Prop) (b3 : Nat) (x4 : Int × Int × Int × Bool × Bool) (n18 : Int) (x29 : Int × Int) (w38 : World) : Prop := IfB (decide (0 < x4.fst)) (Qx t0.1 (IntKind.i64.wrap (x4.1 - 1)) (t0.2 : Int) fun b41 b42 => ∃ (x43 : Int × Int × Int), CellsAt w38.drew b41 (b42 + (IntKind.i64.wrap (x4.1 - 1)).toNat * 3) (lC44 x43) /\ Qx t0.1 x29.1 (t0.2 : Int) fun b44 b45 => ∃ (x46 : Int × Int × Int), CellsAt w38.drew b44 (b45 + x29.1.toNat * 3) (lC44 x46) /\ CX Tryz.prog t4.1 { toList := (.agg (lC44 x43).toArray) :: (.agg (lC44 x46).toArray) :: t4.snd.1 } w38.drew fun v47 w48 => ∃ n49 : Int, v47 = Qz n49 /\ IfB (!decide (n49 < 0)) (Qw Tryz.prog 210 #[Qy t0, Qz x4.1, Qz x4.snd.1, Qz x29.1, Value.func (Fn.func t4.1) #[] t4.2] w48 fun n52 w51 => Qn y1 b3 (n52, x4.snd.1, n18, x4.snd.snd.snd.1, x4.snd.snd.snd.2) w51) (CX Tryz.prog 211 #[Qy t0, Qz x4.1, Qz x4.snd.1, Qz x29.1, Value.func (Fn.func t4.1) #[] t4.2] w48 fun v54 w55 => ∃ (x56 : Int × Bool), v54 = Value.tuple #[Qz x56.1, Value.bool x56.2] /\ ¬(8 : Int) = 0 /\ IfB (decide (IntKind.i64.wrap (x56.fst - x4.fst) < IntKind.i64.wrap (x4.snd.fst - x56.fst))) (F155k2 t0 x4 x56 n18 t4 w55 b3 y1) (F155k1 t0 x56 x4 n18 t4 w55 b3 y1))) (CX Tryz.prog 211 #[Qy t0, Qz x4.1, Qz x4.snd.1, Qz x29.1, Value.func (Fn.func t4.1) #[] t4.2] w38.drew fun v65 w66 => ∃ (x67 : Int × Bool), v65 = Value.tuple #[Qz x67.1, Value.bool x67.2] /\ ¬(8 : Int) = 0 /\ IfB (decide (IntKind.i64.wrap (x67.fst - x4.fst) < IntKind.i64.wrap (x4.snd.fst - x67.fst))) (F155k2 t0 x4 x67 n18 t4 w66 b3 y1) (F155k1 t0 x67 x4 n18 t4 w66 b3 y1))
def F155j3 (t0 : Sl) (t4 : Nat × Array Value) (R : Value -> World -> Prop) (y1 : Nat -> Int × Int × Int × Bool × Bool -> World -> Prop) (b3 : Nat) (x4 : Int × Int × Int × Bool × Bool) (n18 : Int) (x29 : Int × Int) (w30 : World) : Prop := ∃ (y33 : Unit -> World -> Prop), IfB x4.snd.snd.snd.1 (IfB x4.snd.snd.snd.2 (IfB (x29.2 == 1) (Qv Tryz.prog 209 #[Qy t0, Qz x4.1, Qz x4.snd.1, Value.func (Fn.func t4.1) #[] t4.2] w30 fun t36 w35 => IfB t36 (R (Value.tuple #[]) w35) (([] : List Nat) = [] /\ y33 PUnit.unit w35)) (([] : List Nat) = [] /\ y33 PUnit.unit w30)) (([] : List Nat) = [] /\ y33 PUnit.unit w30)) (([] : List Nat) = [] /\ y33 PUnit.unit w30) /\ ∀ (y37 : Unit) (w38 : World) (y39 : Nat -> Value), y33 y37 w38 -> (F155j4 t0 t4 y1 b3 x4 n18 x29 w38)
def F155j2 (t0 : Sl) (t4 : Nat × Array Value) (R : Value -> World -> Prop) (y1 : Nat -> Int × Int × Int × Bool × Bool -> World -> Prop) (b3 : Nat) (x4 : Int × Int × Int × Bool × Bool) (n18 : Int) (w19 : World) : Prop := CX Tryz.prog 207 #[Qy t0, Qz x4.1, Qz x4.snd.1, Value.func (Fn.func t4.1) #[] t4.2] w19 fun v22 w23 => ∃ (x24 : Int × Int), v22 = Value.tuple #[Qz x24.1, Qz x24.2] /\ ∃ (y25 : Int × Int -> World -> Prop), IfB (x24.2 == 2) (CX Tryz.prog 208 #[Qy t0, Qz x4.1, Qz x4.snd.1, Value.func (Fn.func t4.1) #[] t4.2] w23 fun v26 w27 => ∃ y28 : Unit, v26 = Value.tuple #[] /\ ([] : List Nat) = [] /\ y25 (IntKind.i64.wrap (IntKind.i64.wrap (x4.snd.1 - 1) - IntKind.i64.wrap (x24.1 - x4.1)), 1) w27) (([] : List Nat) = [] /\ y25 (x24.1, x24.2) w23) /\ ∀ (x29 : Int × Int) (w30 : World) (y31 : Nat -> Value), y25 x29 w30 -> (F155j3 t0 t4 R y1 b3 x4 n18 x29 w30)
def F155j1 (t0 : Sl) (t4 : Nat × Array Value) (R : Value -> World -> Prop) (y1 : Nat -> Int × Int × Int × Bool × Bool -> World -> Prop) (b3 : Nat) (x4 : Int × Int × Int × Bool × Bool) (w5 : World) : Prop := IfB (decide (IntKind.i64.wrap (x4.snd.fst - x4.fst) <= 12)) (CX Tryz.prog 204 #[Qy t0, Qz x4.1, Qz x4.snd.1, Value.func (Fn.func t4.1) #[] t4.2] w5 fun v8 w9 => ∃ y10 : Unit, v8 = Value.tuple #[] /\ R (Value.tuple #[]) w9) (IfB (x4.snd.snd.1 == 0) (CX Tryz.prog 205 #[Qy t0, Qz x4.1, Qz x4.snd.1, Value.func (Fn.func t4.1) #[] t4.2] w5 fun v11 w12 => ∃ y13 : Unit, v11 = Value.tuple #[] /\ R (Value.tuple #[]) w12) (∃ (y14 : Int -> World -> Prop), IfB (!x4.snd.snd.snd.1) (CX Tryz.prog 206 #[Qy t0, Qz x4.1, Qz x4.snd.1, Value.func (Fn.func t4.1) #[] t4.2] w5 fun v15 w16 => ∃ y17 : Unit, v15 = Value.tuple #[] /\ ([] : List Nat) = [] /\ y14 (IntKind.i64.wrap (x4.snd.snd.1 - 1)) w16) (([] : List Nat) = [] /\ y14 x4.snd.snd.1 w5) /\ ∀ (n18 : Int) (w19 : World) (y20 : Nat -> Value), y14 n18 w19 -> (F155j2 t0 t4 R y1 b3 x4 n18 w19)))
def F155 (t0 : Sl) (t1 : Int) (t2 : Int) (t3 : Int) (t4 : Nat × Array Value) (w : World) (R : Value -> World -> Prop) : Prop := Ql (α := Int × Int × Int × Bool × Bool) (t1, t2, t3, true, true) w fun y1 b3 x4 w5 => (F155j1 t0 t4 R y1 b3 x4 w5)
theorem F155_ok (t0 : Sl) (t1 : Int) (t2 : Int) (t3 : Int) (t4 : Nat × Array Value) (w : World) (R : Value -> World -> Prop) (h : F155 t0 t1 t2 t3 t4 w R) : CW Tryz.prog 155 #[Qy t0, Qz t1, Qz t2, Qz t3, Value.func (Fn.func t4.1) #[] t4.2] w R :=
 call_of tbOk mixed en155 Tryz.func155 rfl (.node (.nil) (.node (.nil) (.loop [(1, .one (.int .i64)), (2, .one (.int .i64)), (3, .one (.int .i64)), (10, .one (.bool)), (11, .one (.bool))] [21, 22, 23, 12, 24, 25, 26, 27, 28, 29, 30, 31, 32, 33, 34, 35, 36, 37, 38, 39, 40, 41, 42, 43, 44, 45, 46, 3, 48, 49, 50, 51, 52, 47, 53, 54, 13, 14, 55, 56, 57, 58, 59, 60, 61, 62, 63, 64, 65, 66, 67, 68, 69, 70, 71, 72, 73, 74, 75, 76, 77, 78, 79, 80, 81, 82, 83, 84, 85, 86, 87, 88, 89, 90, 91, 92, 93, 94, 95, 96, 97, 98, 99, 100, 101, 102, 103, 15, 104, 1, 106, 107, 108, 109, 110, 111, 105, 112, 113, 16, 17, 114, 11, 115, 116, 117, 118, 119, 120, 18, 19, 121, 122, 20, 123, 124, 125, 126, 127, 128, 10, 129, 130, 131, 132, 133, 134, 135, 136, 137, 138, 139, 140, 141, 142, 143, 144, 145, 146, 147, 2] (.node (.nil) (.node (.nil) (.node (.nil) (.join [(3, .one (.int .i64))] [38, 39, 40, 41, 42, 43, 44, 45, 46, 3] (.nil) (.node (.nil) (.join [(13, .one (.int .i64)), (14, .one (.int .i64))] [55, 56, 57, 58, 59, 60, 61, 62, 63, 64, 65, 66, 67, 13, 14] (.nil) (.join [] [68, 69, 70, 71, 72, 73, 74, 75, 76, 77, 78, 79, 80] (.nil) (.node (.node (.draw (.st 0 (.st 1 (.st 2 (.st 3 (.st 4 (.st 5 (.st 6 (.st 7 (.st 8 (.st 9 (.st 10 (.st 11 (.st 12 (.ac 13 [] (.st 14 (.st 15 (.st 16 (.fin)))) (.non)))))))))))))))) (.nil)) (.nil)))))))))))) (by kernel_rfl) (Nat.le_of_ble_eq_true (by kernel_rfl)) (Eq.mp (α := F155 t0 t1 t2 t3 t4 w R) (by kernel_rfl) h)
def F204j2 (t0 : Sl) (t1 : Int) (t3 : Nat × Array Value) (y1 : Nat -> Int -> World -> Prop) (b3 : Nat) (n4 : Int) (y8 : Nat -> Int -> World -> Prop) (b10 : Nat) (n11 : Int) (w12 : World) : Prop := IfB (decide (t1 < n11)) (Qx t0.1 n11 (t0.2 : Int) fun b15 b16 => ∃ (x17 : Int × Int × Int), CellsAt w12.drew b15 (b16 + n11.toNat * 3) (lC44 x17) /\ Qx t0.1 (IntKind.i64.wrap (n11 - 1)) (t0.2 : Int) fun b18 b19 => ∃ (x20 : Int × Int × Int), CellsAt w12.drew b18 (b19 + (IntKind.i64.wrap (n11 - 1)).toNat * 3) (lC44 x20) /\ CX Tryz.prog t3.1 { toList := (.agg (lC44 x17).toArray) :: (.agg (lC44 x20).toArray) :: t3.snd.1 } w12.drew fun v21 w22 => ∃ n23 : Int, v21 = Qz n23 /\ IfB (decide (n23 < 0)) (Qx t0.1 (IntKind.i64.wrap (n11 - 1)) (t0.2 : Int) fun b24 b25 => ∃ (x26 : Int × Int × Int), CellsAt w22.drew b24 (b25 + (IntKind.i64.wrap (n11 - 1)).toNat * 3) (lC44 x26) /\ Qx t0.1 n11 (t0.2 : Int) fun b27 b28 => ∃ (x29 : Int × Int × Int), CellsAt w22.drew b27 (b28 + n11.toNat * 3) (lC44 x29) /\ Qx t0.1 n11 (t0.2 : Int) fun b30 b31 => (lC44 x26).toArray.size = 3 /\ StoreP w22.drew b30 (b31 + n11.toNat * 3) (lC44 x26) fun w32 => Qx t0.1 (IntKind.i64.wrap (n11 - 1)) (t0.2 : Int) fun b33 b34 => (lC44 x29).toArray.size = 3 /\ StoreP w32 b33 (b34 + (IntKind.i64.wrap (n11 - 1)).toNat * 3) (lC44 x29) fun w35 => Qn y8 b10 (IntKind.i64.wrap (n11 - 1)) w35) (Qn y1 b3 (IntKind.i64.wrap (n4 + 1)) w22)) (Qn y1 b3 (IntKind.i64.wrap (n4 + 1)) w12.drew)
def F204 (t0 : Sl) (t1 : Int) (t2 : Int) (t3 : Nat × Array Value) (w : World) (R : Value -> World -> Prop) : Prop := Ql (α := Int) (IntKind.i64.wrap (t1 + 1)) w fun y1 b3 n4 w5 => IfB (decide (n4 < t2)) (Ql (α := Int) n4 w5 fun y8 b10 n11 w12 => (F204j2 t0 t1 t3 y1 b3 n4 y8 b10 n11 w12)) (R (Value.tuple #[]) w5)
theorem F204_ok (t0 : Sl) (t1 : Int) (t2 : Int) (t3 : Nat × Array Value) (w : World) (R : Value -> World -> Prop) (h : F204 t0 t1 t2 t3 w R) : CW Tryz.prog 204 #[Qy t0, Qz t1, Qz t2, Value.func (Fn.func t3.1) #[] t3.2] w R :=
 call_of tbOk mixed en204 Tryz.func204 rfl (.node (.nil) (.loop [(8, .one (.int .i64))] [12, 13, 14, 17, 9, 18, 19, 20, 21, 22, 23, 24, 25, 26, 27, 28, 29, 30, 31, 32, 33, 34, 37, 38, 39, 40, 41, 42, 43, 44, 45, 46, 47, 48, 49, 50, 51, 52, 35, 36, 15, 16, 8] (.node (.nil) (.node (.node (.nil) (.loop [(9, .one (.int .i64))] [18, 19, 20, 21, 22, 23, 24, 25, 26, 27, 28, 29, 30, 31, 32, 33, 34, 37, 38, 39, 40, 41, 42, 43, 44, 45, 46, 47, 48, 49, 50, 51, 52, 35, 36, 9] (.node (.node (.draw (.st 0 (.st 1 (.st 2 (.st 3 (.st 4 (.st 5 (.st 6 (.st 7 (.st 8 (.st 9 (.st 10 (.st 11 (.st 12 (.st 13 (.ac 14 [] (.st 15 (.st 16 (.fin))) (.non))))))))))))))))) (.nil)) (.node (.draw (.st 0 (.st 1 (.st 2 (.st 3 (.st 4 (.st 5 (.st 6 (.st 7 (.st 8 (.st 9 (.st 10 (.st 11 (.st 12 (.st 13 (.st 14 (.ac 15 [4, 3, 2] (.st 16 (.ac 17 [] (.fin) (.non))) (.non)))))))))))))))))) (.nil))))) (.nil))))) (by kernel_rfl) (Nat.le_of_ble_eq_true (by kernel_rfl)) (Eq.mp (α := F204 t0 t1 t2 t3 w R) (by kernel_rfl) h)
def F205j2 (t0 : Sl) (t1 : Int) (t3 : Nat × Array Value) (R : Value -> World -> Prop) (y12 : Nat -> Int -> World -> Prop) (b14 : Nat) (n15 : Int) (w16 : World) : Prop := IfB (decide (0 <= n15)) (Qx t0.1 (IntKind.i64.wrap (t1 + n15)) (t0.2 : Int) fun b19 b20 => ∃ (x21 : Int × Int × Int), CellsAt w16.drew b19 (b20 + (IntKind.i64.wrap (t1 + n15)).toNat * 3) (lC44 x21) /\ Qx t0.1 t1 (t0.2 : Int) fun b22 b23 => ∃ (x24 : Int × Int × Int), CellsAt w16.drew b22 (b23 + t1.toNat * 3) (lC44 x24) /\ Qx t0.1 t1 (t0.2 : Int) fun b25 b26 => (lC44 x21).toArray.size = 3 /\ StoreP w16.drew b25 (b26 + t1.toNat * 3) (lC44 x21) fun w27 => Qx t0.1 (IntKind.i64.wrap (t1 + n15)) (t0.2 : Int) fun b28 b29 => (lC44 x24).toArray.size = 3 /\ StoreP w27 b28 (b29 + (IntKind.i64.wrap (t1 + n15)).toNat * 3) (lC44 x24) fun w30 => CX Tryz.prog 242 #[Qy t0, Qz 0, Qz n15, Qz t1, Value.func (Fn.func t3.1) #[] t3.2] w30 fun v31 w32 => ∃ y33 : Unit, v31 = Value.tuple #[] /\ Qn y12 b14 (IntKind.i64.wrap (n15 - 1)) w32) (R (Value.tuple #[]) w16)
def F205j1 (t0 : Sl) (t1 : Int) (t2 : Int) (t3 : Nat × Array Value) (R : Value -> World -> Prop) (y1 : Nat -> Int -> World -> Prop) (b3 : Nat) (n4 : Int) (w5 : World) : Prop := IfB (decide (0 <= n4)) (CX Tryz.prog 242 #[Qy t0, Qz n4, Qz (IntKind.i64.wrap (t2 - t1)), Qz t1, Value.func (Fn.func t3.1) #[] t3.2] w5 fun v8 w9 => ∃ y10 : Unit, v8 = Value.tuple #[] /\ Qn y1 b3 (IntKind.i64.wrap (n4 - 1)) w9) (Ql (α := Int) (IntKind.i64.wrap (IntKind.i64.wrap (t2 - t1) - 1)) w5 fun y12 b14 n15 w16 => (F205j2 t0 t1 t3 R y12 b14 n15 w16))
def F205 (t0 : Sl) (t1 : Int) (t2 : Int) (t3 : Nat × Array Value) (w : World) (R : Value -> World -> Prop) : Prop := ¬(2 : Int) = 0 /\ Ql (α := Int) (IntKind.i64.wrap ((IntKind.i64.wrap (IntKind.i64.wrap (t2 - t1) - 1)).tdiv 2)) w fun y1 b3 n4 w5 => (F205j1 t0 t1 t2 t3 R y1 b3 n4 w5)
theorem F205_ok (t0 : Sl) (t1 : Int) (t2 : Int) (t3 : Nat × Array Value) (w : World) (R : Value -> World -> Prop) (h : F205 t0 t1 t2 t3 w R) : CW Tryz.prog 205 #[Qy t0, Qz t1, Qz t2, Value.func (Fn.func t3.1) #[] t3.2] w R :=
 call_of tbOk mixed en205 Tryz.func205 rfl (.node (.nil) (.node (.nil) (.node (.nil) (.node (.node (.nil) (.loop [(11, .one (.int .i64))] [20, 21, 24, 25, 26, 27, 28, 29, 22, 23, 11] (.nil))) (.node (.nil) (.loop [(12, .one (.int .i64))] [32, 33, 36, 37, 38, 39, 40, 41, 42, 43, 44, 45, 46, 47, 48, 49, 50, 51, 52, 53, 54, 55, 56, 57, 58, 59, 34, 35, 12] (.node (.nil) (.node (.node (.draw (.st 0 (.st 1 (.st 2 (.st 3 (.st 4 (.st 5 (.st 6 (.st 7 (.st 8 (.st 9 (.st 10 (.st 11 (.st 12 (.st 13 (.st 14 (.st 15 (.st 16 (.ac 17 [5, 4, 3, 2] (.st 18 (.ac 19 [] (.fin) (.non))) (.non)))))))))))))))))))) (.nil)) (.nil))))))))) (by kernel_rfl) (Nat.le_of_ble_eq_true (by kernel_rfl)) (Eq.mp (α := F205 t0 t1 t2 t3 w R) (by kernel_rfl) h)
def F206j2 (t0 : Sl) (t1 : Int) (y7 : Nat -> Int -> World -> Prop) (b9 : Nat) (n10 : Int) (n18 : Int) (w19 : World) : Prop := Qx t0.1 (IntKind.i64.wrap (t1 + n18)) (t0.2 : Int) fun b22 b23 => ∃ (x24 : Int × Int × Int), CellsAt w19.drew b22 (b23 + (IntKind.i64.wrap (t1 + n18)).toNat * 3) (lC44 x24) /\ Qx t0.1 n10 (t0.2 : Int) fun b25 b26 => ∃ (x27 : Int × Int × Int), CellsAt w19.drew b25 (b26 + n10.toNat * 3) (lC44 x27) /\ Qx t0.1 n10 (t0.2 : Int) fun b28 b29 => (lC44 x24).toArray.size = 3 /\ StoreP w19.drew b28 (b29 + n10.toNat * 3) (lC44 x24) fun w30 => Qx t0.1 (IntKind.i64.wrap (t1 + n18)) (t0.2 : Int) fun b31 b32 => (lC44 x27).toArray.size = 3 /\ StoreP w30 b31 (b32 + (IntKind.i64.wrap (t1 + n18)).toNat * 3) (lC44 x27) fun w33 => Qn y7 b9 (IntKind.i64.wrap (n10 + 1)) w33
def F206j1 (t0 : Sl) (t1 : Int) (t2 : Int) (R : Value -> World -> Prop) (b1 : Nat) (n6 : Int) (y7 : Nat -> Int -> World -> Prop) (b9 : Nat) (n10 : Int) (w11 : World) : Prop := ¬(4 : Int) = 0 /\ IfB (decide (n10 <= IntKind.i64.wrap (IntKind.i64.wrap (t1 + IntKind.i64.wrap (IntKind.i64.wrap ((IntKind.i64.wrap (t2 - t1)).tdiv 4) * 2)) + 1))) (CX Tryz.prog 244 #[Value.pointer (some ⟨b1, 0, none⟩)] w11 fun v14 w15 => ∃ n16 : Int, v14 = Value.int IntKind.u64 n16 /\ ∃ (y17 : Int -> World -> Prop), IfB (decide (IntKind.i64.wrap (t2 - t1) <= IntKind.i64.wrap (bitsI BinOp.and IntKind.u64 n16 (IntKind.u64.wrap (n6 - 1))))) (([] : List Nat) = [] /\ y17 (IntKind.i64.wrap (IntKind.i64.wrap (bitsI BinOp.and IntKind.u64 n16 (IntKind.u64.wrap (n6 - 1))) - IntKind.i64.wrap (t2 - t1))) w15) (([] : List Nat) = [] /\ y17 (IntKind.i64.wrap (bitsI BinOp.and IntKind.u64 n16 (IntKind.u64.wrap (n6 - 1)))) w15) /\ ∀ (n18 : Int) (w19 : World) (y20 : Nat -> Value), y17 n18 w19 -> (F206j2 t0 t1 y7 b9 n10 n18 w19)) (R (Value.tuple #[]) w11)
def F206 (t0 : Sl) (t1 : Int) (t2 : Int) (t3 : Nat × Array Value) (w : World) (R : Value -> World -> Prop) : Prop := IfB (decide (8 <= IntKind.i64.wrap (t2 - t1))) (AllocP w (Obj.cells #[Value.int IntKind.u64 0] 259) fun b1 w2 => #[Value.int IntKind.u64 (IntKind.u64.wrap (IntKind.i64.wrap (t2 - t1)))].size = 1 /\ StoreP w2 b1 0 [Value.int IntKind.u64 (IntKind.u64.wrap (IntKind.i64.wrap (t2 - t1)))] fun w3 => CX Tryz.prog 243 #[Qz (IntKind.i64.wrap (t2 - t1))] w3 fun v4 w5 => ∃ n6 : Int, v4 = Value.int IntKind.u64 n6 /\ ¬(4 : Int) = 0 /\ Ql (α := Int) (IntKind.i64.wrap (IntKind.i64.wrap (t1 + IntKind.i64.wrap (IntKind.i64.wrap ((IntKind.i64.wrap (t2 - t1)).tdiv 4) * 2)) - 1)) w5 fun y7 b9 n10 w11 => (F206j1 t0 t1 t2 R b1 n6 y7 b9 n10 w11)) (R (Value.tuple #[]) w)
theorem F206_ok (t0 : Sl) (t1 : Int) (t2 : Int) (t3 : Nat × Array Value) (w : World) (R : Value -> World -> Prop) (h : F206 t0 t1 t2 t3 w R) : CW Tryz.prog 206 #[Qy t0, Qz t1, Qz t2, Value.func (Fn.func t3.1) #[] t3.2] w R :=
 call_of tbOk mixed en206 Tryz.func206 rfl (.node (.nil) (.node (.nil) (.node (.node (.nil) (.node (.nil) (.node (.nil) (.loop [(11, .one (.int .i64))] [28, 29, 30, 31, 32, 33, 34, 35, 38, 39, 40, 41, 42, 12, 43, 44, 45, 46, 47, 48, 49, 50, 51, 52, 53, 54, 55, 56, 57, 58, 59, 60, 61, 62, 63, 64, 65, 66, 36, 37, 11] (.node (.nil) (.node (.node (.nil) (.join [(12, .one (.int .i64))] [43, 44, 45, 46, 47, 48, 12] (.nil) (.draw (.st 0 (.st 1 (.st 2 (.st 3 (.st 4 (.st 5 (.st 6 (.st 7 (.st 8 (.st 9 (.st 10 (.st 11 (.st 12 (.st 13 (.st 14 (.st 15 (.st 16 (.ac 17 [5, 4, 3, 2] (.st 18 (.ac 19 [] (.fin) (.non))) (.non)))))))))))))))))))))) (.nil))))))) (.nil)))) (by kernel_rfl) (Nat.le_of_ble_eq_true (by kernel_rfl)) (Eq.mp (α := F206 t0 t1 t2 t3 w R) (by kernel_rfl) h)
def F207j2 (R : Value -> World -> Prop) (b1 : Nat) (n21 : Int) (w22 : World) : Prop := Qi w22 b1 0 fun n25 => IfB (n25 == 0) (R (Value.tuple #[Qz n21, Qz 1]) w22) (IfB (n25 == 12) (R (Value.tuple #[Qz n21, Qz 2]) w22) (R (Value.tuple #[Qz n21, Qz 0]) w22))
def F207 (t0 : Sl) (t1 : Int) (t2 : Int) (t3 : Nat × Array Value) (w : World) (R : Value -> World -> Prop) : Prop := AllocP w (Obj.cells #[Qz 0] 3) fun b1 w2 => ¬(4 : Int) = 0 /\ ¬(4 : Int) = 0 /\ ¬(4 : Int) = 0 /\ ∃ (y3 : Int -> World -> Prop), IfB (decide (8 <= IntKind.i64.wrap (t2 - t1))) (∃ (y4 : Int × Int × Int -> World -> Prop), IfB (decide (50 <= IntKind.i64.wrap (t2 - t1))) (Qw Tryz.prog 245 #[Qy t0, Qz (IntKind.i64.wrap (t1 + IntKind.i64.wrap (IntKind.i64.wrap ((IntKind.i64.wrap (t2 - t1)).tdiv 4) * 1))), Value.pointer (some ⟨b1, 0, none⟩), Value.func (Fn.func t3.1) #[] t3.2] w2 fun n7 w6 => Qw Tryz.prog 245 #[Qy t0, Qz (IntKind.i64.wrap (t1 + IntKind.i64.wrap (IntKind.i64.wrap ((IntKind.i64.wrap (t2 - t1)).tdiv 4) * 2))), Value.pointer (some ⟨b1, 0, none⟩), Value.func (Fn.func t3.1) #[] t3.2] w6 fun n10 w9 => Qw Tryz.prog 245 #[Qy t0, Qz (IntKind.i64.wrap (t1 + IntKind.i64.wrap (IntKind.i64.wrap ((IntKind.i64.wrap (t2 - t1)).tdiv 4) * 3))), Value.pointer (some ⟨b1, 0, none⟩), Value.func (Fn.func t3.1) #[] t3.2] w9 fun n13 w12 => ([] : List Nat) = [] /\ y4 (n7, n10, n13) w12) (([] : List Nat) = [] /\ y4 (IntKind.i64.wrap (t1 + IntKind.i64.wrap (IntKind.i64.wrap ((IntKind.i64.wrap (t2 - t1)).tdiv 4) * 1)), IntKind.i64.wrap (t1 + IntKind.i64.wrap (IntKind.i64.wrap ((IntKind.i64.wrap (t2 - t1)).tdiv 4) * 2)), IntKind.i64.wrap (t1 + IntKind.i64.wrap (IntKind.i64.wrap ((IntKind.i64.wrap (t2 - t1)).tdiv 4) * 3))) w2) /\ ∀ (x14 : Int × Int × Int) (w15 : World) (y16 : Nat -> Value), y4 x14 w15 -> Qw Tryz.prog 246 #[Qy t0, Qz x14.1, Qz x14.snd.1, Qz x14.snd.2, Value.pointer (some ⟨b1, 0, none⟩), Value.func (Fn.func t3.1) #[] t3.2] w15 fun n20 w19 => ([] : List Nat) = [] /\ y3 n20 w19) (([] : List Nat) = [] /\ y3 (IntKind.i64.wrap (t1 + IntKind.i64.wrap (IntKind.i64.wrap ((IntKind.i64.wrap (t2 - t1)).tdiv 4) * 2))) w2) /\ ∀ (n21 : Int) (w22 : World) (y23 : Nat -> Value), y3 n21 w22 -> (F207j2 R b1 n21 w22)
theorem F207_ok (t0 : Sl) (t1 : Int) (t2 : Int) (t3 : Nat × Array Value) (w : World) (R : Value -> World -> Prop) (h : F207 t0 t1 t2 t3 w R) : CW Tryz.prog 207 #[Qy t0, Qz t1, Qz t2, Value.func (Fn.func t3.1) #[] t3.2] w R :=
 call_of tbOk mixed en207 Tryz.func207 rfl (.node (.nil) (.node (.nil) (.node (.nil) (.node (.nil) (.node (.nil) (.node (.nil) (.join [(13, .one (.int .i64))] [33, 34, 35, 36, 37, 38, 39, 40, 12, 41, 42, 43, 44, 13, 45, 46, 47, 48, 14, 49, 50, 51, 52, 53, 54] (.node (.nil) (.node (.join [(12, .one (.int .i64)), (13, .one (.int .i64)), (14, .one (.int .i64))] [35, 36, 37, 38, 39, 40, 12, 41, 42, 43, 44, 13, 45, 46, 47, 48, 14] (.nil) (.nil)) (.nil))) (.nil)))))))) (by kernel_rfl) (Nat.le_of_ble_eq_true (by kernel_rfl)) (Eq.mp (α := F207 t0 t1 t2 t3 w R) (by kernel_rfl) h)
def F208j1 (t0 : Sl) (R : Value -> World -> Prop) (y1 : Nat -> Int × Int -> World -> Prop) (b3 : Nat) (x4 : Int × Int) (w5 : World) : Prop := IfB (decide (x4.fst < x4.snd)) (Qx t0.1 x4.2 (t0.2 : Int) fun b8 b9 => ∃ (x10 : Int × Int × Int), CellsAt w5.drew b8 (b9 + x4.2.toNat * 3) (lC44 x10) /\ Qx t0.1 x4.1 (t0.2 : Int) fun b11 b12 => ∃ (x13 : Int × Int × Int), CellsAt w5.drew b11 (b12 + x4.1.toNat * 3) (lC44 x13) /\ Qx t0.1 x4.1 (t0.2 : Int) fun b14 b15 => (lC44 x10).toArray.size = 3 /\ StoreP w5.drew b14 (b15 + x4.1.toNat * 3) (lC44 x10) fun w16 => Qx t0.1 x4.2 (t0.2 : Int) fun b17 b18 => (lC44 x13).toArray.size = 3 /\ StoreP w16 b17 (b18 + x4.2.toNat * 3) (lC44 x13) fun w19 => Qn y1 b3 (IntKind.i64.wrap (x4.1 + 1), IntKind.i64.wrap (x4.2 - 1)) w19) (R (Value.tuple #[]) w5)
def F208 (t0 : Sl) (t1 : Int) (t2 : Int) (t3 : Nat × Array Value) (w : World) (R : Value -> World -> Prop) : Prop := Ql (α := Int × Int) (t1, IntKind.i64.wrap (t2 - 1)) w fun y1 b3 x4 w5 => (F208j1 t0 R y1 b3 x4 w5)
theorem F208_ok (t0 : Sl) (t1 : Int) (t2 : Int) (t3 : Nat × Array Value) (w : World) (R : Value -> World -> Prop) (h : F208 t0 t1 t2 t3 w R) : CW Tryz.prog 208 #[Qy t0, Qz t1, Qz t2, Value.func (Fn.func t3.1) #[] t3.2] w R :=
 call_of tbOk mixed en208 Tryz.func208 rfl (.node (.nil) (.node (.nil) (.loop [(8, .one (.int .i64)), (9, .one (.int .i64))] [13, 14, 15, 16, 17, 18, 19, 20, 21, 22, 23, 24, 25, 26, 27, 28, 29, 30, 31, 8, 32, 33, 9] (.node (.nil) (.node (.draw (.st 0 (.st 1 (.st 2 (.st 3 (.st 4 (.st 5 (.st 6 (.st 7 (.st 8 (.st 9 (.st 10 (.st 11 (.st 12 (.ac 13 [3, 2] (.st 14 (.ac 15 [] (.fin) (.non))) (.non)))))))))))))))) (.nil)))))) (by kernel_rfl) (Nat.le_of_ble_eq_true (by kernel_rfl)) (Eq.mp (α := F208 t0 t1 t2 t3 w R) (by kernel_rfl) h)
def F209j2 (t0 : Sl) (t2 : Int) (t3 : Nat × Array Value) (y8 : Int -> World -> Prop) (y9 : Nat -> Int -> World -> Prop) (b11 : Nat) (n12 : Int) (w13 : World) : Prop := IfB (decide (n12 < t2)) (Qx t0.1 n12 (t0.2 : Int) fun b16 b17 => ∃ (x18 : Int × Int × Int), CellsAt w13.drew b16 (b17 + n12.toNat * 3) (lC44 x18) /\ Qx t0.1 (IntKind.i64.wrap (n12 - 1)) (t0.2 : Int) fun b19 b20 => ∃ (x21 : Int × Int × Int), CellsAt w13.drew b19 (b20 + (IntKind.i64.wrap (n12 - 1)).toNat * 3) (lC44 x21) /\ CX Tryz.prog t3.1 { toList := (.agg (lC44 x18).toArray) :: (.agg (lC44 x21).toArray) :: t3.snd.1 } w13.drew fun v22 w23 => ∃ n24 : Int, v22 = Qz n24 /\ IfB (!decide (n24 < 0)) (Qn y9 b11 (IntKind.i64.wrap (n12 + 1)) w23) (([] : List Nat) = [] /\ y8 n12 w23)) (([] : List Nat) = [] /\ y8 n12 w13.drew)
def F209j4 (t0 : Sl) (t3 : Nat × Array Value) (y42 : Unit -> World -> Prop) (y43 : Nat -> Int -> World -> Prop) (b45 : Nat) (n46 : Int) (w47 : World) : Prop := IfB (decide (1 <= n46)) (Qx t0.1 n46 (t0.2 : Int) fun b50 b51 => ∃ (x52 : Int × Int × Int), CellsAt w47.drew b50 (b51 + n46.toNat * 3) (lC44 x52) /\ Qx t0.1 (IntKind.i64.wrap (n46 - 1)) (t0.2 : Int) fun b53 b54 => ∃ (x55 : Int × Int × Int), CellsAt w47.drew b53 (b54 + (IntKind.i64.wrap (n46 - 1)).toNat * 3) (lC44 x55) /\ CX Tryz.prog t3.1 { toList := (.agg (lC44 x52).toArray) :: (.agg (lC44 x55).toArray) :: t3.snd.1 } w47.drew fun v56 w57 => ∃ n58 : Int, v56 = Qz n58 /\ IfB (!decide (n58 < 0)) (([] : List Nat) = [] /\ y42 PUnit.unit w57) (Qx t0.1 (IntKind.i64.wrap (n46 - 1)) (t0.2 : Int) fun b59 b60 => ∃ (x61 : Int × Int × Int), CellsAt w57.drew b59 (b60 + (IntKind.i64.wrap (n46 - 1)).toNat * 3) (lC44 x61) /\ Qx t0.1 n46 (t0.2 : Int) fun b62 b63 => ∃ (x64 : Int × Int × Int), CellsAt w57.drew b62 (b63 + n46.toNat * 3) (lC44 x64) /\ Qx t0.1 n46 (t0.2 : Int) fun b65 b66 => (lC44 x61).toArray.size = 3 /\ StoreP w57.drew b65 (b66 + n46.toNat * 3) (lC44 x61) fun w67 => Qx t0.1 (IntKind.i64.wrap (n46 - 1)) (t0.2 : Int) fun b68 b69 => (lC44 x64).toArray.size = 3 /\ StoreP w67 b68 (b69 + (IntKind.i64.wrap (n46 - 1)).toNat * 3) (lC44 x64) fun w70 => Qn y43 b45 (IntKind.i64.wrap (n46 - 1)) w70)) (([] : List Nat) = [] /\ y42 PUnit.unit w47)
def F209j7 (t0 : Sl) (t2 : Int) (t3 : Nat × Array Value) (y1 : Nat -> Int × Int -> World -> Prop) (b3 : Nat) (x4 : Int × Int) (n26 : Int) (y81 : Nat -> Int -> World -> Prop) (b83 : Nat) (n84 : Int) (w85 : World) : Prop := IfB (decide (n84 < t2)) (Qx t0.1 n84 (t0.2 : Int) fun b88 b89 => ∃ (x90 : Int × Int × Int), CellsAt w85.drew b88 (b89 + n84.toNat * 3) (lC44 x90) /\ Qx t0.1 (IntKind.i64.wrap (n84 - 1)) (t0.2 : Int) fun b91 b92 => ∃ (x93 : Int × Int × Int), CellsAt w85.drew b91 (b92 + (IntKind.i64.wrap (n84 - 1)).toNat * 3) (lC44 x93) /\ CX Tryz.prog t3.1 { toList := (.agg (lC44 x90).toArray) :: (.agg (lC44 x93).toArray) :: t3.snd.1 } w85.drew fun v94 w95 => ∃ n96 : Int, v94 = Qz n96 /\ IfB (!decide (n96 < 0)) (Qn y1 b3 (n26, IntKind.i64.wrap (x4.2 + 1)) w95) (Qx t0.1 (IntKind.i64.wrap (n84 - 1)) (t0.2 : Int) fun b98 b99 => ∃ (x100 : Int × Int × Int), CellsAt w95.drew b98 (b99 + (IntKind.i64.wrap (n84 - 1)).toNat * 3) (lC44 x100) /\ Qx t0.1 n84 (t0.2 : Int) fun b101 b102 => ∃ (x103 : Int × Int × Int), CellsAt w95.drew b101 (b102 + n84.toNat * 3) (lC44 x103) /\ Qx t0.1 n84 (t0.2 : Int) fun b104 b105 => (lC44 x100).toArray.size = 3 /\ StoreP w95.drew b104 (b105 + n84.toNat * 3) (lC44 x100) fun w106 => Qx t0.1 (IntKind.i64.wrap (n84 - 1)) (t0.2 : Int) fun b107 b108 => (lC44 x103).toArray.size = 3 /\ StoreP w106 b107 (b108 + (IntKind.i64.wrap (n84 - 1)).toNat * 3) (lC44 x103) fun w109 => Qn y81 b83 (IntKind.i64.wrap (n84 + 1)) w109)) (Qn y1 b3 (n26, IntKind.i64.wrap (x4.2 + 1)) w85)
def F209j5 (t0 : Sl) (t2 : Int) (t3 : Nat × Array Value) (y1 : Nat -> Int × Int -> World -> Prop) (b3 : Nat) (x4 : Int × Int) (n26 : Int) (w73 : World) : Prop := ∃ (y76 : Bool -> World -> Prop), (([] : List Nat) = [] /\ y76 (decide (2 <= IntKind.i64.wrap (t2 - n26))) w73) /\ ∀ (t77 : Bool) (w78 : World) (y79 : Nat -> Value), y76 t77 w78 -> IfB t77 (Ql (α := Int) (IntKind.i64.wrap (n26 + 1)) w78 fun y81 b83 n84 w85 => (F209j7 t0 t2 t3 y1 b3 x4 n26 y81 b83 n84 w85)) (Qn y1 b3 (n26, IntKind.i64.wrap (x4.2 + 1)) w78)
def F209j3 (t0 : Sl) (t1 : Int) (t2 : Int) (t3 : Nat × Array Value) (R : Value -> World -> Prop) (y1 : Nat -> Int × Int -> World -> Prop) (b3 : Nat) (x4 : Int × Int) (n26 : Int) (w27 : World) : Prop := IfB (n26 == t2) (R (Value.bool true) w27) (IfB (decide (IntKind.i64.wrap (t2 - t1) < 50)) (R (Value.bool false) w27) (Qx t0.1 (IntKind.i64.wrap (n26 - 1)) (t0.2 : Int) fun b30 b31 => ∃ (x32 : Int × Int × Int), CellsAt w27.drew b30 (b31 + (IntKind.i64.wrap (n26 - 1)).toNat * 3) (lC44 x32) /\ Qx t0.1 n26 (t0.2 : Int) fun b33 b34 => ∃ (x35 : Int × Int × Int), CellsAt w27.drew b33 (b34 + n26.toNat * 3) (lC44 x35) /\ Qx t0.1 n26 (t0.2 : Int) fun b36 b37 => (lC44 x32).toArray.size = 3 /\ StoreP w27.drew b36 (b37 + n26.toNat * 3) (lC44 x32) fun w38 => Qx t0.1 (IntKind.i64.wrap (n26 - 1)) (t0.2 : Int) fun b39 b40 => (lC44 x35).toArray.size = 3 /\ StoreP w38 b39 (b40 + (IntKind.i64.wrap (n26 - 1)).toNat * 3) (lC44 x35) fun w41 => ∃ (y42 : Unit -> World -> Prop), IfB (decide (2 <= IntKind.i64.wrap (n26 - t1))) (Ql (α := Int) (IntKind.i64.wrap (n26 - 1)) w41 fun y43 b45 n46 w47 => (F209j4 t0 t3 y42 y43 b45 n46 w47)) (([] : List Nat) = [] /\ y42 PUnit.unit w41) /\ ∀ (y72 : Unit) (w73 : World) (y74 : Nat -> Value), y42 y72 w73 -> (F209j5 t0 t2 t3 y1 b3 x4 n26 w73)))
def F209 (t0 : Sl) (t1 : Int) (t2 : Int) (t3 : Nat × Array Value) (w : World) (R : Value -> World -> Prop) : Prop := Ql (α := Int × Int) (IntKind.i64.wrap (t1 + 1), 0) w fun y1 b3 x4 w5 => IfB (decide (x4.snd < 5)) (∃ (y8 : Int -> World -> Prop), (Ql (α := Int) x4.1 w5 fun y9 b11 n12 w13 => (F209j2 t0 t2 t3 y8 y9 b11 n12 w13)) /\ ∀ (n26 : Int) (w27 : World) (y28 : Nat -> Value), y8 n26 w27 -> (F209j3 t0 t1 t2 t3 R y1 b3 x4 n26 w27)) (R (Value.bool false) w5)
theorem F209_ok (t0 : Sl) (t1 : Int) (t2 : Int) (t3 : Nat × Array Value) (w : World) (R : Value -> World -> Prop) (h : F209 t0 t1 t2 t3 w R) : CW Tryz.prog 209 #[Qy t0, Qz t1, Qz t2, Value.func (Fn.func t3.1) #[] t3.2] w R :=
 call_of tbOk mixed en209 Tryz.func209 rfl (.node (.nil) (.node (.nil) (.node (.node (.nil) (.loop [(9, .one (.int .i64)), (10, .one (.int .i64))] [15, 16, 19, 20, 21, 22, 23, 24, 25, 26, 27, 28, 29, 30, 31, 32, 33, 34, 35, 36, 37, 38, 9, 39, 40, 41, 8, 42, 43, 44, 45, 46, 47, 48, 49, 50, 51, 52, 53, 54, 55, 56, 57, 58, 59, 60, 61, 62, 63, 64, 65, 66, 67, 11, 68, 69, 72, 73, 74, 75, 76, 77, 78, 79, 80, 81, 82, 83, 84, 85, 86, 87, 88, 89, 90, 91, 92, 93, 94, 95, 96, 97, 98, 99, 100, 70, 71, 101, 102, 103, 104, 105, 106, 12, 107, 108, 109, 112, 113, 114, 115, 116, 117, 118, 119, 120, 121, 122, 123, 124, 125, 126, 127, 128, 129, 130, 131, 132, 133, 134, 135, 136, 137, 138, 139, 140, 110, 111, 17, 18, 10] (.node (.nil) (.node (.join [(9, .one (.int .i64))] [19, 20, 21, 22, 23, 24, 25, 26, 27, 28, 29, 30, 31, 32, 33, 34, 35, 36, 37, 38, 9] (.loop [(9, .one (.int .i64))] [19, 20, 21, 22, 23, 24, 25, 26, 27, 28, 29, 30, 31, 32, 33, 34, 35, 36, 37, 38, 9] (.node (.node (.draw (.st 0 (.st 1 (.st 2 (.st 3 (.st 4 (.st 5 (.st 6 (.st 7 (.st 8 (.st 9 (.st 10 (.st 11 (.st 12 (.st 13 (.ac 14 [] (.st 15 (.st 16 (.st 17 (.fin)))) (.non))))))))))))))))) (.nil)) (.nil))) (.node (.nil) (.node (.nil) (.node (.draw (.st 0 (.st 1 (.st 2 (.st 3 (.st 4 (.st 5 (.st 6 (.st 7 (.st 8 (.st 9 (.st 10 (.st 11 (.st 12 (.st 13 (.st 14 (.ac 15 [4, 3, 2] (.st 16 (.ac 17 [] (.fin) (.non))) (.non)))))))))))))))))) (.join [] [62, 63, 64, 65, 66, 67, 11, 68, 69, 72, 73, 74, 75, 76, 77, 78, 79, 80, 81, 82, 83, 84, 85, 86, 87, 88, 89, 90, 91, 92, 93, 94, 95, 96, 97, 98, 99, 100, 70, 71] (.node (.nil) (.node (.node (.nil) (.loop [(11, .one (.int .i64))] [68, 69, 72, 73, 74, 75, 76, 77, 78, 79, 80, 81, 82, 83, 84, 85, 86, 87, 88, 89, 90, 91, 92, 93, 94, 95, 96, 97, 98, 99, 100, 70, 71, 11] (.node (.nil) (.node (.node (.node (.draw (.st 0 (.st 1 (.st 2 (.st 3 (.st 4 (.st 5 (.st 6 (.st 7 (.st 8 (.st 9 (.ac 10 [] (.st 11 (.st 12 (.fin))) (.non))))))))))))) (.nil)) (.draw (.st 0 (.st 1 (.st 2 (.st 3 (.st 4 (.st 5 (.st 6 (.st 7 (.st 8 (.st 9 (.st 10 (.st 11 (.st 12 (.st 13 (.st 14 (.ac 15 [4, 3, 2] (.st 16 (.ac 17 [] (.fin) (.non))) (.non))))))))))))))))))) (.nil))))) (.nil))) (.join [(104, .one (.bool))] [101, 102, 103, 104] (.nil) (.node (.node (.nil) (.loop [(12, .one (.int .i64))] [107, 108, 109, 112, 113, 114, 115, 116, 117, 118, 119, 120, 121, 122, 123, 124, 125, 126, 127, 128, 129, 130, 131, 132, 133, 134, 135, 136, 137, 138, 139, 140, 110, 111, 12] (.node (.nil) (.node (.node (.node (.draw (.st 0 (.st 1 (.st 2 (.st 3 (.st 4 (.st 5 (.st 6 (.st 7 (.st 8 (.st 9 (.ac 10 [] (.st 11 (.st 12 (.fin))) (.non))))))))))))) (.nil)) (.draw (.st 0 (.st 1 (.st 2 (.st 3 (.st 4 (.st 5 (.st 6 (.st 7 (.st 8 (.st 9 (.st 10 (.st 11 (.st 12 (.st 13 (.st 14 (.ac 15 [4, 3, 2] (.st 16 (.ac 17 [] (.fin) (.non))) (.non))))))))))))))))))) (.nil))))) (.nil)))))))) (.nil))))) (.nil)))) (by kernel_rfl) (Nat.le_of_ble_eq_true (by kernel_rfl)) (Eq.mp (α := F209 t0 t1 t2 t3 w R) (by kernel_rfl) h)
def F210j2 (t0 : Sl) (t1 : Int) (t4 : Nat × Array Value) (x16 : Int × Int) (y20 : Int -> World -> Prop) (y21 : Nat -> Int -> World -> Prop) (b23 : Nat) (n24 : Int) (w25 : World) : Prop := IfB (decide (n24 <= x16.snd)) (Qx t0.1 t1 (t0.2 : Int) fun b28 b29 => ∃ (x30 : Int × Int × Int), CellsAt w25.drew b28 (b29 + t1.toNat * 3) (lC44 x30) /\ Qx t0.1 n24 (t0.2 : Int) fun b31 b32 => ∃ (x33 : Int × Int × Int), CellsAt w25.drew b31 (b32 + n24.toNat * 3) (lC44 x33) /\ CX Tryz.prog t4.1 { toList := (.agg (lC44 x30).toArray) :: (.agg (lC44 x33).toArray) :: t4.snd.1 } w25.drew fun v34 w35 => ∃ n36 : Int, v34 = Qz n36 /\ IfB (!decide (n36 < 0)) (Qn y21 b23 (IntKind.i64.wrap (n24 + 1)) w35) (([] : List Nat) = [] /\ y20 n24 w35)) (([] : List Nat) = [] /\ y20 n24 w25.drew)
def F210j4 (t0 : Sl) (t1 : Int) (t4 : Nat × Array Value) (n38 : Int) (y42 : Int -> World -> Prop) (y43 : Nat -> Int -> World -> Prop) (b45 : Nat) (n46 : Int) (w47 : World) : Prop := IfB (decide (n38 <= n46)) (Qx t0.1 t1 (t0.2 : Int) fun b50 b51 => ∃ (x52 : Int × Int × Int), CellsAt w47.drew b50 (b51 + t1.toNat * 3) (lC44 x52) /\ Qx t0.1 n46 (t0.2 : Int) fun b53 b54 => ∃ (x55 : Int × Int × Int), CellsAt w47.drew b53 (b54 + n46.toNat * 3) (lC44 x55) /\ CX Tryz.prog t4.1 { toList := (.agg (lC44 x52).toArray) :: (.agg (lC44 x55).toArray) :: t4.snd.1 } w47.drew fun v56 w57 => ∃ n58 : Int, v56 = Qz n58 /\ IfB (decide (n58 < 0)) (Qn y43 b45 (IntKind.i64.wrap (n46 - 1)) w57) (([] : List Nat) = [] /\ y42 n46 w57)) (([] : List Nat) = [] /\ y42 n46 w47.drew)
def F210j5 (t0 : Sl) (R : Value -> World -> Prop) (y13 : Nat -> Int × Int -> World -> Prop) (b15 : Nat) (n38 : Int) (n60 : Int) (w61 : World) : Prop := IfB (decide (n60 < n38)) (R (Qz n38) w61) (Qx t0.1 n60 (t0.2 : Int) fun b64 b65 => ∃ (x66 : Int × Int × Int), CellsAt w61.drew b64 (b65 + n60.toNat * 3) (lC44 x66) /\ Qx t0.1 n38 (t0.2 : Int) fun b67 b68 => ∃ (x69 : Int × Int × Int), CellsAt w61.drew b67 (b68 + n38.toNat * 3) (lC44 x69) /\ Qx t0.1 n38 (t0.2 : Int) fun b70 b71 => (lC44 x66).toArray.size = 3 /\ StoreP w61.drew b70 (b71 + n38.toNat * 3) (lC44 x66) fun w72 => Qx t0.1 n60 (t0.2 : Int) fun b73 b74 => (lC44 x69).toArray.size = 3 /\ StoreP w72 b73 (b74 + n60.toNat * 3) (lC44 x69) fun w75 => Qn y13 b15 (IntKind.i64.wrap (n38 + 1), IntKind.i64.wrap (n60 - 1)) w75)
def F210j1 (t0 : Sl) (t1 : Int) (t4 : Nat × Array Value) (R : Value -> World -> Prop) (y13 : Nat -> Int × Int -> World -> Prop) (b15 : Nat) (x16 : Int × Int) (w17 : World) : Prop := ∃ (y20 : Int -> World -> Prop), (Ql (α := Int) x16.1 w17 fun y21 b23 n24 w25 => (F210j2 t0 t1 t4 x16 y20 y21 b23 n24 w25)) /\ ∀ (n38 : Int) (w39 : World) (y40 : Nat -> Value), y20 n38 w39 -> ∃ (y42 : Int -> World -> Prop), (Ql (α := Int) x16.2 w39 fun y43 b45 n46 w47 => (F210j4 t0 t1 t4 n38 y42 y43 b45 n46 w47)) /\ ∀ (n60 : Int) (w61 : World) (y62 : Nat -> Value), y42 n60 w61 -> (F210j5 t0 R y13 b15 n38 n60 w61)
def F210 (t0 : Sl) (t1 : Int) (t2 : Int) (t3 : Int) (t4 : Nat × Array Value) (w : World) (R : Value -> World -> Prop) : Prop := Qx t0.1 t3 (t0.2 : Int) fun b1 b2 => ∃ (x3 : Int × Int × Int), CellsAt w.drew b1 (b2 + t3.toNat * 3) (lC44 x3) /\ Qx t0.1 t1 (t0.2 : Int) fun b4 b5 => ∃ (x6 : Int × Int × Int), CellsAt w.drew b4 (b5 + t1.toNat * 3) (lC44 x6) /\ Qx t0.1 t1 (t0.2 : Int) fun b7 b8 => (lC44 x3).toArray.size = 3 /\ StoreP w.drew b7 (b8 + t1.toNat * 3) (lC44 x3) fun w9 => Qx t0.1 t3 (t0.2 : Int) fun b10 b11 => (lC44 x6).toArray.size = 3 /\ StoreP w9 b10 (b11 + t3.toNat * 3) (lC44 x6) fun w12 => Ql (α := Int × Int) (IntKind.i64.wrap (t1 + 1), IntKind.i64.wrap (t2 - 1)) w12 fun y13 b15 x16 w17 => (F210j1 t0 t1 t4 R y13 b15 x16 w17)
theorem F210_ok (t0 : Sl) (t1 : Int) (t2 : Int) (t3 : Int) (t4 : Nat × Array Value) (w : World) (R : Value -> World -> Prop) (h : F210 t0 t1 t2 t3 t4 w R) : CW Tryz.prog 210 #[Qy t0, Qz t1, Qz t2, Qz t3, Value.func (Fn.func t4.1) #[] t4.2] w R :=
 call_of tbOk mixed en210 Tryz.func210 rfl (.node (.nil) (.node (.draw (.st 0 (.st 1 (.st 2 (.st 3 (.st 4 (.st 5 (.st 6 (.st 7 (.st 8 (.st 9 (.st 10 (.st 11 (.st 12 (.ac 13 [3, 2] (.st 14 (.ac 15 [] (.fin) (.non))) (.non)))))))))))))))) (.node (.nil) (.node (.loop [(11, .one (.int .i64)), (12, .one (.int .i64))] [31, 32, 33, 34, 35, 36, 37, 38, 39, 40, 41, 42, 43, 44, 45, 46, 47, 48, 49, 11, 50, 51, 52, 53, 54, 55, 56, 57, 58, 59, 60, 61, 62, 63, 64, 65, 66, 67, 12, 68, 69, 70, 71, 72, 73, 74, 75, 76, 77, 78, 79, 80, 81, 82, 83, 84, 85, 86, 87, 88] (.join [(11, .one (.int .i64))] [31, 32, 33, 34, 35, 36, 37, 38, 39, 40, 41, 42, 43, 44, 45, 46, 47, 48, 49, 11] (.loop [(11, .one (.int .i64))] [31, 32, 33, 34, 35, 36, 37, 38, 39, 40, 41, 42, 43, 44, 45, 46, 47, 48, 49, 11] (.node (.node (.draw (.st 0 (.st 1 (.st 2 (.st 3 (.st 4 (.st 5 (.st 6 (.st 7 (.st 8 (.st 9 (.st 10 (.st 11 (.st 12 (.ac 13 [] (.st 14 (.st 15 (.st 16 (.fin)))) (.non)))))))))))))))) (.nil)) (.nil))) (.join [(12, .one (.int .i64))] [50, 51, 52, 53, 54, 55, 56, 57, 58, 59, 60, 61, 62, 63, 64, 65, 66, 67, 12] (.loop [(12, .one (.int .i64))] [50, 51, 52, 53, 54, 55, 56, 57, 58, 59, 60, 61, 62, 63, 64, 65, 66, 67, 12] (.node (.node (.draw (.st 0 (.st 1 (.st 2 (.st 3 (.st 4 (.st 5 (.st 6 (.st 7 (.st 8 (.st 9 (.st 10 (.st 11 (.st 12 (.ac 13 [] (.st 14 (.st 15 (.fin))) (.non)))))))))))))))) (.nil)) (.nil))) (.node (.nil) (.node (.draw (.st 0 (.st 1 (.st 2 (.st 3 (.st 4 (.st 5 (.st 6 (.st 7 (.st 8 (.st 9 (.st 10 (.st 11 (.st 12 (.ac 13 [3, 2] (.st 14 (.ac 15 [] (.fin) (.non))) (.non)))))))))))))))) (.nil)))))) (.nil))))) (by kernel_rfl) (Nat.le_of_ble_eq_true (by kernel_rfl)) (Eq.mp (α := F210 t0 t1 t2 t3 t4 w R) (by kernel_rfl) h)
def F211j1 (t0 : Sl) (t1 : Int) (t2 : Int) (t4 : Nat × Array Value) (y13 : Int -> World -> Prop) (y14 : Nat -> Int -> World -> Prop) (b16 : Nat) (n17 : Int) (w18 : World) : Prop := IfB (decide (n17 <= IntKind.i64.wrap (t2 - 1))) (Qx t0.1 n17 (t0.2 : Int) fun b21 b22 => ∃ (x23 : Int × Int × Int), CellsAt w18.drew b21 (b22 + n17.toNat * 3) (lC44 x23) /\ Qx t0.1 t1 (t0.2 : Int) fun b24 b25 => ∃ (x26 : Int × Int × Int), CellsAt w18.drew b24 (b25 + t1.toNat * 3) (lC44 x26) /\ CX Tryz.prog t4.1 { toList := (.agg (lC44 x23).toArray) :: (.agg (lC44 x26).toArray) :: t4.snd.1 } w18.drew fun v27 w28 => ∃ n29 : Int, v27 = Qz n29 /\ IfB (decide (n29 < 0)) (Qn y14 b16 (IntKind.i64.wrap (n17 + 1)) w28) (([] : List Nat) = [] /\ y13 n17 w28)) (([] : List Nat) = [] /\ y13 n17 w18.drew)
def F211j3 (t0 : Sl) (t1 : Int) (t4 : Nat × Array Value) (n31 : Int) (y35 : Int -> World -> Prop) (y36 : Nat -> Int -> World -> Prop) (b38 : Nat) (n39 : Int) (w40 : World) : Prop := IfB (decide (n31 <= n39)) (Qx t0.1 n39 (t0.2 : Int) fun b43 b44 => ∃ (x45 : Int × Int × Int), CellsAt w40.drew b43 (b44 + n39.toNat * 3) (lC44 x45) /\ Qx t0.1 t1 (t0.2 : Int) fun b46 b47 => ∃ (x48 : Int × Int × Int), CellsAt w40.drew b46 (b47 + t1.toNat * 3) (lC44 x48) /\ CX Tryz.prog t4.1 { toList := (.agg (lC44 x45).toArray) :: (.agg (lC44 x48).toArray) :: t4.snd.1 } w40.drew fun v49 w50 => ∃ n51 : Int, v49 = Qz n51 /\ IfB (!decide (n51 < 0)) (Qn y36 b38 (IntKind.i64.wrap (n39 - 1)) w50) (([] : List Nat) = [] /\ y35 n39 w50)) (([] : List Nat) = [] /\ y35 n39 w40.drew)
def F211j6 (t0 : Sl) (t1 : Int) (t4 : Nat × Array Value) (x84 : Int × Int) (y88 : Int -> World -> Prop) (y89 : Nat -> Int -> World -> Prop) (b91 : Nat) (n92 : Int) (w93 : World) : Prop := IfB (decide (n92 <= x84.snd)) (Qx t0.1 n92 (t0.2 : Int) fun b96 b97 => ∃ (x98 : Int × Int × Int), CellsAt w93.drew b96 (b97 + n92.toNat * 3) (lC44 x98) /\ Qx t0.1 t1 (t0.2 : Int) fun b99 b100 => ∃ (x101 : Int × Int × Int), CellsAt w93.drew b99 (b100 + t1.toNat * 3) (lC44 x101) /\ CX Tryz.prog t4.1 { toList := (.agg (lC44 x98).toArray) :: (.agg (lC44 x101).toArray) :: t4.snd.1 } w93.drew fun v102 w103 => ∃ n104 : Int, v102 = Qz n104 /\ IfB (decide (n104 < 0)) (Qn y89 b91 (IntKind.i64.wrap (n92 + 1)) w103) (([] : List Nat) = [] /\ y88 n92 w103)) (([] : List Nat) = [] /\ y88 n92 w93.drew)
def F211j8 (t0 : Sl) (t1 : Int) (t4 : Nat × Array Value) (n106 : Int) (y110 : Int -> World -> Prop) (y111 : Nat -> Int -> World -> Prop) (b113 : Nat) (n114 : Int) (w115 : World) : Prop := IfB (decide (n106 <= n114)) (Qx t0.1 n114 (t0.2 : Int) fun b118 b119 => ∃ (x120 : Int × Int × Int), CellsAt w115.drew b118 (b119 + n114.toNat * 3) (lC44 x120) /\ Qx t0.1 t1 (t0.2 : Int) fun b121 b122 => ∃ (x123 : Int × Int × Int), CellsAt w115.drew b121 (b122 + t1.toNat * 3) (lC44 x123) /\ CX Tryz.prog t4.1 { toList := (.agg (lC44 x120).toArray) :: (.agg (lC44 x123).toArray) :: t4.snd.1 } w115.drew fun v124 w125 => ∃ n126 : Int, v124 = Qz n126 /\ IfB (!decide (n126 < 0)) (Qn y111 b113 (IntKind.i64.wrap (n114 - 1)) w125) (([] : List Nat) = [] /\ y110 n114 w125)) (([] : List Nat) = [] /\ y110 n114 w115.drew)
def F211j9 (t0 : Sl) (t1 : Int) (R : Value -> World -> Prop) (y81 : Nat -> Int × Int -> World -> Prop) (b83 : Nat) (n106 : Int) (n128 : Int) (w129 : World) : Prop := IfB (decide (n128 < n106)) (Qx t0.1 t1 (t0.2 : Int) fun b132 b133 => ∃ (x134 : Int × Int × Int), CellsAt w129.drew b132 (b133 + t1.toNat * 3) (lC44 x134) /\ Qx t0.1 n128 (t0.2 : Int) fun b135 b136 => ∃ (x137 : Int × Int × Int), CellsAt w129.drew b135 (b136 + n128.toNat * 3) (lC44 x137) /\ Qx t0.1 n128 (t0.2 : Int) fun b138 b139 => (lC44 x134).toArray.size = 3 /\ StoreP w129.drew b138 (b139 + n128.toNat * 3) (lC44 x134) fun w140 => Qx t0.1 t1 (t0.2 : Int) fun b141 b142 => (lC44 x137).toArray.size = 3 /\ StoreP w140 b141 (b142 + t1.toNat * 3) (lC44 x137) fun w143 => R (Value.tuple #[Qz n128, Value.bool false]) w143) (Qx t0.1 n128 (t0.2 : Int) fun b144 b145 => ∃ (x146 : Int × Int × Int), CellsAt w129.drew b144 (b145 + n128.toNat * 3) (lC44 x146) /\ Qx t0.1 n106 (t0.2 : Int) fun b147 b148 => ∃ (x149 : Int × Int × Int), CellsAt w129.drew b147 (b148 + n106.toNat * 3) (lC44 x149) /\ Qx t0.1 n106 (t0.2 : Int) fun b150 b151 => (lC44 x146).toArray.size = 3 /\ StoreP w129.drew b150 (b151 + n106.toNat * 3) (lC44 x146) fun w152 => Qx t0.1 n128 (t0.2 : Int) fun b153 b154 => (lC44 x149).toArray.size = 3 /\ StoreP w152 b153 (b154 + n128.toNat * 3) (lC44 x149) fun w155 => Qn y81 b83 (IntKind.i64.wrap (n106 + 1), IntKind.i64.wrap (n128 - 1)) w155)
def F211j5 (t0 : Sl) (t1 : Int) (t4 : Nat × Array Value) (R : Value -> World -> Prop) (y81 : Nat -> Int × Int -> World -> Prop) (b83 : Nat) (x84 : Int × Int) (w85 : World) : Prop := ∃ (y88 : Int -> World -> Prop), (Ql (α := Int) x84.1 w85 fun y89 b91 n92 w93 => (F211j6 t0 t1 t4 x84 y88 y89 b91 n92 w93)) /\ ∀ (n106 : Int) (w107 : World) (y108 : Nat -> Value), y88 n106 w107 -> ∃ (y110 : Int -> World -> Prop), (Ql (α := Int) x84.2 w107 fun y111 b113 n114 w115 => (F211j8 t0 t1 t4 n106 y110 y111 b113 n114 w115)) /\ ∀ (n128 : Int) (w129 : World) (y130 : Nat -> Value), y110 n128 w129 -> (F211j9 t0 t1 R y81 b83 n106 n128 w129)
def F211j4 (t0 : Sl) (t1 : Int) (t4 : Nat × Array Value) (R : Value -> World -> Prop) (n31 : Int) (n53 : Int) (w54 : World) : Prop := IfB (decide (n53 < n31)) (Qx t0.1 t1 (t0.2 : Int) fun b57 b58 => ∃ (x59 : Int × Int × Int), CellsAt w54.drew b57 (b58 + t1.toNat * 3) (lC44 x59) /\ Qx t0.1 n53 (t0.2 : Int) fun b60 b61 => ∃ (x62 : Int × Int × Int), CellsAt w54.drew b60 (b61 + n53.toNat * 3) (lC44 x62) /\ Qx t0.1 n53 (t0.2 : Int) fun b63 b64 => (lC44 x59).toArray.size = 3 /\ StoreP w54.drew b63 (b64 + n53.toNat * 3) (lC44 x59) fun w65 => Qx t0.1 t1 (t0.2 : Int) fun b66 b67 => (lC44 x62).toArray.size = 3 /\ StoreP w65 b66 (b67 + t1.toNat * 3) (lC44 x62) fun w68 => R (Value.tuple #[Qz n53, Value.bool true]) w68) (Qx t0.1 n53 (t0.2 : Int) fun b69 b70 => ∃ (x71 : Int × Int × Int), CellsAt w54.drew b69 (b70 + n53.toNat * 3) (lC44 x71) /\ Qx t0.1 n31 (t0.2 : Int) fun b72 b73 => ∃ (x74 : Int × Int × Int), CellsAt w54.drew b72 (b73 + n31.toNat * 3) (lC44 x74) /\ Qx t0.1 n31 (t0.2 : Int) fun b75 b76 => (lC44 x71).toArray.size = 3 /\ StoreP w54.drew b75 (b76 + n31.toNat * 3) (lC44 x71) fun w77 => Qx t0.1 n53 (t0.2 : Int) fun b78 b79 => (lC44 x74).toArray.size = 3 /\ StoreP w77 b78 (b79 + n53.toNat * 3) (lC44 x74) fun w80 => Ql (α := Int × Int) (IntKind.i64.wrap (n31 + 1), IntKind.i64.wrap (n53 - 1)) w80 fun y81 b83 x84 w85 => (F211j5 t0 t1 t4 R y81 b83 x84 w85))
def F211 (t0 : Sl) (t1 : Int) (t2 : Int) (t3 : Int) (t4 : Nat × Array Value) (w : World) (R : Value -> World -> Prop) : Prop := Qx t0.1 t3 (t0.2 : Int) fun b1 b2 => ∃ (x3 : Int × Int × Int), CellsAt w.drew b1 (b2 + t3.toNat * 3) (lC44 x3) /\ Qx t0.1 t1 (t0.2 : Int) fun b4 b5 => ∃ (x6 : Int × Int × Int), CellsAt w.drew b4 (b5 + t1.toNat * 3) (lC44 x6) /\ Qx t0.1 t1 (t0.2 : Int) fun b7 b8 => (lC44 x3).toArray.size = 3 /\ StoreP w.drew b7 (b8 + t1.toNat * 3) (lC44 x3) fun w9 => Qx t0.1 t3 (t0.2 : Int) fun b10 b11 => (lC44 x6).toArray.size = 3 /\ StoreP w9 b10 (b11 + t3.toNat * 3) (lC44 x6) fun w12 => ∃ (y13 : Int -> World -> Prop), (Ql (α := Int) (IntKind.i64.wrap (t1 + 1)) w12 fun y14 b16 n17 w18 => (F211j1 t0 t1 t2 t4 y13 y14 b16 n17 w18)) /\ ∀ (n31 : Int) (w32 : World) (y33 : Nat -> Value), y13 n31 w32 -> ∃ (y35 : Int -> World -> Prop), (Ql (α := Int) (IntKind.i64.wrap (t2 - 1)) w32 fun y36 b38 n39 w40 => (F211j3 t0 t1 t4 n31 y35 y36 b38 n39 w40)) /\ ∀ (n53 : Int) (w54 : World) (y55 : Nat -> Value), y35 n53 w54 -> (F211j4 t0 t1 t4 R n31 n53 w54)
theorem F211_ok (t0 : Sl) (t1 : Int) (t2 : Int) (t3 : Int) (t4 : Nat × Array Value) (w : World) (R : Value -> World -> Prop) (h : F211 t0 t1 t2 t3 t4 w R) : CW Tryz.prog 211 #[Qy t0, Qz t1, Qz t2, Qz t3, Value.func (Fn.func t4.1) #[] t4.2] w R :=
 call_of tbOk mixed en211 Tryz.func211 rfl (.node (.nil) (.node (.draw (.st 0 (.st 1 (.st 2 (.st 3 (.st 4 (.st 5 (.st 6 (.st 7 (.st 8 (.st 9 (.st 10 (.st 11 (.st 12 (.ac 13 [3, 2] (.st 14 (.ac 15 [] (.fin) (.non))) (.non)))))))))))))))) (.node (.nil) (.join [(12, .one (.int .i64))] [32, 33, 34, 35, 36, 37, 38, 39, 40, 41, 42, 43, 44, 45, 46, 47, 48, 49, 12] (.loop [(12, .one (.int .i64))] [32, 33, 34, 35, 36, 37, 38, 39, 40, 41, 42, 43, 44, 45, 46, 47, 48, 49, 12] (.node (.node (.draw (.st 0 (.st 1 (.st 2 (.st 3 (.st 4 (.st 5 (.st 6 (.st 7 (.st 8 (.st 9 (.st 10 (.st 11 (.st 12 (.ac 13 [] (.st 14 (.st 15 (.fin))) (.non)))))))))))))))) (.nil)) (.nil))) (.join [(13, .one (.int .i64))] [50, 51, 52, 53, 54, 55, 56, 57, 58, 59, 60, 61, 62, 63, 64, 65, 66, 67, 68, 13] (.loop [(13, .one (.int .i64))] [50, 51, 52, 53, 54, 55, 56, 57, 58, 59, 60, 61, 62, 63, 64, 65, 66, 67, 68, 13] (.node (.node (.draw (.st 0 (.st 1 (.st 2 (.st 3 (.st 4 (.st 5 (.st 6 (.st 7 (.st 8 (.st 9 (.st 10 (.st 11 (.st 12 (.ac 13 [] (.st 14 (.st 15 (.st 16 (.fin)))) (.non)))))))))))))))) (.nil)) (.nil))) (.node (.node (.nil) (.node (.node (.draw (.st 0 (.st 1 (.st 2 (.st 3 (.st 4 (.st 5 (.st 6 (.st 7 (.st 8 (.st 9 (.st 10 (.st 11 (.st 12 (.ac 13 [3, 2] (.st 14 (.ac 15 [] (.fin) (.non))) (.non)))))))))))))))) (.nil)) (.nil))) (.node (.draw (.st 0 (.st 1 (.st 2 (.st 3 (.st 4 (.st 5 (.st 6 (.st 7 (.st 8 (.st 9 (.st 10 (.st 11 (.st 12 (.ac 13 [3, 2] (.st 14 (.ac 15 [] (.fin) (.non))) (.non)))))))))))))))) (.node (.nil) (.node (.nil) (.node (.loop [(12, .one (.int .i64)), (13, .one (.int .i64))] [105, 106, 107, 108, 109, 110, 111, 112, 113, 114, 115, 116, 117, 118, 119, 120, 121, 122, 12, 123, 124, 125, 126, 127, 128, 129, 130, 131, 132, 133, 134, 135, 136, 137, 138, 139, 140, 141, 13, 142, 143, 144, 145, 146, 147, 148, 149, 150, 151, 152, 153, 154, 155, 156, 157, 158, 159, 160, 161, 162] (.join [(12, .one (.int .i64))] [105, 106, 107, 108, 109, 110, 111, 112, 113, 114, 115, 116, 117, 118, 119, 120, 121, 122, 12] (.loop [(12, .one (.int .i64))] [105, 106, 107, 108, 109, 110, 111, 112, 113, 114, 115, 116, 117, 118, 119, 120, 121, 122, 12] (.node (.node (.draw (.st 0 (.st 1 (.st 2 (.st 3 (.st 4 (.st 5 (.st 6 (.st 7 (.st 8 (.st 9 (.st 10 (.st 11 (.st 12 (.ac 13 [] (.st 14 (.st 15 (.fin))) (.non)))))))))))))))) (.nil)) (.nil))) (.join [(13, .one (.int .i64))] [123, 124, 125, 126, 127, 128, 129, 130, 131, 132, 133, 134, 135, 136, 137, 138, 139, 140, 141, 13] (.loop [(13, .one (.int .i64))] [123, 124, 125, 126, 127, 128, 129, 130, 131, 132, 133, 134, 135, 136, 137, 138, 139, 140, 141, 13] (.node (.node (.draw (.st 0 (.st 1 (.st 2 (.st 3 (.st 4 (.st 5 (.st 6 (.st 7 (.st 8 (.st 9 (.st 10 (.st 11 (.st 12 (.ac 13 [] (.st 14 (.st 15 (.st 16 (.fin)))) (.non)))))))))))))))) (.nil)) (.nil))) (.node (.nil) (.node (.draw (.st 0 (.st 1 (.st 2 (.st 3 (.st 4 (.st 5 (.st 6 (.st 7 (.st 8 (.st 9 (.st 10 (.st 11 (.st 12 (.ac 13 [3, 2] (.st 14 (.ac 15 [] (.fin) (.non))) (.non)))))))))))))))) (.nil)))))) (.node (.draw (.st 0 (.st 1 (.st 2 (.st 3 (.st 4 (.st 5 (.st 6 (.st 7 (.st 8 (.st 9 (.st 10 (.st 11 (.st 12 (.ac 13 [3, 2] (.st 14 (.ac 15 [] (.fin) (.non))) (.non)))))))))))))))) (.nil)))))))))))) (by kernel_rfl) (Nat.le_of_ble_eq_true (by kernel_rfl)) (Eq.mp (α := F211 t0 t1 t2 t3 t4 w R) (by kernel_rfl) h)
def F242j2 (t0 : Sl) (t3 : Int) (t4 : Nat × Array Value) (R : Value -> World -> Prop) (y1 : Nat -> Int -> World -> Prop) (b3 : Nat) (n4 : Int) (n18 : Int) (w19 : World) : Prop := Qx t0.1 (IntKind.i64.wrap (t3 + n4)) (t0.2 : Int) fun b22 b23 => ∃ (x24 : Int × Int × Int), CellsAt w19.drew b22 (b23 + (IntKind.i64.wrap (t3 + n4)).toNat * 3) (lC44 x24) /\ Qx t0.1 (IntKind.i64.wrap (t3 + n18)) (t0.2 : Int) fun b25 b26 => ∃ (x27 : Int × Int × Int), CellsAt w19.drew b25 (b26 + (IntKind.i64.wrap (t3 + n18)).toNat * 3) (lC44 x27) /\ CX Tryz.prog t4.1 { toList := (.agg (lC44 x24).toArray) :: (.agg (lC44 x27).toArray) :: t4.snd.1 } w19.drew fun v28 w29 => ∃ n30 : Int, v28 = Qz n30 /\ IfB (!decide (n30 < 0)) (R (Value.tuple #[]) w29) (Qx t0.1 (IntKind.i64.wrap (t3 + n18)) (t0.2 : Int) fun b31 b32 => ∃ (x33 : Int × Int × Int), CellsAt w29.drew b31 (b32 + (IntKind.i64.wrap (t3 + n18)).toNat * 3) (lC44 x33) /\ Qx t0.1 (IntKind.i64.wrap (t3 + n4)) (t0.2 : Int) fun b34 b35 => ∃ (x36 : Int × Int × Int), CellsAt w29.drew b34 (b35 + (IntKind.i64.wrap (t3 + n4)).toNat * 3) (lC44 x36) /\ Qx t0.1 (IntKind.i64.wrap (t3 + n4)) (t0.2 : Int) fun b37 b38 => (lC44 x33).toArray.size = 3 /\ StoreP w29.drew b37 (b38 + (IntKind.i64.wrap (t3 + n4)).toNat * 3) (lC44 x33) fun w39 => Qx t0.1 (IntKind.i64.wrap (t3 + n18)) (t0.2 : Int) fun b40 b41 => (lC44 x36).toArray.size = 3 /\ StoreP w39 b40 (b41 + (IntKind.i64.wrap (t3 + n18)).toNat * 3) (lC44 x36) fun w42 => Qn y1 b3 n18 w42)
def F242j1 (t0 : Sl) (t2 : Int) (t3 : Int) (t4 : Nat × Array Value) (R : Value -> World -> Prop) (y1 : Nat -> Int -> World -> Prop) (b3 : Nat) (n4 : Int) (w5 : World) : Prop := IfB (decide (t2 <= IntKind.i64.wrap (IntKind.i64.wrap (2 * n4) + 1))) (R (Value.tuple #[]) w5) (∃ (y8 : Int -> World -> Prop), IfB (decide (IntKind.i64.wrap (IntKind.i64.wrap (IntKind.i64.wrap (2 * n4) + 1) + 1) < t2)) (Qx t0.1 (IntKind.i64.wrap (t3 + IntKind.i64.wrap (IntKind.i64.wrap (2 * n4) + 1))) (t0.2 : Int) fun b9 b10 => ∃ (x11 : Int × Int × Int), CellsAt w5.drew b9 (b10 + (IntKind.i64.wrap (t3 + IntKind.i64.wrap (IntKind.i64.wrap (2 * n4) + 1))).toNat * 3) (lC44 x11) /\ Qx t0.1 (IntKind.i64.wrap (IntKind.i64.wrap (t3 + IntKind.i64.wrap (IntKind.i64.wrap (2 * n4) + 1)) + 1)) (t0.2 : Int) fun b12 b13 => ∃ (x14 : Int × Int × Int), CellsAt w5.drew b12 (b13 + (IntKind.i64.wrap (IntKind.i64.wrap (t3 + IntKind.i64.wrap (IntKind.i64.wrap (2 * n4) + 1)) + 1)).toNat * 3) (lC44 x14) /\ CX Tryz.prog t4.1 { toList := (.agg (lC44 x11).toArray) :: (.agg (lC44 x14).toArray) :: t4.snd.1 } w5.drew fun v15 w16 => ∃ n17 : Int, v15 = Qz n17 /\ IfB (decide (n17 < 0)) (([] : List Nat) = [] /\ y8 (IntKind.i64.wrap (IntKind.i64.wrap (IntKind.i64.wrap (2 * n4) + 1) + 1)) w16) (([] : List Nat) = [] /\ y8 (IntKind.i64.wrap (IntKind.i64.wrap (2 * n4) + 1)) w16)) (([] : List Nat) = [] /\ y8 (IntKind.i64.wrap (IntKind.i64.wrap (2 * n4) + 1)) w5.drew) /\ ∀ (n18 : Int) (w19 : World) (y20 : Nat -> Value), y8 n18 w19 -> (F242j2 t0 t3 t4 R y1 b3 n4 n18 w19))
def F242 (t0 : Sl) (t1 : Int) (t2 : Int) (t3 : Int) (t4 : Nat × Array Value) (w : World) (R : Value -> World -> Prop) : Prop := Ql (α := Int) t1 w fun y1 b3 n4 w5 => (F242j1 t0 t2 t3 t4 R y1 b3 n4 w5)
theorem F242_ok (t0 : Sl) (t1 : Int) (t2 : Int) (t3 : Int) (t4 : Nat × Array Value) (w : World) (R : Value -> World -> Prop) (h : F242 t0 t1 t2 t3 t4 w R) : CW Tryz.prog 242 #[Qy t0, Qz t1, Qz t2, Qz t3, Value.func (Fn.func t4.1) #[] t4.2] w R :=
 call_of tbOk mixed en242 Tryz.func242 rfl (.node (.nil) (.loop [(10, .one (.int .i64))] [13, 14, 15, 11, 16, 17, 18, 19, 20, 21, 22, 23, 24, 25, 26, 27, 28, 29, 30, 31, 32, 33, 34, 35, 36, 37, 38, 39, 40, 41, 42, 43, 44, 45, 46, 47, 48, 49, 50, 51, 52, 53, 54, 55, 56, 57, 58, 59, 60, 61, 62, 63, 64, 65, 66, 67, 68, 69, 70, 71, 72, 73, 74, 75, 76, 77, 78, 79, 80, 81, 10] (.node (.nil) (.node (.nil) (.join [(11, .one (.int .i64))] [19, 20, 21, 22, 23, 24, 25, 26, 27, 28, 29, 30, 31, 32, 33, 34, 35, 36, 37, 38, 39, 40, 41, 42, 11] (.node (.draw (.st 0 (.st 1 (.st 2 (.st 3 (.st 4 (.st 5 (.st 6 (.st 7 (.st 8 (.st 9 (.st 10 (.st 11 (.st 12 (.st 13 (.st 14 (.st 15 (.st 16 (.st 17 (.st 18 (.ac 19 [] (.st 20 (.st 21 (.fin))) (.non)))))))))))))))))))))) (.nil)) (.node (.node (.draw (.st 0 (.st 1 (.st 2 (.st 3 (.st 4 (.st 5 (.st 6 (.st 7 (.st 8 (.st 9 (.st 10 (.st 11 (.st 12 (.ac 13 [] (.st 14 (.st 15 (.fin))) (.non)))))))))))))))) (.nil)) (.node (.draw (.st 0 (.st 1 (.st 2 (.st 3 (.st 4 (.st 5 (.st 6 (.st 7 (.st 8 (.st 9 (.st 10 (.st 11 (.st 12 (.st 13 (.st 14 (.st 15 (.st 16 (.st 17 (.st 18 (.st 19 (.st 20 (.ac 21 [7, 6, 5, 4] (.st 22 (.ac 23 [] (.fin) (.non))) (.non)))))))))))))))))))))))) (.nil)))))))) (by kernel_rfl) (Nat.le_of_ble_eq_true (by kernel_rfl)) (Eq.mp (α := F242 t0 t1 t2 t3 t4 w R) (by kernel_rfl) h)
def F245 (t0 : Sl) (t1 : Int) (t2 : Option Addr) (t3 : Nat × Array Value) (w : World) (R : Value -> World -> Prop) : Prop := CX Tryz.prog 246 #[Qy t0, Qz (IntKind.i64.wrap (t1 - 1)), Qz t1, Qz (IntKind.i64.wrap (t1 + 1)), Value.pointer t2, Value.func (Fn.func t3.1) #[] t3.2] w fun v1 w2 => ∃ n3 : Int, v1 = Qz n3 /\ R (Qz n3) w2
theorem F245_ok (t0 : Sl) (t1 : Int) (t2 : Option Addr) (t3 : Nat × Array Value) (w : World) (R : Value -> World -> Prop) (h : F245 t0 t1 t2 t3 w R) : CW Tryz.prog 245 #[Qy t0, Qz t1, Value.pointer t2, Value.func (Fn.func t3.1) #[] t3.2] w R :=
 call_of tbOk mixed en245 Tryz.func245 rfl (.nil) (by kernel_rfl) (Nat.le_of_ble_eq_true (by kernel_rfl)) (Eq.mp (α := F245 t0 t1 t2 t3 w R) (by kernel_rfl) h)
def F246 (t0 : Sl) (t1 : Int) (t2 : Int) (t3 : Int) (t4 : Option Addr) (t5 : Nat × Array Value) (w : World) (R : Value -> World -> Prop) : Prop := CX Tryz.prog 278 #[Qy t0, Qz t1, Qz t2, Value.pointer t4, Value.func (Fn.func t5.1) #[] t5.2] w fun v1 w2 => ∃ (x3 : Int × Int), v1 = Value.tuple #[Qz x3.1, Qz x3.2] /\ CX Tryz.prog 278 #[Qy t0, Qz x3.2, Qz t3, Value.pointer t4, Value.func (Fn.func t5.1) #[] t5.2] w2 fun v4 w5 => ∃ (x6 : Int × Int), v4 = Value.tuple #[Qz x6.1, Qz x6.2] /\ CX Tryz.prog 278 #[Qy t0, Qz x3.1, Qz x6.1, Value.pointer t4, Value.func (Fn.func t5.1) #[] t5.2] w5 fun v7 w8 => ∃ (x9 : Int × Int), v7 = Value.tuple #[Qz x9.1, Qz x9.2] /\ R (Qz x9.2) w8
theorem F246_ok (t0 : Sl) (t1 : Int) (t2 : Int) (t3 : Int) (t4 : Option Addr) (t5 : Nat × Array Value) (w : World) (R : Value -> World -> Prop) (h : F246 t0 t1 t2 t3 t4 t5 w R) : CW Tryz.prog 246 #[Qy t0, Qz t1, Qz t2, Qz t3, Value.pointer t4, Value.func (Fn.func t5.1) #[] t5.2] w R :=
 call_of tbOk mixed en246 Tryz.func246 rfl (.nil) (by kernel_rfl) (Nat.le_of_ble_eq_true (by kernel_rfl)) (Eq.mp (α := F246 t0 t1 t2 t3 t4 t5 w R) (by kernel_rfl) h)
def F278 (t0 : Sl) (t1 : Int) (t2 : Int) (t3 : Option Addr) (t4 : Nat × Array Value) (w : World) (R : Value -> World -> Prop) : Prop := Qx t0.1 t2 (t0.2 : Int) fun b1 b2 => ∃ (x3 : Int × Int × Int), CellsAt w.drew b1 (b2 + t2.toNat * 3) (lC44 x3) /\ Qx t0.1 t1 (t0.2 : Int) fun b4 b5 => ∃ (x6 : Int × Int × Int), CellsAt w.drew b4 (b5 + t1.toNat * 3) (lC44 x6) /\ CX Tryz.prog t4.1 { toList := (.agg (lC44 x3).toArray) :: (.agg (lC44 x6).toArray) :: t4.snd.1 } w.drew fun v7 w8 => ∃ n9 : Int, v7 = Qz n9 /\ IfB (decide (n9 < 0)) (∃ b10 : Nat, ∃ b11 : Nat, t3 = some ⟨b10, b11, none⟩ /\ Qi w8 b10 b11 fun n12 => ∃ b13 : Nat, ∃ b14 : Nat, t3 = some ⟨b13, b14, none⟩ /\ #[Qz (IntKind.i64.wrap (n12 + 1))].size = 1 /\ StoreP w8 b13 b14 [Qz (IntKind.i64.wrap (n12 + 1))] fun w15 => R (Value.tuple #[Qz t2, Qz t1]) w15) (R (Value.tuple #[Qz t1, Qz t2]) w8)
theorem F278_ok (t0 : Sl) (t1 : Int) (t2 : Int) (t3 : Option Addr) (t4 : Nat × Array Value) (w : World) (R : Value -> World -> Prop) (h : F278 t0 t1 t2 t3 t4 w R) : CW Tryz.prog 278 #[Qy t0, Qz t1, Qz t2, Value.pointer t3, Value.func (Fn.func t4.1) #[] t4.2] w R :=
 call_of tbOk mixed en278 Tryz.func278 rfl (.node (.nil) (.node (.node (.draw (.st 0 (.st 1 (.st 2 (.st 3 (.st 4 (.st 5 (.st 6 (.st 7 (.st 8 (.ac 9 [] (.st 10 (.fin)) (.non)))))))))))) (.nil)) (.nil))) (by kernel_rfl) (Nat.le_of_ble_eq_true (by kernel_rfl)) (Eq.mp (α := F278 t0 t1 t2 t3 t4 w R) (by kernel_rfl) h)
end Go.Proofs.YtlpgdngcgbeegaaGreat.Gx
/- slices.SortFunc of arcs. Written by mksra.py out of XSrP. -/
namespace Go.Proofs.YtlpgdngcgbeegaaGreat.Gx.SfA
open Go Go.Proofs.YtlpgdngcgbeegaaGreat.Gx
set_option linter.unusedSimpArgs false
set_option linter.unusedVariables false
abbrev El := Int × Int × Int
abbrev sv (x : El) : List Value := [.int .i64 x.1, .int .i64 x.2.1, .int .i64 x.2.2]
theorem sv_len (x : El) : (sv x).length = 3 := rfl
theorem sv_one (x : El) : One (sv x) := by intro v hv; simp at hv; rcases hv with rfl | rfl | rfl <;> rfl
/-- What is compared. -/
def key (x : El) : Int := x.1 * 1000000 + x.2.1 * 1000 + x.2.2
/-- What may be compared. -/
def Q (x : El) : Prop := (0 <= x.1 /\ x.1 <= 999) /\ (0 <= x.2.1 /\ x.2.1 <= 999) /\ 0 <= x.2.2 /\ x.2.2 <= 999
def ge (xs : List El) (i : Nat) : El := xs.getD i (0, 0, 0)
def g (xs : List El) (i : Nat) : Int := key (ge xs i)
def swp (xs : List El) (p q : Nat) : List El := (xs.set p (ge xs q)).set q (ge xs p)
theorem swp_len (xs : List El) (p q : Nat) : (swp xs p q).length = xs.length := by simp [swp]
theorem ge_eq {xs : List El} {i : Nat} (h : i < xs.length) : xs[i]? = some (ge xs i) := by
 unfold ge; rw [List.getElem?_eq_getElem h, List.getElem_eq_getD (fallback := (0, 0, 0))]
theorem ge_swp {xs : List El} {p q : Nat} (hp : p < xs.length) (hcp : q < xs.length) (i : Nat) : ge (swp xs p q) i = if i = q then ge xs p else if i = p then ge xs q else ge xs i := by
 show ((xs.set p (ge xs q)).set q (ge xs p)).getD i (0, 0, 0) = _
 rw [List.getD_eq_getElem?_getD, List.getElem?_set, List.getElem?_set]
 by_cases h1 : q = i
 ·subst h1; simp [hcp]
 ·by_cases h2 : p = i
  ·subst h2; simp [h1, hp, Ne.symm h1]
  ·simp only [if_neg h1, if_neg h2, if_neg (Ne.symm h1), if_neg (Ne.symm h2)]
   unfold ge; rw [List.getD_eq_getElem?_getD]
theorem g_swp {xs : List El} {p q : Nat} (hp : p < xs.length) (hcp : q < xs.length) (i : Nat) : g (swp xs p q) i = if i = q then g xs p else if i = p then g xs q else g xs i := by
 unfold g; rw [ge_swp hp hcp]
 split
 ·rfl
 ·split <;> rfl
theorem g_swq {xs : List El} {p q : Nat} (hp : p < xs.length) (hcp : q < xs.length) : g (swp xs p q) q = g xs p := by rw [g_swp hp hcp, if_pos rfl]
theorem g_swl {xs : List El} {p q : Nat} (hp : p < xs.length) (hcp : q < xs.length) : g (swp xs p q) p = g xs q := by
 rw [g_swp hp hcp]
 split
 ·rename_i h; rw [h]
 ·rw [if_pos rfl]
theorem g_swo {xs : List El} {p q i : Nat} (hp : p < xs.length) (hcp : q < xs.length) (h1 : i ≠ p) (h2 : i ≠ q) : g (swp xs p q) i = g xs i := by rw [g_swp hp hcp, if_neg h2, if_neg h1]
theorem swp_perm {xs : List El} {p q : Nat} (hp : p < xs.length) (hcp : q < xs.length) : (swp xs p q).Perm xs := by
 have h := (Array.swap_perm (xs := xs.toArray) (i := p) (j := q) (by simpa using hp) (by simpa using hcp)).toList
 have e : (xs.toArray.swap p q (by simpa using hp) (by simpa using hcp)).toList = swp xs p q := by
  apply List.ext_getElem?
  intro i
  simp only [Array.swap, swp, Array.toList_set, List.getElem_toArray, ge, List.getD_eq_getElem?_getD, List.getElem?_eq_getElem hp, List.getElem?_eq_getElem hcp, Option.getD_some]
 rw [e] at h
 exact h
/-- Turned inside [a, b) alone, by swaps. -/
inductive PI (a b : Nat) (xs : List El) : List El -> Prop
 | refl : PI a b xs xs
 | step {ys : List El} {p q : Nat} : PI a b xs ys -> a <= p -> p < b -> a <= q -> q < b -> b <= ys.length -> PI a b xs (swp ys p q)
theorem PI.len {a b : Nat} {xs ys : List El} (h : PI a b xs ys) : ys.length = xs.length := by
 induction h with
 | refl => rfl
 | step _ _ _ _ _ _ ih => rw [swp_len, ih]
theorem PI.perm {a b : Nat} {xs ys : List El} (h : PI a b xs ys) : ys.Perm xs := by
 induction h with
 | refl => exact .refl _
 | step _ _ h2 _ h4 h5 ih => exact (swp_perm (by omega) (by omega)).trans ih
theorem PI.out {a b : Nat} {xs ys : List El} (h : PI a b xs ys) {i : Nat} (hi : i < a \/ b <= i) : g ys i = g xs i := by
 induction h with
 | refl => rfl
 | step _ h1 h2 h3 h4 h5 ih => rw [g_swp (by omega) (by omega), if_neg (by omega), if_neg (by omega), ih]
theorem PI.all {a b : Nat} {xs ys : List El} (h : PI a b xs ys) {Q : Int -> Prop} (hq : ∀ i, a <= i -> i < b -> Q (g xs i)) : ∀ i, a <= i -> i < b -> Q (g ys i) := by
 induction h with
 | refl => exact hq
 | step _ h1 h2 h3 h4 h5 ih =>
  intro i hi hi2
  rw [g_swp (by omega) (by omega)]
  split
  ·exact ih _ h1 h2
  ·split
   ·exact ih _ h3 h4
   ·exact ih _ hi hi2
theorem PI.mono {a b a' b' : Nat} {xs ys : List El} (h : PI a b xs ys) (ha : a' <= a) (hb : b <= b') (hl : b' <= xs.length) : PI a' b' xs ys := by
 induction h with
 | refl => exact .refl
 | step h h1 h2 h3 h4 h5 ih => exact .step ih (by omega) (by omega) (by omega) (by omega) (by rw [h.len]; exact hl)
theorem PI.trans {a b : Nat} {xs ys zs : List El} (h : PI a b xs ys) (k : PI a b ys zs) : PI a b xs zs := by
 induction k with
 | refl => exact h
 | step _ h1 h2 h3 h4 h5 ih => exact .step ih h1 h2 h3 h4 h5
/-- Sorted from a, ahead of b. -/
def SO (xs : List El) (a b : Nat) : Prop := ∀ i j, a <= i -> i < j -> j < b -> g xs i <= g xs j
def Ar (s : Sl) (b : Nat) (H : Array Obj) (xs : List El) : Prop :=
 s.p = some ⟨b, 0, none⟩ /\ s.n = xs.length /\ xs.length <= 1000000 /\ ∃ arr T, H[b]? = some (.cells arr T (0, 0)) /\ arr.size = s.c * 3 /\ s.n <= s.c /\ arr.toList.take (s.n * 3) = xs.flatMap sv /\ ∀ x ∈ xs, Q x
theorem Ar.q {s : Sl} {b : Nat} {H : Array Obj} {xs : List El} (h : Ar s b H xs) : ∀ x ∈ xs, Q x := by
 obtain ⟨h1, h2, _, arr, T, h3, h4, h5, h6, h7⟩ := h
 exact h7
theorem Ar.own {s : Sl} {b : Nat} {w : World} {xs : List El} (h : Ar s b w.heap xs) : OwS w s 3 (xs.flatMap sv) := by
 obtain ⟨h1, h2, _, arr, T, h3, h4, h5, h6, _⟩ := h
 exact .inr ⟨b, arr, T, h1, h3, h4, h5, h6⟩
theorem Ar.ofp {s : Sl} {b : Nat} {w : World} {xs : List El} (h : OwS w s 3 (xs.flatMap sv)) (hp : s.p = some ⟨b, 0, none⟩) (hl : xs.length <= 1000000) (hq : ∀ x ∈ xs, Q x) : Ar s b w.heap xs := by
 have hn := owsN sv_len (by omega) h
 rcases h with ⟨rfl, _⟩ | ⟨b', arr, T, h1, h3, h4, h5, h6⟩
 ·cases hp
 ·rw [h1] at hp; cases hp
  exact ⟨h1, hn, hl, arr, T, h3, h4, h5, h6, hq⟩
theorem Ar.of {s : Sl} {w : World} {xs : List El} (h : OwS w s 3 (xs.flatMap sv)) (h0 : 0 < xs.length) (hl : xs.length <= 1000000) (hq : ∀ x ∈ xs, Q x) : ∃ b, Ar s b w.heap xs /\ blk s = [b] := by
 have hn := owsN sv_len (by omega) h
 obtain ⟨b, hp⟩ := h.ptr (by omega)
 exact ⟨b, Ar.ofp h hp hl hq, by simp [blk, hp]⟩
theorem Ar.lt {s : Sl} {b : Nat} {w : World} {xs : List El} (h : Ar s b w.heap xs) : b < w.heap.size := by
 obtain ⟨_, _, _, _, _, h3, _⟩ := h
 exact heap_lt h3
theorem ge_q {xs : List El} (h : ∀ x ∈ xs, Q x) {i : Nat} (hi : i < xs.length) : Q (ge xs i) := h _ (List.mem_of_getElem? (ge_eq hi))
theorem rd {s : Sl} {b : Nat} {w : World} {xs : List El} (h : Ar s b w.heap xs) {i : Int} (h0 : 0 <= i) (h1 : i < xs.length) {K : El -> Prop} (k : K (ge xs i.toNat)) :
  ∃ b1 b2 : Nat, s.1 = some ⟨b1, b2, none⟩ /\ ((0 : Int) <= i /\ i < (s.2 : Int)) /\ ∃ n : El, CellsAt w b1 (b2 + i.toNat * 3) [.int .i64 n.1, .int .i64 n.2.1, .int .i64 n.2.2] /\ K n := by
 have e2 := h.2.1
 obtain ⟨b', hp, hc⟩ := h.own.elem (i := i.toNat) (by omega) (flatGet sv_len (ge_eq (xs := xs) (i := i.toNat) (by omega)))
 exact ⟨b', 0, hp, ⟨h0, by show i < (s.n : Int); omega⟩, _, by rw [Nat.zero_add]; exact hc, k⟩
theorem wr {s : Sl} {b : Nat} {w : World} {xs : List El} (h : Ar s b w.heap xs) {i : Int} {x : El} (h0 : 0 <= i) (h1 : i < xs.length) (hx : Q x) {K : World -> Prop} (k : ∀ w', Ar s b w'.heap (xs.set i.toNat x) -> CB b w w' -> K w') :
  ∃ b1 b2 : Nat, s.1 = some ⟨b1, b2, none⟩ /\ ((0 : Int) <= i /\ i < (s.2 : Int)) /\ #[Value.int .i64 x.1, Value.int .i64 x.2.1, Value.int .i64 x.2.2].size = 3 /\ StoreP w b1 (b2 + i.toNat * 3) [.int .i64 x.1, .int .i64 x.2.1, .int .i64 x.2.2] K := by
 have e1 := h.1; have e2 := h.2.1; have el := h.2.2.1
 refine ⟨b, 0, e1, ⟨h0, by show i < (s.n : Int); omega⟩, rfl, ?_⟩
 rw [Nat.zero_add]
 refine h.own.store (vs := sv x) e1 (by rw [sv_len]; omega) (sv_one x) fun w' ho hc => k w' (Ar.ofp ?_ e1 (by rw [List.length_set]; exact el) fun y hy => (List.mem_or_eq_of_mem_set hy).elim (h.q y) fun e => e ▸ hx) hc
 rw [sv_len, flatSet sv_len (by omega)] at ho
 exact ho
/-- data[p], data[q] = data[q], data[p] -/
theorem sw {s : Sl} {b : Nat} {w : World} {xs : List El} (h : Ar s b w.heap xs) {p q : Int} (hp0 : 0 <= p) (hp1 : p < xs.length) (hq0 : 0 <= q) (hq1 : q < xs.length) {K : World -> Prop} (k : ∀ w', Ar s b w'.heap (swp xs p.toNat q.toNat) -> CB b w w' -> K w') :
  ∃ b1 b2 : Nat, s.1 = some ⟨b1, b2, none⟩ /\ ((0 : Int) <= q /\ q < (s.2 : Int)) /\ ∃ n : El, CellsAt w b1 (b2 + q.toNat * 3) [.int .i64 n.1, .int .i64 n.2.1, .int .i64 n.2.2] /\
  ∃ b3 b4 : Nat, s.1 = some ⟨b3, b4, none⟩ /\ ((0 : Int) <= p /\ p < (s.2 : Int)) /\ ∃ m : El, CellsAt w b3 (b4 + p.toNat * 3) [.int .i64 m.1, .int .i64 m.2.1, .int .i64 m.2.2] /\
  ∃ b5 b6 : Nat, s.1 = some ⟨b5, b6, none⟩ /\ ((0 : Int) <= p /\ p < (s.2 : Int)) /\ #[Value.int .i64 n.1, Value.int .i64 n.2.1, Value.int .i64 n.2.2].size = 3 /\ StoreP w b5 (b6 + p.toNat * 3) [.int .i64 n.1, .int .i64 n.2.1, .int .i64 n.2.2] fun w1 =>
  ∃ b7 b8 : Nat, s.1 = some ⟨b7, b8, none⟩ /\ ((0 : Int) <= q /\ q < (s.2 : Int)) /\ #[Value.int .i64 m.1, Value.int .i64 m.2.1, Value.int .i64 m.2.2].size = 3 /\ StoreP w1 b7 (b8 + q.toNat * 3) [.int .i64 m.1, .int .i64 m.2.1, .int .i64 m.2.2] K := by
 refine rd h hq0 hq1 (rd h hp0 hp1 (wr h hp0 hp1 (ge_q h.q (by omega)) fun w1 h1 c1 => wr h1 hq0 (by rw [List.length_set]; exact hq1) (ge_q h.q (by omega)) fun w2 h2 c2 => k w2 h2 (c1.trans c2)))
/-- What compares: by its sign, and leaves what was there. -/
def CmpP (cl : Nat × Array Value) : Prop := ∀ (x y : El) (W : World), Q x -> Q y -> CW Tryz.prog cl.1 { toList := Value.agg (sv x).toArray :: Value.agg (sv y).toArray :: cl.2.toList } W fun v w' => ∃ n : Int, v = iv n /\ (n < 0 ↔ key x < key y) /\ Ext W w'
theorem ls {cl : Nat × Array Value} (hcp : CmpP cl) {s : Sl} {b : Nat} {w : World} {xs : List El} (h : Ar s b w.heap xs) {i j : Int} (hi0 : 0 <= i) (hi1 : i < xs.length) (hj0 : 0 <= j) (hj1 : j < xs.length) {K : Int -> World -> Prop} (k : ∀ (nn : Int) (ww : World), (nn < 0 ↔ g xs i.toNat < g xs j.toNat) -> Ext w ww -> K nn ww) :
  ∃ b1 b2 : Nat, s.1 = some ⟨b1, b2, none⟩ /\ ((0 : Int) <= i /\ i < (s.2 : Int)) /\ ∃ n : El, CellsAt w b1 (b2 + i.toNat * 3) [.int .i64 n.1, .int .i64 n.2.1, .int .i64 n.2.2] /\
  ∃ b3 b4 : Nat, s.1 = some ⟨b3, b4, none⟩ /\ ((0 : Int) <= j /\ j < (s.2 : Int)) /\ ∃ m : El, CellsAt w b3 (b4 + j.toNat * 3) [.int .i64 m.1, .int .i64 m.2.1, .int .i64 m.2.2] /\
  CX Tryz.prog cl.1 { toList := Value.agg #[.int .i64 n.1, .int .i64 n.2.1, .int .i64 n.2.2] :: Value.agg #[.int .i64 m.1, .int .i64 m.2.1, .int .i64 m.2.2] :: cl.2.1 } w fun v w' => ∃ n : Int, v = .int .i64 n /\ K n w' := by
 refine rd h hi0 hi1 (rd h hj0 hj1 ((hcp _ _ w (ge_q h.q (by omega)) (ge_q h.q (by omega))).use ?_))
 rintro _ ww ⟨n, rfl, hn, e⟩
 exact ⟨n, rfl, k n ww hn e⟩
theorem decC {n : Int} {P : Prop} [Decidable P] {A B : Prop} (hn : n < 0 ↔ P) (h : P -> A) (k : ¬ P -> B) : IfB (decide (n < 0)) A B := IfB.dec (fun h' => h (hn.1 h')) fun h' => k fun hp => h' (hn.2 hp)
theorem introC {n : Int} {P : Prop} [Decidable P] {A B : Prop} (hn : n < 0 ↔ P) (h : (!decide P) = true -> A) (k : (!decide P) = false -> B) : IfB (!decide (n < 0)) A B := by
 rw [show decide (n < 0) = decide P from decide_eq_decide.2 hn]
 exact IfB.intro h k
theorem Ar.ch {F : Nat -> Prop} {s : Sl} {b : Nat} {w w' : World} {xs : List El} (h : Ar s b w.heap xs) (hc : Ch F w w') (hF : ¬ F b) : Ar s b w'.heap xs := by
 obtain ⟨e1, e2, e3, arr, T, e4, e5⟩ := h
 exact ⟨e1, e2, e3, arr, T, hc.at e4 hF, e5⟩
theorem CBe {b : Nat} {w W W' : World} (h : CB b w W) (e : Ext W W') : CB b w W' := Ch.then h e fun _ _ h => h.elim
theorem c204 {cl : Nat × Array Value} (hcp : CmpP cl) {s : Sl} {b : Nat} {w : World} {xs : List El} {a e : Nat} (h : Ar s b w.heap xs) (he : e <= xs.length) (ha : a <= xs.length) :
  CW Tryz.prog 204 #[slV s, iv a, iv e, .func (.func cl.1) #[] cl.2] w fun v w' => v = .tuple #[] /\ ∃ ys, PI a e xs ys /\ SO ys a e /\ Ar s b w'.heap ys /\ CB b w w' := by
 have hl : xs.length <= 1000000 := h.2.2.1
 refine F204_ok s a e cl w _ ⟨fun n x W => ∃ (i : Nat) (ys : List El), n = e + 1 - i /\ x = (i : Int) /\ a + 1 <= i /\ (i = a + 1 \/ i <= e) /\ PI a e xs ys /\ SO ys a i /\ Ar s b W.heap ys /\ CB b w W, ⟨_, a + 1, xs, rfl, wp1 (by omega), Nat.le_refl _, .inl rfl, .refl, fun i j _ _ _ => by omega, h, Ch.refl _ _⟩, ?_⟩
 rintro n _ W _ ⟨i, ys, rfl, rfl, hai, hi, hP, hS, hA, hC⟩
 have hyl := hP.len
 refine IfB.dec (fun hlt => ?_) (fun hge => ⟨rfl, ys, hP, fun p q h1 h2 h3 => hS p q h1 h2 (by omega), hA, hC⟩)
 have hie : i < e := by omega
 refine ⟨fun m x W' => ∃ (j : Nat) (zs : List El), j = m /\ x = (j : Int) /\ a <= j /\ j <= i /\ PI a e xs zs /\ (∀ p q, a <= p -> p < q -> q <= i -> q ≠ j -> g zs p <= g zs q) /\ Ar s b W'.heap zs /\ CB b w W', ⟨_, i, ys, rfl, rfl, by omega, Nat.le_refl _, hP, fun p q h1 h2 h3 h4 => hS p q h1 h2 (by omega), hA, hC⟩, ?_⟩
 rintro m _ W1 _ ⟨j, zs, rfl, rfl, haj, hji, hP1, hS1, hA1, hC1⟩
 have hzl := hP1.len
 have hCd : CB b w W1.drew := hC1.then (extDrew W1) fun _ _ h => h.elim
 have done : (∀ p, a <= p -> p < j -> g zs p <= g zs j) -> ∀ W2 : World, Ar s b W2.heap zs -> CB b w W2 -> ([] : List Nat) = [] /\ ∃ b38, b38 < e + 1 - i /\ ∃ (i' : Nat) (ys : List El), b38 = e + 1 - i' /\ IntKind.i64.wrap ((i : Int) + (1 : Int)) = (i' : Int) /\ a + 1 <= i' /\ (i' = a + 1 \/ i' <= e) /\ PI a e xs ys /\ SO ys a i' /\ Ar s b W2.heap ys /\ CB b w W2 := by
  rintro hj W2 hA1 hCd
  refine ⟨rfl, e + 1 - (i + 1), by omega, i + 1, zs, rfl, wp1 (by omega), by omega, .inr (by omega), hP1, fun p q h1 h2 h3 => ?_, hA1, hCd⟩
  by_cases hq : q = j
  ·subst hq; exact hj p h1 h2
  ·exact hS1 p q h1 h2 (by omega) hq
 unfold F204j2
 refine IfB.dec (fun hlt2 => ?_) (fun hge2 => done (fun p h1 h2 => by omega) W1.drew hA1 hCd)
 have hj : a < j := by omega
 have hw := wm1 (i := j) (by omega) (by omega)
 rw [hw]
 refine ls hcp (w := W1.drew) hA1 (by omega) (by omega) (by omega) (by omega) (fun nn ww hn eC => have hA1 := Ar.ch (w := W1.drew) hA1 eC id; have hCd := CBe hCd eC; decC hn (fun hl1 => ?_) (fun hl1 => done (fun p h1 h2 => ?_) ww hA1 hCd))
 ·rw [Int.toNat_natCast, Int.toNat_natCast] at hl1
  refine sw (w := ww.drew) hA1 (by omega) (by omega) (by omega) (by omega) fun W3 hA3 hC3 => ⟨rfl, j - 1, by omega, j - 1, _, rfl, rfl, by omega, by omega, .step hP1 (p := j) (q := j - 1) (by omega) (by omega) (by omega) (by omega) (by omega), ?_, hA3, (hCd.then (extDrew _) fun _ _ h => h.elim).trans hC3⟩
  intro p q h1 h2 h3 h4
  rw [g_swp (by omega) (by omega), g_swp (by omega) (by omega)]
  have A1 := hS1 p (j - 1) h1
  have A2 := hS1 p q h1 h2 h3
  have A3 := hS1 j q (by omega)
  have A4 := hS1 (j - 1) q (by omega)
  split <;> split <;> (try split) <;> (try split) <;> first | omega | skip
 ·rw [Int.toNat_natCast, Int.toNat_natCast] at hl1
  have := hS1 p (j - 1) h1
  by_cases hp : p = j - 1
  ·subst hp; omega
  ·have := this (by omega) (by omega) (by omega)
   omega
/-- From k on none of the children of a node of the heap at f is more than it. -/
def HpAt (xs : List El) (f hi k : Nat) : Prop := ∀ c, c = 2 * k + 1 \/ c = 2 * k + 2 -> c < hi -> g xs (f + c) <= g xs (f + k)
theorem c242 {cl : Nat × Array Value} (hcp : CmpP cl) {s : Sl} {b : Nat} {w : World} {xs : List El} {lo hi f : Nat} (h : Ar s b w.heap xs) (hl : f + hi <= xs.length) (hlo : lo <= 1000000) (hh : ∀ k, lo < k -> HpAt xs f hi k) :
  CW Tryz.prog 242 #[slV s, iv lo, iv hi, iv f, .func (.func cl.1) #[] cl.2] w fun v w' => v = .tuple #[] /\ ∃ ys, PI f (f + hi) xs ys /\ (∀ k, lo <= k -> HpAt ys f hi k) /\ Ar s b w'.heap ys /\ CB b w w' := by
 have hll : xs.length <= 1000000 := h.2.2.1
 refine F242_ok s lo hi f cl w _ ⟨fun n x W => ∃ (r : Nat) (ys : List El), n = hi - r /\ x = (r : Int) /\ lo <= r /\ (r = lo \/ r < hi) /\ PI f (f + hi) xs ys /\ (∀ k, lo <= k -> k ≠ r -> HpAt ys f hi k) /\
  (∀ k, lo <= k -> r = 2 * k + 1 \/ r = 2 * k + 2 -> ∀ c, c = 2 * r + 1 \/ c = 2 * r + 2 -> c < hi -> g ys (f + c) <= g ys (f + k)) /\ Ar s b W.heap ys /\ CB b w W, ⟨_, lo, xs, rfl, rfl, Nat.le_refl _, .inl rfl, .refl, fun k h1 h2 => hh k (by omega), fun k h1 h2 => by omega, h, Ch.refl _ _⟩, ?_⟩
 rintro n _ W _ ⟨r, ys, rfl, rfl, hlr, hr, hP, hH, hG, hA, hC⟩
 have hyl := hP.len
 unfold F242j1
 rw [wdb (by omega), wp1 (by omega)]
 refine IfB.dec (fun hge => ⟨rfl, ys, hP, fun k hk => ?_, hA, hC⟩) (fun hlt => ?_)
 ·by_cases hkr : k = r
  ·subst hkr; intro c hc1 hc2; omega
  ·exact hH k hk hkr
 have hc1 : 2 * r + 1 < hi := by omega
 rw [wp1 (by omega), wad (by omega), wp1 (by omega)]
 have hCd : CB b w W.drew := hC.then (extDrew W) fun _ _ h => h.elim
 refine ⟨fun x W' => ∃ c : Nat, x = (c : Int) /\ (c = 2 * r + 1 \/ c = 2 * r + 2) /\ c < hi /\ (∀ d, d = 2 * r + 1 \/ d = 2 * r + 2 -> d < hi -> g ys (f + d) <= g ys (f + c)) /\ Ext W.drew W', ?_, ?_⟩
 ·refine IfB.dec (fun h2 => ?_) (fun h2 => ⟨rfl, 2 * r + 1, rfl, .inl rfl, hc1, fun d hd1 hd2 => ?_, Ch.refl _ _⟩)
  ·refine ls hcp (w := W.drew) hA (by omega) (by omega) (by omega) (by omega) (fun nn ww hn eC => decC hn (fun hl1 => ⟨rfl, 2 * r + 1 + 1, rfl, .inr rfl, by omega, fun d hd1 hd2 => ?_, eC⟩) (fun hl1 => ⟨rfl, 2 * r + 1, rfl, .inl rfl, hc1, fun d hd1 hd2 => ?_, eC⟩))
   ·rw [Int.toNat_natCast, Int.toNat_natCast] at hl1
    rcases hd1 with rfl | rfl
    ·rw [show f + (2 * r + 1 + 1) = f + (2 * r + 1) + 1 by omega]; omega
    ·exact Int.le_refl _
   ·rw [Int.toNat_natCast, Int.toNat_natCast] at hl1
    rcases hd1 with rfl | rfl
    ·exact Int.le_refl _
    ·rw [show f + (2 * r + 2) = f + (2 * r + 1) + 1 by omega]; omega
  ·have : d = 2 * r + 1 := by omega
   subst this; exact Int.le_refl _
 rintro _ W' _ ⟨c, rfl, hc2, hc3, hc4, eW⟩
 have hA := Ar.ch (w := W.drew) hA eW id
 have hCd := CBe hCd eW
 unfold F242j2
 rw [wad (by omega), wad (by omega)]
 have hCd2 : CB b w W'.drew := hCd.then (extDrew _) fun _ _ h => h.elim
 refine ls hcp (w := W'.drew) hA (by omega) (by omega) (by omega) (by omega) (fun nn ww hn eC => have hA := Ar.ch (w := W'.drew) hA eC id; have hCd2 := CBe hCd2 eC; introC hn (fun hl1 => ⟨rfl, ys, hP, fun k hk => ?_, hA, hCd2⟩) fun hl1 => ?_)
 ·simp only [Int.toNat_natCast, Bool.not_eq_true', decide_eq_false_iff_not] at hl1
  by_cases hkr : k = r
  ·subst hkr
   intro d hd1 hd2
   have := hc4 d hd1 hd2
   omega
  ·exact hH k hk hkr
 ·simp only [Int.toNat_natCast, Bool.not_eq_false', decide_eq_true_eq] at hl1
  refine sw (w := ww.drew) hA (by omega) (by omega) (by omega) (by omega) fun W3 hA3 hC3 => ⟨rfl, hi - c, by omega, c, _, rfl, rfl, by omega, .inr hc3, .step hP (p := f + r) (q := f + c) (by omega) (by omega) (by omega) (by omega) (by omega), ?_, ?_, hA3, (CBe hCd2 (extDrew ww)).trans hC3⟩
  ·intro k hk hkc d hd1 hd2
   by_cases hkr : k = r
   ·subst hkr
    rw [g_swl (by omega) (by omega)]
    by_cases hdc : d = c
    ·subst hdc; rw [g_swq (by omega) (by omega)]; omega
    ·rw [g_swo (by omega) (by omega) (by omega) (by omega)]; exact hc4 d hd1 hd2
   ·rw [g_swo (i := f + k) (by omega) (by omega) (by omega) (by omega)]
    by_cases hdr : d = r
    ·subst hdr
     rw [g_swl (by omega) (by omega)]
     exact hG k hk hd1 c hc2 hc3
    ·rw [g_swo (by omega) (by omega) (by omega) (by omega)]
     exact hH k hk hkr d hd1 hd2
  ·intro k hk hck d hd1 hd2
   have hkr : k = r := by omega
   subst hkr
   rw [g_swl (by omega) (by omega), g_swo (by omega) (by omega) (by omega) (by omega)]
   exact hH c (by omega) (by omega) d hd1 hd2
theorem heap_max {xs : List El} {f hi : Nat} (h : ∀ k, HpAt xs f hi k) (p : Nat) (hp : p < hi) : g xs (f + p) <= g xs f := by
 induction p using Nat.strongRecOn with
 | _ p ih =>
  by_cases h0 : p = 0
  ·subst h0; exact Int.le_refl _
  ·have h1 := h ((p - 1) / 2) p (by omega) hp
   have h2 := ih ((p - 1) / 2) (by omega) (by omega)
   omega
theorem c205 {cl : Nat × Array Value} (hcp : CmpP cl) {s : Sl} {b : Nat} {w : World} {xs : List El} {a e : Nat} (h : Ar s b w.heap xs) (he : e <= xs.length) (ha : a <= e) :
  CW Tryz.prog 205 #[slV s, iv a, iv e, .func (.func cl.1) #[] cl.2] w fun v w' => v = .tuple #[] /\ ∃ ys, PI a e xs ys /\ SO ys a e /\ Ar s b w'.heap ys /\ CB b w w' := by
 have hl : xs.length <= 1000000 := h.2.2.1
 refine F205_ok s a e cl w _ ⟨by decide, ?_⟩
 have hea : a + (e - a) = e := by omega
 rw [wsb ha (by omega)]
 generalize hhi : e - a = hi at hea
 refine ⟨fun n x W => ∃ (i : Nat) (ys : List El), i = n /\ x = (i : Int) - 1 /\ i <= hi + 1 /\ PI a e xs ys /\ (∀ k, i <= k -> HpAt ys a hi k) /\ Ar s b W.heap ys /\ CB b w W, ⟨_, (if hi = 0 then 1 else (hi - 1) / 2 + 1), xs, rfl, ?_, ?_, .refl, ?_, h, Ch.refl _ _⟩, ?_⟩
 ·rw [wrap_of (n := (hi : Int) - 1) (by omega) (by omega)]
  split
  ·rename_i h0; subst h0; decide
  ·rename_i h0
   rw [Int.tdiv_eq_ediv_of_nonneg (by omega), wrap_of (by omega) (by omega)]
   omega
 ·split <;> omega
 ·intro k hk c hc1 hc2
  split at hk <;> omega
 rintro n _ W _ ⟨i, ys, rfl, rfl, hi1, hP, hH, hA, hC⟩
 have hyl := hP.len
 unfold F205j1
 refine IfB.dec (fun hge => ?_) (fun hlt => ?_)
 ·rw [show ((i : Int) - 1) = ((i - 1 : Nat) : Int) by omega, wsb ha (by omega), hhi]
  refine (c242 hcp hA (by omega) (by omega) fun k hk => hH k (by omega)).use ?_
  rintro _ W2 ⟨rfl, zs, hP2, hH2, hA2, hC2⟩
  rw [hea] at hP2
  exact ⟨(), rfl, rfl, i - 1, by omega, i - 1, zs, rfl, by rw [wrap_of (by omega) (by omega)], by omega, hP.trans hP2, hH2, hA2, hC.trans hC2⟩
 ·have hi0 : i = 0 := by omega
  subst hi0
  refine ⟨fun n x W' => ∃ (i : Nat) (zs : List El), i = n /\ x = (i : Int) - 1 /\ i <= hi /\ PI a e xs zs /\ (∀ k, HpAt zs a i k) /\ (∀ p q, i <= p -> p < q -> q < hi -> g zs (a + p) <= g zs (a + q)) /\ (∀ p q, p < i -> i <= q -> q < hi -> g zs (a + p) <= g zs (a + q)) /\ Ar s b W'.heap zs /\ CB b w W', ⟨_, hi, ys, rfl, ?_, Nat.le_refl _, hP, fun k => hH k (Nat.zero_le _), fun p q _ _ _ => by omega, fun p q _ _ _ => by omega, hA, hC⟩, ?_⟩
  ·rw [wsb ha (by omega), hhi, wrap_of (by omega) (by omega)]
  rintro n _ W1 _ ⟨i, zs, rfl, rfl, hi2, hP1, hH1, hS1, hX1, hA1, hC1⟩
  have hzl := hP1.len
  unfold F205j2
  refine IfB.dec (fun hge => ?_) (fun hlt => ⟨rfl, zs, hP1, fun p q h1 h2 h3 => ?_, hA1, hC1⟩)
  ·obtain ⟨m, rfl⟩ : ∃ m, i = m + 1 := ⟨i - 1, by omega⟩
   rw [show (((m + 1 : Nat) : Int) - 1) = (m : Int) by omega, wad (by omega)]
   have hCd : CB b w W1.drew := hC1.then (extDrew W1) fun _ _ h => h.elim
   refine sw (w := W1.drew) hA1 (by omega) (by omega) (by omega) (by omega) fun W2 hA2 hC2 => ?_
   rw [Int.toNat_natCast, Int.toNat_natCast] at hA2
   have hP2 : PI a e xs (swp zs a (a + m)) := .step hP1 (by omega) (by omega) (by omega) (by omega) (by omega)
   have g0 : ∀ p, 0 < p -> p < m -> g (swp zs a (a + m)) (a + p) = g zs (a + p) := fun p h1 h2 => g_swo (by omega) (by omega) (by omega) (by omega)
   have gm : g (swp zs a (a + m)) (a + m) = g zs a := g_swq (by omega) (by omega)
   have gz : g (swp zs a (a + m)) a = g zs (a + m) := g_swl (by omega) (by omega)
   have gb : ∀ q, m < q -> g (swp zs a (a + m)) (a + q) = g zs (a + q) := fun q h1 => g_swo (by omega) (by omega) (by omega) (by omega)
   refine (c242 hcp (lo := 0) hA2 (by rw [swp_len]; omega) (by omega) fun k hk c hc1 hc2 => ?_).use ?_
   ·rw [g0 k hk (by omega), g0 c (by omega) hc2]
    exact hH1 k c hc1 (by omega)
   rintro _ W3 ⟨rfl, us, hP3, hH3, hA3, hC3⟩
   have hmax := heap_max hH1
   have hP3' : PI a e (swp zs a (a + m)) us := hP3.mono (Nat.le_refl _) (by omega) (by rw [swp_len]; omega)
   have ub : ∀ q, m <= q -> g us (a + q) = g (swp zs a (a + m)) (a + q) := fun q hq => hP3.out (.inr (by omega))
   refine ⟨(), rfl, rfl, m, by omega, m, us, rfl, by rw [wrap_of (by omega) (by omega)], by omega, hP2.trans hP3', fun k => hH3 k (Nat.zero_le _), ?_, ?_, hA3, (hCd.trans hC2).trans hC3⟩
   ·intro p q h1 h2 h3
    rw [ub p h1, ub q (by omega), gb q (by omega)]
    by_cases hp : p = m
    ·subst hp; rw [gm]
     have := hX1 0 q (by omega) (by omega) h3
     exact this
    ·rw [gb p (by omega)]; exact hS1 p q (by omega) h2 h3
   ·intro p q h1 h2 h3
    have hQ : ∀ i, a <= i -> i < a + m -> (fun v => v <= g us (a + q)) (g us i) := by
     refine hP3.all (Q := fun v => v <= g us (a + q)) fun i h4 h5 => ?_
     show _ <= g us (a + q)
     rw [ub q h2]
     obtain ⟨t, rfl⟩ : ∃ t, i = a + t := ⟨i - a, by omega⟩
     have h6 : g (swp zs a (a + m)) (a + t) = g zs (a + t) \/ g (swp zs a (a + m)) (a + t) = g zs (a + m) := by
      by_cases ht : t = 0
      ·subst ht; exact .inr gz
      ·exact .inl (g0 t (by omega) (by omega))
     by_cases hq : q = m
     ·subst hq
      rw [gm]
      have h7 := hmax t (by omega)
      have h8 := hmax q (by omega)
      rcases h6 with h6 | h6 <;> omega
     ·rw [gb q (by omega)]
      have h7 := hX1 t q (by omega) (by omega) h3
      have h8 := hX1 m q (by omega) (by omega) h3
      rcases h6 with h6 | h6 <;> omega
    exact hQ _ (by omega) (by omega)
  ·obtain ⟨p', rfl⟩ : ∃ t, p = a + t := ⟨p - a, by omega⟩
   obtain ⟨q', rfl⟩ : ∃ t, q = a + t := ⟨q - a, by omega⟩
   exact hS1 p' q' (by omega) (by omega) (by omega)
theorem c208 {cl : Nat × Array Value} (hcp : CmpP cl) {s : Sl} {b : Nat} {w : World} {xs : List El} {a e : Nat} (h : Ar s b w.heap xs) (he : e <= xs.length) (ha : a < e) :
  CW Tryz.prog 208 #[slV s, iv a, iv e, .func (.func cl.1) #[] cl.2] w fun v w' => v = .tuple #[] /\ ∃ ys, PI a e xs ys /\ Ar s b w'.heap ys /\ CB b w w' := by
 have hl : xs.length <= 1000000 := h.2.2.1
 refine F208_ok s a e cl w _ ⟨fun n x W => ∃ (i j : Nat) (ys : List El), n = j /\ x = ((i : Int), (j : Int)) /\ a <= i /\ j < e /\ i <= j + 1 /\ PI a e xs ys /\ Ar s b W.heap ys /\ CB b w W, ⟨_, a, e - 1, xs, rfl, by rw [wm1 (by omega) (by omega)], Nat.le_refl _, by omega, by omega, .refl, h, Ch.refl _ _⟩, ?_⟩
 rintro n _ W _ ⟨i, j, ys, rfl, rfl, hai, hje, hij, hP, hA, hC⟩
 have hyl := hP.len
 unfold F208j1
 refine IfB.dec (fun hlt => ?_) (fun hge => ⟨rfl, ys, hP, hA, hC⟩)
 have hlt : i < n := by
  have : (i : Int) < (n : Int) := hlt
  omega
 have hCd : CB b w W.drew := hC.then (extDrew W) fun _ _ h => h.elim
 refine sw (w := W.drew) hA (p := (i : Int)) (q := (n : Int)) (by omega) (by omega) (by omega) (by omega) fun W2 hA2 hC2 => ?_
 rw [Int.toNat_natCast, Int.toNat_natCast] at hA2
 exact ⟨rfl, n - 1, by omega, i + 1, n - 1, _, rfl, by rw [<- wp1 (by omega), <- wm1 (by omega) (by omega)], by omega, by omega, by omega, .step hP (by omega) (by omega) (by omega) (by omega) (by omega), hA2, hCd.trans hC2⟩
theorem c278 {cl : Nat × Array Value} (hcp : CmpP cl) {s : Sl} {b b1 : Nat} {w : World} {xs : List El} {i j : Nat} (h : Ar s b w.heap xs) (hc : Ct .i64 b1 w) (hne : b1 ≠ b) (hi : i < xs.length) (hj : j < xs.length) :
  CW Tryz.prog 278 #[slV s, iv i, iv j, .pointer (some ⟨b1, 0, none⟩), .func (.func cl.1) #[] cl.2] w fun v w' => ∃ x y : Nat, v = .tuple #[iv x, iv y] /\ (x = i /\ y = j \/ x = j /\ y = i) /\ Ar s b w'.heap xs /\ Ct .i64 b1 w' /\ Ch (fun q => q = b1) w w' := by
 have hd : Ch (fun q => q = b1) w w.drew := (extDrew w).mono fun _ _ h => h.elim
 refine F278_ok s i j _ cl w _ (ls hcp (w := w.drew) h (by omega) (by omega) (by omega) (by omega) (fun nn ww hn eC => have h := Ar.ch (w := w.drew) h eC id; have hc : Ct .i64 b1 ww := (have ⟨T, n, k⟩ := hc; ⟨T, n, Ch.at (w := w.drew) eC k id⟩); have hd := hd.then eC (fun _ _ h => h.elim); decC hn (fun _ => ?_) (fun _ => ⟨i, j, rfl, .inl ⟨rfl, rfl⟩, h, hc, hd⟩)))
 obtain ⟨T, n, hn⟩ := hc
 refine ⟨b1, 0, rfl, n, by rw [cell_of (w := ww) hn]; rfl, b1, 0, rfl, rfl, store_one (w := ww) hn (by simp) rfl fun w2 h2 => ⟨j, i, rfl, .inr ⟨rfl, rfl⟩, ?_, ⟨T, _, h2.new⟩, hd.trans h2.ch⟩⟩
 exact Ar.ch (w := ww) h h2.ch (Ne.symm hne)
theorem c246 {cl : Nat × Array Value} (hcp : CmpP cl) {s : Sl} {b b1 : Nat} {w : World} {xs : List El} {i j k : Nat} (h : Ar s b w.heap xs) (hc : Ct .i64 b1 w) (hne : b1 ≠ b) (hi : i < xs.length) (hj : j < xs.length) (hk : k < xs.length) :
  CW Tryz.prog 246 #[slV s, iv i, iv j, iv k, .pointer (some ⟨b1, 0, none⟩), .func (.func cl.1) #[] cl.2] w fun v w' => ∃ x : Nat, v = iv x /\ (x = i \/ x = j \/ x = k) /\ Ar s b w'.heap xs /\ Ct .i64 b1 w' /\ Ch (fun q => q = b1) w w' := by
 refine F246_ok s i j k _ cl w _ ((c278 hcp h hc hne hi hj).use ?_)
 rintro _ w2 ⟨x1, y1, rfl, e1, h2, k2, l2⟩
 refine ⟨((x1 : Int), (y1 : Int)), rfl, (c278 hcp h2 k2 hne (by omega) hk).use ?_⟩
 rintro _ w3 ⟨x2, y2, rfl, e2, h3, k3, l3⟩
 refine ⟨((x2 : Int), (y2 : Int)), rfl, (c278 hcp h3 k3 hne (by omega) (by omega)).use ?_⟩
 rintro _ w4 ⟨x3, y3, rfl, e3, h4, k4, l4⟩
 exact ⟨((x3 : Int), (y3 : Int)), rfl, y3, rfl, by omega, h4, k4, (l2.trans l3).trans l4⟩
theorem c245 {cl : Nat × Array Value} (hcp : CmpP cl) {s : Sl} {b b1 : Nat} {w : World} {xs : List El} {i : Nat} (h : Ar s b w.heap xs) (hc : Ct .i64 b1 w) (hne : b1 ≠ b) (h0 : 0 < i) (hi : i + 1 < xs.length) :
  CW Tryz.prog 245 #[slV s, iv i, .pointer (some ⟨b1, 0, none⟩), .func (.func cl.1) #[] cl.2] w fun v w' => ∃ x : Nat, v = iv x /\ (i <= x + 1 /\ x <= i + 1) /\ Ar s b w'.heap xs /\ Ct .i64 b1 w' /\ Ch (fun q => q = b1) w w' := by
 have hl := h.2.2.1
 refine F245_ok s i _ cl w _ ?_
 unfold F245
 rw [wm1 (by omega) (by omega), wp1 (by omega)]
 refine (c246 hcp h hc hne (by omega) (by omega) hi).use ?_
 rintro _ w2 ⟨x, rfl, e, h2, k2, l2⟩
 exact ⟨_, rfl, x, rfl, by omega, h2, k2, l2⟩
theorem c207 {cl : Nat × Array Value} (hcp : CmpP cl) {s : Sl} {b : Nat} {w : World} {xs : List El} {a e : Nat} (h : Ar s b w.heap xs) (he : e <= xs.length) (ha : a + 12 < e) :
  CW Tryz.prog 207 #[slV s, iv a, iv e, .func (.func cl.1) #[] cl.2] w fun v w' => ∃ (p : Nat) (t : Int), v = .tuple #[iv p, iv t] /\ (a <= p /\ p < e) /\ Ar s b w'.heap xs /\ Ext w w' := by
 have hl := h.2.2.1
 have hlt := h.lt
 refine F207_ok s a e cl w _ ?_
 intro b1 w2 h2
 have e2 : Ext w w2 := h2.ch _
 have p2 := h2.here
 have hA2 := h.ch e2 id
 have hc2 : Ct .i64 b1 w2 := ⟨_, _, h2.new⟩
 have hne : b1 ≠ b := by omega
 have hq : IntKind.i64.wrap ((IntKind.i64.wrap ((e : Int) - (a : Int))).tdiv (4 : Int)) = (((e - a) / 4 : Nat) : Int) := by
  rw [wsb (by omega) (by omega), Int.tdiv_eq_ediv_of_nonneg (by omega), wrap_of (by omega) (by omega)]; omega
 rw [hq, wmul (k := (1 : Int)) (m := 1) rfl (by omega) (by omega), wmul (k := (2 : Int)) (m := 2) rfl (by omega) (by omega), wmul (k := (3 : Int)) (m := 3) rfl (by omega) (by omega), wad (by omega), wad (by omega), wad (by omega), wsb (by omega) (by omega)]
 generalize hqq : (e - a) / 4 = q
 have hx : ∀ {w' : World}, Ch (fun i => i = b1) w2 w' -> Ext w w' := fun hc => e2.then hc fun i hi h => by omega
 refine ⟨by decide, by decide, by decide, fun x W => ∃ p : Nat, x = (p : Int) /\ (a <= p /\ p < e) /\ Ar s b W.heap xs /\ Ct .i64 b1 W /\ Ch (fun i => i = b1) w2 W, ?_, ?_⟩
 ·refine IfB.yes (decide_eq_true (by omega)) ⟨fun x W => ∃ i j k : Nat, x = ((i : Int), (j : Int), (k : Int)) /\ (a <= i /\ i < e) /\ (a <= j /\ j < e) /\ (a <= k /\ k < e) /\ Ar s b W.heap xs /\ Ct .i64 b1 W /\ Ch (fun i => i = b1) w2 W, ?_, ?_⟩
  ·refine IfB.dec (fun h50 => ?_) (fun _ => ⟨rfl, _, _, _, rfl, by omega, by omega, by omega, hA2, hc2, Ch.refl _ _⟩)
   have h50 : 50 <= e - a := by omega
   refine (c245 hcp hA2 hc2 hne (by omega) (by omega)).use ?_
   rintro _ w6 ⟨i, rfl, hi, h6, k6, l6⟩
   refine ⟨_, rfl, (c245 hcp h6 k6 hne (by omega) (by omega)).use ?_⟩
   rintro _ w9 ⟨j, rfl, hj, h9, k9, l9⟩
   refine ⟨_, rfl, (c245 hcp h9 k9 hne (by omega) (by omega)).use ?_⟩
   rintro _ w12 ⟨k, rfl, hk, h12, k12, l12⟩
   exact ⟨_, rfl, rfl, i, j, k, rfl, by omega, by omega, by omega, h12, k12, (l6.trans l9).trans l12⟩
  ·rintro _ w15 _ ⟨i, j, k, rfl, hi, hj, hk, h15, k15, l15⟩
   refine (c246 hcp h15 k15 hne (by omega) (by omega) (by omega)).use ?_
   rintro _ w19 ⟨x, rfl, hx, h19, k19, l19⟩
   exact ⟨_, rfl, rfl, x, rfl, by omega, h19, k19, l15.trans l19⟩
 ·rintro _ w22 _ ⟨p, rfl, hp, h22, ⟨T, n, hn⟩, l22⟩
  refine ⟨n, by rw [cell_of hn]; rfl, IfB.intro (fun _ => ⟨p, 1, rfl, hp, h22, hx l22⟩) fun _ => IfB.intro (fun _ => ⟨p, 2, rfl, hp, h22, hx l22⟩) fun _ => ⟨p, 0, rfl, hp, h22, hx l22⟩⟩
structure Pt (a e : Nat) (xs ys : List El) (v : Int) (Lo : Int -> Prop) (i j : Nat) : Prop where
 pi : PI a e xs ys
 len : e <= xs.length
 v : g ys a = v
 ai : a + 1 <= i
 ij : i <= j + 1
 je : j + 1 <= e
 lo : ∀ k, a < k -> k < i -> Lo (g ys k)
 hi : ∀ k, j < k -> k < e -> ¬ Lo (g ys k)
theorem Pt.up {a e i j : Nat} {xs ys : List El} {v : Int} {Lo : Int -> Prop} (h : Pt a e xs ys v Lo i j) (hij : i <= j) (hl : Lo (g ys i)) : Pt a e xs ys v Lo (i + 1) j := by
 have h1 := h.ai
 refine ⟨h.pi, h.len, h.v, by omega, by omega, h.je, fun k h1 h2 => ?_, h.hi⟩
 by_cases hk : k = i
 ·subst hk; exact hl
 ·exact h.lo k h1 (by omega)
theorem Pt.dn {a e i j : Nat} {xs ys : List El} {v : Int} {Lo : Int -> Prop} (h : Pt a e xs ys v Lo i j) (hij : i <= j) (hl : ¬ Lo (g ys j)) : Pt a e xs ys v Lo i (j - 1) := by
 have h1 := h.ai; have h2 := h.je
 refine ⟨h.pi, h.len, h.v, h1, by omega, by omega, h.lo, fun k h1 h2 => ?_⟩
 by_cases hk : k = j
 ·subst hk; exact hl
 ·exact h.hi k (by omega) h2
theorem Pt.sw {a e i j : Nat} {xs ys : List El} {v : Int} {Lo : Int -> Prop} (h : Pt a e xs ys v Lo i j) (hij : i <= j) (h1 : ¬ Lo (g ys i)) (h2 : Lo (g ys j)) : Pt a e xs (swp ys i j) v Lo (i + 1) (j - 1) := by
 have hne : i ≠ j := fun e => h1 (e ▸ h2)
 have hl := h.pi.len; have h3 := h.len; have h4 := h.ai; have h5 := h.je
 refine ⟨.step h.pi (by omega) (by omega) (by omega) (by omega) (by omega), h3, ?_, by omega, by omega, by omega, fun k h6 h7 => ?_, fun k h6 h7 => ?_⟩
 ·rw [g_swo (by omega) (by omega) (by omega) (by omega)]; exact h.v
 ·by_cases hk : k = i
  ·subst hk; rw [g_swl (by omega) (by omega)]; exact h2
  ·rw [g_swo (by omega) (by omega) (by omega) (by omega)]; exact h.lo k h6 (by omega)
 ·by_cases hk : k = j
  ·subst hk; rw [g_swq (by omega) (by omega)]; exact h1
  ·rw [g_swo (by omega) (by omega) (by omega) (by omega)]; exact h.hi k (by omega) h7
theorem upPart {cl : Nat × Array Value} (hcp : CmpP cl) {s : Sl} {b a e i j : Nat} {w : World} {xs ys : List El} {v : Int} {y : Int -> World -> Prop} (hP : Pt a e xs ys v (fun x => x < v) i j) (hA : Ar s b w.heap ys)
  (hy : ∀ (i' : Nat) (w' : World), Pt a e xs ys v (fun x => x < v) i' j -> (j < i' \/ ¬ g ys i' < v) -> i <= i' -> Ext w w' -> y (i' : Int) w') :
  ∃ y14 : Nat -> Int -> World -> Prop, (∃ b15, y14 b15 (i : Int) w) /\ ∀ (b16 : Nat) (n17 : Int) (w18 : World) (_ : Nat -> Value), y14 b16 n17 w18 -> F211j6 s a cl ((0 : Int), (j : Int)) y y14 b16 n17 w18 := by
 refine ⟨fun n x W => ∃ i' : Nat, n = j + 1 - i' /\ x = (i' : Int) /\ i <= i' /\ Pt a e xs ys v (fun x => x < v) i' j /\ Ext w W, ⟨_, i, rfl, rfl, Nat.le_refl _, hP, Ch.refl _ _⟩, ?_⟩
 rintro _ _ W _ ⟨i', rfl, rfl, hii, hP', hW⟩
 have hl := hP'.pi.len; have h3 := hP'.len; have h4 := hP'.ai; have h5 := hP'.je; have h6 := hA.2.2.1
 have hd := hW.trans (extDrew W)
 refine IfB.dec (fun hle => ?_) (fun hgt => ⟨rfl, hy i' _ hP' (.inl (by omega)) hii hd⟩)
 have hle : i' <= j := by omega
 refine ls hcp (w := W.drew) (hA.ch hd id) (by omega) (by omega) (by omega) (by omega) (fun nn ww hn eC => have hd := hd.trans eC; decC hn (fun hl1 => ?_) (fun hl1 => ⟨rfl, hy i' _ hP' (.inr ?_) hii hd⟩))
 ·rw [Int.toNat_natCast, Int.toNat_natCast, hP'.v] at hl1
  exact ⟨rfl, _, by omega, i' + 1, rfl, wp1 (by omega), by omega, hP'.up hle hl1, hd⟩
 ·rw [Int.toNat_natCast, Int.toNat_natCast, hP'.v] at hl1; exact hl1
theorem dnPart {cl : Nat × Array Value} (hcp : CmpP cl) {s : Sl} {b a e i j : Nat} {w : World} {xs ys : List El} {v : Int} {y : Int -> World -> Prop} (hP : Pt a e xs ys v (fun x => x < v) i j) (hA : Ar s b w.heap ys)
  (hy : ∀ (j' : Nat) (w' : World), Pt a e xs ys v (fun x => x < v) i j' -> (j' < i \/ g ys j' < v) -> j' <= j -> Ext w w' -> y (j' : Int) w') :
  ∃ y14 : Nat -> Int -> World -> Prop, (∃ b15, y14 b15 (j : Int) w) /\ ∀ (b16 : Nat) (n17 : Int) (w18 : World) (_ : Nat -> Value), y14 b16 n17 w18 -> F211j8 s a cl (i : Int) y y14 b16 n17 w18 := by
 refine ⟨fun n x W => ∃ j' : Nat, j' = n /\ x = (j' : Int) /\ j' <= j /\ Pt a e xs ys v (fun x => x < v) i j' /\ Ext w W, ⟨_, j, rfl, rfl, Nat.le_refl _, hP, Ch.refl _ _⟩, ?_⟩
 rintro _ _ W _ ⟨j', rfl, rfl, hjj, hP', hW⟩
 have hl := hP'.pi.len; have h3 := hP'.len; have h4 := hP'.ai; have h5 := hP'.je; have h6 := hA.2.2.1
 have hd := hW.trans (extDrew W)
 refine IfB.dec (fun hle => ?_) (fun hgt => ⟨rfl, hy j' _ hP' (.inl (by omega)) hjj hd⟩)
 have hle : i <= j' := by omega
 refine ls hcp (w := W.drew) (hA.ch hd id) (by omega) (by omega) (by omega) (by omega) (fun nn ww hn eC => have hd := hd.trans eC; introC hn (fun hl1 => ?_) (fun hl1 => ⟨rfl, hy j' _ hP' (.inr ?_) hjj hd⟩))
 ·simp only [Int.toNat_natCast, hP'.v, Bool.not_eq_true', decide_eq_false_iff_not] at hl1
  exact ⟨rfl, j' - 1, by omega, j' - 1, rfl, wm1 (by omega) (by omega), by omega, hP'.dn hle hl1, hd⟩
 ·simp only [Int.toNat_natCast, hP'.v, Bool.not_eq_false', decide_eq_true_eq] at hl1; exact hl1
theorem c211 {cl : Nat × Array Value} (hcp : CmpP cl) {s : Sl} {b : Nat} {w : World} {xs : List El} {a e p : Nat} (h : Ar s b w.heap xs) (he : e <= xs.length) (hp : a <= p /\ p < e) :
  CW Tryz.prog 211 #[slV s, iv a, iv e, iv p, .func (.func cl.1) #[] cl.2] w fun v w' => ∃ (m : Nat) (t : Bool), v = .tuple #[iv m, .bool t] /\ (a <= m /\ m < e) /\ ∃ ys, PI a e xs ys /\ (∀ k, a <= k -> k < m -> g ys k < g ys m) /\ (∀ k, m < k -> k < e -> g ys m <= g ys k) /\ Ar s b w'.heap ys /\ CB b w w' := by
 have hl := h.2.2.1
 refine F211_ok s a e p cl w _ ?_
 have hCd : CB b w w.drew := (extDrew w).mono fun _ _ h => h.elim
 refine sw (w := w.drew) h (by omega) (by omega) (by omega) (by omega) fun w12 h12 C12 => ?_
 rw [Int.toNat_natCast, Int.toNat_natCast] at h12
 have C12 := hCd.trans C12
 have hP0 : Pt a e xs (swp xs a p) (g (swp xs a p) a) (fun x => x < g (swp xs a p) a) (a + 1) (e - 1) :=
  ⟨.step .refl (by omega) (by omega) (by omega) (by omega) he, he, rfl, by omega, by omega, by omega, fun k h1 h2 => by omega, fun k h1 h2 => by omega⟩
 generalize swp xs a p = ys0 at hP0 h12
 generalize g ys0 a = v at hP0
 have fin : ∀ {ys : List El} {j : Nat} {W : World} {t : Bool}, Pt a e xs ys v (fun x => x < v) (j + 1) j -> Ar s b W.heap ys -> CB b w W ->
   ∀ W2 : World, Ar s b W2.heap (swp ys j a) -> CB b W W2 -> ∃ (m : Nat) (t' : Bool), Value.tuple #[iv j, .bool t] = .tuple #[iv m, .bool t'] /\ (a <= m /\ m < e) /\ ∃ ys, PI a e xs ys /\ (∀ k, a <= k -> k < m -> g ys k < g ys m) /\ (∀ k, m < k -> k < e -> g ys m <= g ys k) /\ Ar s b W2.heap ys /\ CB b w W2 := by
  intro ys j W t hP hA hC W2 hA2 hC2
  have hyl := hP.pi.len; have h4 := hP.ai; have h5 := hP.je
  have gj : g (swp ys j a) j = v := by rw [g_swl (by omega) (by omega)]; exact hP.v
  refine ⟨j, t, rfl, by omega, _, .step hP.pi (by omega) (by omega) (by omega) (by omega) (by omega), fun k h1 h2 => ?_, fun k h1 h2 => ?_, hA2, hC.trans hC2⟩
  ·rw [gj]
   by_cases hk : k = a
   ·subst hk; rw [g_swq (by omega) (by omega)]; exact hP.lo j (by omega) (by omega)
   ·rw [g_swo (by omega) (by omega) (by omega) (by omega)]; exact hP.lo k (by omega) (by omega)
  ·rw [gj, g_swo (by omega) (by omega) (by omega) (by omega)]
   have := hP.hi k h1 h2
   omega
 refine ⟨fun x W => ∃ i : Nat, x = (i : Int) /\ Pt a e xs ys0 v (fun x => x < v) i (e - 1) /\ (e - 1 < i \/ ¬ g ys0 i < v) /\ Ar s b W.heap ys0 /\ CB b w W, ?_, ?_⟩
 ·unfold F211j1
  rw [wp1 (by omega), wm1 (by omega) (by omega)]
  exact upPart hcp hP0 h12 fun i' w' h1 h2 _ h3 => ⟨i', rfl, h1, h2, h12.ch h3 id, C12.then h3 fun _ _ h => h.elim⟩
 rintro _ W _ ⟨i, rfl, hP, hi, hA, hC⟩
 refine ⟨fun x W' => ∃ j : Nat, x = (j : Int) /\ Pt a e xs ys0 v (fun x => x < v) i j /\ (j < i \/ g ys0 j < v) /\ (j < i \/ ¬ g ys0 i < v) /\ Ar s b W'.heap ys0 /\ CB b w W', ?_, ?_⟩
 ·unfold F211j3
  rw [wm1 (by omega) (by omega)]
  exact dnPart hcp hP hA fun j' w' h1 h2 h3 h4 => ⟨j', rfl, h1, h2, by omega, hA.ch h4 id, hC.then h4 fun _ _ h => h.elim⟩
 rintro _ W1 _ ⟨j, rfl, hP1, hj1, hj2, hA1, hC1⟩
 have hyl := hP1.pi.len; have h4 := hP1.ai; have h5 := hP1.je; have h6 := hP1.ij
 have hC1d : CB b w W1.drew := hC1.then (extDrew W1) fun _ _ h => h.elim
 unfold F211j4
 refine IfB.dec (fun hlt => ?_) (fun hge => ?_)
 ·have hij : i = j + 1 := by omega
  subst hij
  refine sw (w := W1.drew) hA1 (by omega) (by omega) (by omega) (by omega) fun W2 h2 C2 => ?_
  rw [Int.toNat_natCast, Int.toNat_natCast] at h2
  exact fin (W := W1.drew) hP1 hA1 hC1d W2 h2 C2
 ·have hij : i <= j := by omega
  refine sw (w := W1.drew) hA1 (by omega) (by omega) (by omega) (by omega) fun W2 h2 C2 => ?_
  rw [Int.toNat_natCast, Int.toNat_natCast] at h2
  have hP2 := hP1.sw hij (by omega) (by omega)
  have C2 := hC1d.trans C2
  refine ⟨fun n x W => ∃ (i j : Nat) (ys : List El), n = j + 1 - i /\ x = ((i : Int), (j : Int)) /\ Pt a e xs ys v (fun x => x < v) i j /\ Ar s b W.heap ys /\ CB b w W, ⟨_, i + 1, j - 1, _, rfl, by rw [wp1 (by omega), wm1 (by omega) (by omega)], hP2, h2, C2⟩, ?_⟩
  rintro _ _ W3 _ ⟨i3, j3, ys3, rfl, rfl, hP3, hA3, hC3⟩
  unfold F211j5
  refine ⟨fun x W => ∃ i : Nat, x = (i : Int) /\ i3 <= i /\ Pt a e xs ys3 v (fun x => x < v) i j3 /\ (j3 < i \/ ¬ g ys3 i < v) /\ Ar s b W.heap ys3 /\ CB b w W, ?_, ?_⟩
  ·exact upPart hcp hP3 hA3 fun i' w' h1 h2 h3 h4 => ⟨i', rfl, h3, h1, h2, hA3.ch h4 id, hC3.then h4 fun _ _ h => h.elim⟩
  rintro _ W4 _ ⟨i4, rfl, hi34, hP4, hi4, hA4, hC4⟩
  refine ⟨fun x W' => ∃ j : Nat, x = (j : Int) /\ j <= j3 /\ Pt a e xs ys3 v (fun x => x < v) i4 j /\ (j < i4 \/ g ys3 j < v) /\ (j < i4 \/ ¬ g ys3 i4 < v) /\ Ar s b W'.heap ys3 /\ CB b w W', ?_, ?_⟩
  ·exact dnPart hcp hP4 hA4 fun j' w' h1 h2 h3 h4 => ⟨j', rfl, h3, h1, h2, by omega, hA4.ch h4 id, hC4.then h4 fun _ _ h => h.elim⟩
  rintro _ W5 _ ⟨j5, rfl, hj5, hP5, hj51, hj52, hA5, hC5⟩
  have hyl := hP5.pi.len; have h4 := hP5.ai; have h5 := hP5.je; have h6 := hP5.ij
  have hC5d : CB b w W5.drew := hC5.then (extDrew W5) fun _ _ h => h.elim
  unfold F211j9
  refine IfB.dec (fun hlt => ?_) (fun hge => ?_)
  ·have hij : i4 = j5 + 1 := by omega
   subst hij
   refine sw (w := W5.drew) hA5 (by omega) (by omega) (by omega) (by omega) fun W6 h6 C6 => ?_
   rw [Int.toNat_natCast, Int.toNat_natCast] at h6
   exact fin (W := W5.drew) hP5 hA5 hC5d W6 h6 C6
  ·have hij : i4 <= j5 := by omega
   refine sw (w := W5.drew) hA5 (by omega) (by omega) (by omega) (by omega) fun W6 h6 C6 => ?_
   rw [Int.toNat_natCast, Int.toNat_natCast] at h6
   exact ⟨rfl, _, by omega, i4 + 1, j5 - 1, _, rfl, by rw [wp1 (by omega), wm1 (by omega) (by omega)], hP5.sw hij (by omega) (by omega), h6, hC5d.trans C6⟩
theorem c210 {cl : Nat × Array Value} (hcp : CmpP cl) {s : Sl} {b : Nat} {w : World} {xs : List El} {a e p : Nat} (h : Ar s b w.heap xs) (he : e <= xs.length) (hp : a <= p /\ p < e) :
  CW Tryz.prog 210 #[slV s, iv a, iv e, iv p, .func (.func cl.1) #[] cl.2] w fun v w' => ∃ m : Nat, v = iv m /\ (a < m /\ m <= e) /\ ∃ ys, PI a e xs ys /\ g ys a = g xs p /\ (∀ k, a <= k -> k < m -> ¬ g xs p < g ys k) /\ (∀ k, m <= k -> k < e -> g xs p < g ys k) /\ Ar s b w'.heap ys /\ CB b w w' := by
 have hl := h.2.2.1
 refine F210_ok s a e p cl w _ ?_
 have hCd : CB b w w.drew := (extDrew w).mono fun _ _ h => h.elim
 refine sw (w := w.drew) h (by omega) (by omega) (by omega) (by omega) fun w12 h12 C12 => ?_
 rw [Int.toNat_natCast, Int.toNat_natCast] at h12
 have C12 := hCd.trans C12
 have hv : g (swp xs a p) a = g xs p := g_swl (by omega) (by omega)
 have hP0 : Pt a e xs (swp xs a p) (g xs p) (fun x => ¬ g xs p < x) (a + 1) (e - 1) :=
  ⟨.step .refl (by omega) (by omega) (by omega) (by omega) he, he, hv, by omega, by omega, by omega, fun k h1 h2 => by omega, fun k h1 h2 => by omega⟩
 generalize swp xs a p = ys0 at hP0 h12
 clear hv
 generalize g xs p = v at hP0
 refine ⟨fun n x W => ∃ (i j : Nat) (ys : List El), n = j + 1 - i /\ x = ((i : Int), (j : Int)) /\ Pt a e xs ys v (fun x => ¬ v < x) i j /\ Ar s b W.heap ys /\ CB b w W, ⟨_, a + 1, e - 1, _, rfl, by rw [wp1 (by omega), wm1 (by omega) (by omega)], hP0, h12, C12⟩, ?_⟩
 rintro _ _ W3 _ ⟨i3, j3, ys3, rfl, rfl, hP3, hA3, hC3⟩
 unfold F210j1
 refine ⟨fun x W => ∃ i : Nat, x = (i : Int) /\ i3 <= i /\ Pt a e xs ys3 v (fun x => ¬ v < x) i j3 /\ (j3 < i \/ v < g ys3 i) /\ Ar s b W.heap ys3 /\ CB b w W, ?_, ?_⟩
 ·refine ⟨fun n x W => ∃ i : Nat, n = j3 + 1 - i /\ x = (i : Int) /\ i3 <= i /\ Pt a e xs ys3 v (fun x => ¬ v < x) i j3 /\ Ar s b W.heap ys3 /\ CB b w W, ⟨_, i3, rfl, rfl, Nat.le_refl _, hP3, hA3, hC3⟩, ?_⟩
  rintro _ _ W _ ⟨i, rfl, rfl, hii, hP, hA, hC⟩
  have hyl := hP.pi.len; have h4 := hP.ai; have h5 := hP.je; have h6 := hP.ij
  have hd : CB b w W.drew := hC.then (extDrew W) fun _ _ h => h.elim
  unfold F210j2
  refine IfB.dec (fun hle => ?_) (fun hgt => ⟨rfl, i, rfl, hii, hP, .inl ?_, hA, hd⟩)
  ·have hle : i <= j3 := by
    have : (i : Int) <= (j3 : Int) := hle
    omega
   refine ls hcp (w := W.drew) hA (by omega) (by omega) (by omega) (by omega) (fun nn ww hn eC => have hA := Ar.ch (w := W.drew) hA eC id; have hd := CBe hd eC; introC hn (fun hl1 => ?_) (fun hl1 => ⟨rfl, i, rfl, hii, hP, .inr ?_, hA, hd⟩))
   ·simp only [Int.toNat_natCast, hP.v, Bool.not_eq_true', decide_eq_false_iff_not] at hl1
    exact ⟨rfl, _, by omega, i + 1, rfl, wp1 (by omega), by omega, hP.up hle hl1, hA, hd⟩
   ·simp only [Int.toNat_natCast, hP.v, Bool.not_eq_false', decide_eq_true_eq] at hl1; exact hl1
  ·have : ¬ (i : Int) <= (j3 : Int) := hgt
   omega
 rintro _ W4 _ ⟨i4, rfl, hi34, hP4, hi4, hA4, hC4⟩
 refine ⟨fun x W' => ∃ j : Nat, x = (j : Int) /\ j <= j3 /\ Pt a e xs ys3 v (fun x => ¬ v < x) i4 j /\ (j < i4 \/ ¬ v < g ys3 j) /\ (j < i4 \/ v < g ys3 i4) /\ Ar s b W'.heap ys3 /\ CB b w W', ?_, ?_⟩
 ·refine ⟨fun n x W => ∃ j : Nat, j = n /\ x = (j : Int) /\ j <= j3 /\ Pt a e xs ys3 v (fun x => ¬ v < x) i4 j /\ (j < i4 \/ v < g ys3 i4) /\ Ar s b W.heap ys3 /\ CB b w W, ⟨_, j3, rfl, rfl, Nat.le_refl _, hP4, by omega, hA4, hC4⟩, ?_⟩
  rintro _ _ W _ ⟨j, rfl, rfl, hjj, hP, hi, hA, hC⟩
  have hyl := hP.pi.len; have h4 := hP.ai; have h5 := hP.je; have h6 := hP.ij
  have hd : CB b w W.drew := hC.then (extDrew W) fun _ _ h => h.elim
  unfold F210j4
  refine IfB.dec (fun hle => ?_) (fun hgt => ⟨rfl, j, rfl, hjj, hP, .inl (by omega), hi, hA, hd⟩)
  have hle : i4 <= j := by omega
  refine ls hcp (w := W.drew) hA (by omega) (by omega) (by omega) (by omega) (fun nn ww hn eC => have hA := Ar.ch (w := W.drew) hA eC id; have hd := CBe hd eC; decC hn (fun hl1 => ?_) (fun hl1 => ⟨rfl, j, rfl, hjj, hP, .inr ?_, hi, hA, hd⟩))
  ·rw [Int.toNat_natCast, Int.toNat_natCast, hP.v] at hl1
   exact ⟨rfl, j - 1, by omega, j - 1, rfl, wm1 (by omega) (by omega), by omega, hP.dn hle (by omega), by omega, hA, hd⟩
  ·rw [Int.toNat_natCast, Int.toNat_natCast, hP.v] at hl1; exact hl1
 rintro _ W5 _ ⟨j5, rfl, hj5, hP5, hj51, hj52, hA5, hC5⟩
 have hyl := hP5.pi.len; have h4 := hP5.ai; have h5 := hP5.je; have h6 := hP5.ij
 have hC5d : CB b w W5.drew := hC5.then (extDrew W5) fun _ _ h => h.elim
 unfold F210j5
 refine IfB.dec (fun hlt => ?_) (fun hge => ?_)
 ·refine ⟨i4, rfl, by omega, ys3, hP5.pi, hP5.v, fun k h1 h2 => ?_, fun k h1 h2 => ?_, hA5, hC5⟩
  ·by_cases hk : k = a
   ·subst hk; rw [hP5.v]; omega
   ·exact hP5.lo k (by omega) h2
  ·have := hP5.hi k (by omega) h2
   omega
 ·have hij : i4 <= j5 := by omega
  refine sw (w := W5.drew) hA5 (by omega) (by omega) (by omega) (by omega) fun W6 h6 C6 => ?_
  rw [Int.toNat_natCast, Int.toNat_natCast] at h6
  exact ⟨rfl, _, by omega, i4 + 1, j5 - 1, _, rfl, by rw [wp1 (by omega), wm1 (by omega) (by omega)], hP5.sw hij (by omega) (by omega), h6, hC5d.trans C6⟩
theorem c209 {cl : Nat × Array Value} (hcp : CmpP cl) {s : Sl} {b : Nat} {w : World} {xs : List El} {a e : Nat} (h : Ar s b w.heap xs) (he : e <= xs.length) (ha : a < e) (hb : 0 < a -> ∀ k, a <= k -> k < e -> g xs (a - 1) <= g xs k) :
  CW Tryz.prog 209 #[slV s, iv a, iv e, .func (.func cl.1) #[] cl.2] w fun v w' => ∃ t, v = .bool t /\ ∃ ys, PI a e xs ys /\ (t = true -> SO ys a e) /\ Ar s b w'.heap ys /\ CB b w w' := by
 have hl := h.2.2.1
 have lb : ∀ {ys}, PI a e xs ys -> 0 < a -> ∀ k, a <= k -> k < e -> g ys (a - 1) <= g ys k := fun {ys} hP h0 k h1 h2 => by
  rw [hP.out (.inl (by omega))]
  exact hP.all (Q := fun v => g xs (a - 1) <= v) (fun i h3 h4 => hb h0 i h3 h4) k h1 h2
 refine F209_ok s a e cl w _ ⟨fun n x W => ∃ (i j : Nat) (ys : List El), n = 5 - j /\ x = ((i : Int), (j : Int)) /\ j <= 5 /\ (a + 1 <= i /\ i <= e) /\ PI a e xs ys /\ SO ys a i /\ Ar s b W.heap ys /\ CB b w W, ⟨_, a + 1, 0, xs, rfl, by rw [wp1 (by omega)]; rfl, by omega, by omega, .refl, fun p q _ _ _ => by omega, h, Ch.refl _ _⟩, ?_⟩
 rintro _ _ W _ ⟨i0, j0, ys, rfl, rfl, hj0, hi0, hP, hS0, hA, hC⟩
 have hyl := hP.len
 refine IfB.dec (fun hlt => ?_) (fun hge => ⟨false, rfl, ys, hP, (fun h => by cases h), hA, hC⟩)
 have hj5 : j0 < 5 := by
  have : (j0 : Int) < 5 := hlt
  omega
 refine ⟨fun x W => ∃ i : Nat, x = (i : Int) /\ (a + 1 <= i /\ i <= e) /\ SO ys a i /\ Ar s b W.heap ys /\ CB b w W, ?_, ?_⟩
 ·refine ⟨fun n x W => ∃ i : Nat, n = e - i /\ x = (i : Int) /\ (a + 1 <= i /\ i <= e) /\ SO ys a i /\ Ar s b W.heap ys /\ CB b w W, ⟨_, i0, rfl, rfl, hi0, hS0, hA, hC⟩, ?_⟩
  rintro _ _ W1 _ ⟨i, rfl, rfl, hi, hS, hA1, hC1⟩
  unfold F209j2
  refine IfB.dec (fun hlt => ?_) (fun hge => ⟨rfl, i, rfl, hi, hS, hA1, hC1.drew⟩)
  rw [wm1 (by omega) (by omega)]
  refine ls hcp (w := W1.drew) hA1 (by omega) (by omega) (by omega) (by omega) (fun nn ww hn eC => have hA1 := Ar.ch (w := W1.drew) hA1 eC id; have hC1 := CBe (CB.drew hC1) eC; introC hn (fun hl1 => ?_) (fun hl1 => ⟨rfl, i, rfl, hi, hS, hA1, hC1⟩))
  simp only [Int.toNat_natCast, Bool.not_eq_true', decide_eq_false_iff_not] at hl1
  refine ⟨rfl, _, by omega, i + 1, rfl, wp1 (by omega), by omega, fun p q h1 h2 h3 => ?_, hA1, hC1⟩
  by_cases hq : q = i
  ·subst hq
   by_cases hp : p = q - 1
   ·subst hp; omega
   ·have := hS p (q - 1) h1 (by omega) (by omega)
    omega
  ·exact hS p q h1 h2 (by omega)
 rintro _ W2 _ ⟨i, rfl, hi, hS, hA2, hC2⟩
 unfold F209j3
 refine IfB.intro (fun hi3 => ?_) (fun hi3 => ?_)
 ·have hi3 : (i : Int) = (e : Int) := by simpa using hi3
  have : i = e := by omega
  subst this
  exact ⟨true, rfl, ys, hP, fun _ => hS, hA2, hC2⟩
 have hie : i < e := by
  have : (i : Int) ≠ (e : Int) := by simpa using hi3
  omega
 rw [wsb (by omega) (by omega)]
 refine @IfB.dec (((e - a : Nat) : Int) < (50 : Int)) _ _ _ (fun _ => ⟨false, rfl, ys, hP, (fun h => by cases h), hA2, hC2⟩) (fun _ => ?_)
 rw [wm1 (by omega) (by omega)]
 refine sw (w := W2.drew) hA2 (by omega) (by omega) (by omega) (by omega) fun W3 hA3 hC3 => ?_
 rw [Int.toNat_natCast, Int.toNat_natCast] at hA3
 have hP3 : PI a e xs (swp ys i (i - 1)) := .step hP (by omega) (by omega) (by omega) (by omega) (by omega)
 have hC3 := (CB.drew hC2).trans hC3
 rw [wsb (by omega) (by omega)]
 refine ⟨fun _ W => ∃ zs, PI a e xs zs /\ SO zs a i /\ Ar s b W.heap zs /\ CB b w W, ?_, ?_⟩
 ·refine IfB.dec (fun h2 => ?_) (fun h2 => ⟨rfl, _, hP3, fun p q _ _ _ => by omega, hA3, hC3⟩)
  refine ⟨fun n x W => ∃ (j : Nat) (zs : List El), j = n /\ x = (j : Int) /\ (a <= j /\ j <= i - 1) /\ PI a e xs zs /\ (∀ p q, a <= p -> p < q -> q < i -> q ≠ j -> g zs p <= g zs q) /\ Ar s b W.heap zs /\ CB b w W, ⟨_, i - 1, _, rfl, rfl, by omega, hP3, fun p q h1 h2 h3 h4 => ?_, hA3, hC3⟩, ?_⟩
  ·rw [g_swo (by omega) (by omega) (by omega) (by omega), g_swo (by omega) (by omega) (by omega) (by omega)]
   exact hS p q h1 h2 h3
  rintro _ _ W4 _ ⟨j, zs, rfl, rfl, hj, hP4, hS4, hA4, hC4⟩
  have hzl := hP4.len
  unfold F209j4
  refine IfB.dec (fun hj1 => ?_) (fun hj1 => ⟨rfl, zs, hP4, fun p q h1 h2 h3 => hS4 p q h1 h2 h3 (by omega), hA4, hC4⟩)
  rw [wm1 (by omega) (by omega)]
  refine ls hcp (w := W4.drew) hA4 (by omega) (by omega) (by omega) (by omega) (fun nn ww hn eC => have hA4 := Ar.ch (w := W4.drew) hA4 eC id; have hC4 := CBe (CB.drew hC4) eC; introC hn (fun hl1 => ?_) (fun hl1 => ?_))
  ·simp only [Int.toNat_natCast, Bool.not_eq_true', decide_eq_false_iff_not] at hl1
   refine ⟨rfl, zs, hP4, fun p q h1 h2 h3 => ?_, hA4, hC4⟩
   by_cases hq : q = j
   ·subst hq
    by_cases hp : p = q - 1
    ·subst hp; omega
    ·have := hS4 p (q - 1) h1 (by omega) (by omega) (by omega)
     omega
   ·exact hS4 p q h1 h2 h3 hq
  ·simp only [Int.toNat_natCast, Bool.not_eq_false', decide_eq_true_eq] at hl1
   have haj : a < j := by
    rcases Nat.lt_or_ge a j with h | h
    ·exact h
    ·have : a = j := by omega
     subst this
     have := lb hP4 (by omega) a (Nat.le_refl _) (by omega)
     omega
   refine sw (w := ww.drew) hA4 (by omega) (by omega) (by omega) (by omega) fun W5 hA5 hC5 => ?_
   rw [Int.toNat_natCast, Int.toNat_natCast] at hA5
   refine ⟨rfl, j - 1, by omega, j - 1, _, rfl, rfl, by omega, .step hP4 (by omega) (by omega) (by omega) (by omega) (by omega), fun p q h1 h2 h3 h4 => ?_, hA5, (CB.drew hC4).trans hC5⟩
   rw [g_swp (by omega) (by omega), g_swp (by omega) (by omega)]
   have A1 := hS4 p (j - 1) h1
   have A2 := hS4 p q h1 h2 h3
   have A3 := hS4 j q (by omega)
   have A4 := hS4 (j - 1) q (by omega)
   split <;> split <;> (try split) <;> (try split) <;> first | omega | skip
 rintro _ W6 _ ⟨zs, hP6, hS6, hA6, hC6⟩
 have hzl := hP6.len
 have next : ∀ {us : List El} {W : World}, PI a e xs us -> SO us a i -> Ar s b W.heap us -> CB b w W -> ([] : List Nat) = [] /\ ∃ b112, b112 < 5 - j0 /\ ∃ (i' j' : Nat) (ys : List El), b112 = 5 - j' /\ ((i : Int), IntKind.i64.wrap ((j0 : Int) + (1 : Int))) = ((i' : Int), (j' : Int)) /\ j' <= 5 /\ (a + 1 <= i' /\ i' <= e) /\ PI a e xs ys /\ SO ys a i' /\ Ar s b W.heap ys /\ CB b w W :=
  fun h1 h2 h3 h4 => ⟨rfl, 5 - (j0 + 1), by omega, i, j0 + 1, _, rfl, by rw [wp1 (by omega)], by omega, by omega, h1, h2, h3, h4⟩
 unfold F209j5
 refine ⟨fun t W => W = W6, ⟨rfl, rfl⟩, ?_⟩
 rintro t _ _ rfl
 refine IfB.intro (fun _ => ?_) (fun _ => next hP6 hS6 hA6 hC6)
 refine ⟨fun n x W => ∃ (j : Nat) (us : List El), n = e - j /\ x = (j : Int) /\ (i + 1 <= j /\ j <= e) /\ PI a e xs us /\ SO us a i /\ Ar s b W.heap us /\ CB b w W, ⟨_, i + 1, zs, rfl, wp1 (by omega), by omega, hP6, hS6, hA6, hC6⟩, ?_⟩
 rintro _ _ W7 _ ⟨j, us, rfl, rfl, hj, hP7, hS7, hA7, hC7⟩
 have hul := hP7.len
 unfold F209j7
 refine IfB.dec (fun hlt => ?_) (fun _ => next hP7 hS7 hA7 hC7)
 rw [wm1 (by omega) (by omega)]
 refine ls hcp (w := W7.drew) hA7 (by omega) (by omega) (by omega) (by omega) (fun nn ww hn eC => have hA7 := Ar.ch (w := W7.drew) hA7 eC id; have hC7 := CBe (CB.drew hC7) eC; introC hn (fun _ => next hP7 hS7 hA7 hC7) (fun _ => ?_))
 refine sw (w := ww.drew) hA7 (by omega) (by omega) (by omega) (by omega) fun W8 hA8 hC8 => ?_
 rw [Int.toNat_natCast, Int.toNat_natCast] at hA8
 refine ⟨rfl, _, by omega, j + 1, _, rfl, wp1 (by omega), by omega, .step hP7 (by omega) (by omega) (by omega) (by omega) (by omega), fun p q h1 h2 h3 => ?_, hA8, (CB.drew hC7).trans hC8⟩
 rw [g_swo (by omega) (by omega) (by omega) (by omega), g_swo (by omega) (by omega) (by omega) (by omega)]
 exact hS7 p q h1 h2 h3
theorem c206 {cl : Nat × Array Value} (hcp : CmpP cl) {s : Sl} {b : Nat} {w : World} {xs : List El} {a e : Nat} (h : Ar s b w.heap xs) (he : e <= xs.length) (ha : a + 12 < e) :
  CW Tryz.prog 206 #[slV s, iv a, iv e, .func (.func cl.1) #[] cl.2] w fun v w' => v = .tuple #[] /\ ∃ ys, PI a e xs ys /\ Ar s b w'.heap ys /\ CB b w w' := by
 have hl := h.2.2.1
 have hlt := h.lt
 refine F206_ok s a e cl w _ ?_
 unfold F206
 rw [wsb (by omega) (by omega)]
 refine IfB.yes (decide_eq_true (by omega)) ?_
 intro b1 w2 h2
 have p2 := h2.here; have z2 := h2.size
 rw [wu64 (by omega)]
 refine ⟨rfl, store_all h2.new rfl (by intro u hu; simp at hu; subst hu; rfl) fun w3 h3 => ?_⟩
 have e3 : Ext w w3 := Ext.fresh h2 h3
 have hne : b1 ≠ b := by omega
 refine (c243 (x := e - a) (by omega) w3).use ?_
 rintro _ _ ⟨L, rfl, hL, rfl⟩
 have hq : IntKind.i64.wrap ((((e - a : Nat) : Int)).tdiv (4 : Int)) = (((e - a) / 4 : Nat) : Int) := by
  rw [Int.tdiv_eq_ediv_of_nonneg (by omega), wrap_of (by omega) (by omega)]; omega
 obtain ⟨hL1, hL2, hL3⟩ := hL
 obtain ⟨hL4, hL5⟩ := hL2 (by omega)
 have h2L : 2 ^ L <= 2 * (e - a) := by
  have : 2 ^ L = 2 ^ (L - 1) * 2 := by rw [<- Nat.pow_succ]; congr 1; omega
  omega
 have hLpos : 0 < 2 ^ L := Nat.pow_pos (by decide)
 generalize 2 ^ L = M at *
 rw [hq, wmul (k := (2 : Int)) (m := 2) rfl (by omega) (by omega), wad (by omega), wm1 (by omega) (by omega)]
 generalize hqq : (e - a) / 4 = q at *
 refine ⟨_, rfl, by decide, fun n x W => ∃ (i : Nat) (ys : List El), n = a + q * 2 + 2 - i /\ x = (i : Int) /\ (a + q * 2 - 1 <= i /\ i <= a + q * 2 + 2) /\ PI a e xs ys /\ Ar s b W.heap ys /\ Ct .u64 b1 W /\ CB b w W, ⟨_, _, xs, rfl, rfl, by omega, .refl, h.ch e3 id, ⟨_, _, h3.new⟩, e3.mono fun _ _ h => h.elim⟩, ?_⟩
 rintro _ _ W _ ⟨i, ys, rfl, rfl, hi, hP, hA, hK, hC⟩
 have hyl := hP.len
 unfold F206j1
 rw [wsb (by omega) (by omega), hq, wmul (k := (2 : Int)) (m := 2) rfl (by omega) (by omega), wad (by omega), wp1 (by omega)]
 refine ⟨by decide, IfB.dec (fun hle => ?_) (fun hgt => ⟨rfl, ys, hP, hA, hC⟩)⟩
 refine (c244 hK).use ?_
 rintro _ w15 ⟨n16, rfl, hK2, hC2⟩
 have hA2 := hA.ch hC2 (Ne.symm hne)
 have hC3 : CB b w w15 := hC.then hC2 fun j hj h => by omega
 have hm : IntKind.u64.wrap ((M : Int) - (1 : Int)) = ((M - 1 : Nat) : Int) := by
  rw [show ((M : Int) - (1 : Int)) = ((M - 1 : Nat) : Int) by omega, wu64 (by omega)]
 obtain ⟨k, hk, hkM⟩ := and_le (n := n16) (m := M - 1) (by omega)
 refine ⟨n16, rfl, fun x W => ∃ t : Nat, x = (t : Int) /\ t < e - a /\ w15 = W, ?_, ?_⟩
 ·rw [hm, hk, wrap_of (n := (k : Int)) (by omega) (by omega)]
  refine IfB.dec (fun h1 => ⟨rfl, k - (e - a), wsb (by omega) (by omega), by omega, rfl⟩) (fun h1 => ⟨rfl, k, rfl, by omega, rfl⟩)
 rintro _ _ _ ⟨t, rfl, ht, rfl⟩
 unfold F206j2
 rw [wad (by omega)]
 refine sw (w := w15.drew) hA2 (by omega) (by omega) (by omega) (by omega) fun W5 hA5 hC5 => ?_
 rw [Int.toNat_natCast, Int.toNat_natCast] at hA5
 exact ⟨rfl, _, by omega, i + 1, _, rfl, wp1 (by omega), by omega, .step hP (by omega) (by omega) (by omega) (by omega) (by omega), hA5, by
  obtain ⟨T, n, hn⟩ := hK2
  exact ⟨T, n, hC5.at (w := w15.drew) hn hne⟩, hC3.drew.trans hC5⟩
theorem SO.split {ys : List El} {a m e : Nat} (h1 : SO ys a m) (h2 : SO ys (m + 1) e) (hl : ∀ k, a <= k -> k < m -> g ys k <= g ys m) (hr : ∀ k, m < k -> k < e -> g ys m <= g ys k) : SO ys a e := by
 intro p q hp hpq hq
 rcases Nat.lt_trichotomy p m with h | h | h
 ·rcases Nat.lt_trichotomy q m with k | k | k
  ·exact h1 p q hp hpq k
  ·subst k; exact hl p hp h
  ·have := hl p hp h; have := hr q k hq; omega
 ·subst h; exact hr q hpq hq
 ·exact h2 p q (by omega) hpq hq
theorem PI.trans' {a b a' b' : Nat} {xs ys zs : List El} (h : PI a b xs ys) (k : PI a' b' ys zs) (h1 : a <= a') (h2 : b' <= b) (h3 : b <= xs.length) : PI a b xs zs :=
 h.trans (k.mono h1 h2 (by rw [h.len]; exact h3))
/-- Nothing of [a, e) is less than what stands ahead of a. -/
def LB (xs : List El) (a e : Nat) : Prop := 0 < a -> ∀ k, a <= k -> k < e -> g xs (a - 1) <= g xs k
theorem LB.pi {xs ys : List El} {a e : Nat} (h : LB xs a e) (hP : PI a e xs ys) : LB ys a e := fun h0 k h1 h2 => by
 rw [hP.out (.inl (by omega))]
 exact hP.all (Q := fun v => g xs (a - 1) <= v) (fun i h3 h4 => h h0 i h3 h4) k h1 h2
/-- Parted at m. -/
def Pd (ys : List El) (a m e : Nat) : Prop := (∀ k, a <= k -> k < m -> g ys k <= g ys m) /\ (∀ k, m < k -> k < e -> g ys m <= g ys k)
theorem Pd.left {ys zs : List El} {a m e : Nat} (h : Pd ys a m e) (hP : PI a m ys zs) : Pd zs a m e := by
 have em : g zs m = g ys m := hP.out (.inr (Nat.le_refl _))
 refine ⟨fun k h1 h2 => ?_, fun k h1 h2 => ?_⟩
 ·rw [em]; exact hP.all (Q := fun v => v <= g ys m) (fun i h3 h4 => h.1 i h3 h4) k h1 h2
 ·rw [em, hP.out (.inr (by omega))]; exact h.2 k h1 h2
theorem Pd.right {ys zs : List El} {a m e : Nat} (h : Pd ys a m e) (hP : PI (m + 1) e ys zs) : Pd zs a m e := by
 have em : g zs m = g ys m := hP.out (.inl (by omega))
 refine ⟨fun k h1 h2 => ?_, fun k h1 h2 => ?_⟩
 ·rw [em, hP.out (.inl (by omega))]; exact h.1 k h1 h2
 ·rw [em]; exact hP.all (Q := fun v => g ys m <= v) (fun i h3 h4 => h.2 i (by omega) h4) k (by omega) h2
theorem SO.keep {ys zs : List El} {a e a' e' : Nat} (h : SO ys a e) (hP : PI a' e' ys zs) (hd : e <= a' \/ e' <= a) : SO zs a e := by
 intro p q h1 h2 h3
 rw [hP.out (by omega), hP.out (by omega)]
 exact h p q h1 h2 h3
theorem c155 {cl : Nat × Array Value} (hcp : CmpP cl) (n : Nat) : ∀ {s : Sl} {b : Nat} {w : World} {xs : List El} {a e : Nat} (lim : Int), e - a = n -> Ar s b w.heap xs -> e <= xs.length -> a <= e -> LB xs a e ->
  CW Tryz.prog 155 #[slV s, iv a, iv e, iv lim, .func (.func cl.1) #[] cl.2] w fun v w' => v = .tuple #[] /\ ∃ ys, PI a e xs ys /\ SO ys a e /\ Ar s b w'.heap ys /\ CB b w w' := by
 induction n using Nat.strongRecOn with
 | _ n ih =>
 intro s b w xs a e lim hn h he hae hLB
 have hl := h.2.2.1
 refine F155_ok s a e lim cl w _ ⟨fun k x W => ∃ (a' e' : Nat) (lm : Int) (wb wp : Bool) (ys : List El), k = e' - a' /\ x = ((a' : Int), (e' : Int), lm, wb, wp) /\ (a <= a' /\ a' <= e' /\ e' <= e) /\ PI a e xs ys /\ LB ys a' e' /\
  (∀ zs, PI a' e' ys zs -> SO zs a' e' -> SO zs a e) /\ Ar s b W.heap ys /\ CB b w W, ⟨_, a, e, lim, true, true, xs, rfl, rfl, by omega, .refl, hLB, fun _ _ h => h, h, Ch.refl _ _⟩, ?_⟩
 rintro _ _ W _ ⟨a', e', lm, wb, wp, ys, rfl, rfl, hae', hP, hB, hG, hA, hC⟩
 have hyl := hP.len
 have up : ∀ {zs}, PI a' e' ys zs -> PI a e xs zs := fun k => hP.trans' k (by omega) (by omega) he
 unfold F155j1
 dsimp only
 rw [wsb (by omega) (by omega)]
 refine IfB.dec (fun h12 => ?_) (fun h12 => ?_)
 ·refine (c204 hcp hA (by omega) (by omega)).use ?_
  rintro _ W2 ⟨rfl, zs, hP2, hS2, hA2, hC2⟩
  exact ⟨(), rfl, rfl, zs, up hP2, hG zs hP2 hS2, hA2, hC.trans hC2⟩
 have hbig : a' + 12 < e' := by omega
 refine IfB.intro (fun _ => ?_) (fun _ => ?_)
 ·refine (c205 hcp hA (by omega) (by omega)).use ?_
  rintro _ W2 ⟨rfl, zs, hP2, hS2, hA2, hC2⟩
  exact ⟨(), rfl, rfl, zs, up hP2, hG zs hP2 hS2, hA2, hC.trans hC2⟩
 refine ⟨fun _ W => ∃ zs, PI a' e' ys zs /\ Ar s b W.heap zs /\ CB b w W, ?_, ?_⟩
 ·refine IfB.intro (fun _ => ?_) (fun _ => ⟨rfl, ys, .refl, hA, hC⟩)
  refine (c206 hcp hA (by omega) hbig).use ?_
  rintro _ W2 ⟨rfl, zs, hP2, hA2, hC2⟩
  exact ⟨(), rfl, rfl, zs, hP2, hA2, hC.trans hC2⟩
 rintro lm2 W2 _ ⟨zs, hP2, hA2, hC2⟩
 have hzl := hP2.len
 unfold F155j2
 dsimp only
 refine (c207 hcp hA2 (by omega) hbig).use ?_
 rintro _ W3 ⟨p, t, rfl, hp, hA3, e3⟩
 have hC3 : CB b w W3 := hC2.then e3 fun _ _ h => h.elim
 refine ⟨((p : Int), t), rfl, fun x W => ∃ (p : Nat) (us : List El), x.1 = (p : Int) /\ (a' <= p /\ p < e') /\ PI a' e' ys us /\ Ar s b W.heap us /\ CB b w W, ?_, ?_⟩
 ·refine IfB.intro (fun _ => ?_) (fun _ => ⟨rfl, p, zs, rfl, hp, hP2, hA3, hC3⟩)
  refine (c208 hcp hA3 (by omega) (by omega)).use ?_
  rintro _ W4 ⟨rfl, us, hP4, hA4, hC4⟩
  refine ⟨(), rfl, rfl, e' - 1 - (p - a'), us, ?_, by omega, hP2.trans hP4, hA4, hC3.trans hC4⟩
  show IntKind.i64.wrap (IntKind.i64.wrap ((e' : Int) - 1) - IntKind.i64.wrap ((p : Int) - (a' : Int))) = _
  rw [wm1 (by omega) (by omega), wsb (by omega) (by omega), wsb (by omega) (by omega)]
 rintro ⟨_, t2⟩ W5 _ ⟨p, us, rfl, hp, hP5, hA5, hC5⟩
 have hul := hP5.len
 unfold F155j3
 dsimp only
 refine ⟨fun _ W => ∃ us, PI a' e' ys us /\ Ar s b W.heap us /\ CB b w W, ?_, ?_⟩
 ·refine IfB.intro (fun _ => IfB.intro (fun _ => IfB.intro (fun _ => ?_) (fun _ => ⟨rfl, us, hP5, hA5, hC5⟩)) (fun _ => ⟨rfl, us, hP5, hA5, hC5⟩)) (fun _ => ⟨rfl, us, hP5, hA5, hC5⟩)
  refine (c209 hcp hA5 (by omega) (by omega) (hB.pi hP5)).use ?_
  rintro _ W6 ⟨t, rfl, vs, hP6, hS6, hA6, hC6⟩
  exact ⟨t, rfl, IfB.intro (fun ht => ⟨rfl, vs, up (hP5.trans hP6), hG vs (hP5.trans hP6) (hS6 ht), hA6, hC5.trans hC6⟩) (fun _ => ⟨rfl, vs, hP5.trans hP6, hA6, hC5.trans hC6⟩)⟩
 rintro _ W7 _ ⟨us, hP7, hA7, hC7⟩
 have hul := hP7.len
 have hB7 := hB.pi hP7
 have hG7 : ∀ zs, PI a' e' us zs -> SO zs a' e' -> SO zs a e := fun zs k => hG zs (hP7.trans k)
 have part : ∀ {W8 : World}, Ar s b W8.heap us -> CB b w W8 -> CX Tryz.prog 211 #[slV s, iv a', iv e', iv p, .func (.func cl.1) #[] cl.2] W8 fun v65 w66 => ∃ x67 : Int × Bool, v65 = .tuple #[.int .i64 x67.1, .bool x67.2] /\ ¬(8 : Int) = 0 /\
   IfB (decide (IntKind.i64.wrap (x67.fst - (a' : Int)) < IntKind.i64.wrap ((e' : Int) - x67.fst))) (F155k2 s ((a' : Int), (e' : Int), lm, wb, wp) x67 lm2 cl w66 (e' - a') (fun k x W => ∃ (a' e' : Nat) (lm : Int) (wb wp : Bool) (ys : List El), k = e' - a' /\ x = ((a' : Int), (e' : Int), lm, wb, wp) /\ (a <= a' /\ a' <= e' /\ e' <= e) /\ PI a e xs ys /\ LB ys a' e' /\
  (∀ zs, PI a' e' ys zs -> SO zs a' e' -> SO zs a e) /\ Ar s b W.heap ys /\ CB b w W))
    (F155k1 s x67 ((a' : Int), (e' : Int), lm, wb, wp) lm2 cl w66 (e' - a') (fun k x W => ∃ (a' e' : Nat) (lm : Int) (wb wp : Bool) (ys : List El), k = e' - a' /\ x = ((a' : Int), (e' : Int), lm, wb, wp) /\ (a <= a' /\ a' <= e' /\ e' <= e) /\ PI a e xs ys /\ LB ys a' e' /\
  (∀ zs, PI a' e' ys zs -> SO zs a' e' -> SO zs a e) /\ Ar s b W.heap ys /\ CB b w W)) := by
  intro W8 hA8 hC8
  refine (c211 hcp hA8 (by omega) hp).use ?_
  rintro _ W9 ⟨m, t, rfl, hm, vs, hP9, h1, h2, hA9, hC9⟩
  have hvl := hP9.len
  have hPd : Pd vs a' m e' := ⟨fun k h3 h4 => Int.le_of_lt (h1 k h3 h4), h2⟩
  have hB9 := hB7.pi hP9
  have hC9 := hC8.trans hC9
  refine ⟨((m : Int), t), rfl, by decide, IfB.intro (fun _ => ?_) (fun _ => ?_)⟩
  ·unfold F155k2
   refine (ih (m - a') (by omega) lm2 rfl hA9 (by omega) (by omega) fun h0 k h3 h4 => hB9 h0 k h3 (by omega)).use ?_
   rintro _ W10 ⟨rfl, ts, hP10, hS10, hA10, hC10⟩
   have hPd2 := hPd.left hP10
   refine ⟨(), rfl, rfl, e' - (m + 1), by omega, m + 1, e', _, _, _, ts, rfl, by rw [wp1 (by omega)], by omega, hP.trans' (hP7.trans (hP9.trans' hP10 (by omega) (by omega) (by omega))) (by omega) (by omega) he, fun _ k h3 h4 => hPd2.2 k (by omega) h4, fun zs hz hSz => ?_, hA10, hC9.trans hC10⟩
   have hPz : PI a' e' us zs := (hP9.trans' hP10 (by omega) (by omega) (by omega)).trans' hz (by omega) (by omega) (by omega)
   have hPd3 := hPd2.right hz
   exact hG7 zs hPz ((hS10.keep hz (.inl (by omega))).split hSz hPd3.1 hPd3.2)
  ·unfold F155k1
   dsimp only
   rw [wp1 (by omega)]
   refine (ih (e' - (m + 1)) (by omega) lm2 rfl hA9 (by omega) (by omega) fun h0 k h3 h4 => hPd.2 k (by omega) h4).use ?_
   rintro _ W10 ⟨rfl, ts, hP10, hS10, hA10, hC10⟩
   have hPd2 := hPd.right hP10
   have hB10 : LB ts a' m := fun h0 k h3 h4 => by
    rw [hP10.out (.inl (by omega)), hP10.out (.inl (by omega))]
    exact hB9 h0 k h3 (by omega)
   refine ⟨(), rfl, rfl, m - a', by omega, a', m, _, _, _, ts, rfl, rfl, by omega, hP.trans' (hP7.trans (hP9.trans' hP10 (by omega) (by omega) (by omega))) (by omega) (by omega) he, hB10, fun zs hz hSz => ?_, hA10, hC9.trans hC10⟩
   have hPz : PI a' e' us zs := (hP9.trans' hP10 (by omega) (by omega) (by omega)).trans' hz (by omega) (by omega) (by omega)
   have hPd3 := hPd2.left hz
   exact hG7 zs hPz (hSz.split (hS10.keep hz (.inr (by omega))) hPd3.1 hPd3.2)
 unfold F155j4
 dsimp only
 refine IfB.dec (fun h0 => ?_) (fun h0 => part (W8 := W7.drew) hA7 hC7.drew)
 have h0 : 0 < a' := by omega
 rw [wm1 (by omega) (by omega)]
 refine ls hcp (w := W7.drew) hA7 (by omega) (by omega) (by omega) (by omega) (fun nn ww hn eC => have hA7 := Ar.ch (w := W7.drew) hA7 eC id; have hC7 := CBe (CB.drew hC7) eC; introC hn (fun hl1 => ?_) (fun _ => part hA7 hC7))
 simp only [Int.toNat_natCast, Bool.not_eq_true', decide_eq_false_iff_not] at hl1
 refine (c210 hcp (w := ww) hA7 (by omega) hp).use ?_
 rintro _ W8 ⟨m, rfl, hm, vs, hP8, hv, h1, h2, hA8, hC8⟩
 have hvl := hP8.len
 have hB8 := hB7.pi hP8
 have ho : g vs (a' - 1) = g us (a' - 1) := hP8.out (.inl (by omega))
 have hv1 : ∀ k, a' <= k -> k < m -> g vs k = g us p := fun k h3 h4 => by
  have := h1 k h3 h4
  have := hB8 h0 k h3 (by omega)
  omega
 refine ⟨_, rfl, rfl, e' - m, by omega, m, e', lm2, wb, wp, vs, rfl, rfl, by omega, up (hP7.trans hP8), fun _ k h3 h4 => ?_, fun zs hz hSz => ?_, hA8, hC7.trans hC8⟩
 ·rw [hv1 (m - 1) (by omega) (by omega)]
  have := h2 k h3 h4
  omega
 ·have hlow : ∀ k, a' <= k -> k < m -> g zs k = g us p := fun k h3 h4 => by rw [hz.out (.inl h4)]; exact hv1 k h3 h4
  have hhigh : ∀ k, m <= k -> k < e' -> g us p < g zs k := hz.all (Q := fun v => g us p < v) h2
  refine hG7 zs (hP8.trans' hz (by omega) (by omega) (by omega)) fun i j h3 h4 h5 => ?_
  by_cases hj : j < m
  ·rw [hlow i h3 (by omega), hlow j (by omega) hj]; exact Int.le_refl _
  ·by_cases hi : i < m
   ·rw [hlow i h3 hi]
    have := hhigh j (by omega) h5
    omega
   ·exact hSz i j (by omega) h4 h5
/-- slices.Sort -/
theorem SO.sorted {ys : List El} (h : SO ys 0 ys.length) : ys.Pairwise (fun x y => key x <= key y) := by
 rw [List.pairwise_iff_getElem]
 intro i j hi hj hij
 have := h i j (Nat.zero_le _) hij hj
 have e1 := ge_eq hi; have e2 := ge_eq hj
 rw [List.getElem?_eq_getElem hi] at e1
 rw [List.getElem?_eq_getElem hj] at e2
 rw [Option.some.injEq] at e1 e2
 rw [e1, e2]; exact this
theorem c125e (cl : Nat × Array Value) (s : Sl) (w : World) : CW Tryz.prog 204 #[slV s, iv 0, iv 0, .func (.func cl.1) #[] cl.2] w fun v w' => v = .tuple #[] /\ w = w' := by
 refine F204_ok s (0 : Int) (0 : Int) cl w _ ⟨fun k x W' => x = (1 : Int) /\ w = W', ⟨0, by decide, rfl⟩, ?_⟩
 rintro k _ _ _ ⟨rfl, rfl⟩
 exact IfB.no (by decide) ⟨rfl, rfl⟩
theorem c120e (cl : Nat × Array Value) (s : Sl) (L : Int) (w : World) : CW Tryz.prog 155 #[slV s, iv 0, iv 0, iv L, .func (.func cl.1) #[] cl.2] w fun v w' => v = .tuple #[] /\ w = w' := by
 refine F155_ok s (0 : Int) (0 : Int) L cl w _ ⟨fun k x W => x = ((0 : Int), (0 : Int), L, true, true) /\ w = W, ⟨0, rfl, rfl⟩, ?_⟩
 rintro k _ _ _ ⟨rfl, rfl⟩
 unfold F155j1
 refine IfB.yes (show decide (IntKind.i64.wrap ((0 : Int) - (0 : Int)) <= (12 : Int)) = true by decide) ((c125e cl s w).use ?_)
 rintro _ _ ⟨rfl, rfl⟩
 exact ⟨(), rfl, rfl, rfl⟩
theorem c88 {cl : Nat × Array Value} (hcp : CmpP cl) {w : World} {s : Sl} {xs : List El} (h : OwS w s 3 (xs.flatMap sv)) (hl : xs.length <= 1000000) (hq : ∀ x ∈ xs, Q x) :
  CW Tryz.prog 88 #[slV s, .func (.func cl.1) #[] cl.2] w fun v w' => v = .tuple #[] /\ ∃ ys : List El, ys.Perm xs /\ ys.Pairwise (fun x y => key x <= key y) /\ OwS w' s 3 (ys.flatMap sv) /\ Ch (fun i => i ∈ blk s) w w' := by
 have hn := owsN sv_len (by omega) h
 refine F88_ok s cl w _ ?_
 unfold F88
 rw [show (s.2 : Int) = ((xs.length : Nat) : Int) by show (s.n : Int) = _; rw [hn], wu64 (by omega)]
 refine (c156 hl w).use ?_
 rintro _ _ ⟨L, rfl, hL, rfl⟩
 refine ⟨_, rfl, ?_⟩
 by_cases h0 : xs.length = 0
 ·have : xs = [] := List.length_eq_zero_iff.1 h0
  subst this
  refine (c120e cl s L w).use ?_
  rintro _ _ ⟨rfl, rfl⟩
  exact ⟨(), rfl, rfl, [], .refl _, .nil, h, Ch.refl _ _⟩
 ·obtain ⟨b, hA, hb⟩ := Ar.of h (by omega) hl hq
  refine (c155 hcp _ (L : Int) rfl hA (Nat.le_refl _) (Nat.zero_le _) (fun h0 => absurd h0 (by decide))).use ?_
  rintro _ W2 ⟨rfl, ys, hP, hS, hA2, hC2⟩
  have hyl := hP.len
  exact ⟨(), rfl, rfl, ys, hP.perm, SO.sorted (by rw [hyl]; exact hS), hA2.own, hC2.mono fun i _ hi => by rw [hb]; simpa using hi⟩
end Go.Proofs.YtlpgdngcgbeegaaGreat.Gx.SfA
/- Package rsg: order of arcs; arcs between two nodes; the own arc. -/
namespace Go.Proofs.YtlpgdngcgbeegaaGreat.Gx
open Go
set_option linter.unusedSimpArgs false
set_option linter.unusedVariables false
abbrev ArcD := Int × Int × Int
abbrev aC (x : ArcD) : List Value := [.int .i64 x.1, .int .i64 x.2.1, .int .i64 x.2.2]
theorem aC_len (x : ArcD) : (aC x).length = 3 := rfl
theorem aC_one (x : ArcD) : One (aC x) := by intro v hv; simp at hv; rcases hv with rfl | rfl | rfl <;> rfl
theorem cmpZ (x y : Int) (w : World) : CW Tryz.prog 158 #[.int .i64 x, .int .i64 y] w fun v w' => ∃ n : Int, v = iv n /\ (n < 0 ↔ x < y) /\ (n = 0 ↔ x = y) /\ w = w' := by
 refine F158_ok _ _ _ _ ((c214 x w).use ?_)
 rintro _ _ ⟨rfl, rfl⟩
 refine ⟨false, rfl, (c214 y w).use ?_⟩
 rintro _ _ ⟨rfl, rfl⟩
 refine ⟨false, rfl, IfB.no rfl (IfB.no rfl (IfB.dec (fun h => ⟨_, rfl, by simp; omega, by simp; omega, rfl⟩) fun h => IfB.dec (fun h' => ⟨_, rfl, by simp; omega, by simp; omega, rfl⟩) fun h' => ⟨_, rfl, by simp; omega, by simp; omega, rfl⟩))⟩
def orI : List Int -> Int
 | [] => 0
 | x :: l => if x ≠ 0 then x else orI l
theorem c157 {w : World} {t : Sl} {xs : List Int} (h : Rd w t 1 (xs.map iv)) (hl : xs.length <= 1000000) : CW Tryz.prog 157 #[slV t] w fun v w' => v = iv (orI xs) /\ w = w' := by
 have hn := rdI h
 refine F157_ok t w _ ⟨fun m z W => ∃ k : Nat, k <= xs.length /\ m + k = xs.length /\ z = (k : Int) /\ orI xs = orI (xs.drop k) /\ w = W, ⟨_, 0, Nat.zero_le _, rfl, rfl, rfl, rfl⟩, ?_⟩
 rintro m _ _ g ⟨k, hk, hm, rfl, ho, rfl⟩
 unfold F157j1
 refine IfB.dec (fun hlt => ?_) fun hge => ?_
 ·have hk' : k < xs.length := by omega
  have hx : xs[k]? = some xs[k] := List.getElem?_eq_getElem hk'
  have hd := List.drop_eq_getElem_cons hk'
  generalize xs[k] = y at hx hd
  obtain ⟨b, o, hp, hc⟩ := h.elem1 (i := k) (v := iv y) (by rw [List.getElem?_map, hx]; rfl)
  have ho : orI xs = if y ≠ 0 then y else orI (xs.drop (k + 1)) := by rw [ho, hd, orI]
  refine ⟨b, o, hp, ⟨by omega, by omega⟩, y, by rw [Int.toNat_natCast]; exact hc, IfB.intro (fun h1 => ⟨?_, rfl⟩) fun h1 => ⟨rfl, m - 1, by omega, k + 1, hk', by omega, by rw [wrap_of (by omega) (by omega)]; rfl, ?_, rfl⟩⟩
  ·have h1 : y ≠ 0 := by simpa using h1
   rw [if_pos h1] at ho
   rw [ho]
  ·have h1 : ¬ y ≠ 0 := by simpa using h1
   rw [if_neg h1] at ho
   exact ho
 ·have hk' : k = xs.length := by omega
  subst hk'
  rw [List.drop_length] at ho
  exact ⟨by rw [ho]; rfl, rfl⟩
theorem c89 : SfA.CmpP (89, #[]) := by
 intro x y w hx hy
 refine F89_ok x y w _ fun b1 w2 a2 b3 w4 a4 => ?_
 have e4 : Ext w w4 := (a2.ch _).trans (a4.ch _)
 have ed := extDrew w4
 have q1 := fun (o : Nat) => boxAt (cs := aC x) (a4.at a2.new) o ed
 have q3 := fun (o : Nat) => boxAt (cs := aC y) a4.new o ed
 refine ⟨_, q1 0, _, q3 0, _, q1 1, _, q3 1, _, q1 2, _, q3 2, (cmpZ x.1 y.1 _).use ?_⟩
 rintro _ _ ⟨n1, rfl, h1, z1, rfl⟩
 refine ⟨n1, rfl, q3 2, q1 2, q3 1, q1 1, (cmpZ x.2.1 y.2.1 _).use ?_⟩
 rintro _ _ ⟨n2, rfl, h2, z2, rfl⟩
 refine ⟨n2, rfl, q3 2, q1 2, (cmpZ x.2.2 y.2.2 _).use ?_⟩
 rintro _ _ ⟨n3, rfl, h3, z3, rfl⟩
 refine ⟨n3, rfl, by decide, fun b20 w21 a21 => ?_⟩
 refine (c157 (xs := [n1, n2, n3]) (OwS.new (sz := 1) (n := 3) (cs := [iv n1, iv n2, iv n3]) a21 rfl).rd (by simp)).use ?_
 rintro _ _ ⟨rfl, rfl⟩
 refine ⟨_, rfl, _, rfl, ?_, (e4.trans ed).trans (a21.ch _)⟩
 obtain ⟨k1, k2, k3⟩ := hx
 obtain ⟨g1, g2, g3⟩ := hy
 unfold SfA.key
 simp only [orI]
 split
 ·omega
 ·split
  ·omega
  ·split <;> omega
/-- Arcs between two nodes. -/
def BtwP (x : CatD) (hs : List Nd) (a b : Nat) (xs : List ArcD) : Prop := ∃ na nb l f, hs[a]? = some na /\ hs[b]? = some nb /\ LstP x hs a nb.v.2.1 l /\ FstP x hs b na.v.2.1 f /\ xs = [((a : Int), (b : Int), 2), ((l : Int), (b : Int), 3), ((a : Int), (f : Int), 4)]
theorem c87 {w : World} {v : CatV} {x : CatD} {t : Sl} {hs : List Nd} (h : CatM w v x) (hH : Hst w t hs) (hM : HMay x hs) {a b : Nat} (ha : a < hs.length) (hb : b < hs.length) :
  CW Tryz.prog 87 #[cxV v, slV t, iv a, iv b] w fun r w' => ∃ t' xs, r = slV t' /\ BtwP x hs a b xs /\ OwS w' t' 3 (xs.flatMap aC) /\ Ext w w' /\ ∀ j ∈ blk t', w.heap.size <= j := by
 have htn := hH.n
 have ga : hs[a]? = some hs[a] := List.getElem?_eq_getElem ha
 have gb : hs[b]? = some hs[b] := List.getElem?_eq_getElem hb
 generalize hs[a] = na at ga
 generalize hs[b] = nb at gb
 have oa := hM.ok a na ga
 have ob := hM.ok b nb gb
 refine F87_ok v t (a : Int) (b : Int) w _ fun b1 w2 a2 => ?_
 have e2 : Ext w w2 := a2.ch _
 have ed := extDrew w2
 have E2 := e2.trans ed
 obtain ⟨p1, o1, hp1, hc1⟩ := (hH.ext E2).at gb
 refine ⟨v, cxN h a2.new ed, p1, o1, hp1, ⟨by omega, by omega⟩, nb.v.2.1, by rw [Int.toNat_natCast]; exact hc1 1 _ rfl, (c154 (h.ext E2) (hH.ext E2) hM ha ⟨ob.c0, ob.cn⟩).use ?_⟩
 rintro _ w10 ⟨f1, l1, rfl, _, hl1, e10⟩
 have ed10 := extDrew w10
 have x10 : Ext w2 w10.drew := (ed.trans e10).trans ed10
 have E10 := e2.trans x10
 obtain ⟨p2, o2, hp2, hc2⟩ := (hH.ext E10).at ga
 refine ⟨((f1 : Int), (l1 : Int)), rfl, v, cxN h a2.new x10, p2, o2, hp2, ⟨by omega, by omega⟩, na.v.2.1, by rw [Int.toNat_natCast]; exact hc2 1 _ rfl, (c154 (h.ext E10) (hH.ext E10) hM hb ⟨oa.c0, oa.cn⟩).use ?_⟩
 rintro _ w19 ⟨f2, l2, rfl, hf2, _, e19⟩
 refine ⟨((f2 : Int), (l2 : Int)), rfl, by decide, fun b21 w22 a22 => ⟨⟨some ⟨b21, 0, none⟩, 3, 3⟩, [((a : Int), (b : Int), 2), ((l1 : Int), (b : Int), 3), ((a : Int), (f2 : Int), 4)], rfl, ⟨na, nb, l1, f2, ga, gb, hl1, hf2, rfl⟩, OwS.new (sz := 3) (n := 3) a22 rfl, (E10.trans e19).trans (a22.ch _), fun j hj => ?_⟩⟩
 have hj : j = b21 := by simpa [blk] using hj
 have := a22.here; have := (E10.trans e19).size
 omega
/-- The own arc. -/
def OwnA (hs : List Nd) (i : Nat) (xs : List ArcD) : Prop := ∃ n, hs[i]? = some n /\ ((xs = [] /\ ∀ k m, k < i -> hs[k]? = some m -> m.v.1 ≠ n.v.1) \/ ∃ k m, k < i /\ hs[k]? = some m /\ m.v.1 = n.v.1 /\ xs = [((k : Int), (i : Int), 1)] /\ ∀ j m, k < j -> j < i -> hs[j]? = some m -> m.v.1 ≠ n.v.1)
theorem c86 {w : World} {t : Sl} {hs : List Nd} (hH : Hst w t hs) {i : Nat} (hi : i < hs.length) :
  CW Tryz.prog 86 #[slV t, iv i] w fun r w' => ∃ t' xs, r = slV t' /\ OwnA hs i xs /\ OwS w' t' 3 (xs.flatMap aC) /\ Ext w w' /\ ∀ j ∈ blk t', w.heap.size <= j := by
 have htn := hH.n
 have hlen := hH.len
 have hcap := hH.cap
 have ga : hs[i]? = some hs[i] := List.getElem?_eq_getElem hi
 generalize hs[i] = n at ga
 refine F86_ok t (i : Int) w _ fun b1 w2 a2 b3 w4 a4 b5 w6 a6 => ?_
 obtain ⟨T1, a2⟩ : ∃ T, IsAlloc w (.cells #[slV t] T (0, 0)) b1 w2 := ⟨_, a2⟩
 obtain ⟨T5, a6⟩ : ∃ T, IsAlloc w4 (.cells #[slV ⟨none, 0, 0⟩] T (0, 0)) b5 w6 := ⟨_, a6⟩
 have z2 := a2.size; have z4 := a4.size; have z6 := a6.size
 have p2 := a2.here; have p4 := a4.here; have p6 := a6.here
 have e6 : Ext w w6 := ((a2.ch _).trans (a4.ch _)).trans (a6.ch _)
 have k1 := a6.at (a4.at a2.new)
 have k3 := a6.at a4.new
 have k5 := a6.new
 refine ⟨t, by rw [cell_of k1]; rfl, (i : Int), by rw [cell_of k3]; rfl, ⟨by omega, by omega⟩, ?_⟩
 rw [Int.toNat_natCast, slAddr_zero]
 refine (c153 ⟨t.p, i, t.c⟩ w6).use ?_
 rintro _ w10 ⟨pb, T, rfl, a10⟩
 have p10 := a10.here; have z10 := a10.size
 have x10 : Ext w6 w10 := a10.ch _
 have e10 : Ext w w10 := e6.trans x10
 refine ⟨(203, #[.pointer (some ⟨pb, 0, none⟩)]), rfl, fun g => ?_⟩
 obtain ⟨vs, hvs⟩ : ∃ vs, vs = (hs.take i).map (·.v) := ⟨_, rfl⟩
 have hvl : vs.length = i := by rw [hvs, List.length_map, List.length_take]; omega
 have hvf : (hs.take i).flatMap nL = vs.flatMap nC := by rw [hvs, List.flatMap_map]
 have hcut := (hH.ext e10).cut (k := i) (by omega)
 let Bx : World -> Prop := fun W => W.heap[b1]? = some (.cells #[slV t] T1 (0, 0)) /\ W.heap[b3]? = some (.cells #[iv i] 3 (0, 0))
 let nil5 : World -> Prop := fun W => W.heap[b5]? = some (.cells #[slV ⟨none, 0, 0⟩] T5 (0, 0))
 refine range_none tbOk mixed (gf := 203) (lb := #[.pointer (some ⟨pb, 0, none⟩)]) rfl (itB pb ⟨t.p, i, t.c⟩ vs (by omega)) R86_0ok1 R86_0ok2 R86_0okp (fun _ => rfl)
  (fun pre W => pre.length <= i /\ InvB pb ⟨t.p, i, t.c⟩ vs W /\ (∀ k m, i - pre.length <= k -> k < i -> hs[k]? = some m -> m.v.1 ≠ n.v.1) /\ Bx W /\ nil5 W /\ Ext w W)
  (fun c pre W => c = .ret /\ ∃ t' xs, OwnA hs i xs /\ OwS W t' 3 (xs.flatMap aC) /\ W.heap[b5]? = some (.cells #[slV t'] T5 (0, 0)) /\ (∀ j ∈ blk t', w10.heap.size + 2 <= j) /\ Ext w W) ?_ ?_ (fun _ _ h => h.2.1) (fun h => by cases h) ?_ ?_ ?_ ?_
 ·rintro pre A B ⟨h1, h2, h3, ⟨q1, q3⟩, q5, h6⟩ hS
  exact ⟨h1, h2.stb hS, h3, ⟨hS.keep _ _ q1 rfl, hS.keep _ _ q3 rfl⟩, hS.keep _ _ q5 rfl, h6.stbE hS (by omega)⟩
 ·rintro c pre A B ⟨h1, t', xs, h2, h3, h4, h5, h6⟩ hS
  exact ⟨h1, t', xs, h2, h3.stb hS, hS.keep _ _ h4 rfl, h5, h6.stbE hS (by omega)⟩
 ·exact ⟨Nat.zero_le _, ⟨⟨T, a10.new⟩, by rw [<- hvf]; exact hcut.rd⟩, fun k m h1 h2 => by simp at h1; omega, ⟨x10.at k1, x10.at k3⟩, x10.at k5, e10⟩
 ·rintro pre ⟨xi, xv⟩ W ⟨hpl, hIB, hno, ⟨q1, q3⟩, q5, hX⟩ ⟨k, hk, hxi, hxv⟩ hW
  dsimp only at hxi hxv
  subst hxi
  have hki : k < i := by omega
  have hnd : hs[k]? = some hs[k] := List.getElem?_eq_getElem (by omega)
  generalize hs[k] = nd at hnd
  have hxe : xv = nd.v := by
   rw [hvs, List.getElem?_map, List.getElem?_take_of_lt hki, hnd] at hxv
   exact (Option.some.inj hxv).symm
  subst hxe
  refine F86b0_ok b1 b3 b5 (203, #[.pointer (some ⟨pb, 0, none⟩)]) (k : Int) nd.v _ _ _ _ _ W ?_
  refine boxNd rfl fun bb w3 hbb hs3 h3 e3 hS3 => ⟨rfl, ⟨e3.old _ (by omega) id, e3.old _ (by omega) id⟩, fun w12 hS hIt hL' => ?_⟩
  have zS := hS.size
  have e12 : Ext w w12 := (hX.trans e3).stbE hS (by omega)
  have r1 := hS.keep _ _ (e3.at q1) rfl
  have r3 := hS.keep _ _ (e3.at q3) rfl
  have r5 := hS.keep _ _ (e3.at q5) rfl
  have rb := hS.keep _ _ h3 rfl
  have hIB12 := (hIB.stb (hS3 w10.heap.size (by omega))).stb hS
  have hItW : Its W w12 := (Its.ext e3).trans hIt
  have ed := extDrew w12
  have ed' : Ext w12 w12.drew := ed
  have E12 : Ext w w12.drew := e12.trans ed
  obtain ⟨pa, oa, hpa, hca⟩ := (hH.ext E12).at ga
  refine ⟨_, boxAt (cs := nC nd.v) rb 0 ed, t, by rw [cell_of (ed'.at r1)]; rfl, (i : Int), by rw [cell_of (ed'.at r3)]; rfl, pa, oa, hpa, ⟨by omega, by omega⟩, n.v.1, by rw [Int.toNat_natCast]; exact hca 0 _ rfl, IfB.intro (fun hq => ⟨(i : Int), by rw [cell_of (ed'.at r3)]; rfl, by decide, fun b26 w27 a27 => ?_⟩) fun hq => ?_⟩
  ·have hq : nd.v.1 = n.v.1 := by simpa using hq
   have p27 := a27.here; have z27 := a27.size
   have zd : w12.drew.heap.size = w12.heap.size := rfl
   have e27 : Ext w12 w27 := ed'.trans (a27.ch _)
   refine ⟨rfl, store_one (e27.at r5) (by simp) rfl fun w28 u28 => ⟨⟨?_, ?_⟩, rfl, ⟨some ⟨b26, 0, none⟩, 1, 1⟩, [((k : Int), (i : Int), 1)], ⟨n, ga, .inr ⟨k, nd, hki, hnd, hq, rfl, fun j m h1 h2 h3 => hno j m (by omega) h2 h3⟩⟩, ?_, u28.new, fun j hj => ?_, (e12.trans e27).chN u28.ch fun j e => by omega⟩⟩
   ·exact (u28.old _ (by omega)).trans (e27.old _ (by omega) id)
   ·exact (u28.old _ (by omega)).trans (e27.old _ (by omega) id)
   ·exact (OwS.new (sz := 3) (n := 1) (cs := aC ((k : Int), (i : Int), 1)) a27 rfl).ch u28.ch fun j hj e => by
     have hj : j = b26 := by simpa [blk] using hj
     omega
   ·have hj : j = b26 := by simpa [blk] using hj
    omega
  ·have hq : ¬ nd.v.1 = n.v.1 := by simpa using hq
   refine ⟨⟨rfl, rfl⟩, ⟨by simp; omega, ⟨⟨_, ed'.at hIB12.box.choose_spec⟩, hIB12.rd.ext ed⟩, fun j m h1 h2 h3 => ?_, ⟨ed'.at r1, ed'.at r3⟩, ed'.at r5, E12⟩, hItW.trans (Its.ext ed)⟩
   rw [List.length_append, List.length_singleton] at h1
   rcases Nat.lt_or_ge k j with h' | h'
   ·exact hno j m (by omega) h2 h3
   ·have : j = k := by omega
    subst this
    rw [hnd] at h3; cases h3; exact hq
 ·rintro xs W hfin ⟨h1, h2, hno, ⟨q1, q3⟩, q5, hX⟩ hD
  have hxl : xs.length = i := by rw [hfin, hvl]
  refine ⟨rfl, store_one q5 (by simp) rfl fun w15 u15 => ?_⟩
  refine marks_one (u15.at hD (by omega)) fun w16 u16 => ?_
  exact ⟨⟨none, 0, 0⟩, by rw [cell_of (u16.at u15.new (by omega))]; rfl, ⟨none, 0, 0⟩, [], rfl, ⟨n, ga, .inl ⟨rfl, fun k m h1 h2 => hno k m (by omega) h1 h2⟩⟩, .nil _ _, (hX.chN u15.ch fun j e => by omega).chN u16.ch fun j e => by omega, by simp [blk]⟩
 ·rintro c pre W ⟨rfl, t', xs, h2, h3, h4, h5, h6⟩ hD
  refine marks_one hD fun w20 u20 => ⟨t', by rw [cell_of (u20.at h4 (by omega))]; rfl, t', xs, rfl, h2, h3.ch u20.ch fun j hj e => ?_, h6.chN u20.ch fun j e => by omega, fun j hj => by have := h5 j hj; omega⟩
  have := h5 j hj; omega
end Go.Proofs.YtlpgdngcgbeegaaGreat.Gx
/- slices.Compact of arcs. -/
namespace Go.Proofs.YtlpgdngcgbeegaaGreat.Gx
open Go
set_option linter.unusedSimpArgs false
set_option linter.unusedVariables false
theorem eqArc (x y : ArcD) : EqAt Tryz.prog 44 (.agg (aC x).toArray) (.agg (aC y).toArray) (x == y) := by
 have h := eqAt_struct tbOk (d := 2) (by decide) (t := 44) (xs := #[.int .i64 x.1, .int .i64 x.2.1, .int .i64 x.2.2]) (ys := #[.int .i64 y.1, .int .i64 y.2.1, .int .i64 y.2.2]) (b := (x.1 == y.1) && ((x.2.1 == y.2.1) && ((x.2.2 == y.2.2) && true))) (by kernel_rfl) (by kernel_rfl)
 have e : (x == y) = ((x.1 == y.1) && ((x.2.1 == y.2.1) && ((x.2.2 == y.2.2) && true))) := by rw [Bool.and_true]; rfl
 rw [e]; exact h
section
variable {α : Type} [DecidableEq α]
def cpt1 : α -> List α -> List α
 | _, [] => []
 | p, y :: l => if y = p then cpt1 y l else y :: cpt1 y l
def cptL : List α -> List α
 | [] => []
 | x :: l => x :: cpt1 x l
theorem cpt1_mem : ∀ {l : List α} {p x : α}, x ∈ p :: cpt1 p l ↔ x ∈ p :: l
 | [], p, x => Iff.rfl
 | y :: l, p, x => by
  unfold cpt1
  have ih := cpt1_mem (l := l) (p := y) (x := x)
  simp only [List.mem_cons] at ih
  by_cases h : y = p
  ·rw [if_pos h]
   subst h
   simp only [List.mem_cons, ih]
   constructor
   ·rintro (h | h) <;> simp [h]
   ·rintro (h | h | h) <;> simp [h]
  ·rw [if_neg h]
   simp only [List.mem_cons, ih]
theorem cptL_mem {l : List α} {x : α} : x ∈ cptL l ↔ x ∈ l := by
 cases l with
 | nil => rfl
 | cons y l => exact cpt1_mem
theorem cpt1_sorted {key : α -> Int} : ∀ {l : List α} {p : α}, (∀ x y, x ∈ p :: l -> y ∈ p :: l -> key x = key y -> x = y) -> (p :: l).Pairwise (fun x y => key x <= key y) -> (p :: cpt1 p l).Pairwise (fun x y => key x < key y)
 | [], p, _, _ => by simp [cpt1]
 | y :: l, p, hinj, h => by
  obtain ⟨h1, h2⟩ := List.pairwise_cons.1 h
  unfold cpt1
  have ih := cpt1_sorted (key := key) (fun a b ha hb => hinj a b (List.mem_cons_of_mem _ ha) (List.mem_cons_of_mem _ hb)) h2
  by_cases he : y = p
  ·rw [if_pos he]; subst he; exact ih
  ·rw [if_neg he]
   refine List.pairwise_cons.2 ⟨fun z hz => ?_, ih⟩
   have hpy := h1 y (by simp)
   have hne : key p ≠ key y := fun hk => he (hinj p y (by simp) (by simp) hk).symm
   have hyz := cpt1_mem.1 hz
   rcases List.mem_cons.1 hyz with rfl | hz'
   ·omega
   ·have := (List.pairwise_cons.1 h2).1 z hz'; omega
theorem cptL_sorted {key : α -> Int} {l : List α} (hinj : ∀ x y, x ∈ l -> y ∈ l -> key x = key y -> x = y) (h : l.Pairwise (fun x y => key x <= key y)) : (cptL l).Pairwise (fun x y => key x < key y) := by
 cases l with
 | nil => exact .nil
 | cons x l => exact cpt1_sorted hinj h
theorem cpt1_len : ∀ (l : List α) (p : α), (cpt1 p l).length <= l.length
 | [], _ => Nat.le_refl _
 | y :: l, p => by
  unfold cpt1
  have := cpt1_len l y
  split
  ·rw [List.length_cons]; omega
  ·rw [List.length_cons, List.length_cons]; omega
theorem cptL_len (l : List α) : (cptL l).length <= l.length := by
 cases l with
 | nil => exact Nat.le_refl _
 | cons x l => have := cpt1_len l x; simp only [cptL, List.length_cons]; omega
theorem cpt1_append : ∀ (l : List α) (p y : α), cpt1 p (l ++ [y]) = cpt1 p l ++ if (p :: l).getLast? = some y then [] else [y]
 | [], p, y => by
  simp only [List.nil_append, cpt1, List.getLast?_singleton, Option.some.injEq]
  by_cases h : y = p
  ·rw [if_pos h, if_pos h.symm]
  ·rw [if_neg h, if_neg fun e => h e.symm]
 | x :: l, p, y => by
  rw [List.cons_append]
  unfold cpt1
  rw [cpt1_append l x y, List.getLast?_cons_cons]
  split <;> rfl
theorem cptL_append {l : List α} {y : α} : cptL (l ++ [y]) = cptL l ++ if l.getLast? = some y then [] else [y] := by
 cases l with
 | nil => rfl
 | cons x l =>
  show x :: cpt1 x (l ++ [y]) = (x :: cpt1 x l) ++ _
  rw [cpt1_append]; rfl
end
theorem c90 {w : World} {t : Sl} {xs : List ArcD} (ho : OwS w t 3 (xs.flatMap aC)) (hl : xs.length <= 1000000) : CW Tryz.prog 90 #[slV t] w fun v w' => ∃ t', v = slV t' /\ OwS w' t' 3 ((cptL xs).flatMap aC) /\ t'.p = t.p /\ Ch (fun i => i ∈ blk t) w w' := by
 have hn := owsN aC_len (by omega) ho
 have hcap := ho.cap
 refine F90_ok t w _ (IfB.dec (fun h2 => ?_) fun h2 => ?_)
 ·have : cptL xs = xs := by
   match xs, hn with
   | [], _ => rfl
   | [x], _ => rfl
   | x :: y :: l, hn => simp at hn; omega
  exact ⟨t, rfl, by rw [this]; exact ho, rfl, Ch.refl _ _⟩
 ·have hx2 : 2 <= xs.length := by omega
  obtain ⟨b, hp⟩ := ho.ptr (by omega)
  have hbk : blk t = [b] := by simp [blk, hp]
  have last_take : ∀ {m : Nat} {x : ArcD}, xs[m]? = some x -> (xs.take (m + 1)).getLast? = some x := fun h => by rw [take_succ_get h, List.getLast?_append]; rfl
  have step : ∀ {m : Nat} {x y : ArcD}, xs[m]? = some x -> xs[m + 1]? = some y -> cptL (xs.take (m + 2)) = cptL (xs.take (m + 1)) ++ if x = y then [] else [y] := fun hx hy => by
   rw [take_succ_get hy, cptL_append, last_take hx]
   simp
  refine ⟨fun n x W => ∃ k : Nat, x = (k : Int) /\ 1 <= k /\ n + k = xs.length /\ cptL (xs.take k) = xs.take k /\ Ext w W, ⟨xs.length - 1, 1, rfl, by omega, by omega, ?_, Ch.refl _ _⟩, ?_⟩
  ·match xs, hx2 with
   | x :: y :: l, _ => rfl
  ·rintro n _ W g ⟨k, rfl, hk1, hnk, hcp, eW⟩
   unfold F90j1
   refine IfB.dec (fun hlt => ?_) fun hge => ?_
   ·have hk : k < xs.length := by omega
    obtain ⟨m, rfl⟩ : ∃ m, k = m + 1 := ⟨k - 1, by omega⟩
    have hy : xs[m + 1]? = some xs[m + 1] := List.getElem?_eq_getElem hk
    have hx : xs[m]? = some (xs[m]'(by omega)) := List.getElem?_eq_getElem _
    generalize xs[m + 1] = y at hy
    generalize xs[m]'(by omega) = x at hx
    have hst := step hx hy
    have ed := extDrew W
    have eW' := eW.trans ed
    obtain ⟨a, ha, hcy⟩ := (ho.ext eW').elem (i := m + 1) (by omega) (flatGet aC_len hy)
    obtain ⟨a', ha', hcx⟩ := (ho.ext eW').elem (i := m) (by omega) (flatGet aC_len hx)
    rw [hp] at ha ha'; cases ha; cases ha'
    have hm1 : IntKind.i64.wrap (((m + 1 : Nat) : Int) - (1 : Int)) = (m : Int) := by rw [wrap_of (by omega) (by omega)]; omega
    rw [hm1]
    refine ⟨b, 0, hp, ⟨by omega, hlt⟩, y, by rw [Int.toNat_natCast, Nat.zero_add]; exact hcy, b, 0, hp, ⟨by omega, by omega⟩, x, by rw [Int.toNat_natCast, Nat.zero_add]; exact hcx, _, eqArc y x, IfB.intro (fun he => ?_) fun he => ?_⟩
    ·have he : y = x := by simpa using he
     subst he
     rw [if_pos rfl, List.append_nil, hcp] at hst
     refine ⟨⟨by omega, by omega⟩, ?_⟩
     refine ⟨fun n' x' W' => ∃ (j : Nat) (gs : List ArcD), 1 <= j /\ n' + (m + 1 + j) = xs.length /\ (cptL (xs.take (m + 1 + j))).length + gs.length = m + j /\ x' = (((cptL (xs.take (m + 1 + j))).length : Int), (j : Int)) /\ OwS W' t 3 ((cptL (xs.take (m + 1 + j)) ++ gs ++ xs.drop (m + j)).flatMap aC) /\ Ch (fun i => i ∈ blk t) w W',
      ⟨xs.length - (m + 2), 1, [], by omega, by omega, ?_, ?_, ?_, eW'.mono fun _ _ h => h.elim⟩, ?_⟩
     ·rw [hst, List.length_take]; simp; omega
     ·rw [hst, List.length_take, Nat.min_eq_left (by omega)]; rfl
     ·rw [hst, List.append_nil, List.take_append_drop]; exact ho.ext eW'
     ·rintro n' _ W' g' ⟨j, gs, hj1, hnj, hlen, rfl, hO, hC⟩
      generalize hkd : cptL (xs.take (m + 1 + j)) = kd at hlen hO
      have hsa : slAddr t.p t.c (((m + 1 : Nat) : Int)).toNat 3 = some ⟨b, (m + 1) * 3, none⟩ := by
       rw [Int.toNat_natCast, hp, slAddr_some, if_neg (by omega)]; simp
      unfold F90j2
      refine IfB.dec (fun hlt' => ?_) fun hge' => ?_
      ·rw [Int.toNat_natCast] at hlt'
       have hlt'' : m + 1 + j < xs.length := by dsimp only at hlt'; omega
       have hz : xs[m + 1 + j]? = some xs[m + 1 + j] := List.getElem?_eq_getElem hlt''
       have hv : xs[m + j]? = some (xs[m + j]'(by omega)) := List.getElem?_eq_getElem _
       have hd1 : xs.drop (m + j) = xs[m + j]'(by omega) :: xs.drop (m + 1 + j) := by rw [show m + 1 + j = m + j + 1 by omega]; exact List.drop_eq_getElem_cons _
       have hd2 : xs.drop (m + 1 + j) = xs[m + 1 + j] :: xs.drop (m + 1 + (j + 1)) := by rw [show m + 1 + (j + 1) = m + 1 + j + 1 by omega]; exact List.drop_eq_getElem_cons _
       generalize xs[m + 1 + j] = z at hz hd2
       generalize xs[m + j]'(by omega) = v at hv hd1
       have hst2 : cptL (xs.take (m + 1 + (j + 1))) = kd ++ if v = z then [] else [z] := by
        have := step (m := m + j) hv (by rw [show m + j + 1 = m + 1 + j by omega]; exact hz)
        rw [show m + j + 2 = m + 1 + (j + 1) by omega, show m + j + 1 = m + 1 + j by omega, hkd] at this
        exact this
       have hLz : (kd ++ gs ++ xs.drop (m + j))[m + 1 + j]? = some z := by
        rw [List.getElem?_append_right (by rw [List.length_append]; omega), List.length_append, show m + 1 + j - (kd.length + gs.length) = 1 by omega, hd1, hd2]; rfl
       have hLv : (kd ++ gs ++ xs.drop (m + j))[m + j]? = some v := by
        rw [List.getElem?_append_right (by rw [List.length_append]; omega), List.length_append, show m + j - (kd.length + gs.length) = 0 by omega, hd1]; rfl
       have ed' := extDrew W'
       have hOd := hO.ext ed'
       obtain ⟨a, ha, hcz⟩ := hOd.elem (i := m + 1 + j) (by omega) (flatGet aC_len hLz)
       obtain ⟨a', ha', hcv⟩ := hOd.elem (i := m + j) (by omega) (flatGet aC_len hLv)
       rw [hp] at ha ha'; cases ha; cases ha'
       have hj1' : IntKind.i64.wrap ((j : Int) - (1 : Int)) = ((j - 1 : Nat) : Int) := wm1 (by omega) (by omega)
       have hL : (kd ++ gs ++ xs.drop (m + j)).length = xs.length := by rw [List.length_append, List.length_append, List.length_drop]; omega
       dsimp only
       rw [hj1', hsa]
       simp only [Int.toNat_natCast]
       have hzc : CellsAt W'.drew b ((m + 1) * 3 + j * 3) (aC z) := by rw [show (m + 1) * 3 + j * 3 = (m + 1 + j) * 3 by omega]; exact hcz
       have hvc : CellsAt W'.drew b ((m + 1) * 3 + (j - 1) * 3) (aC v) := by rw [show (m + 1) * 3 + (j - 1) * 3 = (m + j) * 3 by omega]; exact hcv
       refine ⟨b, (m + 1) * 3, rfl, ⟨by omega, by omega⟩, z, hzc, b, (m + 1) * 3, rfl, ⟨by omega, by omega⟩, v, hvc, _, eqArc z v, IfB.intro (fun hne => ?_) fun heq => ?_⟩
       ·have hne : z ≠ v := by simpa using hne
        rw [if_neg (fun h => hne h.symm)] at hst2
        refine ⟨b, (m + 1) * 3, rfl, ⟨by omega, by omega⟩, z, hzc, b, 0, hp, ⟨by omega, by show (kd.length : Int) < (t.n : Int); omega⟩, rfl, ?_⟩
        rw [Nat.zero_add]
        refine hOd.store (vs := aC z) hp (by rw [aC_len]; omega) (aC_one z) fun w32 hO32 hC32 => ⟨(by trivial), n' - 1, by omega, j + 1, (gs ++ [v]).tail, by omega, by omega, ?_, ?_, ?_, (hC.then ed' fun _ _ h => h.elim).then hC32 fun i _ e => by rw [hbk, e]; simp⟩
        ·rw [hst2]; simp; omega
        ·rw [hst2, wp1 (by omega), wp1 (by omega)]; simp
        ·rw [aC_len, flatSet aC_len (by omega)] at hO32
         rw [hst2]
         have : (kd ++ gs ++ xs.drop (m + j)).set kd.length z = kd ++ [z] ++ (gs ++ [v]).tail ++ xs.drop (m + (j + 1)) := by
          rw [hd1, show m + (j + 1) = m + 1 + j by omega]
          cases gs with
          | nil => simp
          | cons g0 gs => simp
         rw [<- this]; exact hO32
       ·have heq : z = v := by simpa using heq
        subst heq
        rw [if_pos rfl, List.append_nil] at hst2
        refine ⟨(by trivial), n' - 1, by omega, j + 1, gs ++ [z], by omega, by omega, by rw [hst2]; simp; omega, ?_, ?_, hC.then ed' fun _ _ h => h.elim⟩
        ·rw [hst2, wp1 (by omega)]
        ·rw [hst2]
         rw [hd1] at hOd
         rw [show m + (j + 1) = m + 1 + j by omega]
         simpa using hOd
      ·rw [Int.toNat_natCast] at hge'
       dsimp only at hge'
       have hjn : m + 1 + j = xs.length := by omega
       rw [hjn, List.take_length] at hkd
       have hkl : kd.length < t.n := by omega
       refine ⟨⟨by dsimp only; omega, by show (kd.length : Int) <= (t.n : Int); omega⟩, ?_⟩
       dsimp only
       rw [Int.toNat_natCast, hp, slAddr_some]
       have hcut := hO.cut (k := kd.length) (by omega)
       rw [flatTake aC_len, List.append_assoc, List.take_append_of_le_length (Nat.le_refl _), List.take_length] at hcut
       dsimp only
       rw [if_neg (by omega), Nat.zero_add]
       refine hcut.storeTail hp (Nat.le_refl _) (by rw [zc_len]; show kd.length * 3 + (t.n - kd.length) * 3 <= t.c * 3; omega) (zc_one (by intro x hx; simp at hx; rcases hx with rfl | rfl | rfl <;> rfl) _) fun w25 hO25 hC25 => ⟨⟨by omega, by omega⟩, ?_⟩
       rw [<- hp, slAddr_zero]
       exact ⟨⟨t.p, kd.length, t.c⟩, rfl, by rw [hkd]; exact hO25, rfl, hC.then hC25 fun i _ e => by rw [hbk, e]; simp⟩
    ·have hne : x ≠ y := by intro h; subst h; simp at he
     rw [if_neg hne] at hst
     refine ⟨rfl, n - 1, by omega, m + 2, wp1 (by omega), by omega, by omega, ?_, eW'⟩
     rw [hst, hcp, take_succ_get hy]
   ·have : k = xs.length := by omega
    subst this
    rw [List.take_length] at hcp
    exact ⟨t, rfl, by rw [hcp]; exact ho.ext eW, rfl, eW.mono fun _ _ h => h.elim⟩
end Go.Proofs.YtlpgdngcgbeegaaGreat.Gx
/- Package rsg: Arcs. -/
namespace Go.Proofs.YtlpgdngcgbeegaaGreat.Gx
open Go
set_option linter.unusedSimpArgs false
set_option linter.unusedVariables false
theorem aC_all (xs : List ArcD) : One (xs.flatMap aC) := by
 intro v hv
 obtain ⟨x, _, hx⟩ := List.mem_flatMap.1 hv
 exact aC_one x v hx
theorem OwnA.uniq {hs : List Nd} {i : Nat} {xs ys : List ArcD} (h : OwnA hs i xs) (k : OwnA hs i ys) : xs = ys := by
 obtain ⟨n, hn, h⟩ := h
 obtain ⟨n', hn', k⟩ := k
 rw [hn] at hn'; cases hn'
 rcases h with ⟨rfl, h⟩ | ⟨a, ma, a1, a2, a3, rfl, a4⟩ <;> rcases k with ⟨rfl, k⟩ | ⟨b, mb, b1, b2, b3, rfl, b4⟩
 ·rfl
 ·exact absurd b3 (h b mb b1 b2)
 ·exact absurd a3 (k a ma a1 a2)
 ·have : a = b := by
   rcases Nat.lt_trichotomy a b with h' | h' | h'
   ·exact absurd b3 (a4 b mb h' b1 b2)
   ·exact h'
   ·exact absurd a3 (b4 a ma h' a1 a2)
  rw [this]
theorem FstP.uniq {x : CatD} {hs : List Nd} {i : Nat} {d : Int} {f f' : Nat} (h : FstP x hs i d f) (k : FstP x hs i d f') : f = f' := by
 have := h.2 _ k.1; have := k.2 _ h.1; omega
theorem LstP.uniq {x : CatD} {hs : List Nd} {i : Nat} {d : Int} {f f' : Nat} (h : LstP x hs i d f) (k : LstP x hs i d f') : f = f' := by
 have := h.2 _ k.1; have := k.2 _ h.1; omega
theorem BtwP.uniq {x : CatD} {hs : List Nd} {a b : Nat} {xs ys : List ArcD} (h : BtwP x hs a b xs) (k : BtwP x hs a b ys) : xs = ys := by
 obtain ⟨na, nb, l, f, h1, h2, h3, h4, rfl⟩ := h
 obtain ⟨na', nb', l', f', k1, k2, k3, k4, rfl⟩ := k
 rw [h1] at k1; rw [h2] at k2; cases k1; cases k2
 rw [h3.uniq k3, h4.uniq k4]
/-- Two sagas. -/
def TwoP (hs : List Nd) (i k : Nat) : Prop := ∃ a b, hs[i]? = some a /\ hs[k]? = some b /\ b.v.1 ≠ a.v.1
/-- The arcs that the node i brings. -/
def ArcI (x : CatD) (hs : List Nd) (i : Nat) (e : ArcD) : Prop := (∃ xs, OwnA hs i xs /\ e ∈ xs) \/ ∃ k xs, Dp hs i k /\ TwoP hs i k /\ BtwP x hs k i xs /\ e ∈ xs
def ArcIn (x : CatD) (hs : List Nd) (e : ArcD) : Prop := ∃ i, i < hs.length /\ ArcI x hs i e
structure ArcsP (x : CatD) (hs : List Nd) (ys : List ArcD) : Prop where
 srt : ys.Pairwise fun a b => SfA.key a < SfA.key b
 mem : HMay x hs -> ∀ e, e ∈ ys ↔ ArcIn x hs e
 no : ¬ HMay x hs -> ys = []
theorem ArcIn.q {x : CatD} {hs : List Nd} {e : ArcD} (h : ArcIn x hs e) : (0 <= e.1 /\ e.1 < (hs.length : Int)) /\ (0 <= e.2.1 /\ e.2.1 < (hs.length : Int)) /\ 1 <= e.2.2 /\ e.2.2 <= 4 := by
 obtain ⟨i, hi, ⟨xs, ⟨n, hn, h⟩, he⟩ | ⟨k, xs, hd, _, ⟨na, nb, l, f, h1, h2, h3, h4, rfl⟩, he⟩⟩ := h
 ·rcases h with ⟨rfl, _⟩ | ⟨k, m, k1, k2, k3, rfl, _⟩
  ·cases he
  ·rw [List.mem_singleton.1 he]
   exact ⟨⟨by dsimp only; omega, by dsimp only; omega⟩, ⟨by dsimp only; omega, by dsimp only; omega⟩, by dsimp only; omega, by dsimp only; omega⟩
 ·have hk := Dp_lt hd
  have hl := h3.1.lt (by omega)
  have hf := h4.1.lt hi
  simp only [List.mem_cons, List.not_mem_nil, or_false] at he
  rcases he with rfl | rfl | rfl <;> exact ⟨⟨by dsimp only; omega, by dsimp only; omega⟩, ⟨by dsimp only; omega, by dsimp only; omega⟩, by dsimp only; omega, by dsimp only; omega⟩
theorem ArcIn.Q {x : CatD} {hs : List Nd} {e : ArcD} (h : ArcIn x hs e) (hl : hs.length <= 100) : SfA.Q e := by
 obtain ⟨h1, h2, h3⟩ := h.q
 exact ⟨⟨by omega, by omega⟩, ⟨by omega, by omega⟩, by omega, by omega⟩
theorem arcKey_inj {a b : ArcD} (ha : SfA.Q a) (hb : SfA.Q b) (h : SfA.key a = SfA.key b) : a = b := by
 obtain ⟨a1, a2, a3⟩ := a
 obtain ⟨b1, b2, b3⟩ := b
 obtain ⟨h1, h2, h3⟩ := ha
 obtain ⟨g1, g2, g3⟩ := hb
 unfold SfA.key at h
 dsimp only at *
 have e1 : a1 = b1 := by omega
 have e2 : a2 = b2 := by omega
 have e3 : a3 = b3 := by omega
 rw [e1, e2, e3]
set_option maxRecDepth 20000 in
theorem c30 {w : World} {v : CatV} {x : CatD} {t : Sl} {hs : List Nd} (h : CatM w v x) (hH : Hst w t hs) :
  CW Tryz.prog 30 #[cxV v, slV t] w fun r w' => ∃ t' ys, r = slV t' /\ ArcsP x hs ys /\ OwS w' t' 3 (ys.flatMap aC) /\ ys.length <= 100000 /\ Ext w w' /\ ∀ j ∈ blk t', w.heap.size <= j := by
 have htn := hH.n
 refine F30_ok v t w _ fun b1 w2 a2 => ?_
 have e2 : Ext w w2 := a2.ch _
 refine ⟨v, cxN h a2.new (Ch.refl _ _), (c84 (h.ext e2) (hH.ext e2)).use ?_⟩
 rintro _ w7 ⟨r, rfl, hr, e7⟩
 have e27 := e2.trans e7
 refine ⟨r, rfl, IfB.intro (fun h1 => ⟨⟨none, 0, 0⟩, [], rfl, ⟨.nil, fun hM => ?_, fun _ => rfl⟩, .nil _ _, by simp, e27, by simp [blk]⟩) fun h1 => ?_⟩
 ·have h1 : r = false := by simpa using h1
  rw [hr.2 hM] at h1; cases h1
 have hM := hr.1 (by simpa using h1)
 have hl100 := hM.len
 refine (c85 (hH.ext e27) (by omega)).use ?_
 rintro _ w10 ⟨tl, rows, rfl, hrl, hrow, hO, e10⟩
 have x10 : Ext w2 w10 := e7.trans e10
 have E10 : Ext w w10 := e27.trans e10
 have hR := hO.rws
 have hRn := hR.n
 have zz := E10.size
 refine ⟨tl, rfl, fun m z W => ∃ (i : Nat) (so : Sl) (acc : List ArcD), i <= hs.length /\ m + i = hs.length /\ z = (so, (i : Int)) /\ OwS W so 3 (acc.flatMap aC) /\ acc.length <= i * 301 /\ (∀ e, e ∈ acc ↔ ∃ i', i' < i /\ ArcI x hs i' e) /\ (∀ j ∈ blk so, w10.heap.size <= j) /\ Ext w10 W,
  ⟨hs.length, 0, ⟨none, 0, 0⟩, [], Nat.zero_le _, rfl, rfl, .nil _ _, by simp, fun e => ⟨fun h => (by cases h), fun ⟨i', h, _⟩ => absurd h (Nat.not_lt_zero _)⟩, by simp [blk], Ch.refl _ _⟩, ?_⟩
 rintro m _ W g ⟨i, so, acc, hi, hm, rfl, ho, hal, hmem, hbk, eW⟩
 unfold F30j1
 have hon := owsN aC_len (by omega) ho
 refine IfB.dec (fun hlt => ?_) fun hge => ?_
 ·dsimp only at hlt
  have hi' : i < hs.length := by omega
  have hrx : rows[i]? = some rows[i] := List.getElem?_eq_getElem (by omega)
  generalize rows[i] = rw' at hrx
  have hRow := hrow i rw' hrx
  have hRl := hRow.len
  obtain ⟨⟨pa, oa, hpa, hca⟩, _, hrn⟩ := (hR.ext eW).at hrx
  have ga : hs[i]? = some hs[i] := List.getElem?_eq_getElem hi'
  generalize hs[i] = na at ga
  refine ⟨pa, oa, hpa, ⟨by dsimp only; omega, hlt⟩, rw'.1, by dsimp only; rw [Int.toNat_natCast]; exact hca, (c86 (hH.ext (E10.trans eW)) hi').use ?_⟩
  rintro _ w23 ⟨s24, xo, rfl, hxo, hos, e23, hb23⟩
  have E23 : Ext w10 w23 := eW.trans e23
  have hsn := owsN aC_len (by omega) hos
  have hxl : xo.length <= 1 := by
   obtain ⟨n, _, ⟨rfl, _⟩ | ⟨_, _, _, _, _, rfl, _⟩⟩ := hxo <;> simp
  refine ⟨s24, rfl, _, hos.rd.2, OwS.append (new := xo.flatMap aC) (cnt := s24.n) (ho.ext e23) rfl rfl (by rw [flatLen aC_len, hsn]) (aC_all xo) ⟨by dsimp only; omega, Nat.le_trans (Nat.mul_le_mul (show 2 * (so.n + s24.n) <= 100000 by omega) (show _ <= 100000 by decide)) (by decide)⟩ fun s26 w27 ho27 hn27 hC27 hb27 _ => ?_⟩
  rw [<- List.flatMap_append] at ho27
  have E27 : Ext w10 w27 := E23.chN hC27 fun j hj => hbk j hj
  have hbk27 : ∀ j ∈ blk s26, w10.heap.size <= j := fun j hj => by
   rcases hb27 j hj with h' | h'
   ·exact hbk j h'
   ·have := E23.size; omega
  refine ⟨fun m' z V => ∃ (q : Nat) (sq : Sl) (ac : List ArcD), q <= rw'.2.length /\ m' + q = rw'.2.length /\ z = (sq, (q : Int)) /\ OwS V sq 3 (ac.flatMap aC) /\ ac.length <= i * 301 + 1 + q * 3 /\ (∀ e, e ∈ ac ↔ e ∈ acc \/ e ∈ xo \/ ∃ k : Nat, (k : Int) ∈ rw'.2.take q /\ TwoP hs i k /\ ∃ xs, BtwP x hs k i xs /\ e ∈ xs) /\ (∀ j ∈ blk sq, w10.heap.size <= j) /\ Ext w10 V,
   ⟨rw'.2.length, 0, s26, acc ++ xo, Nat.zero_le _, rfl, rfl, ho27, by rw [List.length_append]; omega, fun e => by simp, hbk27, E27⟩, ?_⟩
  rintro m' _ V g' ⟨q, sq, ac, hq, hmq, rfl, hoq, hql, hqm, hqb, eV⟩
  unfold F30j2
  have hqn := owsN aC_len (by omega) hoq
  refine IfB.dec (fun hlt2 => ?_) fun hge2 => ?_
  ·dsimp only at hlt2
   have hq' : q < rw'.2.length := by omega
   have hk : rw'.2[q]? = some rw'.2[q] := List.getElem?_eq_getElem hq'
   have hkm : rw'.2[q] ∈ rw'.2 := List.getElem_mem hq'
   have htk := take_succ_get hk
   generalize rw'.2[q] = kz at hk hkm htk
   obtain ⟨k, rfl, hdk⟩ := (hRow.mem kz).1 hkm
   have hki := Dp_lt hdk
   have gb : hs[k]? = some hs[k] := List.getElem?_eq_getElem (by omega)
   generalize hs[k] = nb at gb
   obtain ⟨_, hrd, _⟩ := (hR.ext eV).at hrx
   obtain ⟨pb, ob, hpb, hcb⟩ := hrd.elem1 (i := q) (v := iv (k : Int)) (by rw [List.getElem?_map, hk]; rfl)
   have ed := extDrew V
   have EV : Ext w V.drew := (E10.trans eV).trans ed
   obtain ⟨pc, oc, hpc, hcc⟩ := (hH.ext EV).at gb
   obtain ⟨pd, od, hpd, hcd⟩ := (hH.ext EV).at ga
   have hw : IntKind.i64.wrap ((q : Int) + 1) = ((q + 1 : Nat) : Int) := by rw [wrap_of (by omega) (by omega)]; rfl
   refine ⟨pb, ob, hpb, ⟨by dsimp only; omega, by dsimp only; omega⟩, (k : Int), by dsimp only; rw [Int.toNat_natCast]; exact hcb, pc, oc, hpc, ⟨by omega, by omega⟩, nb.v.1, by rw [Int.toNat_natCast]; exact hcc 0 _ rfl, pd, od, hpd, ⟨by dsimp only; omega, by dsimp only; omega⟩, na.v.1, by dsimp only; rw [Int.toNat_natCast]; exact hcd 0 _ rfl, IfB.intro (fun hne => ?_) fun heq => ?_⟩
   ·have hne : nb.v.1 ≠ na.v.1 := by simpa using hne
    refine ⟨v, cxN h a2.new ((x10.trans eV).trans ed), (c87 (h.ext EV) (hH.ext EV) hM (show k < hs.length by omega) hi').use ?_⟩
    rintro _ w48 ⟨s49, xb, rfl, hxb, hob, e48, hb48⟩
    have E48 : Ext w10 w48 := (eV.trans ed).trans e48
    have hbn := owsN aC_len (by omega) hob
    have hbl : xb.length = 3 := by
     obtain ⟨_, _, _, _, _, _, _, _, rfl⟩ := hxb; rfl
    refine ⟨s49, rfl, _, hob.rd.2, OwS.append (new := xb.flatMap aC) (cnt := s49.n) ((hoq.ext ed).ext e48) rfl rfl (by rw [flatLen aC_len, hbn]) (aC_all xb) ⟨by dsimp only; omega, Nat.le_trans (Nat.mul_le_mul (show 2 * (sq.n + s49.n) <= 100000 by omega) (show _ <= 100000 by decide)) (by decide)⟩ fun s51 w52 ho52 hn52 hC52 hb52 _ => ⟨rfl, m' - 1, by omega, q + 1, s51, ac ++ xb, hq', by omega, by dsimp only; rw [hw], by rw [<- List.flatMap_append] at ho52; exact ho52, by rw [List.length_append]; omega, fun e => ?_, fun j hj => ?_, E48.chN hC52 fun j hj => hqb j hj⟩⟩
    ·rw [List.mem_append, hqm, htk]
     constructor
     ·rintro ((h' | h' | ⟨k', h1, h2⟩) | h')
      ·exact .inl h'
      ·exact .inr (.inl h')
      ·exact .inr (.inr ⟨k', List.mem_append.2 (.inl h1), h2⟩)
      ·exact .inr (.inr ⟨k, by simp, ⟨na, nb, ga, gb, hne⟩, xb, hxb, h'⟩)
     ·rintro (h' | h' | ⟨k', h1, h2, xs, h3, h4⟩)
      ·exact .inl (.inl h')
      ·exact .inl (.inr (.inl h'))
      ·rcases List.mem_append.1 h1 with h1 | h1
       ·exact .inl (.inr (.inr ⟨k', h1, h2, xs, h3, h4⟩))
       ·have : k' = k := Int.ofNat.inj (List.mem_singleton.1 h1)
        subst this
        rw [hxb.uniq h3]; exact .inr h4
    ·rcases hb52 j hj with h' | h'
     ·exact hqb j h'
     ·have := E48.size; omega
   ·have heq : nb.v.1 = na.v.1 := by simpa using heq
    refine ⟨rfl, m' - 1, by omega, q + 1, sq, ac, hq', by omega, by dsimp only; rw [hw], hoq.ext ed, by omega, fun e => ?_, hqb, eV.trans ed⟩
    rw [hqm, htk]
    constructor
    ·rintro (h' | h' | ⟨k', h1, h2⟩)
     ·exact .inl h'
     ·exact .inr (.inl h')
     ·exact .inr (.inr ⟨k', List.mem_append.2 (.inl h1), h2⟩)
    ·rintro (h' | h' | ⟨k', h1, h2, xs, h3, h4⟩)
     ·exact .inl h'
     ·exact .inr (.inl h')
     ·rcases List.mem_append.1 h1 with h1 | h1
      ·exact .inr (.inr ⟨k', h1, h2, xs, h3, h4⟩)
      ·have : k' = k := Int.ofNat.inj (List.mem_singleton.1 h1)
       subst this
       obtain ⟨a', b', g1, g2, g3⟩ := h2
       rw [ga] at g1; rw [gb] at g2; cases g1; cases g2
       exact absurd heq g3
  ·dsimp only at hge2
   have hwi : IntKind.i64.wrap ((i : Int) + 1) = ((i + 1 : Nat) : Int) := by rw [wrap_of (by omega) (by omega)]; rfl
   have hq' : q = rw'.2.length := by omega
   subst hq'
   have hal' : ac.length <= (i + 1) * 301 := by omega
   refine ⟨rfl, m - 1, by omega, i + 1, sq, ac, hi', by omega, by dsimp only; rw [hwi], hoq, hal', fun e => ?_, hqb, eV⟩
   rw [hqm, List.take_length, hmem]
   constructor
   ·rintro (⟨i', h1, h2⟩ | h' | ⟨k, h1, h2, xs, h3, h4⟩)
    ·exact ⟨i', by omega, h2⟩
    ·exact ⟨i, by omega, .inl ⟨xo, hxo, h'⟩⟩
    ·obtain ⟨k', hk', hd⟩ := (hRow.mem (k : Int)).1 h1
     have : k = k' := Int.ofNat.inj hk'
     subst this
     exact ⟨i, by omega, .inr ⟨k, xs, hd, h2, h3, h4⟩⟩
   ·rintro ⟨i', h1, h2⟩
    rcases Nat.lt_or_ge i' i with h' | h'
    ·exact .inl ⟨i', h', h2⟩
    ·have : i' = i := by omega
     subst this
     rcases h2 with ⟨xs, h3, h4⟩ | ⟨k, xs, hd, h3, h4, h5⟩
     ·rw [hxo.uniq h3]; exact .inr (.inl h4)
     ·exact .inr (.inr ⟨k, (hRow.mem (k : Int)).2 ⟨k, rfl, hd⟩, h3, xs, h4, h5⟩)
 ·dsimp only at hge
  have hi' : i = hs.length := by omega
  subst hi'
  have hQ : ∀ e ∈ acc, SfA.Q e := fun e he => ArcIn.Q (x := x) ((hmem e).1 he) hl100
  refine (SfA.c88 (cl := (89, #[])) c89 ho (by omega) hQ).use ?_
  rintro _ w57 ⟨rfl, ys, hp, hsrt, ho57, hC57⟩
  have hpl := hp.length_eq
  refine ⟨(), rfl, (c90 ho57 (by omega)).use ?_⟩
  rintro _ w60 ⟨s61, rfl, ho60, hp60, hC60⟩
  have hcl := cptL_len ys
  have hb61 : ∀ j ∈ blk s61, w10.heap.size <= j := fun j hj => hbk j (by unfold blk at hj ⊢; rw [hp60] at hj; exact hj)
  refine ⟨s61, rfl, s61, cptL ys, rfl, ⟨cptL_sorted (fun a b ha hb => arcKey_inj (hQ a (hp.mem_iff.1 ha)) (hQ b (hp.mem_iff.1 hb))) hsrt, fun _ e => ?_, fun hno => absurd hM hno⟩, ho60, by omega, ((E10.trans eW).chN hC57 fun j hj => ?_).chN hC60 fun j hj => ?_, fun j hj => ?_⟩
  ·rw [cptL_mem, hp.mem_iff, hmem]; rfl
  ·have := hbk j hj; omega
  ·have := hbk j hj; omega
  ·have := hb61 j hj; omega
end Go.Proofs.YtlpgdngcgbeegaaGreat.Gx
/- Package rsg: told. -/
namespace Go.Proofs.YtlpgdngcgbeegaaGreat.Gx
open Go
set_option linter.unusedSimpArgs false
set_option linter.unusedVariables false
def FnB (W : World) (b n : Nat) (f : Nat -> Value) : Prop := ∃ T, W.heap[b]? = some (.cells ((List.range n).map f).toArray T (0, 0))
theorem FnB.ch {F : Nat -> Prop} {W W' : World} {b n : Nat} {f : Nat -> Value} (h : FnB W b n f) (e : Ch F W W') (hF : ¬ F b) : FnB W' b n f := h.elim fun T hT => ⟨T, e.at hT hF⟩
theorem FnB.ext {W W' : World} {b n : Nat} {f : Nat -> Value} (h : FnB W b n f) (e : Ext W W') : FnB W' b n f := h.elim fun T hT => ⟨T, e.at hT⟩
theorem FnB.lt {W : World} {b n : Nat} {f : Nat -> Value} (h : FnB W b n f) : b < W.heap.size := h.elim fun T hT => heap_lt hT
theorem FnB.get {W : World} {b n : Nat} {f : Nat -> Value} (h : FnB W b n f) {j o : Nat} (hj : j < n) (ho : o = j) : W.cell? ⟨b, o, none⟩ = some (f j) := by
 subst ho
 obtain ⟨T, hT⟩ := h
 rw [cell_of hT, List.getElem?_toArray, List.getElem?_map, List.getElem?_range hj]; rfl
theorem FnB.put {W : World} {b n : Nat} {f : Nat -> Value} (h : FnB W b n f) {j o : Nat} (hj : j < n) (ho : o = j) {v : Value} (h1 : v.oneCell' = true) {K : World -> Prop} (hK : ∀ W', FnB W' b n (fun k => if k = j then v else f k) -> Ch (fun i => i = b) W W' -> K W') : StoreP W b o [v] K := by
 subst ho
 obtain ⟨T, hT⟩ := h
 refine store_one hT (by simpa using hj) h1 fun W' u => hK W' ⟨T, ?_⟩ u.ch
 have e : (((List.range n).map f).toArray.setIfInBounds o v) = ((List.range n).map fun k => if k = o then v else f k).toArray := by
  rw [List.setIfInBounds_toArray]
  congr 1
  apply List.ext_getElem?
  intro k
  rw [List.getElem?_set, List.getElem?_map, List.getElem?_map, List.length_map, List.length_range]
  by_cases hk : k < n
  ·rw [List.getElem?_range hk]
   by_cases e : o = k
   ·subst e; simp [hk]
   ·rw [if_neg e, Option.map_some, Option.map_some, if_neg fun h => e h.symm]
  ·rw [List.getElem?_eq_none (by simpa using hk)]
   by_cases e : o = k
   ·omega
   ·simp [e]
 rw [<- e]; exact u.new
theorem FnB.new {w w' : World} {b n : Nat} {T : TypeId} {v : Value} (a : IsAlloc w (.cells { toList := zc #[v] n } T (0, 0)) b w') : FnB w' b n fun _ => v := by
 refine ⟨T, ?_⟩
 have e : zc #[v] n = (List.range n).map fun _ => v := by
  rw [zc_all (v := v) (by intro x hx; simpa using hx)]
  simp [List.map_const']
 have := a.new
 rw [e] at this; exact this
theorem FnB.congr {W : World} {b n : Nat} {f g : Nat -> Value} (h : FnB W b n f) (e : ∀ j, j < n -> f j = g j) : FnB W b n g := by
 obtain ⟨T, hT⟩ := h
 refine ⟨T, ?_⟩
 rw [hT, List.map_congr_left fun j hj => e j (List.mem_range.1 hj)]
/-- The arc e holds j back. -/
def holdB (out : List Nat) (j : Nat) (e : ArcD) : Bool := e.2.1 == (j : Int) && !(out.any fun k => e.1 == (k : Int))
def holds (arcs : List ArcD) (out : List Nat) (j : Nat) : Nat := arcs.countP (holdB out j)
inductive TRun (arcs : List ArcD) (n : Nat) : List Nat -> Prop
 | nil : TRun arcs n []
 | snoc {out : List Nat} {i : Nat} : TRun arcs n out -> i < n -> i ∉ out -> holds arcs out i = 0 -> (∀ j, j < i -> j ∈ out \/ 0 < holds arcs out j) -> TRun arcs n (out ++ [i])
structure ToldP (arcs : List ArcD) (n : Nat) (out : List Nat) : Prop where
 run : TRun arcs n out
 all : ∀ j, j < n -> j ∈ out \/ 0 < holds arcs out j
theorem TRun.nodup {arcs : List ArcD} {n : Nat} {out : List Nat} (h : TRun arcs n out) : out.Nodup /\ ∀ i ∈ out, i < n := by
 induction h with
 | nil => simp
 | snoc h hi hn _ _ ih =>
  refine ⟨List.nodup_append.2 ⟨ih.1, by simp, fun a ha b hb => ?_⟩, fun j hj => ?_⟩
  ·rw [List.mem_singleton.1 hb]; exact fun e => hn (e ▸ ha)
  ·rcases List.mem_append.1 hj with hj | hj
   ·exact ih.2 j hj
   ·rw [List.mem_singleton.1 hj]; exact hi
theorem TRun.len {arcs : List ArcD} {n : Nat} {out : List Nat} (h : TRun arcs n out) : out.length <= n := by
 have := nodup_le (a := out) (b := List.range n) h.nodup.1 fun i hi => List.mem_range.2 (h.nodup.2 i hi)
 simpa using this
theorem holdB_new {out : List Nat} {i : Nat} (hi : i ∉ out) (j : Nat) (e : ArcD) : (e.1 = (i : Int) -> holdB (out ++ [i]) j e = false /\ holdB out j e = (e.2.1 == (j : Int))) /\ (e.1 ≠ (i : Int) -> holdB (out ++ [i]) j e = holdB out j e) := by
 unfold holdB
 rw [List.any_append]
 constructor
 ·intro h
  have h0 : (out.any fun k => e.1 == (k : Int)) = false := by
   rw [Bool.eq_false_iff]; intro ht
   obtain ⟨k, hk, hke⟩ := List.any_eq_true.1 ht
   have : (k : Int) = (i : Int) := by rw [<- h]; exact (beq_iff_eq.1 hke).symm
   exact hi (Int.ofNat.inj this ▸ hk)
  rw [h0]
  simp [h]
 ·intro h
  have : ([i].any fun k => e.1 == (k : Int)) = false := by simp [h]
  rw [this, Bool.or_false]
end Go.Proofs.YtlpgdngcgbeegaaGreat.Gx
/- Package rsg: told, its walk. -/
namespace Go.Proofs.YtlpgdngcgbeegaaGreat.Gx
open Go
set_option linter.unusedSimpArgs false
set_option linter.unusedVariables false
theorem holds_snoc (l : List ArcD) (e : ArcD) (out : List Nat) (j : Nat) : holds (l ++ [e]) out j = holds l out j + if holdB out j e then 1 else 0 := by
 unfold holds; rw [List.countP_append]; simp [List.countP_cons]
theorem holds_cons (l : List ArcD) (e : ArcD) (out : List Nat) (j : Nat) : holds (e :: l) out j = holds l out j + if holdB out j e then 1 else 0 := by
 unfold holds; rw [List.countP_cons]
theorem holds_le (l : List ArcD) (out : List Nat) (j : Nat) : holds l out j <= l.length := List.countP_le_length
theorem c95 {w : World} {t : Sl} {arcs : List ArcD} {n : Nat} (hR : Rd w t 3 (arcs.flatMap aC)) (hl : arcs.length <= 1000000) (hn : n <= 1000) (hto : ∀ e ∈ arcs, 0 <= e.2.1 /\ e.2.1 < (n : Int)) :
  CW Tryz.prog 95 #[iv (n : Int), slV t] w fun v w' => ∃ t' out, v = slV t' /\ ToldP arcs n out /\ OwS w' t' 1 (out.map fun k : Nat => iv (k : Int)) /\ Ext w w' /\ ∀ j ∈ blk t', w.heap.size <= j := by
 have htn := rdN aC_len (by omega) hR
 refine F95_ok (n : Int) t w _ ⟨⟨by omega, by omega, by omega, by omega⟩, fun b1 w2 a2 => ?_⟩
 rw [Int.toNat_natCast] at a2
 have e2 : Ext w w2 := a2.ch _
 have p2 := a2.here; have z2 := a2.size
 have h0 := FnB.new a2
 refine ⟨fun m z W => ∃ q : Nat, q <= arcs.length /\ m + q = arcs.length /\ z = (q : Int) /\ FnB W b1 n (fun j => iv (holds (arcs.take q) [] j : Nat)) /\ Ext w W, ⟨_, 0, Nat.zero_le _, rfl, rfl, h0.congr fun j _ => by simp [holds], e2⟩, ?_⟩
 rintro m _ W g ⟨q, hq, hm, rfl, hf, eW⟩
 unfold F95j1
 simp only [Int.toNat_natCast]
 refine IfB.dec (fun hlt => ?_) fun hge => ?_
 ·have hq' : q < arcs.length := by omega
  have hx : arcs[q]? = some arcs[q] := List.getElem?_eq_getElem hq'
  have hxm : arcs[q] ∈ arcs := List.getElem_mem hq'
  have htk := take_succ_get hx
  generalize arcs[q] = e at hx hxm htk
  have hte := hto e hxm
  obtain ⟨b, o, hp, hc⟩ := (hR.ext eW).elem (i := q) (by omega) (by omega) (flatGet aC_len hx)
  refine ⟨b, o, hp, ⟨by omega, hlt⟩, e, hc, fun b13 w14 a14 => ⟨rfl, store_all (vs := aC e) a14.new rfl (aC_one e) fun w15 u15 => ?_⟩⟩
  have e15 : Ext W w15 := Ext.fresh a14 u15
  obtain ⟨jt, hjt⟩ := Int.eq_ofNat_of_zero_le hte.1
  have hjn : jt < n := by omega
  have hf15 := hf.ext e15
  have hle := holds_le (arcs.take q) [] jt
  rw [List.length_take] at hle
  refine ⟨_, boxAt (cs := aC e) u15.new 1 (Ch.refl _ _), b1, 0, rfl, hte, (holds (arcs.take q) [] jt : Nat), by rw [Nat.zero_add]; exact hf15.get hjn (by omega), b1, 0, rfl, hte, rfl, hf15.put hjn (by omega) rfl fun w22 hf22 hC22 => ⟨(by trivial), m - 1, by omega, q + 1, hq', by omega, by rw [wrap_of (by omega) (by omega)]; rfl, hf22.congr fun j hj => ?_, (eW.trans e15).chN hC22 fun i e => by omega⟩⟩
  rw [htk, holds_snoc]
  have hb : holdB [] j e = (e.2.1 == (j : Int)) := by simp [holdB]
  rw [hb]
  by_cases h' : j = jt
  ·subst h'
   rw [if_pos rfl, hjt, wrap_of (by omega) (by omega)]; simp
  ·rw [if_neg h', hjt]
   have : ((jt : Int) == (j : Int)) = false := by rw [beq_eq_false_iff_ne]; intro h; exact h' (Int.ofNat.inj h).symm
   rw [this]; simp
 have hq' : q = arcs.length := by omega
 subst hq'
 rw [List.take_length] at hf
 refine ⟨⟨by omega, by omega, by omega, by omega⟩, fun b24 w25 a25 => ?_⟩
 have e25 : Ext W w25 := a25.ch _
 have p25 := a25.here; have z25 := a25.size
 have hlt1 := hf.lt
 have hd0 := FnB.new a25
 refine ⟨fun m s V => ∃ out : List Nat, TRun arcs n out /\ m + out.length = n /\ OwS V s 1 (out.map fun k : Nat => iv (k : Int)) /\ (∀ j ∈ blk s, b24 < j) /\ FnB V b1 n (fun j => iv (holds arcs out j : Nat)) /\ FnB V b24 n (fun j => .bool (decide (j ∈ out))) /\ Ext w V,
  ⟨n, [], .nil, rfl, .nil _ _, by simp [blk], hf.ext e25, hd0.congr fun j _ => by simp, eW.trans e25⟩, ?_⟩
 rintro m s V g2 ⟨out, hrun, hmo, hos, hbk, hfh, hfd, eV⟩
 have hbV := hfd.lt
 refine ⟨fun m' z V' => V' = V /\ ∃ i : Nat, i <= n /\ m' + i = n /\ z = (s, (i : Int)) /\ ∀ j, j < i -> j ∈ out \/ 0 < holds arcs out j, ⟨n, rfl, 0, Nat.zero_le _, rfl, rfl, fun j hj => absurd hj (Nat.not_lt_zero _)⟩, ?_⟩
 rintro m' _ _ g3 ⟨rfl, i, hi, hmi, rfl, hlow⟩
 unfold F95j3
 simp only [Int.toNat_natCast]
 refine IfB.dec (fun hlt => ?_) fun hge2 => ?_
 ·skip
  have hin : i < n := by omega
  have hbi : (0 : Int) <= (i : Int) /\ (i : Int) < (n : Int) := ⟨by omega, by omega⟩
  have hw : IntKind.i64.wrap ((i : Int) + 1) = ((i + 1 : Nat) : Int) := by rw [wrap_of (by omega) (by omega)]; rfl
  have hhl := holds_le arcs out i
  have up : (i ∈ out \/ 0 < holds arcs out i) -> ∀ j, j < i + 1 -> j ∈ out \/ 0 < holds arcs out j := fun h j hj => by
   rcases Nat.lt_or_ge j i with h' | h'
   ·exact hlow j h'
   ·rw [show j = i by omega]; exact h
  refine ⟨b24, 0, rfl, hbi, decide (i ∈ out), by rw [Nat.zero_add]; exact hfd.get hin rfl, IfB.intro (fun h1 => ⟨(by trivial), m' - 1, by omega, (by trivial), i + 1, by omega, by omega, by rw [hw], up (.inl (of_decide_eq_true h1))⟩) fun h1 => ⟨b1, 0, rfl, hbi, (holds arcs out i : Nat), by rw [Nat.zero_add]; exact hfh.get hin rfl, IfB.dec (fun h2 => ⟨(by trivial), m' - 1, by omega, (by trivial), i + 1, by omega, by omega, by rw [hw], up (.inr (by omega))⟩) fun h2 => ⟨b24, 0, rfl, hbi, rfl, hfd.put hin (by omega) rfl fun w50 hd50 hC50 => ⟨by decide, fun b51 w52 a52 => ?_⟩⟩⟩⟩
  have hni : i ∉ out := of_decide_eq_false h1
  have hz : holds arcs out i = 0 := by omega
  have hrun' : TRun arcs n (out ++ [i]) := hrun.snoc hin hni hz hlow
  have z50 := hC50.size
  have hlen := hrun.len
  have e52 : Ext w50 w52 := a52.ch _
  have z52 := a52.size; have p52 := a52.here
  have hos52 : OwS w52 s 1 (out.map fun k : Nat => iv (k : Int)) := (hos.ch hC50 fun j hj e => by have := hbk j hj; omega).ext e52
  have hsn := hos52.len
  rw [List.length_map, Nat.mul_one] at hsn
  refine hos52.lit (new := [iv (i : Int)]) a52.new rfl (by intro v hv; rw [List.mem_singleton.1 hv]; rfl) rfl rfl (by omega) (by decide) fun s54 w55 hos55 hn55 hC55 hb55 => ?_
  have hbk55 : ∀ j ∈ blk s54, b24 < j := fun j hj => by
   rcases hb55 j hj with h' | h'
   ·exact hbk j h'
   ·omega
  have hd55 : FnB w55 b24 n (fun j => .bool (decide (j ∈ out ++ [i]))) := ((hd50.ext e52).ch hC55 fun h => by have := hbk _ h; omega).congr fun j hj => by
   by_cases h' : j = i
   ·simp [h']
   ·simp [h']
  have hh55 : FnB w55 b1 n (fun j => iv (holds arcs out j : Nat)) := ((hfh.ch hC50 (by omega)).ext e52).ch hC55 fun h => by have := hbk _ h; omega
  have E55 : Ext w w55 := ((eV.chN hC50 fun j e => by have := eW.size; omega).trans e52).chN hC55 fun j hj => by have := hbk j hj; have := eW.size; omega
  have hos55' : OwS w55 s54 1 ((out ++ [i]).map fun k : Nat => iv (k : Int)) := by rw [List.map_append]; exact hos55
  refine ⟨fun m4 z V => ∃ q : Nat, q <= arcs.length /\ m4 + q = arcs.length /\ z = (q : Int) /\ OwS V s54 1 ((out ++ [i]).map fun k : Nat => iv (k : Int)) /\ FnB V b24 n (fun j => .bool (decide (j ∈ out ++ [i]))) /\ FnB V b1 n (fun j => iv (holds (arcs.take q) (out ++ [i]) j + holds (arcs.drop q) out j : Nat)) /\ Ext w V,
   ⟨_, 0, Nat.zero_le _, rfl, rfl, hos55', hd55, hh55.congr fun j _ => by simp [holds], E55⟩, ?_⟩
  rintro m4 _ V4 g4 ⟨q, hq, hmq, rfl, ho4, hd4, hh4, e4⟩
  unfold F95j4
  simp only [Int.toNat_natCast]
  refine IfB.dec (fun hlq => ?_) fun hgq => ?_
  ·have hq' : q < arcs.length := by omega
   have hx : arcs[q]? = some arcs[q] := List.getElem?_eq_getElem hq'
   have hxm : arcs[q] ∈ arcs := List.getElem_mem hq'
   have htk := take_succ_get hx
   have hdr := List.drop_eq_getElem_cons hq'
   generalize arcs[q] = e at hx hxm htk hdr
   have hte := hto e hxm
   obtain ⟨jt, hjt⟩ := Int.eq_ofNat_of_zero_le hte.1
   have hjn : jt < n := by omega
   obtain ⟨b, o, hp, hc⟩ := (hR.ext e4).elem (i := q) (by omega) (by omega) (flatGet aC_len hx)
   refine ⟨b, o, hp, ⟨by omega, hlq⟩, e, hc, fun b66 w67 a67 => ⟨rfl, store_all (vs := aC e) a67.new rfl (aC_one e) fun w68 u68 => ?_⟩⟩
   have e68 : Ext V4 w68 := Ext.fresh a67 u68
   have hwq : IntKind.i64.wrap ((q : Int) + 1) = ((q + 1 : Nat) : Int) := by rw [wrap_of (by omega) (by omega)]; rfl
   refine ⟨_, boxAt (cs := aC e) u68.new 0 (Ch.refl _ _), IfB.intro (fun he => ?_) fun he => ⟨(by trivial), m4 - 1, by omega, q + 1, hq', by omega, hwq, ho4.ext e68, hd4.ext e68, (hh4.ext e68).congr fun j hj => ?_, e4.trans e68⟩⟩
   ·have he : e.1 = (i : Int) := by simpa using he
    have hl1 := holds_le (arcs.take q) (out ++ [i]) jt
    have hl2 := holds_le (arcs.drop q) out jt
    rw [List.length_take] at hl1
    rw [List.length_drop] at hl2
    have hhb := (holdB_new hni jt e).1 he
    have hone : holdB out jt e = true := by rw [hhb.2, hjt]; simp
    have hval : holds (arcs.drop q) out jt = holds (arcs.drop (q + 1)) out jt + 1 := by rw [hdr, holds_cons, hone]; rfl
    refine ⟨_, boxAt (cs := aC e) u68.new 1 (Ch.refl _ _), b1, 0, rfl, hte, (holds (arcs.take q) (out ++ [i]) jt + holds (arcs.drop q) out jt : Nat), by rw [Nat.zero_add]; exact (hh4.ext e68).get hjn (by omega), b1, 0, rfl, hte, rfl, (hh4.ext e68).put hjn (by omega) rfl fun w76 hf76 hC76 => ⟨(by trivial), m4 - 1, by omega, q + 1, hq', by omega, hwq, (ho4.ext e68).ch hC76 fun j hj e => by have := hbk55 j hj; omega, (hd4.ext e68).ch hC76 (by omega), hf76.congr fun j hj => ?_, (e4.trans e68).chN hC76 fun j e => by omega⟩⟩
    rw [htk, holds_snoc, ((holdB_new hni j e).1 he).1]
    by_cases h' : j = jt
    ·subst h'
     rw [if_pos rfl, hval, wrap_of (by omega) (by omega)]
     congr 1
     simp
     omega
    ·rw [if_neg h', hdr, holds_cons, ((holdB_new hni j e).1 he).2, hjt]
     have : ((jt : Int) == (j : Int)) = false := by rw [beq_eq_false_iff_ne]; intro h; exact h' (Int.ofNat.inj h).symm
     rw [this]; simp
   ·have he : e.1 ≠ (i : Int) := by simpa using he
    rw [htk, holds_snoc, hdr, holds_cons, (holdB_new hni j e).2 he]
    congr 1
    omega
  ·have hq' : q = arcs.length := by omega
   subst hq'
   have hml := hrun'.len
   rw [List.length_append, List.length_singleton] at hml
   refine ⟨(by trivial), m - 1, by omega, out ++ [i], hrun', by rw [List.length_append, List.length_singleton]; omega, ho4, hbk55, hh4.congr fun j _ => ?_, hd4, e4⟩
   rw [List.take_length, List.drop_length]; simp [holds]
 ·skip
  have hii : i = n := by omega
  subst hii
  exact ⟨s, out, rfl, ⟨hrun, hlow⟩, hos, eV, fun j hj => by have := hbk j hj; have := eW.size; omega⟩
end Go.Proofs.YtlpgdngcgbeegaaGreat.Gx
/- Package rsg: Good, Order. -/
namespace Go.Proofs.YtlpgdngcgbeegaaGreat.Gx
open Go
set_option linter.unusedSimpArgs false
set_option linter.unusedVariables false
theorem ArcsP.to {x : CatD} {hs : List Nd} {ys : List ArcD} (h : ArcsP x hs ys) : ∀ e ∈ ys, 0 <= e.2.1 /\ e.2.1 < (hs.length : Int) := fun e he => by
 by_cases hM : HMay x hs
 ·exact (((h.mem hM e).1 he).q).2.1
 ·rw [h.no hM] at he; cases he
theorem c34 {w : World} {v : CatV} {x : CatD} {t : Sl} {hs : List Nd} (h : CatM w v x) (hH : Hst w t hs) (hl : hs.length <= 1000) :
  CW Tryz.prog 34 #[cxV v, slV t] w fun r w' => ∃ b, r = .bool b /\ (b = true -> HMay x hs) /\ (HMay x hs -> ∃ ys out, ArcsP x hs ys /\ ToldP ys hs.length out /\ (b = true ↔ out.length = hs.length)) /\ Ext w w' := by
 have htn := hH.n
 refine F34_ok v t w _ fun b1 w2 a2 => ?_
 have e2 : Ext w w2 := a2.ch _
 refine ⟨v, cxN h a2.new (Ch.refl _ _), (c84 (h.ext e2) (hH.ext e2)).use ?_⟩
 rintro _ w7 ⟨r, rfl, hr, e7⟩
 have E7 := e2.trans e7
 refine ⟨r, rfl, IfB.intro (fun h1 => ⟨v, cxN h a2.new e7, (c30 (h.ext E7) (hH.ext E7)).use ?_⟩) fun h1 => ⟨false, rfl, fun h => (by cases h), fun hM => ?_, E7⟩⟩
 ·rintro _ w13 ⟨s14, ys, rfl, hA, ho, hyl, e13, _⟩
  refine ⟨s14, rfl, ?_⟩
  rw [show (t.2 : Int) = ((hs.length : Nat) : Int) by rw [htn]]
  refine (c95 ho.rd (by omega) hl hA.to).use ?_
  rintro _ w16 ⟨s17, out, rfl, hT, ho2, e16, _⟩
  have hn2 := ho2.len
  rw [List.length_map, Nat.mul_one] at hn2
  refine ⟨s17, rfl, _, rfl, fun _ => hr.1 h1, fun _ => ⟨ys, out, hA, hT, ?_⟩, (E7.trans e13).trans e16⟩
  rw [beq_iff_eq, hn2]
  exact ⟨fun h => Int.ofNat.inj h, fun h => by rw [h]⟩
 ·have h1 : r = false := h1
  rw [hr.2 hM] at h1; cases h1
end Go.Proofs.YtlpgdngcgbeegaaGreat.Gx
/- Plain: what is sorted is one list; what is told is one list. -/
namespace Go.Proofs.YtlpgdngcgbeegaaGreat.Gx
open Go
set_option linter.unusedSimpArgs false
set_option linter.unusedVariables false
theorem sorted_eq {α : Type} {key : α -> Int} : ∀ {xs ys : List α}, xs.Pairwise (fun a b => key a < key b) -> ys.Pairwise (fun a b => key a < key b) -> (∀ e, e ∈ xs ↔ e ∈ ys) -> xs = ys
 | [], [], _, _, _ => rfl
 | [], y :: ys, _, _, h => absurd ((h y).2 (by simp)) (by simp)
 | x :: xs, [], _, _, h => absurd ((h x).1 (by simp)) (by simp)
 | x :: xs, y :: ys, hx, hy, h => by
  obtain ⟨x1, x2⟩ := List.pairwise_cons.1 hx
  obtain ⟨y1, y2⟩ := List.pairwise_cons.1 hy
  have hxy : x = y := by
   rcases List.mem_cons.1 ((h x).1 (by simp)) with e | e
   ·exact e
   ·rcases List.mem_cons.1 ((h y).2 (by simp)) with e' | e'
    ·exact e'.symm
    ·have := y1 x e; have := x1 y e'; omega
  subst hxy
  rw [sorted_eq x2 y2 fun e => ?_]
  constructor
  ·intro he
   rcases List.mem_cons.1 ((h e).1 (List.mem_cons_of_mem _ he)) with e' | e'
   ·subst e'; have := x1 e he; omega
   ·exact e'
  ·intro he
   rcases List.mem_cons.1 ((h e).2 (List.mem_cons_of_mem _ he)) with e' | e'
   ·subst e'; have := y1 e he; omega
   ·exact e'
theorem ArcsP.uniq {x : CatD} {hs : List Nd} {ys zs : List ArcD} (h : ArcsP x hs ys) (k : ArcsP x hs zs) : ys = zs := by
 by_cases hM : HMay x hs
 ·exact sorted_eq h.srt k.srt fun e => (h.mem hM e).trans (k.mem hM e).symm
 ·rw [h.no hM, k.no hM]
theorem TRun.at {arcs : List ArcD} {n : Nat} {L : List Nat} (h : TRun arcs n L) : ∀ {p q : List Nat} {a : Nat}, L = p ++ a :: q -> a < n /\ a ∉ p /\ holds arcs p a = 0 /\ ∀ j, j < a -> j ∈ p \/ 0 < holds arcs p j := by
 induction h with
 | nil => intro p q a h; simp at h
 | @snoc out i h1 h2 h3 h4 h5 ih =>
  intro p q a h
  rcases List.eq_nil_or_concat q with rfl | ⟨q', z, rfl⟩
  ·obtain ⟨e1, e2⟩ := List.append_inj' h rfl
   cases e2; subst e1
   exact ⟨h2, h3, h4, h5⟩
  ·have : out ++ [i] = (p ++ a :: q') ++ [z] := by rw [h]; simp
   exact ih (List.append_inj' this rfl).1
end Go.Proofs.YtlpgdngcgbeegaaGreat.Gx
