/- The framework, part 3: a pure operation yields what part 2 says. -/
import Derived.Test.YtopecljhehcldaaGx2
namespace Go.Proofs.Ytopecljhehcldaa.Gx
open Go

section
variable {P : Program} {tb : Tab} {ρ : Operand → Value} {K : Value → Prop}

theorem run_underlying_of {T : TypeId} {d : TypeDesc} (h : P.underlying T = some d) (w : World) : (underlying T).run P w = .ok d w := by
  simp [underlying, h]

theorem run_sizeOf_of {T : TypeId} {i : TI} (h : i.Ok P T) (w : World) : (sizeOf T).run P w = .ok i.size w := by
  obtain ⟨j, hj, hs, _, _⟩ := h.row
  simp [sizeOf, typeInfo, hj, hs]

theorem run_typeInfo_of {T : TypeId} {i : TI} (h : i.Ok P T) : ∃ j, j.size = i.size ∧ j.bytes = i.bytes ∧ j.zero = some i.zero ∧ ∀ w, (typeInfo T).run P w = .ok j w := by
  obtain ⟨j, hj, hs, hb, hz⟩ := h.row
  exact ⟨j, hs, hb, hz, fun w => by simp [typeInfo, hj]⟩

theorem run_zeroValue_of {T : TypeId} {i : TI} (h : i.Ok P T) (w : World) : (zeroValue T).run P w = .ok i.zero w := by
  obtain ⟨j, hj, hs, hb, hz⟩ := h.row
  simp [zeroValue, typeInfo, hj, hz]

theorem run_isAgg_of {T : TypeId} {i : TI} (h : i.Ok P T) (w : World) : (isAgg T).run P w = .ok i.kd.isAgg w := by
  obtain ⟨d, hd, hk⟩ := h.desc
  rw [← hk]
  cases d <;> simp [isAgg, run_underlying_of hd, kdOf, Kd.isAgg]

theorem kd_slice {d : TypeDesc} {e : TypeId} (h : kdOf d = .slice e) : d = .slice e := by cases d <;> simp_all [kdOf]
theorem kd_struct {d : TypeDesc} {fs : List (TypeId × Nat)} (h : kdOf d = .struct fs) : ∃ fs', d = .struct fs' ∧ fs'.toList.map (fun f => (f.type, f.offset)) = fs := by
  cases d <;> simp_all [kdOf]
theorem kd_array {d : TypeDesc} {n : Nat} {e : TypeId} (h : kdOf d = .array n e) : d = .array n e := by cases d <;> simp_all [kdOf]
theorem kd_int {d : TypeDesc} {k : IntKind} (h : kdOf d = .int k) : d = .int k := by cases d <;> simp_all [kdOf]
theorem kd_string {d : TypeDesc} (h : kdOf d = .string) : d = .string := by cases d <;> simp_all [kdOf]
theorem kd_bool {d : TypeDesc} (h : kdOf d = .bool) : d = .bool := by cases d <;> simp_all [kdOf]
theorem kd_ptr {d : TypeDesc} (h : kdOf d = .ptr) : ∃ e, d = .pointer e := by cases d <;> simp_all [kdOf]
theorem kd_map {d : TypeDesc} {k e : TypeId} (h : kdOf d = .map k e) : d = .map k e := by cases d <;> simp_all [kdOf]
theorem kd_func {d : TypeDesc} (h : kdOf d = .func) : ∃ a b c, d = .func a b c := by cases d <;> simp_all [kdOf]

theorem addr_add (b o n : Nat) : (Addr.mk b o none).add n = ⟨b, o + n, none⟩ := by
  unfold Addr.add
  split
  · rename_i h; subst h; rfl
  · rfl

theorem run_part_of {T : TypeId} {i : TI} (h : i.Ok P T) {cs : Array Value} {off : Nat} (hp : partX i cs off K) :
    ∃ v, K v ∧ ∀ w, (part T cs off).run P w = .ok v w := by
  unfold partX at hp
  cases hk : i.kd.isAgg with
  | true =>
    rw [hk] at hp
    have e : (takeL i.size (dropL off cs.toList)).toArray = cs.extract off (off + i.size) := by
      apply Array.toList_inj.1
      simp [takeL_eq, dropL_eq, List.extract_eq_take_drop]
    dsimp only at hp
    rw [e] at hp
    exact ⟨_, hp, fun w => by simp [part, run_isAgg_of h, hk, run_sizeOf_of h]⟩
  | false =>
    rw [hk] at hp
    dsimp only at hp
    rw [nth_eq, Array.getElem?_toList] at hp
    split at hp
    · rename_i v hv
      exact ⟨v, hp, fun w => by simp [part, run_isAgg_of h, hk, hv]⟩
    · obtain ⟨v, hv, hK⟩ := hp
      exact ⟨v, hK, fun w => by simp [part, run_isAgg_of h, hk, hv]⟩

theorem eqAt_of {T : TypeId} {x y : Value} {b : Bool} (h : ∀ n w, (Op.equalIn (n + 1) T x y).run P w = .ok b w)
    (he : binOp .eql T x y = (do pure (.bool (← Op.equal T x y)))) (hn : binOp .neq T x y = (do pure (.bool (!(← Op.equal T x y)))))
    (hg : ∀ op xo yo w, (eqGuard op T xo yo x y).run P w = .ok () w) : EqAt P T x y b := by
  intro xo yo w
  have h1 : (Op.equal T x y).run P w = .ok b w := h 9999 w
  constructor <;> simp [hg, he, hn, h1]

theorem eqX_sound {T : TypeId} {i : TI} (hi : i.Ok P T) {x y : Value} {K : Bool → Prop} (h : eqX P T i.kd x y K) : ∃ b, K b ∧ EqAt P T x y b := by
  obtain ⟨d, hd, hk⟩ := hi.desc
  unfold eqX at h
  split at h
  · rename_i a b he
    rw [he] at hk
    have := kd_bool hk; subst this
    exact ⟨_, h, eqAt_of (fun n w => by simp [Op.equalIn, run_underlying_of hd]) rfl rfl (fun op _ _ w => by cases op <;> simp [eqGuard])⟩
  · rename_i a he
    rw [he] at hk
    obtain ⟨e, rfl⟩ := kd_ptr hk
    exact ⟨_, h, by cases a <;> exact eqAt_of (fun n w => by simp [Op.equalIn, run_underlying_of hd]) rfl rfl (fun op _ _ w => by cases op <;> simp [eqGuard])⟩
  · rename_i b _ he
    rw [he] at hk
    obtain ⟨e, rfl⟩ := kd_ptr hk
    exact ⟨_, h, by cases b <;> exact eqAt_of (fun n w => by simp [Op.equalIn, run_underlying_of hd]) rfl rfl (fun op _ _ w => by cases op <;> simp [eqGuard])⟩
  · rename_i e a n c m k he
    rw [he] at hk
    have := kd_slice hk; subst this
    exact ⟨_, h, by cases a <;> exact eqAt_of (fun n w => by simp [Op.equalIn, run_underlying_of hd]) rfl rfl (fun op _ _ w => by cases op <;> simp [eqGuard])⟩
  · rename_i kk e a he
    rw [he] at hk
    have := kd_map hk; subst this
    exact ⟨_, h, by cases a <;> exact eqAt_of (fun n w => by simp [Op.equalIn, run_underlying_of hd]) rfl rfl (fun op _ _ w => by cases op <;> simp [eqGuard])⟩
  · rename_i he
    rw [he] at hk
    obtain ⟨a, b, c, rfl⟩ := kd_func hk
    exact ⟨_, h, eqAt_of (fun n w => by simp [Op.equalIn, run_underlying_of hd]) rfl rfl (fun op _ _ w => by cases op <;> simp [eqGuard])⟩
  · rename_i he
    rw [he] at hk
    obtain ⟨a, b, c, rfl⟩ := kd_func hk
    exact ⟨_, h, eqAt_of (fun n w => by simp [Op.equalIn, run_underlying_of hd]) rfl rfl (fun op _ _ w => by cases op <;> simp [eqGuard])⟩
  · obtain ⟨b, hb, hK⟩ := h
    exact ⟨b, hK, hb⟩

theorem run_binI {op : BinOp} {T : TypeId} {xo yo : Operand} {k : IntKind} {a b : Int} {v : Value} (w : World)
    (h : (binOp op T (.int k a) (.int k b)).run P w = .ok v w) :
    (do eqGuard op T xo yo (.int k a) (.int k b); binOp op T (.int k a) (.int k b) : Sem Value).run P w = .ok v w := by
  cases op <;> simp [eqGuard] <;> exact h

theorem binX_sound {T : TypeId} {i : TI} (hi : i.Ok P T) {op : BinOp} {x y : Value} (h : binX P T i.kd op x y K) :
    ∃ v, K v ∧ ∀ (xo yo : Operand) (w : World), (do eqGuard op T xo yo x y; binOp op T x y : Sem Value).run P w = .ok v w := by
  unfold binX at h
  split at h
  case h_1 => obtain ⟨rfl, h1⟩ := h.out; exact ⟨_, h1, fun _ _ w => run_binI w (by simp [binOp, Op.intArith])⟩
  case h_2 => obtain ⟨rfl, h1⟩ := h.out; exact ⟨_, h1, fun _ _ w => run_binI w (by simp [binOp, Op.intArith])⟩
  case h_3 => obtain ⟨rfl, h1⟩ := h.out; exact ⟨_, h1, fun _ _ w => run_binI w (by simp [binOp, Op.intArith])⟩
  case h_4 => obtain ⟨rfl, hb, h1⟩ := h.out; exact ⟨_, h1, fun _ _ w => run_binI w (by simp [binOp, Op.intDiv, hb])⟩
  case h_5 => obtain ⟨rfl, hb, h1⟩ := h.out; exact ⟨_, h1, fun _ _ w => run_binI w (by simp [binOp, Op.intDiv, hb])⟩
  case h_6 => obtain ⟨rfl, h1⟩ := h.out; exact ⟨_, h1, fun _ _ w => run_binI w (by simp [binOp, Op.intCmp])⟩
  case h_7 => obtain ⟨rfl, h1⟩ := h.out; exact ⟨_, h1, fun _ _ w => run_binI w (by simp [binOp, Op.intCmp])⟩
  case h_8 => obtain ⟨rfl, h1⟩ := h.out; exact ⟨_, h1, fun _ _ w => run_binI w (by simp [binOp, Op.intCmp])⟩
  case h_9 => obtain ⟨rfl, h1⟩ := h.out; exact ⟨_, h1, fun _ _ w => run_binI w (by simp [binOp, Op.intCmp])⟩
  case h_10 => obtain ⟨rfl, h1⟩ := h.out; exact ⟨_, h1, fun _ _ w => run_binI w (by simp [binOp, Op.intCmp])⟩
  case h_11 => obtain ⟨rfl, h1⟩ := h.out; exact ⟨_, h1, fun _ _ w => run_binI w (by simp [binOp, Op.intCmp])⟩
  case h_12 => obtain ⟨rfl, h1⟩ := h.out; exact ⟨_, h1, fun _ _ w => run_binI w (by simp [binOp, Op.intBits, bitsI])⟩
  case h_13 => obtain ⟨rfl, h1⟩ := h.out; exact ⟨_, h1, fun _ _ w => run_binI w (by simp [binOp, Op.intBits, bitsI])⟩
  case h_14 => obtain ⟨rfl, h1⟩ := h.out; exact ⟨_, h1, fun _ _ w => run_binI w (by simp [binOp, Op.intBits, bitsI])⟩
  case h_15 => obtain ⟨rfl, h1⟩ := h.out; exact ⟨_, h1, fun _ _ w => run_binI w (by simp [binOp, Op.intBits, bitsI])⟩
  case h_16 => obtain ⟨hb, h1⟩ := h; exact ⟨_, h1, fun _ _ w => by simp [eqGuard, binOp, Op.shift, Int.not_lt.2 hb]⟩
  case h_17 => obtain ⟨hb, h1⟩ := h; exact ⟨_, h1, fun _ _ w => by simp [eqGuard, binOp, Op.shift, Int.not_lt.2 hb]⟩
  case h_18 => exact ⟨_, h, fun _ _ w => by simp [eqGuard, binOp, Op.stringOp]⟩
  case h_19 => exact ⟨_, h, fun _ _ w => by simp [eqGuard, binOp, Op.stringOp]⟩
  case h_20 x y hx hy =>
    obtain ⟨b, hK, hb⟩ := eqX_sound hi h
    exact ⟨_, hK, fun xo yo w => (hb xo yo w).1⟩
  case h_21 x y hx hy =>
    obtain ⟨b, hK, hb⟩ := eqX_sound hi h
    exact ⟨_, hK, fun xo yo w => (hb xo yo w).2⟩
  case h_22 => exact h.elim

end
end Go.Proofs.Ytopecljhehcldaa.Gx
