/- The framework, part 12: the code of a function: what is to be shown of it, and that this is enough. -/
import Derived.Test.YtopecljhehcldaaGx11
namespace Go.Proofs.Ytopecljhehcldaa.Gx
open Go
set_option linter.unusedSimpArgs false

/-! ### Slots that are carried -/
def intsD : (n : Nat) → List Value → intN n
  | 0, _ => ()
  | 1, vs => (match vs with | .int _ x :: _ => x | _ => 0)
  | n + 2, vs => ((match vs with | .int _ x :: _ => x | _ => 0), intsD (n + 1) (match vs with | _ :: r => r | [] => []))
def sameI (k j : IntKind) : Bool := match k, j with | .i64, .i64 => true | .u64, .u64 => true | .u8, .u8 => true | .i32, .i32 => true | .u32, .u32 => true | .i8, .i8 => true | .i16, .i16 => true | .u16, .u16 => true | _, _ => false
def intsC (k : IntKind) : Nat → List Value → Bool
  | 0, vs => match vs with | [] => true | _ => false
  | 1, vs => match vs with | [.int j _] => sameI k j | _ => false
  | n + 2, vs => match vs with
    | .int j _ :: r => match sameI k j with
      | true => intsC k (n + 1) r
      | false => false
    | _ => false
theorem sameI_eq {k j : IntKind} (h : sameI k j = true) : k = j := by cases k <;> cases j <;> first | rfl | cases h
theorem intsC_dec {k : IntKind} : ∀ {n : Nat} {vs : List Value}, intsC k n vs = true → vs = intsE k n (intsD n vs)
  | 0, [], _ => rfl
  | 0, _ :: _, h => by cases h
  | 1, [], h => by cases h
  | 1, [v], h => by
    cases v <;> simp [intsC] at h
    have := sameI_eq h; subst this; rfl
  | 1, _ :: _ :: _, h => by simp [intsC] at h
  | n + 2, [], h => by simp [intsC] at h
  | n + 2, v :: r, h => by
    cases v <;> simp [intsC] at h
    split at h
    · rename_i hs
      have := sameI_eq hs; subst this
      have := intsC_dec (n := n + 1) h
      show _ :: r = .int _ _ :: intsE _ (n + 1) (intsD (n + 1) r)
      rw [← this]; rfl
    · cases h

def Leaf.dec : (l : Leaf) → Value → l.den
  | .int _, v => match v with | .int _ n => n | _ => 0
  | .bool, v => match v with | .bool b => b | _ => false
  | .str, v => match v with | .string s => s | _ => ByteArray.empty
  | .ptr, v => match v with | .pointer p => p | _ => none
  | .sl, v => match v with | .slice p n c => ⟨p, n, c⟩ | _ => ⟨none, 0, 0⟩
  | .map, v => match v with | .map r => r | _ => none
  | .any, v => v
  | .box, v => match v with | .pointer (some ⟨b, _, none⟩) => b | _ => Nat.zero
  | .clo, v => match v with | .func (.func f) ⟨[]⟩ l => (f, l) | _ => (0, #[])
  | .yld, v => match v with | .func (.yield l) ⟨[]⟩ ⟨[]⟩ => l | _ => 0
  | .ints _ n, v => intsD n (match v with | .agg ⟨l⟩ => l | _ => [])

def Leaf.chk : Leaf → Value → Bool
  | .int k, v => match v with | .int j _ => (match k, j with | .i64, .i64 => true | .u64, .u64 => true | .u8, .u8 => true | .i32, .i32 => true | .u32, .u32 => true | .i8, .i8 => true | .i16, .i16 => true | .u16, .u16 => true | _, _ => false) | _ => false
  | .bool, v => match v with | .bool _ => true | _ => false
  | .str, v => match v with | .string _ => true | _ => false
  | .ptr, v => match v with | .pointer _ => true | _ => false
  | .sl, v => match v with | .slice _ _ _ => true | _ => false
  | .map, v => match v with | .map _ => true | _ => false
  | .any, _ => true
  | .box, v => match v with | .pointer (some ⟨_, o, none⟩) => Nat.beq o 0 | _ => false
  | .clo, v => match v with | .func (.func _) ⟨[]⟩ _ => true | _ => false
  | .yld, v => match v with | .func (.yield _) ⟨[]⟩ ⟨[]⟩ => true | _ => false
  | .ints k n, v => match v with | .agg ⟨l⟩ => intsC k n l | _ => false

theorem Leaf.chk_dec {l : Leaf} {v : Value} (h : l.chk v = true) : v = l.enc (l.dec v) := by
  cases l with
  | int k => cases v <;> simp [Leaf.chk] at h; rename_i j n; cases k <;> cases j <;> first | rfl | cases h
  | bool => cases v <;> simp [Leaf.chk] at h; rfl
  | str => cases v <;> simp [Leaf.chk] at h; rfl
  | ptr => cases v <;> simp [Leaf.chk] at h; rfl
  | sl => cases v <;> simp [Leaf.chk] at h; rfl
  | map => cases v <;> simp [Leaf.chk] at h; rfl
  | any => rfl
  | box =>
    simp only [Leaf.chk] at h
    split at h
    · have := Nat.eq_of_beq_eq_true h
      subst this; rfl
    · cases h
  | clo =>
    simp only [Leaf.chk] at h
    split at h
    · rfl
    · cases h
  | yld =>
    simp only [Leaf.chk] at h
    split at h
    · rfl
    · cases h
  | ints k n =>
    simp only [Leaf.chk] at h
    split at h
    · rename_i l
      have := intsC_dec h
      show Value.agg ⟨l⟩ = Value.agg (intsE k n (intsD n l)).toArray
      rw [← this]
    · cases h

def decs : (ls : List Leaf) → List Value → dens ls
  | [], _ => ()
  | [l], vs => l.dec (match vs with | v :: _ => v | [] => undef)
  | l :: m :: ls, vs => (l.dec (match vs with | v :: _ => v | [] => undef), decs (m :: ls) (match vs with | _ :: r => r | [] => []))

def chks : List Leaf → List Value → Bool
  | [], vs => match vs with | [] => true | _ => false
  | [l], vs => match vs with | [v] => l.chk v | _ => false
  | l :: m :: ls, vs => match vs with
    | v :: r => match l.chk v with
      | true => chks (m :: ls) r
      | false => false
    | [] => false

theorem chks_dec : ∀ {ls : List Leaf} {vs : List Value}, chks ls vs = true → vs = encs ls (decs ls vs)
  | [], [], _ => rfl
  | [], _ :: _, h => by cases h
  | [l], [], h => by cases h
  | [l], [v], h => by simp only [chks] at h; simp only [encs, decs]; rw [← Leaf.chk_dec h]
  | [l], _ :: _ :: _, h => by cases h
  | l :: m :: ls, [], h => by cases h
  | l :: m :: ls, v :: r, h => by
    simp only [chks] at h
    split at h
    · rename_i hv
      simp only [encs, decs]
      rw [← Leaf.chk_dec hv, ← chks_dec h]
    · cases h

def Sh.dec : (s : Sh) → Value → s.den
  | .one l, v => l.dec v
  | .agg ls, v => decs ls (match v with | .agg cs => cs.toList | _ => [])
  | .tup ls, v => decs ls (match v with | .tuple cs => cs.toList | _ => [])

def Sh.chk : Sh → Value → Bool
  | .one l, v => l.chk v
  | .agg ls, v => match v with | .agg cs => chks ls cs.toList | _ => false
  | .tup ls, v => match v with | .tuple cs => chks ls cs.toList | _ => false

theorem Sh.chk_dec {s : Sh} {v : Value} (h : s.chk v = true) : v = s.enc (s.dec v) := by
  cases s with
  | one l => exact Leaf.chk_dec h
  | agg ls =>
    cases v <;> simp only [Sh.chk] at h <;> first | cases h | skip
    simp only [Sh.enc, Sh.dec]
    rw [← chks_dec h]
  | tup ls =>
    cases v <;> simp only [Sh.chk] at h <;> first | cases h | skip
    simp only [Sh.enc, Sh.dec]
    rw [← chks_dec h]

abbrev Car := List (Nat × Sh)

@[reducible] def carDen : Car → Type
  | [] => Unit
  | [q] => q.2.den
  | q :: q' :: c => q.2.den × carDen (q' :: c)

def carDec : (c : Car) → Fr → carDen c
  | [], _ => ()
  | [q], f => q.2.dec (f q.1)
  | q :: q' :: c, f => (q.2.dec (f q.1), carDec (q' :: c) f)

def carChk : Car → Fr → Bool
  | [], _ => true
  | [q], f => q.2.chk (f q.1)
  | q :: q' :: c, f => match q.2.chk (f q.1) with
    | true => carChk (q' :: c) f
    | false => false

def carEnc : (c : Car) → carDen c → List (Nat × Value)
  | [], _ => []
  | [q], x => [(q.1, q.2.enc x)]
  | q :: q' :: c, x => (q.1, q.2.enc x.1) :: carEnc (q' :: c) x.2

def lk (t : Nat) : List (Nat × Value) → Option Value
  | [] => none
  | (k, v) :: l => match Nat.beq t k with
    | true => some v
    | false => lk t l

def ovr (f g : Fr) (wr : List Nat) (cs : List (Nat × Value)) : Fr := fun t =>
  match lk t cs with
  | some v => v
  | none => match inL t wr with
    | true => g t
    | false => f t

def Nx (c : Car) (f : Fr) (M : carDen c → Prop) : Prop :=
  match carChk c f with
  | true => M (carDec c f)
  | false => False

theorem Nx.out {c : Car} {f : Fr} {M : carDen c → Prop} (h : Nx c f M) : carChk c f = true ∧ M (carDec c f) := by
  unfold Nx at h
  split at h
  · rename_i hc; exact ⟨hc, h⟩
  · exact h.elim

theorem lk_car : ∀ {c : Car} {f : Fr} {t : Nat} {v : Value}, carChk c f = true → lk t (carEnc c (carDec c f)) = some v → f t = v
  | [], _, _, _, _, h => by cases h
  | [q], f, t, v, hc, h => by
    simp only [carEnc, carDec, lk] at h
    split at h
    · rename_i e
      have := Nat.eq_of_beq_eq_true e
      subst this
      cases h
      exact Sh.chk_dec hc
    · cases h
  | q :: q' :: c, f, t, v, hc, h => by
    simp only [carChk] at hc
    split at hc
    · rename_i hq
      simp only [carEnc, carDec, lk] at h
      split at h
      · rename_i e
        have := Nat.eq_of_beq_eq_true e
        subst this
        cases h
        exact Sh.chk_dec hq
      · exact lk_car hc h
    · cases hc

theorem ovr_eq {f f' : Fr} {wr : List Nat} {c : Car} (hA : AgreeOff wr f f') (hc : carChk c f' = true) : ovr f f' wr (carEnc c (carDec c f')) = f' := by
  funext t
  unfold ovr
  split
  · rename_i v hv
    exact (lk_car hc hv).symm
  · split
    · rfl
    · rename_i h
      exact (hA t fun ht => by rw [inL_iff.2 ht] at h; cases h).symm

theorem exists_least (p : Nat → Prop) (h : ∃ n, p n) : ∃ n, p n ∧ ∀ m, p m → n ≤ m := by
  obtain ⟨n, hn⟩ := h
  induction n using Nat.strongRecOn with
  | ind n ih =>
    by_cases hs : ∃ m, m < n ∧ p m
    · obtain ⟨m, hm, hp⟩ := hs; exact ih m hm hp
    · exact ⟨n, hn, fun m hp => Nat.le_of_not_lt fun hlt => hs ⟨m, hlt, hp⟩⟩
open Classical in
noncomputable def leastN (p : Nat → Prop) : Nat := if h : ∃ n, p n then (exists_least p h).choose else 0
theorem leastN_is {p : Nat → Prop} (h : ∃ n, p n) : p (leastN p) := by
  unfold leastN; rw [dif_pos h]; exact (exists_least p h).choose_spec.1
theorem leastN_le {p : Nat → Prop} {m : Nat} (h : p m) : leastN p ≤ m := by
  unfold leastN; rw [dif_pos ⟨m, h⟩]; exact (exists_least p ⟨m, h⟩).choose_spec.2 m h

/-! ### Code -/
inductive An where
  | nil
  | node (a b : An)
  | loop (car : Car) (wr : List Nat) (a : An)
  | join (car : Car) (wr : List Nat) (a b : An)
  | draw (p : Pl)
  | rng (car : Car) (a : An)

def An.l : An → An
  | .node a _ => a
  | .join _ _ a _ => a
  | _ => .nil
def An.r : An → An
  | .node _ b => b
  | .join _ _ _ b => b
  | _ => .nil

abbrev Post := Exit → Fr → List Nat → World → Prop

def thenQ (K : Fr → List Nat → World → Prop) (Q : Post) : Post
  | .normal, f, ds, w => K f ds w
  | e, f, ds, w => Q e f ds w

def blockQ (id : Nat) (Q : Post) : Post
  | .exit i, f, ds, w => match Nat.beq i id with
    | true => Q .normal f ds w
    | false => Q (.exit i) f ds w
  | e, f, ds, w => Q e f ds w

/-- The wp of a piece of code over frames. -/
def Wp (P : Program) (N : Nat) (r : Option Nat) (c : Code) (Q : Post) (f : Fr) (ds : List Nat) (w : World) : Prop :=
  ∀ a, Rel N a f ds → c.wpIn (fz r) 0 P (fun e a' w' => ∃ f' ds', Rel N a' f' ds' ∧ Q e f' ds' w') a w

/-- A frame of which some slots are known. -/
def frC (g : Fr) (cs : List (Nat × Value)) : Fr := fun t =>
  match lk t cs with
  | some v => v
  | none => g t

theorem frC_eq {f : Fr} {c : Car} (hc : carChk c f = true) : frC f (carEnc c (carDec c f)) = f := by
  funext t
  unfold frC
  split
  · rename_i v hv
    exact (lk_car hc hv).symm
  · rfl

def rangePost (f : Fr) (Kn Kr : List Nat → World → Prop) (Kx : Nat → List Nat → World → Prop) : Post
  | .normal, f', ds, w => f' = f ∧ Kn ds w
  | .ret, f', ds, w => f' = f ∧ Kr ds w
  | .exit id, f', ds, w => f' = f ∧ Kx id ds w
  | _, _, _, _ => False

/-- A range over a function: see part 13. -/
def RangeP (P : Program) (_tb : Tab) (N : Nat) (r : Option Nat) (_an : An) (g : Operand) (ps : Array Tmp) (assign body : Code) (f : Fr) (ds : List Nat) (w : World)
    (Kn Kr : List Nat → World → Prop) (Kx : Nat → List Nat → World → Prop) : Prop :=
  Wp P N r (.rangeFunc g ps assign body) (rangePost f Kn Kr Kx) f ds w

def ex (P : Program) (tb : Tab) (N : Nat) (r : Option Nat) : Code → An → Post → Fr → List Nat → World → Prop
  | .skip, _, Q, f, ds, w => Q .normal f ds w
  | .ret, _, Q, f, ds, w => Q .ret f ds w
  | .exit id, _, Q, f, ds, w => Q (.exit id) f ds w
  | .seq x y, an, Q, f, ds, w => match an with
    | .join car wr a b => ∃ M : carDen car → World → Prop, ex P tb N r x a (thenQ (fun f' ds' w' => ds' = ds ∧ Nx car f' fun s => M s w') Q) f ds w ∧
        ∀ s w' g, M s w' → ex P tb N r y b Q (ovr f g wr (carEnc car s)) ds w'
    | an => ex P tb N r x an.l (thenQ (fun f' ds' w' => ex P tb N r y an.r Q f' ds' w') Q) f ds w
  | .cond c x y, an, Q, f, ds, w => match ev f c with
    | .bool b => IfB b (ex P tb N r x an.l Q f ds w) (ex P tb N r y an.r Q f ds w)
    | _ => False
  | .block id c, an, Q, f, ds, w => ex P tb N r c an (blockQ id Q) f ds w
  | .loop c, an, Q, f, ds, w => match an with
    | .loop car wr a => ∃ I : Nat → carDen car → World → Prop, (Nx car f fun s => ∃ n, I n s w) ∧
        ∀ n s w' g, I n s w' → ex P tb N r c a (thenQ (fun f' ds' w'' => ds' = ds ∧ Nx car f' fun s' => ∃ m, m < n ∧ I m s' w'') Q) (ovr f g wr (carEnc car s)) ds w'
    | _ => False
  | .region _ ops draw, an, Q, f, ds, w => match draw with
    | false => exl P tb ops 0 ops.toList f w fun f' w' => Q .normal f' ds w'
    | true => match an with
      | .draw p => exq P tb ops p [] f w.drew fun f' w' => Q .normal f' ds w'
      | _ => False
  | .rangeFunc g ps assign body, an, Q, f, ds, w => match an with
    | .rng car a => Nx car f fun s => ∀ g', RangeP P tb N r a g ps assign body (frC g' (carEnc car s)) ds w (fun ds' w' => Q .normal (frC g' (carEnc car s)) ds' w')
        (fun ds' w' => Q .ret (frC g' (carEnc car s)) ds' w') (fun id ds' w' => Q (.exit id) (frC g' (carEnc car s)) ds' w')
    | _ => False
  | _, _, _, _, _, _ => False

/-! ### Places in a function's code -/
def codeAt : List Nat → Code → Code
  | [], c => c
  | i :: l, .seq a b => codeAt l (match i with | 0 => a | _ => b)
  | i :: l, .cond _ a b => codeAt l (match i with | 0 => a | _ => b)
  | i :: l, .rangeFunc _ _ a b => codeAt l (match i with | 0 => a | _ => b)
  | _ :: l, .block _ c => codeAt l c
  | _ :: l, .loop c => codeAt l c
  | _, _ => .skip
def bodyOf (f : Func) : Code := match f.body with
  | some c => c
  | none => .skip
def rG : Code → Operand
  | .rangeFunc g _ _ _ => g
  | _ => .func 0
def rP : Code → Array Tmp
  | .rangeFunc _ ps _ _ => ps
  | _ => #[]
def rA : Code → Code
  | .rangeFunc _ _ a _ => a
  | _ => .skip
def rB : Code → Code
  | .rangeFunc _ _ _ b => b
  | _ => .skip

def wrs : Code → List Nat
  | .seq x y => wrs x ++ wrs y
  | .cond _ x y => wrs x ++ wrs y
  | .block _ c => wrs c
  | .loop c => wrs c
  | .region _ ops _ => dsts ops.toList
  | _ => []

def subL (l m : List Nat) : Bool := l.all fun t => inL t m

def okC (tb : Tab) (N : Nat) : Code → An → Bool
  | .seq x y, an => match an with
    | .join _ wr a b => okC tb N x a && okC tb N y b && subL (wrs x) wr
    | an => okC tb N x an.l && okC tb N y an.r
  | .cond _ x y, an => okC tb N x an.l && okC tb N y an.r
  | .block _ c, an => okC tb N c an
  | .loop c, an => match an with
    | .loop _ wr a => okC tb N c a && subL (wrs c) wr
    | _ => true
  | .region _ ops draw, an => match draw with
    | false => dstOk N ops.toList
    | true => dstOk N ops.toList && Region.noSelect ops && noDefer ops && beforeIn ops && edgesBack ops && (match an with
      | .draw p => !p.isNon && planOk tb ops p ops.size (Array.replicate ops.size false) [] (Region.ready .any ops (Array.replicate ops.size false))
      | _ => true)
  | _, _ => true

theorem subL_mem {l m : List Nat} (h : subL l m = true) : ∀ t, t ∈ l → t ∈ m := fun t ht => inL_iff.1 (List.all_eq_true.1 h t ht)

section
variable {P : Program} {tb : Tab} {N : Nat} {r : Option Nat}

theorem ex_sound (hT : tb.Ok P) (hm : P.follows .mixedOrders = true) : ∀ (c : Code) (an : An) (Q : Post) (f : Fr) (ds : List Nat) (w : World), okC tb N c an = true → ex P tb N r c an Q f ds w →
    Wp P N r c (fun e f' ds' w' => AgreeOff (wrs c) f f' ∧ Q e f' ds' w') f ds w
  | .skip, an, Q, f, ds, w, _, h => fun a hR => wpIn_skip ⟨f, ds, hR, AgreeOff.refl _ _, h⟩
  | .ret, an, Q, f, ds, w, _, h => fun a hR => wpIn_ret ⟨f, ds, hR, AgreeOff.refl _ _, h⟩
  | .exit id, an, Q, f, ds, w, _, h => fun a hR => wpIn_exit ⟨f, ds, hR, AgreeOff.refl _ _, h⟩
  | .seq x y, an, Q, f, ds, w, hok, h => by
    intro a hR
    refine wpIn_seq ?_
    have plain : okC tb N x an.l = true → okC tb N y an.r = true → ex P tb N r x an.l (thenQ (fun f' ds' w' => ex P tb N r y an.r Q f' ds' w') Q) f ds w →
        x.wpIn (fz r) 0 P (Exit.then (y.wpIn (fz r) 0 P fun e a' w' => ∃ f' ds', Rel N a' f' ds' ∧ AgreeOff (wrs (.seq x y)) f f' ∧ Q e f' ds' w') fun e a' w' => ∃ f' ds', Rel N a' f' ds' ∧ AgreeOff (wrs (.seq x y)) f f' ∧ Q e f' ds' w') a w := by
      intro h1 h2 h
      refine wpIn_mono (ex_sound hT hm x an.l _ f ds w h1 h a hR) ?_
      rintro e a₁ w₁ ⟨f₁, ds₁, hR₁, hA₁, hQ₁⟩
      have hA₁' : AgreeOff (wrs (.seq x y)) f f₁ := hA₁.mono fun t ht => List.mem_append_left _ ht
      cases e with
      | normal =>
        refine wpIn_mono (ex_sound hT hm y an.r _ f₁ ds₁ w₁ h2 hQ₁ a₁ hR₁) ?_
        rintro e a₂ w₂ ⟨f₂, ds₂, hR₂, hA₂, hQ₂⟩
        exact ⟨f₂, ds₂, hR₂, hA₁'.trans (hA₂.mono fun t ht => List.mem_append_right _ ht), hQ₂⟩
      | _ => exact ⟨f₁, ds₁, hR₁, hA₁', hQ₁⟩
    cases an with
    | join car wr a' b' =>
      simp only [okC, Bool.and_eq_true] at hok
      obtain ⟨⟨h1, h2⟩, h3⟩ := hok
      simp only [ex] at h
      obtain ⟨M, hx, hy⟩ := h
      refine wpIn_mono (ex_sound hT hm x a' _ f ds w h1 hx a hR) ?_
      rintro e a₁ w₁ ⟨f₁, ds₁, hR₁, hA₁, hQ₁⟩
      have hA₁' : AgreeOff (wrs (.seq x y)) f f₁ := hA₁.mono fun t ht => List.mem_append_left _ ht
      cases e with
      | normal =>
        obtain ⟨rfl, hN⟩ := hQ₁
        obtain ⟨hc, hM⟩ := hN.out
        have h4 := hy _ _ f₁ hM
        rw [ovr_eq (hA₁.mono (subL_mem h3)) hc] at h4
        refine wpIn_mono (ex_sound hT hm y b' _ f₁ ds₁ w₁ h2 h4 a₁ hR₁) ?_
        rintro e a₂ w₂ ⟨f₂, ds₂, hR₂, hA₂, hQ₂⟩
        exact ⟨f₂, ds₂, hR₂, hA₁'.trans (hA₂.mono fun t ht => List.mem_append_right _ ht), hQ₂⟩
      | _ => exact ⟨f₁, ds₁, hR₁, hA₁', hQ₁⟩
    | nil =>
      simp only [okC, Bool.and_eq_true] at hok
      exact plain hok.1 hok.2 h
    | node a' b' =>
      simp only [okC, Bool.and_eq_true] at hok
      exact plain hok.1 hok.2 h
    | loop car wr a' =>
      simp only [okC, Bool.and_eq_true] at hok
      exact plain hok.1 hok.2 h
    | draw _ =>
      simp only [okC, Bool.and_eq_true] at hok
      exact plain hok.1 hok.2 h
    | rng _ _ =>
      simp only [okC, Bool.and_eq_true] at hok
      exact plain hok.1 hok.2 h
  | .cond c x y, an, Q, f, ds, w, hok, h => by
    intro a hR
    simp only [okC, Bool.and_eq_true] at hok
    simp only [ex] at h
    split at h
    case h_2 => exact h.elim
    rename_i b hb
    have he : a.eval c = .bool b := by rw [hR.eval]; exact hb
    rcases h.cases with ⟨rfl, h⟩ | ⟨rfl, h⟩
    · refine wpIn_cond he (wpIn_mono (ex_sound hT hm x an.l _ f ds w hok.1 h a hR) ?_)
      rintro e a₁ w₁ ⟨f₁, ds₁, hR₁, hA₁, hQ₁⟩
      exact ⟨f₁, ds₁, hR₁, hA₁.mono fun t ht => List.mem_append_left _ ht, hQ₁⟩
    · refine wpIn_cond he (wpIn_mono (ex_sound hT hm y an.r _ f ds w hok.2 h a hR) ?_)
      rintro e a₁ w₁ ⟨f₁, ds₁, hR₁, hA₁, hQ₁⟩
      exact ⟨f₁, ds₁, hR₁, hA₁.mono fun t ht => List.mem_append_right _ ht, hQ₁⟩
  | .block id c, an, Q, f, ds, w, hok, h => by
    intro a hR
    refine wpIn_block (wpIn_mono (ex_sound hT hm c an _ f ds w hok h a hR) ?_)
    rintro e a₁ w₁ ⟨f₁, ds₁, hR₁, hA₁, hQ₁⟩
    cases e with
    | exit i =>
      simp only [Exit.inBlock]
      simp only [blockQ] at hQ₁
      by_cases hi : i = id
      · subst hi
        rw [if_pos rfl]
        rw [show Nat.beq i i = true from Nat.beq_refl i] at hQ₁
        exact ⟨f₁, ds₁, hR₁, hA₁, hQ₁⟩
      · rw [if_neg hi]
        have hb : Nat.beq i id = false := by
          cases hb : Nat.beq i id with
          | false => rfl
          | true => exact (hi (Nat.eq_of_beq_eq_true hb)).elim
        rw [hb] at hQ₁
        exact ⟨f₁, ds₁, hR₁, hA₁, hQ₁⟩
    | _ => exact ⟨f₁, ds₁, hR₁, hA₁, hQ₁⟩
  | .loop c, an, Q, f, ds, w, hok, h => by
    intro a hR
    cases an with
    | loop car wr an' =>
      simp only [okC, Bool.and_eq_true] at hok
      obtain ⟨h1, h3⟩ := hok
      simp only [ex] at h
      obtain ⟨I, h0, hstep⟩ := h
      obtain ⟨hc0, hI0⟩ := h0.out
      let fr : Act → Fr := fun a t => a.tmps.getD t undef
      have hfr : ∀ {a f' ds'}, Rel N a f' ds' → fr a = f' := fun h => funext h.val
      refine wpIn_loop (fun a' w' => Rel N a' (fr a') ds ∧ AgreeOff (wrs c) f (fr a') ∧ carChk car (fr a') = true ∧ ∃ n, I n (carDec car (fr a')) w') (fun a' w' => leastN fun n => I n (carDec car (fr a')) w')
        ⟨by rw [hfr hR]; exact hR, by rw [hfr hR]; exact AgreeOff.refl _ _, by rw [hfr hR]; exact hc0, by rw [hfr hR]; exact hI0⟩ ?_
      rintro a' w' ⟨hR', hA', hc', hI'⟩
      have h4 := hstep _ _ _ (fr a') (leastN_is hI')
      rw [ovr_eq (hA'.mono (subL_mem h3)) hc'] at h4
      refine wpIn_mono (ex_sound hT hm c an' _ (fr a') ds w' h1 h4 a' hR') ?_
      rintro e a₁ w₁ ⟨f₁, ds₁, hR₁, hA₁, hQ₁⟩
      cases e with
      | normal =>
        obtain ⟨rfl, hN⟩ := hQ₁
        obtain ⟨hc₁, m, hμ, hI₁⟩ := hN.out
        refine ⟨⟨by rw [hfr hR₁]; exact hR₁, by rw [hfr hR₁]; exact hA'.trans hA₁, by rw [hfr hR₁]; exact hc₁, m, by rw [hfr hR₁]; exact hI₁⟩, ?_⟩
        rw [hfr hR₁]
        exact Nat.lt_of_le_of_lt (leastN_le hI₁) hμ
      | _ => exact ⟨f₁, ds₁, hR₁, hA'.trans hA₁, hQ₁⟩
    | nil => exact h.elim
    | node _ _ => exact h.elim
    | join _ _ _ _ => exact h.elim
    | draw _ => exact h.elim
    | rng _ _ => exact h.elim
  | .region id ops draw, an, Q, f, ds, w, hok, h => by
    intro a hR
    cases draw with
    | false =>
      refine wpIn_region ?_
      rw [List.range_eq_range']
      have := exl_sound (r := r) hT hok ops.toList 0 f a w (by simp) h hR (AgreeOff.refl _ _) (Q := fun e a' w' => ∃ f' ds', Rel N a' f' ds' ∧ AgreeOff (wrs (.region id ops false)) f f' ∧ Q e f' ds' w')
        (fun f' a' w' hR' hA' hK => ⟨f', ds, hR', hA', hK⟩)
      rw [Array.length_toList] at this
      exact this
    | true =>
      simp only [okC, Bool.and_eq_true] at hok
      obtain ⟨⟨⟨⟨⟨h1, h2⟩, h3⟩, h4⟩, h5⟩, h6⟩ := hok
      cases an with
      | draw p =>
        simp only [Bool.and_eq_true, Bool.not_eq_true'] at h6
        refine wpIn_region_any hm ?_
        have inv0 : HeadInv .any ops ops.size (Array.replicate ops.size false) :=
          ⟨by simp, fun j oj _ hl => (by rw [getD_replicate_false] at hl; cases hl), fun t h h' => absurd h' (Nat.not_lt.2 h)⟩
        have := (exq_sound (r := r) (Q := fun a' w' => ∃ f' ds', Rel N a' f' ds' ∧ AgreeOff (wrs (.region id ops true)) f f' ∧ Q .normal f' ds' w') hT h1 h2 h3 h4 h5 (f₀ := f)
          (fun f' a' w' hR' hA' hK => ⟨f', ds, hR', hA', hK⟩) p ops.size _ [] _ [] f _ a h6.2 h hR (AgreeOff.refl _ _) inv0 (fun q hq => by simp at hq) (fun q hq => by simp at hq)).1 h6.1 rfl
        have := wpH_any (Q' := fun e a' w' => ∃ f' ds', Rel N a' f' ds' ∧ AgreeOff (wrs (.region id ops true)) f f' ∧ Q e f' ds' w') (fun a w h => h) ops.size _ a _ this
        exact wpAnyIn_weak (fun a w h => h) _ _ _ _ this
      | nil => exact h.elim
      | node _ _ => exact h.elim
      | loop _ _ _ => exact h.elim
      | join _ _ _ _ => exact h.elim
      | rng _ _ => exact h.elim
  | .rangeFunc g ps assign body, an, Q, f, ds, w, _, h => by
    intro a hR
    cases an with
    | rng car an' =>
      simp only [ex] at h
      obtain ⟨hc, h⟩ := h.out
      have h := h f
      rw [frC_eq hc] at h
      refine wpIn_mono (h a hR) ?_
      rintro e a₁ w₁ ⟨f₁, ds₁, hR₁, hQ₁⟩
      cases e with
      | normal => obtain ⟨rfl, hQ₁⟩ := hQ₁; exact ⟨f₁, ds₁, hR₁, AgreeOff.refl _ _, hQ₁⟩
      | ret => obtain ⟨rfl, hQ₁⟩ := hQ₁; exact ⟨f₁, ds₁, hR₁, AgreeOff.refl _ _, hQ₁⟩
      | exit id => obtain ⟨rfl, hQ₁⟩ := hQ₁; exact ⟨f₁, ds₁, hR₁, AgreeOff.refl _ _, hQ₁⟩
      | goto _ => exact hQ₁.elim
      | panic _ => exact hQ₁.elim
      | outgrown => exact hQ₁.elim
    | nil => exact h.elim
    | node _ _ => exact h.elim
    | loop _ _ _ => exact h.elim
    | join _ _ _ _ => exact h.elim
    | draw _ => exact h.elim
  | .scope _, _, _, _, _, _, _, h => h.elim
  | .label _, _, _, _, _, _, _, h => h.elim
  | .goto _, _, _, _, _, _, _, h => h.elim
  | .refuse _, _, _, _, _, _, _, h => h.elim
end
end Go.Proofs.Ytopecljhehcldaa.Gx
