/- The framework, part 5: the operations that read or write memory, and calls. -/
import Derived.Test.YtopecljhehcldaaGx4
import Derived.Laws.CopyRow
namespace Go.Proofs.Ytopecljhehcldaa.Gx
open Go

/-! ### Reading -/
def CellsAt (w : World) (b o : Nat) (cs : List Value) : Prop := ∀ i v, cs[i]? = some v → w.cell? ⟨b, o + i, none⟩ = some v

def LdF (w : World) (ti : TI) (b o : Nat) (v : Value) : Prop :=
  match ti.kd.isAgg with
  | true => match v with
    | .agg cs => match hasLen cs.toList ti.size with
      | true => CellsAt w b o cs.toList
      | false => False
    | _ => False
  | false => w.cell? ⟨b, o, none⟩ = some v

def LoadP (tb : Tab) (w : World) (T : TypeId) (p : Value) (K : Value → Prop) : Prop :=
  match tb T, p with
  | some ti, .pointer (some ⟨b, o, none⟩) => ∃ x : ti.sh.den, LdF w ti b o (ti.sh.enc x) ∧ K (ti.sh.enc x)
  | _, _ => False

/-- The first m cells of a slice. -/
def ReadC (w : World) (p : Option Addr) (m : Nat) (cs : List Value) : Prop :=
  match p with
  | some ⟨b, o, none⟩ => cs.length = m ∧ CellsAt w b o cs
  | some _ => m = 0 ∧ cs = []
  | none => cs = []

/-! ### Writing -/
def spliceL (l : List Value) (o : Nat) (vs : List Value) : List Value := l.take o ++ vs ++ l.drop (o + vs.length)

def setsA (old : Array Value) (o : Nat) (vs : List Value) : Array Value :=
  match vs with
  | [v] => old.setIfInBounds o v
  | vs => (spliceL old.toList o vs).toArray

theorem setsA_eq (old : Array Value) (o : Nat) (vs : List Value) (h : o + vs.length ≤ old.size) : setsA old o vs = (spliceL old.toList o vs).toArray := by
  unfold setsA
  split
  · rename_i v
    apply Array.toList_inj.1
    simp only [Array.toList_setIfInBounds, spliceL, List.length_singleton]
    have ho : o < old.toList.length := by simp at h; simp; omega
    rw [List.set_eq_take_append_cons_drop, if_pos ho]
    simp
  · rfl

def StoreP (w : World) (b o : Nat) (vs : List Value) (K : World → Prop) : Prop :=
  match vs with
  | [] => K w
  | v :: vs => ∃ old T, w.heap[b]? = some (.cells old T (0, 0)) ∧ o + (vs.length + 1) ≤ old.size ∧ (∀ x ∈ v :: vs, x.oneCell' = true) ∧
      UpdP w b (.cells (setsA old o (v :: vs)) T (0, 0)) K

/-- A whole value is stored. -/
def StoreV (w : World) (b o size : Nat) (v : Value) (K : World → Prop) : Prop := v.cells.size = size ∧ StoreP w b o v.cells.toList K

theorem isUpd_setRow {w : World} {b : Nat} {old new : Array Value} {T : TypeId} (h : w.heap[b]? = some (.cells old T (0, 0))) :
    IsUpd w b (.cells new T (0, 0)) (w.setRow b new) := by
  refine ⟨by simp [World.setRow], setRow_heap w b old new T (0, 0) h, fun i hi => ?_, ⟨rfl, rfl, rfl⟩⟩
  simp only [World.setRow, Array.getElem?_modify]
  rw [if_neg (Ne.symm hi)]

theorem StoreP.run {P : Program} {w : World} {b o : Nat} {vs : List Value} {K : World → Prop} (h : StoreP w b o vs K) :
    ∃ w', (storeCells ⟨b, o, none⟩ vs).run P w = .ok () w' ∧ K w' := by
  cases vs with
  | nil => exact ⟨w, by simp [storeCells], h⟩
  | cons v vs =>
    obtain ⟨old, T, hb, hl, h1, hK⟩ := h
    refine ⟨_, run_storeCells_at P b o T (v :: vs) 0 old w hb (by simpa using hl) h1, ?_⟩
    have := hK (w.setRow b (setsA old o (v :: vs))) (isUpd_setRow hb)
    rw [setsA_eq old o (v :: vs) (by simpa using hl)] at this
    simpa [spliceL] using this

/-! ### Calls -/
def CX (P : Program) (f : FuncId) (args : Array Value) (w : World) (R : Value → World → Prop) : Prop :=
  CW P f args w R ∨ ∃ v w', (callFunc f args).run P w = .ok (.value v) w' ∧ R v w'

theorem CW.use {P : Program} {f : FuncId} {args : Array Value} {w : World} {R K : Value → World → Prop} (h : CW P f args w R)
    (hr : ∀ v w', R v w' → K v w') : CX P f args w K := .inl (h.mono hr)

def TypedO (tb : Tab) (T : TypeId) (v : Value) (K : Value → Prop) : Prop :=
  match tb T with
  | some ti => Typed ti.sh v K
  | none => K v

theorem TypedO.out {tb : Tab} {T : TypeId} {v : Value} {K : Value → Prop} (h : TypedO tb T v K) : K v := by
  unfold TypedO at h
  split at h
  · exact h.out
  · exact h

/-! ### append, copy, make -/
def zc (z : Array Value) (n : Nat) : List Value := (Builtin.zeroCells z n).toList

def Roomy (n bytes : Nat) : Prop := n ≤ 4611686018427387904 ∧ (2 * n + 1024) * bytes ≤ 281474976710656

def AppendP (te : TI) (e : TypeId) (w : World) (p : Option Addr) (n c cnt : Nat) (new : List Value) (K : Sl → World → Prop) : Prop :=
  (n + cnt ≤ c → match p with
    | some ⟨b, o, none⟩ => StoreP w b (o + n * te.size) new fun w' => K ⟨p, n + cnt, c⟩ w'
    | some _ => False
    | none => K ⟨none, n + cnt, c⟩ w) ∧
  (c < n + cnt → Roomy (n + cnt) te.bytes ∧ ∃ old, ReadC w p (n * te.size) old ∧ ∀ k, n + cnt ≤ k →
    AllocP w.drew (.cells (old ++ new ++ zc te.zero.cells (k - (n + cnt))).toArray e (0, 0)) fun b w' => K ⟨some ⟨b, 0, none⟩, n + cnt, k⟩ w')

def CopyP (w : World) (size : Nat) (p : Option Addr) (n : Nat) (q : Option Addr) (m : Nat) (K : Int → World → Prop) : Prop :=
  ∃ cs, ReadC w q (Nat.min m n * size) cs ∧ match p with
    | some ⟨b, o, none⟩ => StoreP w b o cs fun w' => K (Nat.min m n) w'
    | some _ => False
    | none => K (Nat.min m n) w

/-! ### Maps -/
def keyDesc : Kd → Option TypeDesc
  | .int k => some (.int k)
  | _ => none

def MapRd (w : World) (m : Value) (es : List MapEntry) : Prop :=
  match m with
  | .map none => es = []
  | .map (some r) => ∃ a ck, w.heap[r]? = some (.map a ck) ∧ es = a.toList
  | _ => False

def denseL (size : Nat) : Nat → List (Nat × Value) → Option (List Value)
  | _, [] => some []
  | k, (i, v) :: rest => match Nat.beq i k, hasLen (cellsL v) size with
    | true, true => match denseL size (Nat.succ k) rest with
      | some l => some (appL (cellsL v) l)
      | none => none
    | _, _ => none

/-- The entry of a map at a key. -/
def MapGetP (d : TypeDesc) (w : World) (m k z : Value) (K : Value → Bool → Prop) : Prop :=
  ∃ es, MapRd w m es ∧ ∃ r, Instr.findNow d k es 0 = some r ∧ match r with
    | some (_, v) => K v true
    | none => K z false
def MapSetP (d : TypeDesc) (w : World) (m k x : Value) (K : World → Prop) : Prop :=
  ∃ r, m = .map (some r) ∧ ∃ es ck, w.heap[r]? = some (.map es ck) ∧ ∃ q, Instr.findNow d k es.toList 0 = some q ∧ match q with
    | some (i, _) => UpdP w r (.map (es.modify i fun e => { e with key := k, val := x }) ck) K
    | none => UpdP w r (.map (es.push { key := k, val := x, born := ck }) (ck + 1)) K
def MapItP (w : World) (m : Value) (K : Nat → World → Prop) : Prop :=
  (m = .map none ∧ AllocP w (.mapIter none 0 #[] 0) K) ∨ ∃ r es ck, m = .map (some r) ∧ w.heap[r]? = some (.map es ck) ∧ AllocP w (.mapIter (some r) ck #[] ck) K
def MapClearP (w : World) (p : Option Nat) (K : World → Prop) : Prop :=
  match p with
  | none => K w
  | some r => ∃ es ck, w.heap[r]? = some (.map es ck) ∧ UpdP w r (.map #[] ck) K
def MapDelP (d : TypeDesc) (w : World) (p : Option Nat) (k : Value) (K : World → Prop) : Prop :=
  match p with
  | none => K w
  | some r => ∃ es ck, w.heap[r]? = some (.map es ck) ∧ ∃ q, Instr.findNow d k es.toList 0 = some q ∧ match q with
    | some (i, _) => UpdP w r (.map (es.eraseIdxIfInBounds i) ck) K
    | none => UpdP w r (.map es ck) K
def MapLenP (w : World) (p : Option Nat) (K : Nat → Prop) : Prop :=
  match p with
  | none => K 0
  | some r => ∃ es ck, w.heap[r]? = some (.map es ck) ∧ K es.size

/-- 'next' on an iterator over a map. -/
def NextP (w : World) (r : Nat) (K0 : World → Prop) (K1 : Value → Value → World → Prop) : Prop :=
  (∃ s q t, w.heap[r]? = some (.mapIter none s q t) ∧ K0 w) ∨
  ∃ m since seen last es clock, w.heap[r]? = some (.mapIter (some m) since seen last) ∧ w.heap[m]? = some (.map es clock) ∧
    (seen.isEmpty = true ∨ es.isEmpty = true ∨ ∃ x ∈ es, x.born < last) ∧
    ((∀ x ∈ es, seen.contains x.born = false → since ≤ x.born) → ∀ d, K0 { w with drawn := d }) ∧
    (∀ x ∈ es, seen.contains x.born = false → ∀ d, UpdP { w with drawn := d } r (.mapIter (some m) since (seen.push x.born) clock) fun w' => K1 x.key x.val w')
/-- What the iterator's last step came to. -/
def EntryP (w : World) (r : Nat) (K : Value → Value → Prop) : Prop :=
  ∃ m since seen ck es e, w.heap[r]? = some (.mapIter (some m) since seen ck) ∧ w.heap[m]? = some (.map es ck) ∧ seen.back? = some e.born ∧ es.find? (·.born == e.born) = some e ∧ K e.key e.val

/-- What an operation asks, that may read or write memory. -/
def acx (P : Program) (tb : Tab) (o : Oper) (ρ : Operand → Value) (w : World) (K : Value → World → Prop) : Prop :=
  match o.op with
  | .load T p => LoadP tb w T (ρ p) fun v => K v w
  | .box T x => AllocP w (.cells (ρ x).cells T (0, 0)) fun b w' => K (.pointer (some ⟨b, 0, none⟩)) w'
  | .alloc T => match tb T with
    | some ti => AllocP w (.cells ti.zero.cells T (0, 0)) fun b w' => K (.pointer (some ⟨b, 0, none⟩)) w'
    | none => False
  | .store T p x => match tb T, ρ p with
    | some ti, .pointer (some ⟨b, o, none⟩) => StoreV w b o ti.size (ρ x) fun w' => K undef w'
    | _, _ => False
  | .buildSlice T len parts => match tb T with
    | some ti => match ti.kd with
      | .slice e => match tb e with
        | some te => match denseL te.size 0 (mapL (fun q => (q.1, ρ q.2)) parts.toList), Nat.beq (lenL parts.toList) len with
          | some l, true => len * te.size ≤ 16777216 ∧ AllocP w (.cells l.toArray e (0, 0)) fun b w' => K (.slice (some ⟨b, 0, none⟩) len len) w'
          | _, _ => False
        | none => False
      | _ => False
    | none => False
  | .makeSlice T l c => match tb T, ρ l, ρ c with
    | some ti, .int _ l, .int _ c => match ti.kd with
      | .slice e => match tb e with
        | some te => (0 ≤ l ∧ l ≤ c ∧ c ≤ 281474976710656 ∧ te.bytes * c ≤ 281474976710656) ∧
          AllocP w (.cells (zc te.zero.cells c.toNat).toArray e (0, 0)) fun b w' => K (.slice (some ⟨b, 0, none⟩) l.toNat c.toNat) w'
        | none => False
      | _ => False
    | _, _, _ => False
  | .makeMap T none => match tb T with
    | some _ => AllocP w (.map #[] 0) fun b w' => K (.map (some b)) w'
    | none => False
  | .makeMap T (some r) => match tb T, ρ r with
    | some ti, .int _ _ => match ti.kd with
      | .map .. => AllocP w (.map #[] 0) fun b w' => K (.map (some b)) w'
      | _ => False
    | _, _ => False
  | .lookup T m k ok => match tb T with
    | some ti => match ti.kd with
      | .map kt et => match tb kt, tb et with
        | some tk, some te => match keyDesc tk.kd with
          | some d => MapGetP d w (ρ m) (ρ k) te.zero fun v b => Typed te.sh v fun v => match ok with
            | true => K (.tuple #[v, .bool b]) w
            | false => K v w
          | none => False
        | _, _ => False
      | _ => False
    | none => False
  | .mapUpdate T m k x => match tb T with
    | some ti => match ti.kd with
      | .map kt _ => match tb kt with
        | some tk => match keyDesc tk.kd with
          | some d => MapSetP d w (ρ m) (ρ k) (ρ x) fun w' => K undef w'
          | none => False
        | none => False
      | _ => False
    | none => False
  | .range T m => match tb T with
    | some ti => match ti.kd with
      | .map .. => MapItP w (ρ m) fun b w' => K (.pointer (some ⟨b, 0, none⟩)) w'
      | _ => False
    | none => False
  | .next it false => match ρ it with
    | .pointer (some ⟨r, o, none⟩) => match Nat.beq o 0 with
      | true => NextP w r (fun w' => K (.tuple #[.bool false]) w') fun k v w' => K (.tuple #[.bool true, k, v]) w'
      | false => False
    | _ => False
  | .entry it => match ρ it with
    | .pointer (some ⟨r, o, none⟩) => match Nat.beq o 0 with
      | true => EntryP w r fun k v => K (.tuple #[k, v]) w
      | false => False
    | _ => False
  | .call c => match c.callee with
    | .builtin .append => match mapL ρ c.args.toList, c.argTypes.toList with
      | [.slice p n k, x], T :: T2 :: _ => match tb T, tb T2 with
        | some ti, some t2 => match ti.kd with
          | .slice e => match tb e with
            | some te => match t2.kd, x with
              | .int _, .int _ m => (0 ≤ m ∧ m ≤ 281474976710656 ∧ m * te.bytes ≤ 281474976710656) ∧ AppendP te e w p n k m.toNat (zc te.zero.cells m.toNat) fun s w' => K (.slice s.p s.n s.c) w'
              | .slice _, .slice q m _ => ∃ cs, ReadC w q (m * te.size) cs ∧ AppendP te e w p n k m cs fun s w' => K (.slice s.p s.n s.c) w'
              | _, _ => False
            | none => False
          | _ => False
        | _, _ => False
      | _, _ => False
    | .builtin .copy => match mapL ρ c.args.toList, c.argTypes.toList with
      | [.slice p n _, .slice q m _], T :: _ => match tb T with
        | some ti => match ti.kd with
          | .slice e => match tb e with
            | some te => CopyP w te.size p n q m fun n w' => K (.int .i64 n) w'
            | none => False
          | _ => False
        | none => False
      | _, _ => False
    | .builtin .clear => match mapL ρ c.args.toList, c.argTypes.toList with
      | [.slice p n _], T :: _ => match tb T with
        | some ti => match ti.kd with
          | .slice e => match tb e with
            | some te => match p with
              | none => K (.tuple #[]) w
              | some ⟨b, o, none⟩ => StoreP w b o (zc te.zero.cells n) fun w' => K (.tuple #[]) w'
              | some _ => False
            | none => False
          | _ => False
        | none => False
      | [.map p], T :: _ => match tb T with
        | some _ => MapClearP w p fun w' => K (.tuple #[]) w'
        | none => False
      | _, _ => False
    | .builtin .delete => match mapL ρ c.args.toList, c.argTypes.toList with
      | [.map p, k], T :: _ => match tb T with
        | some ti => match ti.kd with
          | .map kt _ => match tb kt with
            | some tk => match keyDesc tk.kd with
              | some d => MapDelP d w p k fun w' => K (.tuple #[]) w'
              | none => False
            | none => False
          | _ => False
        | none => False
      | _, _ => False
    | .builtin .len => match mapL ρ c.args.toList, c.argTypes.toList with
      | [.map p], T :: _ => match tb T with
        | some ti => match ti.kd with
          | .map .. => MapLenP w p fun n => K (.int .i64 n) w
          | _ => False
        | none => False
      | _, _ => False
    | .value g => match ρ g with
      | .func (.func f) first captured => CX P f (appL first.toList (appL (mapL ρ c.args.toList) captured.toList)).toArray w fun v w' => TypedO tb o.type v fun v => K v w'
      | .func (.yield l) first _ => YW P l (appL first.toList (mapL ρ c.args.toList)).toArray w fun b w' => K (.bool b) w'
      | _ => False
    | _ => False
  | _ => False

/-- Is an operation a pure one? (The length of a map is none.) -/
def pureB (tb : Tab) (op : Op) : Bool :=
  match op with
  | .call c => match c.callee with
    | .builtin .len => match c.argTypes.toList with
      | T :: _ => match tb T with
        | some ti => match ti.kd with
          | .map .. => false
          | _ => true
        | none => true
      | _ => true
    | .builtin .cap | .builtin .min | .builtin .max => true
    | _ => false
  | op => isPure op

def opx (P : Program) (tb : Tab) (o : Oper) (ρ : Operand → Value) (w : World) (K : Value → World → Prop) : Prop :=
  match pureB tb o.op with
  | true => pux P tb o.op ρ fun v => K v w
  | false => acx P tb o ρ w K

end Go.Proofs.Ytopecljhehcldaa.Gx
