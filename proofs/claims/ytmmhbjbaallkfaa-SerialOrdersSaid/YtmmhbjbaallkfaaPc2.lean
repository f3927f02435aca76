/- Merged by pack.py: GxT, GxNK, GxNS, GxLS. -/
import Derived.Test.YtmmhbjbaallkfaaPc1
import Derived.Test.YtmmhbjbaallkfaaProg
import Derived.KernelRfl

/- Written by mktab.py: the types that the functions of this seat use, as Gx reads them, and the facts on each function. -/
namespace Go.Proofs.Ytmmhbjbaallkfaa.Gx
open Go
abbrev tt3 : TI := { kd := .int .i64, size := 1, bytes := 8, zero := (.int .i64 0), sh := .one (.int .i64) }
abbrev tt27 : TI := { kd := .struct [(3, 0), (3, 1), (3, 2), (4, 3), (25, 4), (25, 5)], size := 6, bytes := 80, zero := (.agg #[(.int .i64 0), (.int .i64 0), (.int .i64 0), (.bool false), (.slice none 0 0), (.slice none 0 0)]), sh := .agg [.int .i64, .int .i64, .int .i64, .bool, .sl, .sl] }
abbrev tt44 : TI := { kd := .array 2 3, size := 2, bytes := 16, zero := (.agg #[(.int .i64 0), (.int .i64 0)]), sh := .agg [.int .i64, .int .i64] }
abbrev tt51 : TI := { kd := .struct [(3, 0), (3, 1)], size := 2, bytes := 16, zero := (.agg #[(.int .i64 0), (.int .i64 0)]), sh := .agg [.int .i64, .int .i64] }
def tbL : List (Nat × TI) := [
  (0, { kd := .other, size := 1, bytes := 0, zero := (.tuple #[]), sh := .tup [] }),
  (3, { kd := .int .i64, size := 1, bytes := 8, zero := (.int .i64 0), sh := .one (.int .i64) }),
  (4, { kd := .bool, size := 1, bytes := 1, zero := (.bool false), sh := .one .bool }),
  (5, { kd := .int .u8, size := 1, bytes := 1, zero := (.int .u8 0), sh := .one (.int .u8) }),
  (9, { kd := .string, size := 1, bytes := 16, zero := (.string ⟨#[]⟩), sh := .one .str }),
  (20, { kd := .iface, size := 1, bytes := 16, zero := .nilIface, sh := .one .any }),
  (22, { kd := .slice 27, size := 1, bytes := 24, zero := (.slice none 0 0), sh := .one .sl }),
  (25, { kd := .slice 51, size := 1, bytes := 24, zero := (.slice none 0 0), sh := .one .sl }),
  (27, { kd := .struct [(3, 0), (3, 1), (3, 2), (4, 3), (25, 4), (25, 5)], size := 6, bytes := 80, zero := (.agg #[(.int .i64 0), (.int .i64 0), (.int .i64 0), (.bool false), (.slice none 0 0), (.slice none 0 0)]), sh := .agg [.int .i64, .int .i64, .int .i64, .bool, .sl, .sl] }),
  (29, { kd := .slice 31, size := 1, bytes := 24, zero := (.slice none 0 0), sh := .one .sl }),
  (31, { kd := .slice 3, size := 1, bytes := 24, zero := (.slice none 0 0), sh := .one .sl }),
  (33, { kd := .slice 37, size := 1, bytes := 24, zero := (.slice none 0 0), sh := .one .sl }),
  (37, { kd := .slice 4, size := 1, bytes := 24, zero := (.slice none 0 0), sh := .one .sl }),
  (40, { kd := .slice 44, size := 1, bytes := 24, zero := (.slice none 0 0), sh := .one .sl }),
  (44, { kd := .array 2 3, size := 2, bytes := 16, zero := (.agg #[(.int .i64 0), (.int .i64 0)]), sh := .agg [.int .i64, .int .i64] }),
  (48, { kd := .other, size := 1, bytes := 0, zero := (.tuple #[(.slice none 0 0), (.bool false)]), sh := .tup [.sl, .bool] }),
  (51, { kd := .struct [(3, 0), (3, 1)], size := 2, bytes := 16, zero := (.agg #[(.int .i64 0), (.int .i64 0)]), sh := .agg [.int .i64, .int .i64] }),
  (52, { kd := .ptr, size := 1, bytes := 8, zero := (.pointer none), sh := .one .ptr }),
  (57, { kd := .func, size := 1, bytes := 8, zero := .nilFunc, sh := .one .clo }),
  (59, { kd := .map 44 4, size := 1, bytes := 8, zero := (.map none), sh := .one .map }),
  (63, { kd := .func, size := 1, bytes := 8, zero := .nilFunc, sh := .one .clo }),
  (67, { kd := .func, size := 1, bytes := 8, zero := .nilFunc, sh := .one .clo }),
  (70, { kd := .map 3 4, size := 1, bytes := 8, zero := (.map none), sh := .one .map }),
  (72, { kd := .array 1000 4, size := 1000, bytes := 1000, zero := (.agg (Array.replicate 1000 (.bool false))), sh := .one .arr }),
  (73, { kd := .func, size := 1, bytes := 8, zero := .nilFunc, sh := .one .clo }),
  (74, { kd := .func, size := 1, bytes := 8, zero := .nilFunc, sh := .one .clo }),
  (75, { kd := .func, size := 1, bytes := 8, zero := .nilFunc, sh := .one .clo }),
  (78, { kd := .func, size := 1, bytes := 8, zero := .nilFunc, sh := .one .clo }),
  (79, { kd := .func, size := 1, bytes := 8, zero := .nilFunc, sh := .one .clo }),
  (84, { kd := .int .u64, size := 1, bytes := 8, zero := (.int .u64 0), sh := .one (.int .u64) }),
  (87, { kd := .func, size := 1, bytes := 8, zero := .nilFunc, sh := .one .clo }),
  (91, { kd := .func, size := 1, bytes := 8, zero := .nilFunc, sh := .one .clo }),
  (92, { kd := .func, size := 1, bytes := 8, zero := .nilFunc, sh := .one .clo }),
  (93, { kd := .func, size := 1, bytes := 8, zero := .nilFunc, sh := .one .clo }),
  (97, { kd := .int .i64, size := 1, bytes := 8, zero := (.int .i64 0), sh := .one (.int .i64) }),
  (98, { kd := .other, size := 1, bytes := 0, zero := (.tuple #[(.int .i64 0), (.int .i64 0)]), sh := .tup [.int .i64, .int .i64] }),
  (102, { kd := .other, size := 1, bytes := 0, zero := (.tuple #[(.int .i64 0), (.bool false)]), sh := .tup [.int .i64, .bool] }),
  (105, { kd := .int .u32, size := 1, bytes := 4, zero := (.int .u32 0), sh := .one (.int .u32) }),
  (107, { kd := .int .u64, size := 1, bytes := 8, zero := (.int .u64 0), sh := .one (.int .u64) }),
  (116, { kd := .func, size := 1, bytes := 8, zero := .nilFunc, sh := .one .clo }),
  (117, { kd := .slice 25, size := 1, bytes := 24, zero := (.slice none 0 0), sh := .one .sl }),
  (120, { kd := .func, size := 1, bytes := 8, zero := .nilFunc, sh := .one .clo }),
  (121, { kd := .int .u64, size := 1, bytes := 8, zero := (.int .u64 0), sh := .one (.int .u64) }),
  (125, { kd := .ptr, size := 1, bytes := 8, zero := (.pointer none), sh := .one .ptr }),
  (132, { kd := .ptr, size := 1, bytes := 8, zero := (.pointer none), sh := .one .ptr }),
  (133, { kd := .other, size := 1, bytes := 0, zero := (.tuple #[(.int .i64 0), (.int .i64 0)]), sh := .tup [.int .i64, .int .i64] })
  ]
def tb : Tab := fun t => lkT t tbL
theorem ti0 : TI.Ok Try.prog 0 { kd := .other, size := 1, bytes := 0, zero := (.tuple #[]), sh := .tup [] } := ⟨by kernel_rfl, by kernel_rfl, by rfl⟩
theorem ti3 : TI.Ok Try.prog 3 { kd := .int .i64, size := 1, bytes := 8, zero := (.int .i64 0), sh := .one (.int .i64) } := ⟨by kernel_rfl, by kernel_rfl, by rfl⟩
theorem ti4 : TI.Ok Try.prog 4 { kd := .bool, size := 1, bytes := 1, zero := (.bool false), sh := .one .bool } := ⟨by kernel_rfl, by kernel_rfl, by rfl⟩
theorem ti5 : TI.Ok Try.prog 5 { kd := .int .u8, size := 1, bytes := 1, zero := (.int .u8 0), sh := .one (.int .u8) } := ⟨by kernel_rfl, by kernel_rfl, by rfl⟩
theorem ti9 : TI.Ok Try.prog 9 { kd := .string, size := 1, bytes := 16, zero := (.string ⟨#[]⟩), sh := .one .str } := ⟨by kernel_rfl, by kernel_rfl, by rfl⟩
theorem ti20 : TI.Ok Try.prog 20 { kd := .iface, size := 1, bytes := 16, zero := .nilIface, sh := .one .any } := ⟨by kernel_rfl, by kernel_rfl, by rfl⟩
theorem ti22 : TI.Ok Try.prog 22 { kd := .slice 27, size := 1, bytes := 24, zero := (.slice none 0 0), sh := .one .sl } := ⟨by kernel_rfl, by kernel_rfl, by rfl⟩
theorem ti25 : TI.Ok Try.prog 25 { kd := .slice 51, size := 1, bytes := 24, zero := (.slice none 0 0), sh := .one .sl } := ⟨by kernel_rfl, by kernel_rfl, by rfl⟩
theorem ti27 : TI.Ok Try.prog 27 { kd := .struct [(3, 0), (3, 1), (3, 2), (4, 3), (25, 4), (25, 5)], size := 6, bytes := 80, zero := (.agg #[(.int .i64 0), (.int .i64 0), (.int .i64 0), (.bool false), (.slice none 0 0), (.slice none 0 0)]), sh := .agg [.int .i64, .int .i64, .int .i64, .bool, .sl, .sl] } := ⟨by kernel_rfl, by kernel_rfl, by rfl⟩
theorem ti29 : TI.Ok Try.prog 29 { kd := .slice 31, size := 1, bytes := 24, zero := (.slice none 0 0), sh := .one .sl } := ⟨by kernel_rfl, by kernel_rfl, by rfl⟩
theorem ti31 : TI.Ok Try.prog 31 { kd := .slice 3, size := 1, bytes := 24, zero := (.slice none 0 0), sh := .one .sl } := ⟨by kernel_rfl, by kernel_rfl, by rfl⟩
theorem ti33 : TI.Ok Try.prog 33 { kd := .slice 37, size := 1, bytes := 24, zero := (.slice none 0 0), sh := .one .sl } := ⟨by kernel_rfl, by kernel_rfl, by rfl⟩
theorem ti37 : TI.Ok Try.prog 37 { kd := .slice 4, size := 1, bytes := 24, zero := (.slice none 0 0), sh := .one .sl } := ⟨by kernel_rfl, by kernel_rfl, by rfl⟩
theorem ti40 : TI.Ok Try.prog 40 { kd := .slice 44, size := 1, bytes := 24, zero := (.slice none 0 0), sh := .one .sl } := ⟨by kernel_rfl, by kernel_rfl, by rfl⟩
theorem ti44 : TI.Ok Try.prog 44 { kd := .array 2 3, size := 2, bytes := 16, zero := (.agg #[(.int .i64 0), (.int .i64 0)]), sh := .agg [.int .i64, .int .i64] } := ⟨by kernel_rfl, by kernel_rfl, by rfl⟩
theorem ti48 : TI.Ok Try.prog 48 { kd := .other, size := 1, bytes := 0, zero := (.tuple #[(.slice none 0 0), (.bool false)]), sh := .tup [.sl, .bool] } := ⟨by kernel_rfl, by kernel_rfl, by rfl⟩
theorem ti51 : TI.Ok Try.prog 51 { kd := .struct [(3, 0), (3, 1)], size := 2, bytes := 16, zero := (.agg #[(.int .i64 0), (.int .i64 0)]), sh := .agg [.int .i64, .int .i64] } := ⟨by kernel_rfl, by kernel_rfl, by rfl⟩
theorem ti52 : TI.Ok Try.prog 52 { kd := .ptr, size := 1, bytes := 8, zero := (.pointer none), sh := .one .ptr } := ⟨by kernel_rfl, by kernel_rfl, by rfl⟩
theorem ti57 : TI.Ok Try.prog 57 { kd := .func, size := 1, bytes := 8, zero := .nilFunc, sh := .one .clo } := ⟨by kernel_rfl, by kernel_rfl, by rfl⟩
theorem ti59 : TI.Ok Try.prog 59 { kd := .map 44 4, size := 1, bytes := 8, zero := (.map none), sh := .one .map } := ⟨by kernel_rfl, by kernel_rfl, by rfl⟩
theorem ti63 : TI.Ok Try.prog 63 { kd := .func, size := 1, bytes := 8, zero := .nilFunc, sh := .one .clo } := ⟨by kernel_rfl, by kernel_rfl, by rfl⟩
theorem ti67 : TI.Ok Try.prog 67 { kd := .func, size := 1, bytes := 8, zero := .nilFunc, sh := .one .clo } := ⟨by kernel_rfl, by kernel_rfl, by rfl⟩
theorem ti70 : TI.Ok Try.prog 70 { kd := .map 3 4, size := 1, bytes := 8, zero := (.map none), sh := .one .map } := ⟨by kernel_rfl, by kernel_rfl, by rfl⟩
theorem ti72 : TI.Ok Try.prog 72 { kd := .array 1000 4, size := 1000, bytes := 1000, zero := (.agg (Array.replicate 1000 (.bool false))), sh := .one .arr } := ⟨by kernel_rfl, by kernel_rfl, by simp [Value.cells]⟩
theorem ti73 : TI.Ok Try.prog 73 { kd := .func, size := 1, bytes := 8, zero := .nilFunc, sh := .one .clo } := ⟨by kernel_rfl, by kernel_rfl, by rfl⟩
theorem ti74 : TI.Ok Try.prog 74 { kd := .func, size := 1, bytes := 8, zero := .nilFunc, sh := .one .clo } := ⟨by kernel_rfl, by kernel_rfl, by rfl⟩
theorem ti75 : TI.Ok Try.prog 75 { kd := .func, size := 1, bytes := 8, zero := .nilFunc, sh := .one .clo } := ⟨by kernel_rfl, by kernel_rfl, by rfl⟩
theorem ti78 : TI.Ok Try.prog 78 { kd := .func, size := 1, bytes := 8, zero := .nilFunc, sh := .one .clo } := ⟨by kernel_rfl, by kernel_rfl, by rfl⟩
theorem ti79 : TI.Ok Try.prog 79 { kd := .func, size := 1, bytes := 8, zero := .nilFunc, sh := .one .clo } := ⟨by kernel_rfl, by kernel_rfl, by rfl⟩
theorem ti84 : TI.Ok Try.prog 84 { kd := .int .u64, size := 1, bytes := 8, zero := (.int .u64 0), sh := .one (.int .u64) } := ⟨by kernel_rfl, by kernel_rfl, by rfl⟩
theorem ti87 : TI.Ok Try.prog 87 { kd := .func, size := 1, bytes := 8, zero := .nilFunc, sh := .one .clo } := ⟨by kernel_rfl, by kernel_rfl, by rfl⟩
theorem ti91 : TI.Ok Try.prog 91 { kd := .func, size := 1, bytes := 8, zero := .nilFunc, sh := .one .clo } := ⟨by kernel_rfl, by kernel_rfl, by rfl⟩
theorem ti92 : TI.Ok Try.prog 92 { kd := .func, size := 1, bytes := 8, zero := .nilFunc, sh := .one .clo } := ⟨by kernel_rfl, by kernel_rfl, by rfl⟩
theorem ti93 : TI.Ok Try.prog 93 { kd := .func, size := 1, bytes := 8, zero := .nilFunc, sh := .one .clo } := ⟨by kernel_rfl, by kernel_rfl, by rfl⟩
theorem ti97 : TI.Ok Try.prog 97 { kd := .int .i64, size := 1, bytes := 8, zero := (.int .i64 0), sh := .one (.int .i64) } := ⟨by kernel_rfl, by kernel_rfl, by rfl⟩
theorem ti98 : TI.Ok Try.prog 98 { kd := .other, size := 1, bytes := 0, zero := (.tuple #[(.int .i64 0), (.int .i64 0)]), sh := .tup [.int .i64, .int .i64] } := ⟨by kernel_rfl, by kernel_rfl, by rfl⟩
theorem ti102 : TI.Ok Try.prog 102 { kd := .other, size := 1, bytes := 0, zero := (.tuple #[(.int .i64 0), (.bool false)]), sh := .tup [.int .i64, .bool] } := ⟨by kernel_rfl, by kernel_rfl, by rfl⟩
theorem ti105 : TI.Ok Try.prog 105 { kd := .int .u32, size := 1, bytes := 4, zero := (.int .u32 0), sh := .one (.int .u32) } := ⟨by kernel_rfl, by kernel_rfl, by rfl⟩
theorem ti107 : TI.Ok Try.prog 107 { kd := .int .u64, size := 1, bytes := 8, zero := (.int .u64 0), sh := .one (.int .u64) } := ⟨by kernel_rfl, by kernel_rfl, by rfl⟩
theorem ti116 : TI.Ok Try.prog 116 { kd := .func, size := 1, bytes := 8, zero := .nilFunc, sh := .one .clo } := ⟨by kernel_rfl, by kernel_rfl, by rfl⟩
theorem ti117 : TI.Ok Try.prog 117 { kd := .slice 25, size := 1, bytes := 24, zero := (.slice none 0 0), sh := .one .sl } := ⟨by kernel_rfl, by kernel_rfl, by rfl⟩
theorem ti120 : TI.Ok Try.prog 120 { kd := .func, size := 1, bytes := 8, zero := .nilFunc, sh := .one .clo } := ⟨by kernel_rfl, by kernel_rfl, by rfl⟩
theorem ti121 : TI.Ok Try.prog 121 { kd := .int .u64, size := 1, bytes := 8, zero := (.int .u64 0), sh := .one (.int .u64) } := ⟨by kernel_rfl, by kernel_rfl, by rfl⟩
theorem ti125 : TI.Ok Try.prog 125 { kd := .ptr, size := 1, bytes := 8, zero := (.pointer none), sh := .one .ptr } := ⟨by kernel_rfl, by kernel_rfl, by rfl⟩
theorem ti132 : TI.Ok Try.prog 132 { kd := .ptr, size := 1, bytes := 8, zero := (.pointer none), sh := .one .ptr } := ⟨by kernel_rfl, by kernel_rfl, by rfl⟩
theorem ti133 : TI.Ok Try.prog 133 { kd := .other, size := 1, bytes := 0, zero := (.tuple #[(.int .i64 0), (.int .i64 0)]), sh := .tup [.int .i64, .int .i64] } := ⟨by kernel_rfl, by kernel_rfl, by rfl⟩
theorem lkT_mem {t : Nat} {i : TI} : ∀ {l : List (Nat × TI)}, lkT t l = some i → (t, i) ∈ l
  | [], h => by cases h
  | q :: l, h => by
    unfold lkT at h
    split at h
    · rename_i e
      have := Nat.eq_of_beq_eq_true e
      subst this
      cases h
      exact List.mem_cons_self ..
    · exact List.mem_cons_of_mem _ (lkT_mem h)
theorem tbOk : tb.Ok Try.prog := by
  intro t i h
  have h := lkT_mem h
  simp only [tbL, List.mem_cons, List.not_mem_nil, or_false, Prod.mk.injEq] at h
  rcases h with ⟨rfl, rfl⟩ | ⟨rfl, rfl⟩ | ⟨rfl, rfl⟩ | ⟨rfl, rfl⟩ | ⟨rfl, rfl⟩ | ⟨rfl, rfl⟩ | ⟨rfl, rfl⟩ | ⟨rfl, rfl⟩ | ⟨rfl, rfl⟩ | ⟨rfl, rfl⟩ | ⟨rfl, rfl⟩ | ⟨rfl, rfl⟩ | ⟨rfl, rfl⟩ | ⟨rfl, rfl⟩ | ⟨rfl, rfl⟩ | ⟨rfl, rfl⟩ | ⟨rfl, rfl⟩ | ⟨rfl, rfl⟩ | ⟨rfl, rfl⟩ | ⟨rfl, rfl⟩ | ⟨rfl, rfl⟩ | ⟨rfl, rfl⟩ | ⟨rfl, rfl⟩ | ⟨rfl, rfl⟩ | ⟨rfl, rfl⟩ | ⟨rfl, rfl⟩ | ⟨rfl, rfl⟩ | ⟨rfl, rfl⟩ | ⟨rfl, rfl⟩ | ⟨rfl, rfl⟩ | ⟨rfl, rfl⟩ | ⟨rfl, rfl⟩ | ⟨rfl, rfl⟩ | ⟨rfl, rfl⟩ | ⟨rfl, rfl⟩ | ⟨rfl, rfl⟩ | ⟨rfl, rfl⟩ | ⟨rfl, rfl⟩ | ⟨rfl, rfl⟩ | ⟨rfl, rfl⟩ | ⟨rfl, rfl⟩ | ⟨rfl, rfl⟩ | ⟨rfl, rfl⟩ | ⟨rfl, rfl⟩ | ⟨rfl, rfl⟩ | ⟨rfl, rfl⟩
  · exact ti0
  · exact ti3
  · exact ti4
  · exact ti5
  · exact ti9
  · exact ti20
  · exact ti22
  · exact ti25
  · exact ti27
  · exact ti29
  · exact ti31
  · exact ti33
  · exact ti37
  · exact ti40
  · exact ti44
  · exact ti48
  · exact ti51
  · exact ti52
  · exact ti57
  · exact ti59
  · exact ti63
  · exact ti67
  · exact ti70
  · exact ti72
  · exact ti73
  · exact ti74
  · exact ti75
  · exact ti78
  · exact ti79
  · exact ti84
  · exact ti87
  · exact ti91
  · exact ti92
  · exact ti93
  · exact ti97
  · exact ti98
  · exact ti102
  · exact ti105
  · exact ti107
  · exact ti116
  · exact ti117
  · exact ti120
  · exact ti121
  · exact ti125
  · exact ti132
  · exact ti133
theorem mixed : Try.prog.follows .mixedOrders = true := by kernel_rfl
theorem en9 : Entr Try.prog 9 := entr_of Try.func9 (by kernel_rfl) (by kernel_rfl)
theorem en11 : Entr Try.prog 11 := entr_of Try.func11 (by kernel_rfl) (by kernel_rfl)
theorem en12 : Entr Try.prog 12 := entr_of Try.func12 (by kernel_rfl) (by kernel_rfl)
theorem en20 : Entr Try.prog 20 := entr_of Try.func20 (by kernel_rfl) (by kernel_rfl)
theorem en21 : Entr Try.prog 21 := entr_of Try.func21 (by kernel_rfl) (by kernel_rfl)
theorem en22 : Entr Try.prog 22 := entr_of Try.func22 (by kernel_rfl) (by kernel_rfl)
theorem en23 : Entr Try.prog 23 := entr_of Try.func23 (by kernel_rfl) (by kernel_rfl)
theorem en25 : Entr Try.prog 25 := entr_of Try.func25 (by kernel_rfl) (by kernel_rfl)
theorem en26 : Entr Try.prog 26 := entr_of Try.func26 (by kernel_rfl) (by kernel_rfl)
theorem en28 : Entr Try.prog 28 := entr_of Try.func28 (by kernel_rfl) (by kernel_rfl)
theorem en30 : Entr Try.prog 30 := entr_of Try.func30 (by kernel_rfl) (by kernel_rfl)
theorem en31 : Entr Try.prog 31 := entr_of Try.func31 (by kernel_rfl) (by kernel_rfl)
theorem en32 : Entr Try.prog 32 := entr_of Try.func32 (by kernel_rfl) (by kernel_rfl)
theorem en33 : Entr Try.prog 33 := entr_of Try.func33 (by kernel_rfl) (by kernel_rfl)
theorem en34 : Entr Try.prog 34 := entr_of Try.func34 (by kernel_rfl) (by kernel_rfl)
theorem en35 : Entr Try.prog 35 := entr_of Try.func35 (by kernel_rfl) (by kernel_rfl)
theorem en36 : Entr Try.prog 36 := entr_of Try.func36 (by kernel_rfl) (by kernel_rfl)
theorem en39 : Entr Try.prog 39 := entr_of Try.func39 (by kernel_rfl) (by kernel_rfl)
theorem en41 : Entr Try.prog 41 := entr_of Try.func41 (by kernel_rfl) (by kernel_rfl)
theorem en42 : Entr Try.prog 42 := entr_of Try.func42 (by kernel_rfl) (by kernel_rfl)
theorem en43 : Entr Try.prog 43 := entr_of Try.func43 (by kernel_rfl) (by kernel_rfl)
theorem en44 : Entr Try.prog 44 := entr_of Try.func44 (by kernel_rfl) (by kernel_rfl)
theorem en45 : Entr Try.prog 45 := entr_of Try.func45 (by kernel_rfl) (by kernel_rfl)
theorem en46 : Entr Try.prog 46 := entr_of Try.func46 (by kernel_rfl) (by kernel_rfl)
theorem en47 : Entr Try.prog 47 := entr_of Try.func47 (by kernel_rfl) (by kernel_rfl)
theorem en48 : Entr Try.prog 48 := entr_of Try.func48 (by kernel_rfl) (by kernel_rfl)
theorem en49 : Entr Try.prog 49 := entr_of Try.func49 (by kernel_rfl) (by kernel_rfl)
theorem en50 : Entr Try.prog 50 := entr_of Try.func50 (by kernel_rfl) (by kernel_rfl)
theorem en52 : Entr Try.prog 52 := entr_of Try.func52 (by kernel_rfl) (by kernel_rfl)
theorem en53 : Entr Try.prog 53 := entr_of Try.func53 (by kernel_rfl) (by kernel_rfl)
theorem en54 : Entr Try.prog 54 := entr_of Try.func54 (by kernel_rfl) (by kernel_rfl)
theorem en59 : Entr Try.prog 59 := entr_of Try.func59 (by kernel_rfl) (by kernel_rfl)
theorem en60 : Entr Try.prog 60 := entr_of Try.func60 (by kernel_rfl) (by kernel_rfl)
theorem en61 : Entr Try.prog 61 := entr_of Try.func61 (by kernel_rfl) (by kernel_rfl)
theorem en62 : Entr Try.prog 62 := entr_of Try.func62 (by kernel_rfl) (by kernel_rfl)
theorem en63 : Entr Try.prog 63 := entr_of Try.func63 (by kernel_rfl) (by kernel_rfl)
theorem en64 : Entr Try.prog 64 := entr_of Try.func64 (by kernel_rfl) (by kernel_rfl)
theorem en65 : Entr Try.prog 65 := entr_of Try.func65 (by kernel_rfl) (by kernel_rfl)
theorem en66 : Entr Try.prog 66 := entr_of Try.func66 (by kernel_rfl) (by kernel_rfl)
theorem en67 : Entr Try.prog 67 := entr_of Try.func67 (by kernel_rfl) (by kernel_rfl)
theorem en68 : Entr Try.prog 68 := entr_of Try.func68 (by kernel_rfl) (by kernel_rfl)
theorem en69 : Entr Try.prog 69 := entr_of Try.func69 (by kernel_rfl) (by kernel_rfl)
theorem en73 : Entr Try.prog 73 := entr_of Try.func73 (by kernel_rfl) (by kernel_rfl)
theorem en74 : Entr Try.prog 74 := entr_of Try.func74 (by kernel_rfl) (by kernel_rfl)
theorem en75 : Entr Try.prog 75 := entr_of Try.func75 (by kernel_rfl) (by kernel_rfl)
theorem en76 : Entr Try.prog 76 := entr_of Try.func76 (by kernel_rfl) (by kernel_rfl)
theorem en77 : Entr Try.prog 77 := entr_of Try.func77 (by kernel_rfl) (by kernel_rfl)
theorem en78 : Entr Try.prog 78 := entr_of Try.func78 (by kernel_rfl) (by kernel_rfl)
theorem en79 : Entr Try.prog 79 := entr_of Try.func79 (by kernel_rfl) (by kernel_rfl)
theorem en80 : Entr Try.prog 80 := entr_of Try.func80 (by kernel_rfl) (by kernel_rfl)
theorem en81 : Entr Try.prog 81 := entr_of Try.func81 (by kernel_rfl) (by kernel_rfl)
theorem en82 : Entr Try.prog 82 := entr_of Try.func82 (by kernel_rfl) (by kernel_rfl)
theorem en84 : Entr Try.prog 84 := entr_of Try.func84 (by kernel_rfl) (by kernel_rfl)
theorem en85 : Entr Try.prog 85 := entr_of Try.func85 (by kernel_rfl) (by kernel_rfl)
theorem en86 : Entr Try.prog 86 := entr_of Try.func86 (by kernel_rfl) (by kernel_rfl)
theorem en87 : Entr Try.prog 87 := entr_of Try.func87 (by kernel_rfl) (by kernel_rfl)
theorem en88 : Entr Try.prog 88 := entr_of Try.func88 (by kernel_rfl) (by kernel_rfl)
theorem en89 : Entr Try.prog 89 := entr_of Try.func89 (by kernel_rfl) (by kernel_rfl)
theorem en90 : Entr Try.prog 90 := entr_of Try.func90 (by kernel_rfl) (by kernel_rfl)
theorem en91 : Entr Try.prog 91 := entr_of Try.func91 (by kernel_rfl) (by kernel_rfl)
theorem en92 : Entr Try.prog 92 := entr_of Try.func92 (by kernel_rfl) (by kernel_rfl)
theorem en93 : Entr Try.prog 93 := entr_of Try.func93 (by kernel_rfl) (by kernel_rfl)
theorem en94 : Entr Try.prog 94 := entr_of Try.func94 (by kernel_rfl) (by kernel_rfl)
theorem en96 : Entr Try.prog 96 := entr_of Try.func96 (by kernel_rfl) (by kernel_rfl)
theorem en97 : Entr Try.prog 97 := entr_of Try.func97 (by kernel_rfl) (by kernel_rfl)
theorem en98 : Entr Try.prog 98 := entr_of Try.func98 (by kernel_rfl) (by kernel_rfl)
theorem en99 : Entr Try.prog 99 := entr_of Try.func99 (by kernel_rfl) (by kernel_rfl)
theorem en100 : Entr Try.prog 100 := entr_of Try.func100 (by kernel_rfl) (by kernel_rfl)
theorem en101 : Entr Try.prog 101 := entr_of Try.func101 (by kernel_rfl) (by kernel_rfl)
theorem en102 : Entr Try.prog 102 := entr_of Try.func102 (by kernel_rfl) (by kernel_rfl)
theorem en103 : Entr Try.prog 103 := entr_of Try.func103 (by kernel_rfl) (by kernel_rfl)
theorem en104 : Entr Try.prog 104 := entr_of Try.func104 (by kernel_rfl) (by kernel_rfl)
theorem en105 : Entr Try.prog 105 := entr_of Try.func105 (by kernel_rfl) (by kernel_rfl)
theorem en106 : Entr Try.prog 106 := entr_of Try.func106 (by kernel_rfl) (by kernel_rfl)
theorem en107 : Entr Try.prog 107 := entr_of Try.func107 (by kernel_rfl) (by kernel_rfl)
theorem en108 : Entr Try.prog 108 := entr_of Try.func108 (by kernel_rfl) (by kernel_rfl)
theorem en109 : Entr Try.prog 109 := entr_of Try.func109 (by kernel_rfl) (by kernel_rfl)
theorem en110 : Entr Try.prog 110 := entr_of Try.func110 (by kernel_rfl) (by kernel_rfl)
theorem en111 : Entr Try.prog 111 := entr_of Try.func111 (by kernel_rfl) (by kernel_rfl)
theorem en112 : Entr Try.prog 112 := entr_of Try.func112 (by kernel_rfl) (by kernel_rfl)
theorem en113 : Entr Try.prog 113 := entr_of Try.func113 (by kernel_rfl) (by kernel_rfl)
theorem en114 : Entr Try.prog 114 := entr_of Try.func114 (by kernel_rfl) (by kernel_rfl)
theorem en115 : Entr Try.prog 115 := entr_of Try.func115 (by kernel_rfl) (by kernel_rfl)
theorem en116 : Entr Try.prog 116 := entr_of Try.func116 (by kernel_rfl) (by kernel_rfl)
theorem en117 : Entr Try.prog 117 := entr_of Try.func117 (by kernel_rfl) (by kernel_rfl)
theorem en118 : Entr Try.prog 118 := entr_of Try.func118 (by kernel_rfl) (by kernel_rfl)
theorem en119 : Entr Try.prog 119 := entr_of Try.func119 (by kernel_rfl) (by kernel_rfl)
theorem en120 : Entr Try.prog 120 := entr_of Try.func120 (by kernel_rfl) (by kernel_rfl)
theorem en121 : Entr Try.prog 121 := entr_of Try.func121 (by kernel_rfl) (by kernel_rfl)
theorem en122 : Entr Try.prog 122 := entr_of Try.func122 (by kernel_rfl) (by kernel_rfl)
theorem en123 : Entr Try.prog 123 := entr_of Try.func123 (by kernel_rfl) (by kernel_rfl)
theorem en124 : Entr Try.prog 124 := entr_of Try.func124 (by kernel_rfl) (by kernel_rfl)
theorem en125 : Entr Try.prog 125 := entr_of Try.func125 (by kernel_rfl) (by kernel_rfl)
theorem en126 : Entr Try.prog 126 := entr_of Try.func126 (by kernel_rfl) (by kernel_rfl)
theorem en127 : Entr Try.prog 127 := entr_of Try.func127 (by kernel_rfl) (by kernel_rfl)
end Go.Proofs.Ytmmhbjbaallkfaa.Gx

/- Written by mkf.py: what is to be shown of functions, as Gx reckons it from their code. -/
namespace Go.Proofs.Ytmmhbjbaallkfaa.Gx
open Go
set_option linter.unusedVariables false
set_option maxRecDepth 100000
noncomputable def R60_0 : Code := codeAt [1, 0, 1, 0] (bodyOf Try.f60)
def R60_0a : An := .nil
theorem R60_0ok1 : okC tb Try.f60.ntmps (rA R60_0) .nil = true := by kernel_rfl
theorem R60_0ok2 : okC tb Try.f60.ntmps (rB R60_0) R60_0a = true := by kernel_rfl
theorem R60_0okp : (rP R60_0).toList.all (fun p => Nat.blt p Try.f60.ntmps) = true := by kernel_rfl
def F60 (t0 : Sl) (t1 : Sl) (w : World) (R : Value → World → Prop) : Prop :=
 AllocP w (Obj.cells #[Value.bool false] (4 : Nat)) fun (b1 : Nat) (w2 : World) =>
 (1 : Nat) * (1 : Nat) ≤ (16777216 : Nat) ∧
 AllocP w2 (Obj.cells #[Value.slice t0.1 t0.2 t0.3] (25 : Nat)) fun (b3 : Nat) (w4 : World) =>
 CX Try.prog (74 : Nat) #[Value.slice (some ({ block := b3, off := (0 : Nat) } : Addr)) (1 : Nat) (1 : Nat)] w4 fun (v5 : Value) (w6 : World) =>
 ∃ (s7 : Sl),
 v5 = Value.slice s7.1 s7.2 s7.3 ∧
 (1 : Nat) * (1 : Nat) ≤ (16777216 : Nat) ∧
 AllocP w6 (Obj.cells #[Value.slice t1.1 t1.2 t1.3] (25 : Nat)) fun (b8 : Nat) (w9 : World) =>
 CX Try.prog (74 : Nat) #[Value.slice (some ({ block := b8, off := (0 : Nat) } : Addr)) (1 : Nat) (1 : Nat)] w9 fun (v10 : Value) (w11 : World) =>
 ∃ (s12 : Sl),
 v10 = Value.slice s12.1 s12.2 s12.3 ∧
 CX Try.prog (73 : Nat) #[Value.slice s7.1 s7.2 s7.3, Value.slice s12.1 s12.2 s12.3] w11 fun (v13 : Value) (w14 : World) =>
 ∃ (x15 : Nat × Array Value),
 v13 = Value.func (Fn.func x15.1) #[] x15.2 ∧
 ∀ (y16 : Nat → Value),
 RangeP Try.prog tb (nat_lit 13) none R60_0a (rG R60_0) (rP R60_0) (rA R60_0) (rB R60_0)
 (frC y16 [((4 : Nat), Value.pointer (some ({ block := b1, off := (0 : Nat) } : Addr))), ((11 : Nat), Value.func (Fn.func x15.1) #[] x15.2)]) [] w14
 (fun (l17 : List Nat) (w18 : World) =>
 #[Value.bool false].size = (1 : Nat) ∧
 StoreP w18 b1 (0 : Nat) [Value.bool false] fun (w19 : World) =>
 marksP w19 l17 fun (w20 : World) => ∃ (t21 : Bool), w20.cell? ({ block := b1, off := (0 : Nat) } : Addr) = some (Value.bool t21) ∧ R (Value.bool t21) w20)
 (fun (l22 : List Nat) (w23 : World) => marksP w23 l22 fun (w24 : World) => ∃ (t25 : Bool), w24.cell? ({ block := b1, off := (0 : Nat) } : Addr) = some (Value.bool t25) ∧ R (Value.bool t25) w24)
 fun (b26 : Nat) (l27 : List Nat) (w28 : World) =>
 match b26.beq (0 : Nat) with
 | true => #[Value.bool false].size = (1 : Nat) ∧ StoreP w28 b1 (0 : Nat) [Value.bool false] fun (w30 : World) => marksP w30 l27 fun (w31 : World) => ∃ (t32 : Bool), w31.cell? ({ block := b1, off := (0 : Nat) } : Addr) = some (Value.bool t32) ∧ R (Value.bool t32) w31
 | false => False
theorem F60_ok (t0 : Sl) (t1 : Sl) (w : World) (R : Value → World → Prop) (h : F60 t0 t1 w R) : CW Try.prog 60 #[Value.slice t0.1 t0.2 t0.3, Value.slice t1.1 t1.2 t1.3] w R :=
  call_of tbOk mixed en60 Try.func60 rfl (.node (.nil) (.node (.node (.nil) (.rng [(4, .one (.box)), (11, .one (.clo))] (.nil))) (.nil))) (by kernel_rfl) (Nat.le_of_ble_eq_true (by kernel_rfl)) (Eq.mp (α := F60 t0 t1 w R) (by kernel_rfl) h)
def F60b0 (t4 : Nat) (t11 : Nat × Array Value) (x12 : Value) (l D n₀ : Nat) (Jn : World → Prop) (Jx : Code → World → Prop) (W : World) : Prop :=
  ([] : List Nat) = [] ∧
 (W.1[l]? = W.1[l]? ∧ W.1[D]? = W.1[D]?) ∧
 ∀ (w9 : World),
 Stb n₀ W w9 →
 Its W w9 →
 (∃ (y12 : Loop), w9.1[l]? = some (Obj.loop y12)) →
 #[Value.bool true].size = (1 : Nat) ∧ StoreP w9 t4 (0 : Nat) [Value.bool true] fun (w16 : World) => (w16.1[l]? = w9.1[l]? ∧ w16.1[D]? = w9.1[D]?) ∧ Jx Code.ret w16
theorem F60b0_ok (t4 : Nat) (t11 : Nat × Array Value) (x12 : Value) (l D n₀ : Nat) (Jn : World → Prop) (Jx : Code → World → Prop) (W : World) {g : Nat → Value} (h : F60b0 t4 t11 x12 l D n₀ Jn Jx W) :
    BodyP Try.prog tb Try.f60.ntmps l D n₀ R60_0a (rP R60_0) (rA R60_0) (rB R60_0) (frC g [(4, Value.pointer (some ({ block := t4, off := 0 } : Addr))), (11, Value.func (Fn.func t11.1) #[] t11.2)]) Jn Jx [x12] W :=
  Eq.mp (α := F60b0 t4 t11 x12 l D n₀ Jn Jx W) (by kernel_rfl) h
def F73 (t0 : Sl) (t1 : Sl) (w : World) (R : Value → World → Prop) : Prop :=
 AllocP w (Obj.cells #[Value.slice t0.1 t0.2 t0.3] (25 : Nat)) fun (b1 : Nat) (w2 : World) =>
 AllocP w2 (Obj.cells #[Value.slice t1.1 t1.2 t1.3] (25 : Nat)) fun (b3 : Nat) (w4 : World) =>
 R (Value.func (Fn.func (96 : Nat)) #[] #[Value.pointer (some ({ block := b1, off := (0 : Nat) } : Addr)), Value.pointer (some ({ block := b3, off := (0 : Nat) } : Addr))]) w4
theorem F73_ok (t0 : Sl) (t1 : Sl) (w : World) (R : Value → World → Prop) (h : F73 t0 t1 w R) : CW Try.prog 73 #[Value.slice t0.1 t0.2 t0.3, Value.slice t1.1 t1.2 t1.3] w R :=
  call_of tbOk mixed en73 Try.func73 rfl (.nil) (by kernel_rfl) (Nat.le_of_ble_eq_true (by kernel_rfl)) (Eq.mp (α := F73 t0 t1 w R) (by kernel_rfl) h)
def F96j2 (t0 : Nat) (R : Value → World → Prop) (y2 : Nat → Int → World → Prop) (b4 : Nat) (n5 : Int) (b12 : Nat) (s15 : Sl) (y16 : Nat → Int → World → Prop) (b18 : Nat) (n19 : Int) (w20 : World) : Prop :=
 IfB (decide (n19 < (s15.n : Int)))
 (∃ (b23 : Nat),
 ∃ (b24 : Nat),
 s15.1 = some ({ block := b23, off := b24 } : Addr) ∧
 ((0 : Int) ≤ n19 ∧ n19 < (s15.2 : Int)) ∧
 ∃ (x25 : Int × Int),
 CellsAt w20 b23 (b24 + n19.toNat * (2 : Nat)) [Value.int IntKind.i64 x25.1, Value.int IntKind.i64 x25.2] ∧
 AllocP w20 (Obj.cells #[Value.int IntKind.i64 (0 : Int), Value.int IntKind.i64 (0 : Int)] (51 : Nat)) fun (b26 : Nat) (w27 : World) =>
 #[Value.int IntKind.i64 x25.1, Value.int IntKind.i64 x25.2].size = (2 : Nat) ∧
 StoreP w27 b26 (0 : Nat) [Value.int IntKind.i64 x25.1, Value.int IntKind.i64 x25.2] fun (w28 : World) =>
 ∃ (n29 : Int),
 w28.cell? ({ block := b12, off := (0 : Nat) + (0 : Nat) } : Addr) = some (Value.int IntKind.i64 n29) ∧
 ∃ (n30 : Int),
 w28.cell? ({ block := b26, off := (0 : Nat) + (0 : Nat) } : Addr) = some (Value.int IntKind.i64 n30) ∧
 ∃ (n31 : Int),
 w28.cell? ({ block := b12, off := (0 : Nat) + (1 : Nat) } : Addr) = some (Value.int IntKind.i64 n31) ∧
 ∃ (n32 : Int),
 w28.cell? ({ block := b26, off := (0 : Nat) + (1 : Nat) } : Addr) = some (Value.int IntKind.i64 n32) ∧
 AllocP w28 (Obj.cells #[Value.int IntKind.i64 (0 : Int), Value.int IntKind.i64 (0 : Int)] (51 : Nat)) fun (b33 : Nat) (w34 : World) =>
 #[Value.int IntKind.i64 (if n29 < n30 then n30 else n29), Value.int IntKind.i64 (if n32 < n31 then n32 else n31)].size = (2 : Nat) ∧
 StoreP w34 b33 (0 : Nat) [Value.int IntKind.i64 (if n29 < n30 then n30 else n29), Value.int IntKind.i64 (if n32 < n31 then n32 else n31)] fun (w35 : World) =>
 ∃ (n36 : Int),
 w35.cell? ({ block := b33, off := (0 : Nat) + (0 : Nat) } : Addr) = some (Value.int IntKind.i64 n36) ∧
 ∃ (n37 : Int),
 w35.cell? ({ block := b33, off := (0 : Nat) + (1 : Nat) } : Addr) = some (Value.int IntKind.i64 n37) ∧
 IfB (decide (n36 ≤ n37))
 (∃ (x38 : Int × Int),
 CellsAt w35 b33 (0 : Nat) [Value.int IntKind.i64 x38.1, Value.int IntKind.i64 x38.2] ∧
 YW Try.prog t0 #[Value.agg #[Value.int IntKind.i64 x38.1, Value.int IntKind.i64 x38.2]] w35 fun (t39 : Bool) (w40 : World) =>
 IfB (!t39) (R (Value.tuple #[]) w40) (([] : List Nat) = [] ∧ ∃ (b41 : Nat), b41 < b18 ∧ y16 b41 (IntKind.i64.wrap (n19 + (1 : Int))) w40))
 (([] : List Nat) = [] ∧ ∃ (b42 : Nat), b42 < b18 ∧ y16 b42 (IntKind.i64.wrap (n19 + (1 : Int))) w35))
 (([] : List Nat) = [] ∧ ∃ (b43 : Nat), b43 < b4 ∧ y2 b43 (IntKind.i64.wrap (n5 + (1 : Int))) w20)
def F96j1 (t0 : Nat) (t2 : Nat) (R : Value → World → Prop) (s1 : Sl) (y2 : Nat → Int → World → Prop) (b4 : Nat) (n5 : Int) (w6 : World) : Prop :=
 IfB (decide (n5 < (s1.n : Int)))
 (∃ (b9 : Nat),
 ∃ (b10 : Nat),
 s1.1 = some ({ block := b9, off := b10 } : Addr) ∧
 ((0 : Int) ≤ n5 ∧ n5 < (s1.2 : Int)) ∧
 ∃ (x11 : Int × Int),
 CellsAt w6 b9 (b10 + n5.toNat * (2 : Nat)) [Value.int IntKind.i64 x11.1, Value.int IntKind.i64 x11.2] ∧
 AllocP w6 (Obj.cells #[Value.int IntKind.i64 (0 : Int), Value.int IntKind.i64 (0 : Int)] (51 : Nat)) fun (b12 : Nat) (w13 : World) =>
 #[Value.int IntKind.i64 x11.1, Value.int IntKind.i64 x11.2].size = (2 : Nat) ∧
 StoreP w13 b12 (0 : Nat) [Value.int IntKind.i64 x11.1, Value.int IntKind.i64 x11.2] fun (w14 : World) =>
 ∃ (s15 : Sl),
 w14.cell? ({ block := t2, off := (0 : Nat) } : Addr) = some (Value.slice s15.1 s15.2 s15.3) ∧
 ∃ (y16 : Nat → Int → World → Prop),
 (∃ (b17 : Nat), y16 b17 (0 : Int) w14) ∧
 ∀ (b18 : Nat) (n19 : Int) (w20 : World) (y21 : Nat → Value),
 y16 b18 n19 w20 →
 (F96j2 t0 R y2 b4 n5 b12 s15 y16 b18 n19 w20))
 (R (Value.tuple #[]) w6)
def F96 (t0 : Nat) (t1 : Nat) (t2 : Nat) (w : World) (R : Value → World → Prop) : Prop :=
 ∃ (s1 : Sl),
 w.cell? ({ block := t1, off := (0 : Nat) } : Addr) = some (Value.slice s1.1 s1.2 s1.3) ∧
 ∃ (y2 : Nat → Int → World → Prop),
 (∃ (b3 : Nat), y2 b3 (0 : Int) w) ∧
 ∀ (b4 : Nat) (n5 : Int) (w6 : World) (y7 : Nat → Value),
 y2 b4 n5 w6 →
 (F96j1 t0 t2 R s1 y2 b4 n5 w6)
theorem F96_ok (t0 : Nat) (t1 : Nat) (t2 : Nat) (w : World) (R : Value → World → Prop) (h : F96 t0 t1 t2 w R) : CW Try.prog 96 #[Value.func (Fn.yield t0) #[] #[], Value.pointer (some ({ block := t1, off := 0 } : Addr)), Value.pointer (some ({ block := t2, off := 0 } : Addr))] w R :=
  call_of tbOk mixed en96 Try.func96 rfl (.node (.nil) (.loop [(11, .one (.int .i64))] [12, 13, 14, 5, 15, 16, 17, 18, 19, 20, 7, 21, 22, 23, 24, 25, 26, 27, 28, 29, 30, 31, 8, 32, 33, 34, 35, 36, 37, 38, 39, 40, 41, 42, 43, 44, 11] (.node (.nil) (.node (.nil) (.node (.node (.nil) (.node (.nil) (.loop [(17, .one (.int .i64))] [18, 19, 20, 7, 21, 22, 23, 24, 25, 26, 27, 28, 29, 30, 31, 8, 32, 33, 34, 35, 36, 37, 38, 39, 40, 41, 42, 43, 17] (.nil)))) (.nil)))))) (by kernel_rfl) (Nat.le_of_ble_eq_true (by kernel_rfl)) (Eq.mp (α := F96 t0 t1 t2 w R) (by kernel_rfl) h)
def F74k1 (w22 : World) (b20 : Nat) (x13 : Sl × Int) (b12 : Nat) (y10 : Nat → Sl × Int → World → Prop) : Prop :=
 ∃ (x42 : Int × Int),
 CellsAt w22.drew b20 (0 : Nat) [Value.int IntKind.i64 x42.1, Value.int IntKind.i64 x42.2] ∧
 (1 : Nat) * (2 : Nat) ≤ (16777216 : Nat) ∧
 AllocP w22.drew (Obj.cells #[Value.int IntKind.i64 x42.1, Value.int IntKind.i64 x42.2] (51 : Nat)) fun (b43 : Nat) (w44 : World) =>
 ∃ (l45 : List Value),
 ReadC w44 (some ({ block := b43, off := (0 : Nat) } : Addr)) ((1 : Nat) * (2 : Nat)) l45 ∧
 AppendP tt51 (51 : Nat) w44 x13.fst.1 x13.fst.2 x13.fst.3 (1 : Nat) l45 fun (s46 : Sl) (w47 : World) =>
 ([] : List Nat) = [] ∧ ∃ (b48 : Nat), b48 < b12 ∧ y10 b48 ({ p := s46.1, n := s46.2, c := s46.3 }, IntKind.i64.wrap (x13.2 + (1 : Int))) w47
def F74j1 (R : Value → World → Prop) (s6 : Sl) (y10 : Nat → Sl × Int → World → Prop) (b12 : Nat) (x13 : Sl × Int) (w14 : World) : Prop :=
 IfB (decide (x13.snd < (s6.n : Int)))
 (∃ (b17 : Nat),
 ∃ (b18 : Nat),
 s6.1 = some ({ block := b17, off := b18 } : Addr) ∧
 ((0 : Int) ≤ x13.2 ∧ x13.2 < (s6.2 : Int)) ∧
 ∃ (x19 : Int × Int),
 CellsAt w14 b17 (b18 + x13.2.toNat * (2 : Nat)) [Value.int IntKind.i64 x19.1, Value.int IntKind.i64 x19.2] ∧
 AllocP w14 (Obj.cells #[Value.int IntKind.i64 (0 : Int), Value.int IntKind.i64 (0 : Int)] (51 : Nat)) fun (b20 : Nat) (w21 : World) =>
 #[Value.int IntKind.i64 x19.1, Value.int IntKind.i64 x19.2].size = (2 : Nat) ∧
 StoreP w21 b20 (0 : Nat) [Value.int IntKind.i64 x19.1, Value.int IntKind.i64 x19.2] fun (w22 : World) =>
 IfB (decide ((0 : Int) < (x13.fst.n : Int)))
 (∃ (n23 : Int),
 w22.drew.cell? ({ block := b20, off := (0 : Nat) + (0 : Nat) } : Addr) = some (Value.int IntKind.i64 n23) ∧
 ∃ (b24 : Nat),
 ∃ (b25 : Nat),
 x13.fst.1 = some ({ block := b24, off := b25 } : Addr) ∧
 ((0 : Int) ≤ IntKind.i64.wrap ((x13.fst.2 : Int) - (1 : Int)) ∧ IntKind.i64.wrap ((x13.fst.2 : Int) - (1 : Int)) < (x13.fst.2 : Int)) ∧
 ∃ (n26 : Int),
 w22.drew.cell? ({ block := b24, off := b25 + (IntKind.i64.wrap ((x13.fst.2 : Int) - (1 : Int))).toNat * (2 : Nat) + (1 : Nat) } : Addr) = some (Value.int IntKind.i64 n26) ∧
 IfB (decide (n23 ≤ IntKind.i64.wrap (n26 + (1 : Int))))
 (∃ (b27 : Nat),
 ∃ (b28 : Nat),
 x13.fst.1 = some ({ block := b27, off := b28 } : Addr) ∧
 ((0 : Int) ≤ IntKind.i64.wrap ((x13.fst.2 : Int) - (1 : Int)) ∧ IntKind.i64.wrap ((x13.fst.2 : Int) - (1 : Int)) < (x13.fst.2 : Int)) ∧
 ∃ (n29 : Int),
 w22.drew.drew.cell? ({ block := b27, off := b28 + (IntKind.i64.wrap ((x13.fst.2 : Int) - (1 : Int))).toNat * (2 : Nat) + (1 : Nat) } : Addr) = some (Value.int IntKind.i64 n29) ∧
 ∃ (n30 : Int),
 w22.drew.drew.cell? ({ block := b20, off := (0 : Nat) + (1 : Nat) } : Addr) = some (Value.int IntKind.i64 n30) ∧
 ∃ (b31 : Nat),
 ∃ (b32 : Nat),
 x13.fst.1 = some ({ block := b31, off := b32 } : Addr) ∧
 ((0 : Int) ≤ IntKind.i64.wrap ((x13.fst.2 : Int) - (1 : Int)) ∧ IntKind.i64.wrap ((x13.fst.2 : Int) - (1 : Int)) < (x13.fst.2 : Int)) ∧
 #[Value.int IntKind.i64 (if n29 < n30 then n30 else n29)].size = (1 : Nat) ∧
 StoreP w22.drew.drew b31 (b32 + (IntKind.i64.wrap ((x13.fst.2 : Int) - (1 : Int))).toNat * (2 : Nat) + (1 : Nat)) [Value.int IntKind.i64 (if n29 < n30 then n30 else n29)] fun (w33 : World) =>
 ([] : List Nat) = [] ∧ ∃ (b34 : Nat), b34 < b12 ∧ y10 b34 ({ p := x13.fst.1, n := x13.fst.2, c := x13.fst.3 }, IntKind.i64.wrap (x13.2 + (1 : Int))) w33)
 (F74k1 w22 b20 x13 b12 y10))
 (F74k1 w22 b20 x13 b12 y10))
 (R (Value.slice x13.fst.1 x13.fst.2 x13.fst.3) w14)
def F74 (t0 : Sl) (w : World) (R : Value → World → Prop) : Prop :=
 CX Try.prog (98 : Nat) #[Value.slice t0.1 t0.2 t0.3] w fun (v1 : Value) (w2 : World) =>
 ∃ (s3 : Sl),
 v1 = Value.slice s3.1 s3.2 s3.3 ∧
 CX Try.prog (97 : Nat) #[Value.slice s3.1 s3.2 s3.3, Value.func (Fn.func (99 : Nat)) #[] #[]] w2 fun (v4 : Value) (w5 : World) =>
 ∃ (s6 : Sl),
 v4 = Value.slice s6.1 s6.2 s6.3 ∧
 CX Try.prog (101 : Nat) #[Value.slice s6.1 s6.2 s6.3, Value.func (Fn.func (102 : Nat)) #[] #[]] w5 fun (v7 : Value) (w8 : World) =>
 ∃ (y9 : Unit),
 v7 = Value.tuple #[] ∧
 ∃ (y10 : Nat → Sl × Int → World → Prop),
 (∃ (b11 : Nat), y10 b11 ({ p := none, n := (0 : Nat), c := (0 : Nat) }, (0 : Int)) w8) ∧
 ∀ (b12 : Nat) (x13 : Sl × Int) (w14 : World) (y15 : Nat → Value),
 y10 b12 x13 w14 →
 (F74j1 R s6 y10 b12 x13 w14)
theorem F74_ok (t0 : Sl) (w : World) (R : Value → World → Prop) (h : F74 t0 w R) : CW Try.prog 74 #[Value.slice t0.1 t0.2 t0.3] w R :=
  call_of tbOk mixed en74 Try.func74 rfl (.node (.nil) (.node (.nil) (.node (.nil) (.node (.nil) (.node (.node (.nil) (.loop [(4, .one (.sl)), (15, .one (.int .i64))] [16, 17, 18, 6, 19, 20, 7, 21, 22, 23, 24, 25, 26, 27, 28, 29, 30, 31, 32, 33, 34, 35, 36, 37, 38, 39, 40, 41, 42, 43, 44, 45, 46, 47, 48, 49, 50, 51, 52, 4, 53, 15] (.node (.nil) (.node (.nil) (.node (.node (.nil) (.node (.nil) (.node (.node (.draw (.st 0 (.st 1 (.st 2 (.st 3 (.st 4 (.st 5 (.st 6 (.st 7 (.st 8 (.st 9 (.st 10 (.st 11 (.st 12 (.st 13 (.fin)))))))))))))))) (.node (.node (.draw (.st 0 (.st 1 (.st 2 (.st 3 (.st 4 (.st 5 (.st 6 (.st 7 (.st 8 (.st 9 (.st 10 (.st 11 (.st 12 (.st 13 (.ac 14 [] (.fin) (.non))))))))))))))))) (.nil)) (.nil))) (.nil)))) (.nil)))))) (.nil)))))) (by kernel_rfl) (Nat.le_of_ble_eq_true (by kernel_rfl)) (Eq.mp (α := F74 t0 w R) (by kernel_rfl) h)
def F99 (t0 : (Leaf.int IntKind.i64).den × dens [Leaf.int IntKind.i64]) (w : World) (R : Value → World → Prop) : Prop :=
 AllocP w (Obj.cells #[Value.int IntKind.i64 t0.1, Value.int IntKind.i64 t0.2] (51 : Nat)) fun (b1 : Nat) (w2 : World) =>
 ∃ (x3 : Int × Int),
 CellsAt w2 b1 (0 : Nat) [Value.int IntKind.i64 x3.1, Value.int IntKind.i64 x3.2] ∧
 CX Try.prog (100 : Nat) #[Value.agg #[Value.int IntKind.i64 x3.1, Value.int IntKind.i64 x3.2]] w2 fun (v4 : Value) (w5 : World) =>
 ∃ (t6 : Bool), v4 = Value.bool t6 ∧ R (Value.bool !t6) w5
theorem F99_ok (t0 : (Leaf.int IntKind.i64).den × dens [Leaf.int IntKind.i64]) (w : World) (R : Value → World → Prop) (h : F99 t0 w R) : CW Try.prog 99 #[Value.agg #[Value.int IntKind.i64 t0.1, Value.int IntKind.i64 t0.2]] w R :=
  call_of tbOk mixed en99 Try.func99 rfl (.nil) (by kernel_rfl) (Nat.le_of_ble_eq_true (by kernel_rfl)) (Eq.mp (α := F99 t0 w R) (by kernel_rfl) h)
def F102 (t0 : (Leaf.int IntKind.i64).den × dens [Leaf.int IntKind.i64]) (t1 : (Leaf.int IntKind.i64).den × dens [Leaf.int IntKind.i64]) (w : World) (R : Value → World → Prop) : Prop :=
 AllocP w (Obj.cells #[Value.int IntKind.i64 t0.1, Value.int IntKind.i64 t0.2] (51 : Nat)) fun (b1 : Nat) (w2 : World) =>
 AllocP w2 (Obj.cells #[Value.int IntKind.i64 t1.1, Value.int IntKind.i64 t1.2] (51 : Nat)) fun (b3 : Nat) (w4 : World) =>
 ∃ (n5 : Int),
 w4.cell? ({ block := b1, off := (0 : Nat) + (0 : Nat) } : Addr) = some (Value.int IntKind.i64 n5) ∧
 ∃ (n6 : Int),
 w4.cell? ({ block := b3, off := (0 : Nat) + (0 : Nat) } : Addr) = some (Value.int IntKind.i64 n6) ∧
 CX Try.prog (46 : Nat) #[Value.int IntKind.i64 n5, Value.int IntKind.i64 n6] w4 fun (v7 : Value) (w8 : World) =>
 ∃ (n9 : Int), v7 = Value.int IntKind.i64 n9 ∧ R (Value.int IntKind.i64 n9) w8
theorem F102_ok (t0 : (Leaf.int IntKind.i64).den × dens [Leaf.int IntKind.i64]) (t1 : (Leaf.int IntKind.i64).den × dens [Leaf.int IntKind.i64]) (w : World) (R : Value → World → Prop) (h : F102 t0 t1 w R) : CW Try.prog 102 #[Value.agg #[Value.int IntKind.i64 t0.1, Value.int IntKind.i64 t0.2], Value.agg #[Value.int IntKind.i64 t1.1, Value.int IntKind.i64 t1.2]] w R :=
  call_of tbOk mixed en102 Try.func102 rfl (.nil) (by kernel_rfl) (Nat.le_of_ble_eq_true (by kernel_rfl)) (Eq.mp (α := F102 t0 t1 w R) (by kernel_rfl) h)
def F100 (t0 : (Leaf.int IntKind.i64).den × dens [Leaf.int IntKind.i64]) (w : World) (R : Value → World → Prop) : Prop :=
 AllocP w (Obj.cells #[Value.int IntKind.i64 t0.1, Value.int IntKind.i64 t0.2] (51 : Nat)) fun (b1 : Nat) (w2 : World) =>
 ∃ (n3 : Int),
 w2.cell? ({ block := b1, off := (0 : Nat) + (0 : Nat) } : Addr) = some (Value.int IntKind.i64 n3) ∧
 IfB (decide ((0 : Int) ≤ n3))
 (∃ (n4 : Int),
 w2.cell? ({ block := b1, off := (0 : Nat) + (0 : Nat) } : Addr) = some (Value.int IntKind.i64 n4) ∧
 ∃ (n5 : Int),
 w2.cell? ({ block := b1, off := (0 : Nat) + (1 : Nat) } : Addr) = some (Value.int IntKind.i64 n5) ∧
 IfB (decide (n4 ≤ n5)) (∃ (n6 : Int), w2.cell? ({ block := b1, off := (0 : Nat) + (1 : Nat) } : Addr) = some (Value.int IntKind.i64 n6) ∧ R (Value.bool (decide (n6 ≤ (999 : Int)))) w2)
 (R (Value.bool false) w2))
 (R (Value.bool false) w2)
theorem F100_ok (t0 : (Leaf.int IntKind.i64).den × dens [Leaf.int IntKind.i64]) (w : World) (R : Value → World → Prop) (h : F100 t0 w R) : CW Try.prog 100 #[Value.agg #[Value.int IntKind.i64 t0.1, Value.int IntKind.i64 t0.2]] w R :=
  call_of tbOk mixed en100 Try.func100 rfl (.nil) (by kernel_rfl) (Nat.le_of_ble_eq_true (by kernel_rfl)) (Eq.mp (α := F100 t0 w R) (by kernel_rfl) h)
def F98j2 (t0 : Sl) (R : Value → World → Prop) (y15 : Nat → Sl × Int → World → Prop) (b17 : Nat) (x18 : Sl × Int) (w19 : World) : Prop :=
 IfB (decide (x18.snd < (t0.n : Int)))
 (∃ (b22 : Nat),
 ∃ (b23 : Nat),
 t0.1 = some ({ block := b22, off := b23 } : Addr) ∧
 ((0 : Int) ≤ x18.2 ∧ x18.2 < (t0.2 : Int)) ∧
 ∃ (s24 : Sl),
 w19.cell? ({ block := b22, off := b23 + x18.2.toNat } : Addr) = some (Value.slice s24.1 s24.2 s24.3) ∧
 ∃ (l25 : List Value),
 ReadC w19 s24.1 (s24.2 * (2 : Nat)) l25 ∧
 AppendP tt51 (51 : Nat) w19 x18.fst.1 x18.fst.2 x18.fst.3 s24.2 l25 fun (s26 : Sl) (w27 : World) =>
 ([] : List Nat) = [] ∧ ∃ (b28 : Nat), b28 < b17 ∧ y15 b28 ({ p := s26.1, n := s26.2, c := s26.3 }, IntKind.i64.wrap (x18.2 + (1 : Int))) w27)
 (R (Value.slice x18.fst.1 x18.fst.2 x18.fst.3) w19)
def F98j1 (t0 : Sl) (R : Value → World → Prop) (y1 : Nat → Int × Int → World → Prop) (b3 : Nat) (x4 : Int × Int) (w5 : World) : Prop :=
 IfB (decide (x4.snd < (t0.n : Int)))
 (∃ (b8 : Nat),
 ∃ (b9 : Nat),
 t0.1 = some ({ block := b8, off := b9 } : Addr) ∧
 ((0 : Int) ≤ x4.2 ∧ x4.2 < (t0.2 : Int)) ∧
 ∃ (s10 : Sl),
 w5.cell? ({ block := b8, off := b9 + x4.2.toNat } : Addr) = some (Value.slice s10.1 s10.2 s10.3) ∧
 IfB (decide (IntKind.i64.wrap (x4.fst + (s10.n : Int)) < (0 : Int))) False (([] : List Nat) = [] ∧ ∃ (b11 : Nat), b11 < b3 ∧ y1 b11 (IntKind.i64.wrap (x4.1 + (s10.2 : Int)), IntKind.i64.wrap (x4.2 + (1 : Int))) w5))
 (CX Try.prog (112 : Nat) #[Value.slice none (0 : Nat) (0 : Nat), Value.int IntKind.i64 x4.1] w5 fun (v12 : Value) (w13 : World) =>
 ∃ (s14 : Sl),
 v12 = Value.slice s14.1 s14.2 s14.3 ∧
 ∃ (y15 : Nat → Sl × Int → World → Prop),
 (∃ (b16 : Nat), y15 b16 ({ p := s14.1, n := s14.2, c := s14.3 }, (0 : Int)) w13) ∧
 ∀ (b17 : Nat) (x18 : Sl × Int) (w19 : World) (y20 : Nat → Value),
 y15 b17 x18 w19 →
 (F98j2 t0 R y15 b17 x18 w19))
def F98 (t0 : Sl) (w : World) (R : Value → World → Prop) : Prop :=
 ∃ (y1 : Nat → Int × Int → World → Prop),
 (∃ (b2 : Nat), y1 b2 ((0 : Int), (0 : Int)) w) ∧
 ∀ (b3 : Nat) (x4 : Int × Int) (w5 : World) (y6 : Nat → Value),
 y1 b3 x4 w5 →
 (F98j1 t0 R y1 b3 x4 w5)
theorem F98_ok (t0 : Sl) (w : World) (R : Value → World → Prop) (h : F98 t0 w R) : CW Try.prog 98 #[Value.slice t0.1 t0.2 t0.3] w R :=
  call_of tbOk mixed en98 Try.func98 rfl (.node (.nil) (.node (.nil) (.node (.node (.nil) (.loop [(3, .one (.int .i64)), (11, .one (.int .i64))] [12, 13, 14, 5, 15, 16, 17, 18, 3, 19, 20, 21, 22, 11] (.nil))) (.node (.nil) (.node (.node (.nil) (.loop [(6, .one (.sl)), (27, .one (.int .i64))] [28, 29, 30, 8, 31, 32, 33, 6, 34, 27] (.nil))) (.nil)))))) (by kernel_rfl) (Nat.le_of_ble_eq_true (by kernel_rfl)) (Eq.mp (α := F98 t0 w R) (by kernel_rfl) h)
def F97j1 (t0 : Sl) (t1 : Nat × Array Value) (R : Value → World → Prop) (y4 : Nat → Int × Int → World → Prop) (b6 : Nat) (x7 : Int × Int) (w8 : World) : Prop :=
 IfB (decide (x7.snd < (t0.n : Int)))
 (∃ (b11 : Nat),
 ∃ (b12 : Nat),
 t0.1 = some ({ block := b11, off := b12 } : Addr) ∧
 ((0 : Int) ≤ x7.2 ∧ x7.2 < (t0.2 : Int)) ∧
 ∃ (x13 : Int × Int),
 CellsAt w8 b11 (b12 + x7.2.toNat * (2 : Nat)) [Value.int IntKind.i64 x13.1, Value.int IntKind.i64 x13.2] ∧
 AllocP w8 (Obj.cells #[Value.int IntKind.i64 (0 : Int), Value.int IntKind.i64 (0 : Int)] (51 : Nat)) fun (b14 : Nat) (w15 : World) =>
 #[Value.int IntKind.i64 x13.1, Value.int IntKind.i64 x13.2].size = (2 : Nat) ∧
 StoreP w15 b14 (0 : Nat) [Value.int IntKind.i64 x13.1, Value.int IntKind.i64 x13.2] fun (w16 : World) =>
 ∃ (x17 : Int × Int),
 CellsAt w16 b14 (0 : Nat) [Value.int IntKind.i64 x17.1, Value.int IntKind.i64 x17.2] ∧
 CX Try.prog t1.1 { toList := Value.agg #[Value.int IntKind.i64 x17.1, Value.int IntKind.i64 x17.2] :: t1.snd.1 } w16 fun (v18 : Value) (w19 : World) =>
 ∃ (t20 : Bool),
 v18 = Value.bool t20 ∧
 IfB (!t20)
 (∃ (x21 : Int × Int),
 CellsAt w19 b14 (0 : Nat) [Value.int IntKind.i64 x21.1, Value.int IntKind.i64 x21.2] ∧
 ∃ (b22 : Nat),
 ∃ (b23 : Nat),
 t0.1 = some ({ block := b22, off := b23 } : Addr) ∧
 ((0 : Int) ≤ x7.1 ∧ x7.1 < (t0.2 : Int)) ∧
 #[Value.int IntKind.i64 x21.1, Value.int IntKind.i64 x21.2].size = (2 : Nat) ∧
 StoreP w19 b22 (b23 + x7.1.toNat * (2 : Nat)) [Value.int IntKind.i64 x21.1, Value.int IntKind.i64 x21.2] fun (w24 : World) =>
 ([] : List Nat) = [] ∧ ∃ (b25 : Nat), b25 < b6 ∧ y4 b25 (IntKind.i64.wrap (x7.1 + (1 : Int)), IntKind.i64.wrap (x7.2 + (1 : Int))) w24)
 (([] : List Nat) = [] ∧ ∃ (b26 : Nat), b26 < b6 ∧ y4 b26 (x7.1, IntKind.i64.wrap (x7.2 + (1 : Int))) w19))
 (((0 : Int) ≤ x7.1 ∧ x7.1 ≤ (t0.2 : Int)) ∧
 match slAddr t0.1 t0.3 x7.1.toNat (2 : Nat) with
 | none => ((0 : Int) ≤ x7.1 ∧ x7.1 ≤ (t0.3 : Int)) ∧ R (Value.slice (slAddr t0.1 t0.3 (0 : Nat) (2 : Nat)) x7.1.toNat t0.3) w8
 | some ({ block := b28, off := b29, spot := none } : Addr) => StoreP w8 b28 b29 (zc #[Value.int IntKind.i64 (0 : Int), Value.int IntKind.i64 (0 : Int)] (t0.2 - x7.1.toNat)) fun (w30 : World) => ((0 : Int) ≤ x7.1 ∧ x7.1 ≤ (t0.3 : Int)) ∧ R (Value.slice (slAddr t0.1 t0.3 (0 : Nat) (2 : Nat)) x7.1.toNat t0.3) w30
 | some y31 => False)
def F97 (t0 : Sl) (t1 : Nat × Array Value) (w : World) (R : Value → World → Prop) : Prop :=
 CX Try.prog (111 : Nat) #[Value.slice t0.1 t0.2 t0.3, Value.func (Fn.func t1.1) #[] t1.2] w fun (v1 : Value) (w2 : World) =>
 ∃ (n3 : Int),
 v1 = Value.int IntKind.i64 n3 ∧
 IfB (n3 == (-1 : Int)) (R (Value.slice t0.1 t0.2 t0.3) w2)
 (∃ (y4 : Nat → Int × Int → World → Prop),
 (∃ (b5 : Nat), y4 b5 (n3, IntKind.i64.wrap (n3 + (1 : Int))) w2) ∧
 ∀ (b6 : Nat) (x7 : Int × Int) (w8 : World) (y9 : Nat → Value),
 y4 b6 x7 w8 →
 (F97j1 t0 t1 R y4 b6 x7 w8))
theorem F97_ok (t0 : Sl) (t1 : Nat × Array Value) (w : World) (R : Value → World → Prop) (h : F97 t0 t1 w R) : CW Try.prog 97 #[Value.slice t0.1 t0.2 t0.3, Value.func (Fn.func t1.1) #[] t1.2] w R :=
  call_of tbOk mixed en97 Try.func97 rfl (.node (.nil) (.node (.nil) (.node (.nil) (.node (.node (.nil) (.loop [(5, .one (.int .i64)), (6, .one (.int .i64))] [16, 17, 18, 19, 22, 23, 24, 25, 7, 26, 27, 28, 29, 30, 31, 32, 33, 34, 35, 5, 20, 21, 6] (.nil))) (.nil))))) (by kernel_rfl) (Nat.le_of_ble_eq_true (by kernel_rfl)) (Eq.mp (α := F97 t0 t1 w R) (by kernel_rfl) h)
def F111j1 (t0 : Sl) (t1 : Nat × Array Value) (R : Value → World → Prop) (y1 : Nat → Int → World → Prop) (b3 : Nat) (n4 : Int) (w5 : World) : Prop :=
 IfB (decide (n4 < (t0.n : Int)))
 (∃ (b8 : Nat),
 ∃ (b9 : Nat),
 t0.1 = some ({ block := b8, off := b9 } : Addr) ∧
 ((0 : Int) ≤ n4 ∧ n4 < (t0.2 : Int)) ∧
 ∃ (x10 : Int × Int),
 CellsAt w5 b8 (b9 + n4.toNat * (2 : Nat)) [Value.int IntKind.i64 x10.1, Value.int IntKind.i64 x10.2] ∧
 CX Try.prog t1.1 { toList := Value.agg #[Value.int IntKind.i64 x10.1, Value.int IntKind.i64 x10.2] :: t1.snd.1 } w5 fun (v11 : Value) (w12 : World) =>
 ∃ (t13 : Bool), v11 = Value.bool t13 ∧ IfB t13 (R (Value.int IntKind.i64 n4) w12) (([] : List Nat) = [] ∧ ∃ (b14 : Nat), b14 < b3 ∧ y1 b14 (IntKind.i64.wrap (n4 + (1 : Int))) w12))
 (R (Value.int IntKind.i64 (-1 : Int)) w5)
def F111 (t0 : Sl) (t1 : Nat × Array Value) (w : World) (R : Value → World → Prop) : Prop :=
 ∃ (y1 : Nat → Int → World → Prop),
 (∃ (b2 : Nat), y1 b2 (0 : Int) w) ∧
 ∀ (b3 : Nat) (n4 : Int) (w5 : World) (y6 : Nat → Value),
 y1 b3 n4 w5 →
 (F111j1 t0 t1 R y1 b3 n4 w5)
theorem F111_ok (t0 : Sl) (t1 : Nat × Array Value) (w : World) (R : Value → World → Prop) (h : F111 t0 t1 w R) : CW Try.prog 111 #[Value.slice t0.1 t0.2 t0.3, Value.func (Fn.func t1.1) #[] t1.2] w R :=
  call_of tbOk mixed en111 Try.func111 rfl (.node (.nil) (.node (.node (.nil) (.loop [(8, .one (.int .i64))] [9, 10, 5, 11, 12, 13, 14, 15, 16, 17, 4, 18, 8] (.nil))) (.nil))) (by kernel_rfl) (Nat.le_of_ble_eq_true (by kernel_rfl)) (Eq.mp (α := F111 t0 t1 w R) (by kernel_rfl) h)
def F112 (t0 : Sl) (t1 : Int) (w : World) (R : Value → World → Prop) : Prop :=
 IfB (decide (t1 < (0 : Int))) False
 (IfB (decide ((0 : Int) < IntKind.i64.wrap (t1 - IntKind.i64.wrap ((t0.c : Int) - (t0.n : Int)))))
 (((0 : Int) ≤ (t0.3 : Int) ∧ (t0.3 : Int) ≤ (t0.3 : Int)) ∧
 ((0 : Int) ≤ IntKind.i64.wrap (t1 - IntKind.i64.wrap ((t0.3 : Int) - (t0.2 : Int))) ∧
 IntKind.i64.wrap (t1 - IntKind.i64.wrap ((t0.3 : Int) - (t0.2 : Int))) ≤ (281474976710656 : Int) ∧ IntKind.i64.wrap (t1 - IntKind.i64.wrap ((t0.3 : Int) - (t0.2 : Int))) * ((16 : Nat) : Int) ≤ (281474976710656 : Int)) ∧
 AppendP tt51 (51 : Nat) w (slAddr t0.1 t0.3 (0 : Nat) (2 : Nat)) ((t0.3 : Int)).toNat t0.3 (IntKind.i64.wrap (t1 - IntKind.i64.wrap ((t0.3 : Int) - (t0.2 : Int)))).toNat
 (zc #[Value.int IntKind.i64 (0 : Int), Value.int IntKind.i64 (0 : Int)] (IntKind.i64.wrap (t1 - IntKind.i64.wrap ((t0.3 : Int) - (t0.2 : Int)))).toNat) fun (s1 : Sl) (w2 : World) =>
 ((0 : Int) ≤ (t0.2 : Int) ∧ (t0.2 : Int) ≤ (s1.3 : Int)) ∧ R (Value.slice (slAddr s1.1 s1.3 (0 : Nat) (2 : Nat)) ((t0.2 : Int)).toNat s1.3) w2)
 (R (Value.slice t0.1 t0.2 t0.3) w))
theorem F112_ok (t0 : Sl) (t1 : Int) (w : World) (R : Value → World → Prop) (h : F112 t0 t1 w R) : CW Try.prog 112 #[Value.slice t0.1 t0.2 t0.3, Value.int IntKind.i64 t1] w R :=
  call_of tbOk mixed en112 Try.func112 rfl (.nil) (by kernel_rfl) (Nat.le_of_ble_eq_true (by kernel_rfl)) (Eq.mp (α := F112 t0 t1 w R) (by kernel_rfl) h)
def F46 (t0 : Int) (t1 : Int) (w : World) (R : Value → World → Prop) : Prop :=
 CX Try.prog (63 : Nat) #[Value.int IntKind.i64 t0] w fun (v1 : Value) (w2 : World) =>
 ∃ (t3 : Bool),
 v1 = Value.bool t3 ∧
 CX Try.prog (63 : Nat) #[Value.int IntKind.i64 t1] w2 fun (v4 : Value) (w5 : World) =>
 ∃ (t6 : Bool),
 v4 = Value.bool t6 ∧
 IfB t3 (IfB t6 (R (Value.int IntKind.i64 (0 : Int)) w5) (R (Value.int IntKind.i64 (-1 : Int)) w5))
 (IfB t6 (R (Value.int IntKind.i64 (1 : Int)) w5)
 (IfB (decide (t0 < t1)) (R (Value.int IntKind.i64 (-1 : Int)) w5) (IfB (decide (t1 < t0)) (R (Value.int IntKind.i64 (1 : Int)) w5) (R (Value.int IntKind.i64 (0 : Int)) w5))))
theorem F46_ok (t0 : Int) (t1 : Int) (w : World) (R : Value → World → Prop) (h : F46 t0 t1 w R) : CW Try.prog 46 #[Value.int IntKind.i64 t0, Value.int IntKind.i64 t1] w R :=
  call_of tbOk mixed en46 Try.func46 rfl (.nil) (by kernel_rfl) (Nat.le_of_ble_eq_true (by kernel_rfl)) (Eq.mp (α := F46 t0 t1 w R) (by kernel_rfl) h)
end Go.Proofs.Ytmmhbjbaallkfaa.Gx

/- Written by mkf.py: what is to be shown of functions, as Gx reckons it from their code. -/
namespace Go.Proofs.Ytmmhbjbaallkfaa.Gx
open Go
set_option linter.unusedVariables false
set_option maxRecDepth 100000
def F101 (t0 : Sl) (t1 : Nat × Array Value) (w : World) (R : Value → World → Prop) : Prop :=
 CX Try.prog (62 : Nat) #[Value.int IntKind.u64 (IntKind.u64.wrap (t0.2 : Int))] w fun (v1 : Value) (w2 : World) =>
 ∃ (n3 : Int),
 v1 = Value.int IntKind.i64 n3 ∧
 CX Try.prog (113 : Nat)
 #[Value.slice t0.1 t0.2 t0.3, Value.int IntKind.i64 (0 : Int), Value.int IntKind.i64 (t0.2 : Int), Value.int IntKind.i64 n3, Value.func (Fn.func t1.1) #[] t1.2] w2
 fun (v4 : Value) (w5 : World) => ∃ (y6 : Unit), v4 = Value.tuple #[] ∧ R (Value.tuple #[]) w5
theorem F101_ok (t0 : Sl) (t1 : Nat × Array Value) (w : World) (R : Value → World → Prop) (h : F101 t0 t1 w R) : CW Try.prog 101 #[Value.slice t0.1 t0.2 t0.3, Value.func (Fn.func t1.1) #[] t1.2] w R :=
  call_of tbOk mixed en101 Try.func101 rfl (.nil) (by kernel_rfl) (Nat.le_of_ble_eq_true (by kernel_rfl)) (Eq.mp (α := F101 t0 t1 w R) (by kernel_rfl) h)
def F113k2 (t0 : Sl) (x4 : Int × Int × Int × Bool × Bool) (x56 : Int × Bool) (n18 : Int) (t4 : Nat × Array Value) (w55 : World) (b3 : Nat) (y1 : Nat → Int × Int × Int × Bool × Bool → World → Prop) : Prop :=
 CX Try.prog (113 : Nat) #[Value.slice t0.1 t0.2 t0.3, Value.int IntKind.i64 x4.1, Value.int IntKind.i64 x56.1, Value.int IntKind.i64 n18, Value.func (Fn.func t4.1) #[] t4.2]
 w55 fun (v57 : Value) (w58 : World) =>
 ∃ (y59 : Unit),
 v57 = Value.tuple #[] ∧
 ([] : List Nat) = [] ∧
 ∃ (b60 : Nat),
 b60 < b3 ∧
 y1 b60 (IntKind.i64.wrap (x56.1 + (1 : Int)), x4.snd.1, n18, decide (IntKind.i64.wrap ((IntKind.i64.wrap (x4.snd.fst - x4.fst)).tdiv (8 : Int)) ≤ IntKind.i64.wrap (x56.fst - x4.fst)), x56.2) w58
def F113k1 (t0 : Sl) (x56 : Int × Bool) (x4 : Int × Int × Int × Bool × Bool) (n18 : Int) (t4 : Nat × Array Value) (w55 : World) (b3 : Nat) (y1 : Nat → Int × Int × Int × Bool × Bool → World → Prop) : Prop :=
 CX Try.prog (113 : Nat)
 #[Value.slice t0.1 t0.2 t0.3, Value.int IntKind.i64 (IntKind.i64.wrap (x56.1 + (1 : Int))), Value.int IntKind.i64 x4.snd.1, Value.int IntKind.i64 n18, Value.func (Fn.func t4.1) #[] t4.2]
 w55 fun (v61 : Value) (w62 : World) =>
 ∃ (y63 : Unit),
 v61 = Value.tuple #[] ∧
 ([] : List Nat) = [] ∧
 ∃ (b64 : Nat), b64 < b3 ∧ y1 b64 (x4.1, x56.1, n18, decide (IntKind.i64.wrap ((IntKind.i64.wrap (x4.snd.fst - x4.fst)).tdiv (8 : Int)) ≤ IntKind.i64.wrap (x4.snd.fst - x56.fst)), x56.2) w62
def F113j4 (t0 : Sl) (t4 : Nat × Array Value) (y1 : Nat → Int × Int × Int × Bool × Bool → World → Prop) (b3 : Nat) (x4 : Int × Int × Int × Bool × Bool) (n18 : Int) (x29 : Int × Int) (w38 : World) : Prop :=
 IfB (decide ((0 : Int) < x4.fst))
 (∃ (b41 : Nat),
 ∃ (b42 : Nat),
 t0.1 = some ({ block := b41, off := b42 } : Addr) ∧
 ((0 : Int) ≤ IntKind.i64.wrap (x4.1 - (1 : Int)) ∧ IntKind.i64.wrap (x4.1 - (1 : Int)) < (t0.2 : Int)) ∧
 ∃ (x43 : Int × Int),
 CellsAt w38.drew b41 (b42 + (IntKind.i64.wrap (x4.1 - (1 : Int))).toNat * (2 : Nat)) [Value.int IntKind.i64 x43.1, Value.int IntKind.i64 x43.2] ∧
 ∃ (b44 : Nat),
 ∃ (b45 : Nat),
 t0.1 = some ({ block := b44, off := b45 } : Addr) ∧
 ((0 : Int) ≤ x29.1 ∧ x29.1 < (t0.2 : Int)) ∧
 ∃ (x46 : Int × Int),
 CellsAt w38.drew b44 (b45 + x29.1.toNat * (2 : Nat)) [Value.int IntKind.i64 x46.1, Value.int IntKind.i64 x46.2] ∧
 CX Try.prog t4.1
 { toList := Value.agg #[Value.int IntKind.i64 x43.1, Value.int IntKind.i64 x43.2] :: Value.agg #[Value.int IntKind.i64 x46.1, Value.int IntKind.i64 x46.2] :: t4.snd.1 }
 w38.drew fun (v47 : Value) (w48 : World) =>
 ∃ (n49 : Int),
 v47 = Value.int IntKind.i64 n49 ∧
 IfB (!decide (n49 < (0 : Int)))
 (CX Try.prog (122 : Nat)
 #[Value.slice t0.1 t0.2 t0.3, Value.int IntKind.i64 x4.1, Value.int IntKind.i64 x4.snd.1, Value.int IntKind.i64 x29.1, Value.func (Fn.func t4.1) #[] t4.2] w48
 fun (v50 : Value) (w51 : World) => ∃ (n52 : Int), v50 = Value.int IntKind.i64 n52 ∧ ([] : List Nat) = [] ∧ ∃ (b53 : Nat), b53 < b3 ∧ y1 b53 (n52, x4.snd.1, n18, x4.snd.snd.snd.1, x4.snd.snd.snd.2) w51)
 (CX Try.prog (123 : Nat)
 #[Value.slice t0.1 t0.2 t0.3, Value.int IntKind.i64 x4.1, Value.int IntKind.i64 x4.snd.1, Value.int IntKind.i64 x29.1, Value.func (Fn.func t4.1) #[] t4.2] w48
 fun (v54 : Value) (w55 : World) =>
 ∃ (x56 : Int × Bool),
 v54 = Value.tuple #[Value.int IntKind.i64 x56.1, Value.bool x56.2] ∧
 ¬(8 : Int) = (0 : Int) ∧
 IfB (decide (IntKind.i64.wrap (x56.fst - x4.fst) < IntKind.i64.wrap (x4.snd.fst - x56.fst)))
 (F113k2 t0 x4 x56 n18 t4 w55 b3 y1)
 (F113k1 t0 x56 x4 n18 t4 w55 b3 y1)))
 (CX Try.prog (123 : Nat)
 #[Value.slice t0.1 t0.2 t0.3, Value.int IntKind.i64 x4.1, Value.int IntKind.i64 x4.snd.1, Value.int IntKind.i64 x29.1, Value.func (Fn.func t4.1) #[] t4.2] w38.drew
 fun (v65 : Value) (w66 : World) =>
 ∃ (x67 : Int × Bool),
 v65 = Value.tuple #[Value.int IntKind.i64 x67.1, Value.bool x67.2] ∧
 ¬(8 : Int) = (0 : Int) ∧
 IfB (decide (IntKind.i64.wrap (x67.fst - x4.fst) < IntKind.i64.wrap (x4.snd.fst - x67.fst)))
 (F113k2 t0 x4 x67 n18 t4 w66 b3 y1)
 (F113k1 t0 x67 x4 n18 t4 w66 b3 y1))
def F113j3 (t0 : Sl) (t4 : Nat × Array Value) (R : Value → World → Prop) (y1 : Nat → Int × Int × Int × Bool × Bool → World → Prop) (b3 : Nat) (x4 : Int × Int × Int × Bool × Bool) (n18 : Int) (x29 : Int × Int) (w30 : World) : Prop :=
 ∃ (y33 : Unit → World → Prop),
 IfB x4.snd.snd.snd.1
 (IfB x4.snd.snd.snd.2
 (IfB (x29.2 == (1 : Int))
 (CX Try.prog (121 : Nat) #[Value.slice t0.1 t0.2 t0.3, Value.int IntKind.i64 x4.1, Value.int IntKind.i64 x4.snd.1, Value.func (Fn.func t4.1) #[] t4.2] w30
 fun (v34 : Value) (w35 : World) => ∃ (t36 : Bool), v34 = Value.bool t36 ∧ IfB t36 (R (Value.tuple #[]) w35) (([] : List Nat) = [] ∧ y33 PUnit.unit w35))
 (([] : List Nat) = [] ∧ y33 PUnit.unit w30))
 (([] : List Nat) = [] ∧ y33 PUnit.unit w30))
 (([] : List Nat) = [] ∧ y33 PUnit.unit w30) ∧
 ∀ (y37 : Unit) (w38 : World) (y39 : Nat → Value),
 y33 y37 w38 →
 (F113j4 t0 t4 y1 b3 x4 n18 x29 w38)
def F113j2 (t0 : Sl) (t4 : Nat × Array Value) (R : Value → World → Prop) (y1 : Nat → Int × Int × Int × Bool × Bool → World → Prop) (b3 : Nat) (x4 : Int × Int × Int × Bool × Bool) (n18 : Int) (w19 : World) : Prop :=
 CX Try.prog (119 : Nat) #[Value.slice t0.1 t0.2 t0.3, Value.int IntKind.i64 x4.1, Value.int IntKind.i64 x4.snd.1, Value.func (Fn.func t4.1) #[] t4.2] w19
 fun (v22 : Value) (w23 : World) =>
 ∃ (x24 : Int × Int),
 v22 = Value.tuple #[Value.int IntKind.i64 x24.1, Value.int IntKind.i64 x24.2] ∧
 ∃ (y25 : Int × Int → World → Prop),
 IfB (x24.2 == (2 : Int))
 (CX Try.prog (120 : Nat) #[Value.slice t0.1 t0.2 t0.3, Value.int IntKind.i64 x4.1, Value.int IntKind.i64 x4.snd.1, Value.func (Fn.func t4.1) #[] t4.2] w23
 fun (v26 : Value) (w27 : World) =>
 ∃ (y28 : Unit), v26 = Value.tuple #[] ∧ ([] : List Nat) = [] ∧ y25 (IntKind.i64.wrap (IntKind.i64.wrap (x4.snd.1 - (1 : Int)) - IntKind.i64.wrap (x24.1 - x4.1)), (1 : Int)) w27)
 (([] : List Nat) = [] ∧ y25 (x24.1, x24.2) w23) ∧
 ∀ (x29 : Int × Int) (w30 : World) (y31 : Nat → Value),
 y25 x29 w30 →
 (F113j3 t0 t4 R y1 b3 x4 n18 x29 w30)
def F113j1 (t0 : Sl) (t4 : Nat × Array Value) (R : Value → World → Prop) (y1 : Nat → Int × Int × Int × Bool × Bool → World → Prop) (b3 : Nat) (x4 : Int × Int × Int × Bool × Bool) (w5 : World) : Prop :=
 IfB (decide (IntKind.i64.wrap (x4.snd.fst - x4.fst) ≤ (12 : Int)))
 (CX Try.prog (116 : Nat) #[Value.slice t0.1 t0.2 t0.3, Value.int IntKind.i64 x4.1, Value.int IntKind.i64 x4.snd.1, Value.func (Fn.func t4.1) #[] t4.2] w5
 fun (v8 : Value) (w9 : World) => ∃ (y10 : Unit), v8 = Value.tuple #[] ∧ R (Value.tuple #[]) w9)
 (IfB (x4.snd.snd.1 == (0 : Int))
 (CX Try.prog (117 : Nat) #[Value.slice t0.1 t0.2 t0.3, Value.int IntKind.i64 x4.1, Value.int IntKind.i64 x4.snd.1, Value.func (Fn.func t4.1) #[] t4.2] w5
 fun (v11 : Value) (w12 : World) => ∃ (y13 : Unit), v11 = Value.tuple #[] ∧ R (Value.tuple #[]) w12)
 (∃ (y14 : Int → World → Prop),
 IfB (!x4.snd.snd.snd.1)
 (CX Try.prog (118 : Nat) #[Value.slice t0.1 t0.2 t0.3, Value.int IntKind.i64 x4.1, Value.int IntKind.i64 x4.snd.1, Value.func (Fn.func t4.1) #[] t4.2] w5
 fun (v15 : Value) (w16 : World) => ∃ (y17 : Unit), v15 = Value.tuple #[] ∧ ([] : List Nat) = [] ∧ y14 (IntKind.i64.wrap (x4.snd.snd.1 - (1 : Int))) w16)
 (([] : List Nat) = [] ∧ y14 x4.snd.snd.1 w5) ∧
 ∀ (n18 : Int) (w19 : World) (y20 : Nat → Value),
 y14 n18 w19 →
 (F113j2 t0 t4 R y1 b3 x4 n18 w19)))
def F113 (t0 : Sl) (t1 : Int) (t2 : Int) (t3 : Int) (t4 : Nat × Array Value) (w : World) (R : Value → World → Prop) : Prop :=
 ∃ (y1 : Nat → Int × Int × Int × Bool × Bool → World → Prop),
 (∃ (b2 : Nat), y1 b2 (t1, t2, t3, true, true) w) ∧
 ∀ (b3 : Nat) (x4 : Int × Int × Int × Bool × Bool) (w5 : World) (y6 : Nat → Value),
 y1 b3 x4 w5 →
 (F113j1 t0 t4 R y1 b3 x4 w5)
theorem F113_ok (t0 : Sl) (t1 : Int) (t2 : Int) (t3 : Int) (t4 : Nat × Array Value) (w : World) (R : Value → World → Prop) (h : F113 t0 t1 t2 t3 t4 w R) : CW Try.prog 113 #[Value.slice t0.1 t0.2 t0.3, Value.int IntKind.i64 t1, Value.int IntKind.i64 t2, Value.int IntKind.i64 t3, Value.func (Fn.func t4.1) #[] t4.2] w R :=
  call_of tbOk mixed en113 Try.func113 rfl (.node (.nil) (.node (.nil) (.loop [(1, .one (.int .i64)), (2, .one (.int .i64)), (3, .one (.int .i64)), (10, .one (.bool)), (11, .one (.bool))] [21, 22, 23, 12, 24, 25, 26, 27, 28, 29, 30, 31, 32, 33, 34, 35, 36, 37, 38, 39, 40, 41, 42, 43, 44, 45, 46, 3, 48, 49, 50, 51, 52, 47, 53, 54, 13, 14, 55, 56, 57, 58, 59, 60, 61, 62, 63, 64, 65, 66, 67, 68, 69, 70, 71, 72, 73, 74, 75, 76, 77, 78, 79, 80, 81, 82, 83, 84, 85, 86, 87, 88, 89, 90, 91, 92, 93, 94, 95, 96, 97, 98, 99, 100, 101, 102, 103, 15, 104, 1, 106, 107, 108, 109, 110, 111, 105, 112, 113, 16, 17, 114, 11, 115, 116, 117, 118, 119, 120, 18, 19, 121, 122, 20, 123, 124, 125, 126, 127, 128, 10, 129, 130, 131, 132, 133, 134, 135, 136, 137, 138, 139, 140, 141, 142, 143, 144, 145, 146, 147, 2] (.node (.nil) (.node (.nil) (.node (.nil) (.join [(3, .one (.int .i64))] [38, 39, 40, 41, 42, 43, 44, 45, 46, 3] (.nil) (.node (.nil) (.join [(13, .one (.int .i64)), (14, .one (.int .i64))] [55, 56, 57, 58, 59, 60, 61, 62, 63, 64, 65, 66, 67, 13, 14] (.nil) (.join [] [68, 69, 70, 71, 72, 73, 74, 75, 76, 77, 78, 79, 80] (.nil) (.node (.node (.draw (.st 0 (.st 1 (.st 2 (.st 3 (.st 4 (.st 5 (.st 6 (.st 7 (.st 8 (.st 9 (.st 10 (.st 11 (.st 12 (.ac 13 [] (.st 14 (.st 15 (.st 16 (.fin)))) (.non)))))))))))))))) (.nil)) (.nil)))))))))))) (by kernel_rfl) (Nat.le_of_ble_eq_true (by kernel_rfl)) (Eq.mp (α := F113 t0 t1 t2 t3 t4 w R) (by kernel_rfl) h)
def F116j2 (t0 : Sl) (t1 : Int) (t3 : Nat × Array Value) (y1 : Nat → Int → World → Prop) (b3 : Nat) (n4 : Int) (y8 : Nat → Int → World → Prop) (b10 : Nat) (n11 : Int) (w12 : World) : Prop :=
 IfB (decide (t1 < n11))
 (∃ (b15 : Nat),
 ∃ (b16 : Nat),
 t0.1 = some ({ block := b15, off := b16 } : Addr) ∧
 ((0 : Int) ≤ n11 ∧ n11 < (t0.2 : Int)) ∧
 ∃ (x17 : Int × Int),
 CellsAt w12.drew b15 (b16 + n11.toNat * (2 : Nat)) [Value.int IntKind.i64 x17.1, Value.int IntKind.i64 x17.2] ∧
 ∃ (b18 : Nat),
 ∃ (b19 : Nat),
 t0.1 = some ({ block := b18, off := b19 } : Addr) ∧
 ((0 : Int) ≤ IntKind.i64.wrap (n11 - (1 : Int)) ∧ IntKind.i64.wrap (n11 - (1 : Int)) < (t0.2 : Int)) ∧
 ∃ (x20 : Int × Int),
 CellsAt w12.drew b18 (b19 + (IntKind.i64.wrap (n11 - (1 : Int))).toNat * (2 : Nat)) [Value.int IntKind.i64 x20.1, Value.int IntKind.i64 x20.2] ∧
 CX Try.prog t3.1
 { toList := Value.agg #[Value.int IntKind.i64 x17.1, Value.int IntKind.i64 x17.2] :: Value.agg #[Value.int IntKind.i64 x20.1, Value.int IntKind.i64 x20.2] :: t3.snd.1 }
 w12.drew fun (v21 : Value) (w22 : World) =>
 ∃ (n23 : Int),
 v21 = Value.int IntKind.i64 n23 ∧
 IfB (decide (n23 < (0 : Int)))
 (∃ (b24 : Nat),
 ∃ (b25 : Nat),
 t0.1 = some ({ block := b24, off := b25 } : Addr) ∧
 ((0 : Int) ≤ IntKind.i64.wrap (n11 - (1 : Int)) ∧ IntKind.i64.wrap (n11 - (1 : Int)) < (t0.2 : Int)) ∧
 ∃ (x26 : Int × Int),
 CellsAt w22.drew b24 (b25 + (IntKind.i64.wrap (n11 - (1 : Int))).toNat * (2 : Nat)) [Value.int IntKind.i64 x26.1, Value.int IntKind.i64 x26.2] ∧
 ∃ (b27 : Nat),
 ∃ (b28 : Nat),
 t0.1 = some ({ block := b27, off := b28 } : Addr) ∧
 ((0 : Int) ≤ n11 ∧ n11 < (t0.2 : Int)) ∧
 ∃ (x29 : Int × Int),
 CellsAt w22.drew b27 (b28 + n11.toNat * (2 : Nat)) [Value.int IntKind.i64 x29.1, Value.int IntKind.i64 x29.2] ∧
 ∃ (b30 : Nat),
 ∃ (b31 : Nat),
 t0.1 = some ({ block := b30, off := b31 } : Addr) ∧
 ((0 : Int) ≤ n11 ∧ n11 < (t0.2 : Int)) ∧
 #[Value.int IntKind.i64 x26.1, Value.int IntKind.i64 x26.2].size = (2 : Nat) ∧
 StoreP w22.drew b30 (b31 + n11.toNat * (2 : Nat)) [Value.int IntKind.i64 x26.1, Value.int IntKind.i64 x26.2] fun (w32 : World) =>
 ∃ (b33 : Nat),
 ∃ (b34 : Nat),
 t0.1 = some ({ block := b33, off := b34 } : Addr) ∧
 ((0 : Int) ≤ IntKind.i64.wrap (n11 - (1 : Int)) ∧ IntKind.i64.wrap (n11 - (1 : Int)) < (t0.2 : Int)) ∧
 #[Value.int IntKind.i64 x29.1, Value.int IntKind.i64 x29.2].size = (2 : Nat) ∧
 StoreP w32 b33 (b34 + (IntKind.i64.wrap (n11 - (1 : Int))).toNat * (2 : Nat)) [Value.int IntKind.i64 x29.1, Value.int IntKind.i64 x29.2] fun (w35 : World) =>
 ([] : List Nat) = [] ∧ ∃ (b36 : Nat), b36 < b10 ∧ y8 b36 (IntKind.i64.wrap (n11 - (1 : Int))) w35)
 (([] : List Nat) = [] ∧ ∃ (b37 : Nat), b37 < b3 ∧ y1 b37 (IntKind.i64.wrap (n4 + (1 : Int))) w22))
 (([] : List Nat) = [] ∧ ∃ (b38 : Nat), b38 < b3 ∧ y1 b38 (IntKind.i64.wrap (n4 + (1 : Int))) w12.drew)
def F116 (t0 : Sl) (t1 : Int) (t2 : Int) (t3 : Nat × Array Value) (w : World) (R : Value → World → Prop) : Prop :=
 ∃ (y1 : Nat → Int → World → Prop),
 (∃ (b2 : Nat), y1 b2 (IntKind.i64.wrap (t1 + (1 : Int))) w) ∧
 ∀ (b3 : Nat) (n4 : Int) (w5 : World) (y6 : Nat → Value),
 y1 b3 n4 w5 →
 IfB (decide (n4 < t2))
 (∃ (y8 : Nat → Int → World → Prop),
 (∃ (b9 : Nat), y8 b9 n4 w5) ∧
 ∀ (b10 : Nat) (n11 : Int) (w12 : World) (y13 : Nat → Value),
 y8 b10 n11 w12 →
 (F116j2 t0 t1 t3 y1 b3 n4 y8 b10 n11 w12))
 (R (Value.tuple #[]) w5)
theorem F116_ok (t0 : Sl) (t1 : Int) (t2 : Int) (t3 : Nat × Array Value) (w : World) (R : Value → World → Prop) (h : F116 t0 t1 t2 t3 w R) : CW Try.prog 116 #[Value.slice t0.1 t0.2 t0.3, Value.int IntKind.i64 t1, Value.int IntKind.i64 t2, Value.func (Fn.func t3.1) #[] t3.2] w R :=
  call_of tbOk mixed en116 Try.func116 rfl (.node (.nil) (.loop [(8, .one (.int .i64))] [12, 13, 14, 17, 9, 18, 19, 20, 21, 22, 23, 24, 25, 26, 27, 28, 29, 30, 31, 32, 33, 34, 37, 38, 39, 40, 41, 42, 43, 44, 45, 46, 47, 48, 49, 50, 51, 52, 35, 36, 15, 16, 8] (.node (.nil) (.node (.node (.nil) (.loop [(9, .one (.int .i64))] [18, 19, 20, 21, 22, 23, 24, 25, 26, 27, 28, 29, 30, 31, 32, 33, 34, 37, 38, 39, 40, 41, 42, 43, 44, 45, 46, 47, 48, 49, 50, 51, 52, 35, 36, 9] (.node (.node (.draw (.st 0 (.st 1 (.st 2 (.st 3 (.st 4 (.st 5 (.st 6 (.st 7 (.st 8 (.st 9 (.st 10 (.st 11 (.st 12 (.st 13 (.ac 14 [] (.st 15 (.st 16 (.fin))) (.non))))))))))))))))) (.nil)) (.node (.draw (.st 0 (.st 1 (.st 2 (.st 3 (.st 4 (.st 5 (.st 6 (.st 7 (.st 8 (.st 9 (.st 10 (.st 11 (.st 12 (.st 13 (.st 14 (.ac 15 [4, 3, 2] (.st 16 (.ac 17 [] (.fin) (.non))) (.non)))))))))))))))))) (.nil))))) (.nil))))) (by kernel_rfl) (Nat.le_of_ble_eq_true (by kernel_rfl)) (Eq.mp (α := F116 t0 t1 t2 t3 w R) (by kernel_rfl) h)
def F117j2 (t0 : Sl) (t1 : Int) (t3 : Nat × Array Value) (R : Value → World → Prop) (y12 : Nat → Int → World → Prop) (b14 : Nat) (n15 : Int) (w16 : World) : Prop :=
 IfB (decide ((0 : Int) ≤ n15))
 (∃ (b19 : Nat),
 ∃ (b20 : Nat),
 t0.1 = some ({ block := b19, off := b20 } : Addr) ∧
 ((0 : Int) ≤ IntKind.i64.wrap (t1 + n15) ∧ IntKind.i64.wrap (t1 + n15) < (t0.2 : Int)) ∧
 ∃ (x21 : Int × Int),
 CellsAt w16.drew b19 (b20 + (IntKind.i64.wrap (t1 + n15)).toNat * (2 : Nat)) [Value.int IntKind.i64 x21.1, Value.int IntKind.i64 x21.2] ∧
 ∃ (b22 : Nat),
 ∃ (b23 : Nat),
 t0.1 = some ({ block := b22, off := b23 } : Addr) ∧
 ((0 : Int) ≤ t1 ∧ t1 < (t0.2 : Int)) ∧
 ∃ (x24 : Int × Int),
 CellsAt w16.drew b22 (b23 + t1.toNat * (2 : Nat)) [Value.int IntKind.i64 x24.1, Value.int IntKind.i64 x24.2] ∧
 ∃ (b25 : Nat),
 ∃ (b26 : Nat),
 t0.1 = some ({ block := b25, off := b26 } : Addr) ∧
 ((0 : Int) ≤ t1 ∧ t1 < (t0.2 : Int)) ∧
 #[Value.int IntKind.i64 x21.1, Value.int IntKind.i64 x21.2].size = (2 : Nat) ∧
 StoreP w16.drew b25 (b26 + t1.toNat * (2 : Nat)) [Value.int IntKind.i64 x21.1, Value.int IntKind.i64 x21.2] fun (w27 : World) =>
 ∃ (b28 : Nat),
 ∃ (b29 : Nat),
 t0.1 = some ({ block := b28, off := b29 } : Addr) ∧
 ((0 : Int) ≤ IntKind.i64.wrap (t1 + n15) ∧ IntKind.i64.wrap (t1 + n15) < (t0.2 : Int)) ∧
 #[Value.int IntKind.i64 x24.1, Value.int IntKind.i64 x24.2].size = (2 : Nat) ∧
 StoreP w27 b28 (b29 + (IntKind.i64.wrap (t1 + n15)).toNat * (2 : Nat)) [Value.int IntKind.i64 x24.1, Value.int IntKind.i64 x24.2] fun (w30 : World) =>
 CX Try.prog (124 : Nat)
 #[Value.slice t0.1 t0.2 t0.3, Value.int IntKind.i64 (0 : Int), Value.int IntKind.i64 n15, Value.int IntKind.i64 t1, Value.func (Fn.func t3.1) #[] t3.2] w30
 fun (v31 : Value) (w32 : World) => ∃ (y33 : Unit), v31 = Value.tuple #[] ∧ ([] : List Nat) = [] ∧ ∃ (b34 : Nat), b34 < b14 ∧ y12 b34 (IntKind.i64.wrap (n15 - (1 : Int))) w32)
 (R (Value.tuple #[]) w16)
def F117j1 (t0 : Sl) (t1 : Int) (t2 : Int) (t3 : Nat × Array Value) (R : Value → World → Prop) (y1 : Nat → Int → World → Prop) (b3 : Nat) (n4 : Int) (w5 : World) : Prop :=
 IfB (decide ((0 : Int) ≤ n4))
 (CX Try.prog (124 : Nat)
 #[Value.slice t0.1 t0.2 t0.3, Value.int IntKind.i64 n4, Value.int IntKind.i64 (IntKind.i64.wrap (t2 - t1)), Value.int IntKind.i64 t1, Value.func (Fn.func t3.1) #[] t3.2] w5
 fun (v8 : Value) (w9 : World) => ∃ (y10 : Unit), v8 = Value.tuple #[] ∧ ([] : List Nat) = [] ∧ ∃ (b11 : Nat), b11 < b3 ∧ y1 b11 (IntKind.i64.wrap (n4 - (1 : Int))) w9)
 (∃ (y12 : Nat → Int → World → Prop),
 (∃ (b13 : Nat), y12 b13 (IntKind.i64.wrap (IntKind.i64.wrap (t2 - t1) - (1 : Int))) w5) ∧
 ∀ (b14 : Nat) (n15 : Int) (w16 : World) (y17 : Nat → Value),
 y12 b14 n15 w16 →
 (F117j2 t0 t1 t3 R y12 b14 n15 w16))
def F117 (t0 : Sl) (t1 : Int) (t2 : Int) (t3 : Nat × Array Value) (w : World) (R : Value → World → Prop) : Prop :=
 ¬(2 : Int) = (0 : Int) ∧
 ∃ (y1 : Nat → Int → World → Prop),
 (∃ (b2 : Nat), y1 b2 (IntKind.i64.wrap ((IntKind.i64.wrap (IntKind.i64.wrap (t2 - t1) - (1 : Int))).tdiv (2 : Int))) w) ∧
 ∀ (b3 : Nat) (n4 : Int) (w5 : World) (y6 : Nat → Value),
 y1 b3 n4 w5 →
 (F117j1 t0 t1 t2 t3 R y1 b3 n4 w5)
theorem F117_ok (t0 : Sl) (t1 : Int) (t2 : Int) (t3 : Nat × Array Value) (w : World) (R : Value → World → Prop) (h : F117 t0 t1 t2 t3 w R) : CW Try.prog 117 #[Value.slice t0.1 t0.2 t0.3, Value.int IntKind.i64 t1, Value.int IntKind.i64 t2, Value.func (Fn.func t3.1) #[] t3.2] w R :=
  call_of tbOk mixed en117 Try.func117 rfl (.node (.nil) (.node (.nil) (.node (.nil) (.node (.node (.nil) (.loop [(11, .one (.int .i64))] [20, 21, 24, 25, 26, 27, 28, 29, 22, 23, 11] (.nil))) (.node (.nil) (.loop [(12, .one (.int .i64))] [32, 33, 36, 37, 38, 39, 40, 41, 42, 43, 44, 45, 46, 47, 48, 49, 50, 51, 52, 53, 54, 55, 56, 57, 58, 59, 34, 35, 12] (.node (.nil) (.node (.node (.draw (.st 0 (.st 1 (.st 2 (.st 3 (.st 4 (.st 5 (.st 6 (.st 7 (.st 8 (.st 9 (.st 10 (.st 11 (.st 12 (.st 13 (.st 14 (.st 15 (.st 16 (.ac 17 [5, 4, 3, 2] (.st 18 (.ac 19 [] (.fin) (.non))) (.non)))))))))))))))))))) (.nil)) (.nil))))))))) (by kernel_rfl) (Nat.le_of_ble_eq_true (by kernel_rfl)) (Eq.mp (α := F117 t0 t1 t2 t3 w R) (by kernel_rfl) h)
def F118j2 (t0 : Sl) (t1 : Int) (y7 : Nat → Int → World → Prop) (b9 : Nat) (n10 : Int) (n18 : Int) (w19 : World) : Prop :=
 ∃ (b22 : Nat),
 ∃ (b23 : Nat),
 t0.1 = some ({ block := b22, off := b23 } : Addr) ∧
 ((0 : Int) ≤ IntKind.i64.wrap (t1 + n18) ∧ IntKind.i64.wrap (t1 + n18) < (t0.2 : Int)) ∧
 ∃ (x24 : Int × Int),
 CellsAt w19.drew b22 (b23 + (IntKind.i64.wrap (t1 + n18)).toNat * (2 : Nat)) [Value.int IntKind.i64 x24.1, Value.int IntKind.i64 x24.2] ∧
 ∃ (b25 : Nat),
 ∃ (b26 : Nat),
 t0.1 = some ({ block := b25, off := b26 } : Addr) ∧
 ((0 : Int) ≤ n10 ∧ n10 < (t0.2 : Int)) ∧
 ∃ (x27 : Int × Int),
 CellsAt w19.drew b25 (b26 + n10.toNat * (2 : Nat)) [Value.int IntKind.i64 x27.1, Value.int IntKind.i64 x27.2] ∧
 ∃ (b28 : Nat),
 ∃ (b29 : Nat),
 t0.1 = some ({ block := b28, off := b29 } : Addr) ∧
 ((0 : Int) ≤ n10 ∧ n10 < (t0.2 : Int)) ∧
 #[Value.int IntKind.i64 x24.1, Value.int IntKind.i64 x24.2].size = (2 : Nat) ∧
 StoreP w19.drew b28 (b29 + n10.toNat * (2 : Nat)) [Value.int IntKind.i64 x24.1, Value.int IntKind.i64 x24.2] fun (w30 : World) =>
 ∃ (b31 : Nat),
 ∃ (b32 : Nat),
 t0.1 = some ({ block := b31, off := b32 } : Addr) ∧
 ((0 : Int) ≤ IntKind.i64.wrap (t1 + n18) ∧ IntKind.i64.wrap (t1 + n18) < (t0.2 : Int)) ∧
 #[Value.int IntKind.i64 x27.1, Value.int IntKind.i64 x27.2].size = (2 : Nat) ∧
 StoreP w30 b31 (b32 + (IntKind.i64.wrap (t1 + n18)).toNat * (2 : Nat)) [Value.int IntKind.i64 x27.1, Value.int IntKind.i64 x27.2] fun (w33 : World) =>
 ([] : List Nat) = [] ∧ ∃ (b34 : Nat), b34 < b9 ∧ y7 b34 (IntKind.i64.wrap (n10 + (1 : Int))) w33
def F118j1 (t0 : Sl) (t1 : Int) (t2 : Int) (R : Value → World → Prop) (b1 : Nat) (n6 : Int) (y7 : Nat → Int → World → Prop) (b9 : Nat) (n10 : Int) (w11 : World) : Prop :=
 ¬(4 : Int) = (0 : Int) ∧
 IfB (decide (n10 ≤ IntKind.i64.wrap (IntKind.i64.wrap (t1 + IntKind.i64.wrap (IntKind.i64.wrap ((IntKind.i64.wrap (t2 - t1)).tdiv (4 : Int)) * (2 : Int))) + (1 : Int))))
 (CX Try.prog (105 : Nat) #[Value.pointer (some ({ block := b1, off := (0 : Nat) } : Addr))] w11 fun (v14 : Value) (w15 : World) =>
 ∃ (n16 : Int),
 v14 = Value.int IntKind.u64 n16 ∧
 ∃ (y17 : Int → World → Prop),
 IfB (decide (IntKind.i64.wrap (t2 - t1) ≤ IntKind.i64.wrap (bitsI BinOp.and IntKind.u64 n16 (IntKind.u64.wrap (n6 - (1 : Int))))))
 (([] : List Nat) = [] ∧ y17 (IntKind.i64.wrap (IntKind.i64.wrap (bitsI BinOp.and IntKind.u64 n16 (IntKind.u64.wrap (n6 - (1 : Int)))) - IntKind.i64.wrap (t2 - t1))) w15)
 (([] : List Nat) = [] ∧ y17 (IntKind.i64.wrap (bitsI BinOp.and IntKind.u64 n16 (IntKind.u64.wrap (n6 - (1 : Int))))) w15) ∧
 ∀ (n18 : Int) (w19 : World) (y20 : Nat → Value),
 y17 n18 w19 →
 (F118j2 t0 t1 y7 b9 n10 n18 w19))
 (R (Value.tuple #[]) w11)
def F118 (t0 : Sl) (t1 : Int) (t2 : Int) (t3 : Nat × Array Value) (w : World) (R : Value → World → Prop) : Prop :=
 IfB (decide ((8 : Int) ≤ IntKind.i64.wrap (t2 - t1)))
 (AllocP w (Obj.cells #[Value.int IntKind.u64 (0 : Int)] (121 : Nat)) fun (b1 : Nat) (w2 : World) =>
 #[Value.int IntKind.u64 (IntKind.u64.wrap (IntKind.i64.wrap (t2 - t1)))].size = (1 : Nat) ∧
 StoreP w2 b1 (0 : Nat) [Value.int IntKind.u64 (IntKind.u64.wrap (IntKind.i64.wrap (t2 - t1)))] fun (w3 : World) =>
 CX Try.prog (104 : Nat) #[Value.int IntKind.i64 (IntKind.i64.wrap (t2 - t1))] w3 fun (v4 : Value) (w5 : World) =>
 ∃ (n6 : Int),
 v4 = Value.int IntKind.u64 n6 ∧
 ¬(4 : Int) = (0 : Int) ∧
 ∃ (y7 : Nat → Int → World → Prop),
 (∃ (b8 : Nat), y7 b8 (IntKind.i64.wrap (IntKind.i64.wrap (t1 + IntKind.i64.wrap (IntKind.i64.wrap ((IntKind.i64.wrap (t2 - t1)).tdiv (4 : Int)) * (2 : Int))) - (1 : Int))) w5) ∧
 ∀ (b9 : Nat) (n10 : Int) (w11 : World) (y12 : Nat → Value),
 y7 b9 n10 w11 →
 (F118j1 t0 t1 t2 R b1 n6 y7 b9 n10 w11))
 (R (Value.tuple #[]) w)
theorem F118_ok (t0 : Sl) (t1 : Int) (t2 : Int) (t3 : Nat × Array Value) (w : World) (R : Value → World → Prop) (h : F118 t0 t1 t2 t3 w R) : CW Try.prog 118 #[Value.slice t0.1 t0.2 t0.3, Value.int IntKind.i64 t1, Value.int IntKind.i64 t2, Value.func (Fn.func t3.1) #[] t3.2] w R :=
  call_of tbOk mixed en118 Try.func118 rfl (.node (.nil) (.node (.nil) (.node (.node (.nil) (.node (.nil) (.node (.nil) (.loop [(11, .one (.int .i64))] [28, 29, 30, 31, 32, 33, 34, 35, 38, 39, 40, 41, 42, 12, 43, 44, 45, 46, 47, 48, 49, 50, 51, 52, 53, 54, 55, 56, 57, 58, 59, 60, 61, 62, 63, 64, 65, 66, 36, 37, 11] (.node (.nil) (.node (.node (.nil) (.join [(12, .one (.int .i64))] [43, 44, 45, 46, 47, 48, 12] (.nil) (.draw (.st 0 (.st 1 (.st 2 (.st 3 (.st 4 (.st 5 (.st 6 (.st 7 (.st 8 (.st 9 (.st 10 (.st 11 (.st 12 (.st 13 (.st 14 (.st 15 (.st 16 (.ac 17 [5, 4, 3, 2] (.st 18 (.ac 19 [] (.fin) (.non))) (.non)))))))))))))))))))))) (.nil))))))) (.nil)))) (by kernel_rfl) (Nat.le_of_ble_eq_true (by kernel_rfl)) (Eq.mp (α := F118 t0 t1 t2 t3 w R) (by kernel_rfl) h)
def F119j2 (R : Value → World → Prop) (b1 : Nat) (n21 : Int) (w22 : World) : Prop :=
 ∃ (n25 : Int),
 w22.cell? ({ block := b1, off := (0 : Nat) } : Addr) = some (Value.int IntKind.i64 n25) ∧
 IfB (n25 == (0 : Int)) (R (Value.tuple #[Value.int IntKind.i64 n21, Value.int IntKind.i64 (1 : Int)]) w22)
 (IfB (n25 == (12 : Int)) (R (Value.tuple #[Value.int IntKind.i64 n21, Value.int IntKind.i64 (2 : Int)]) w22)
 (R (Value.tuple #[Value.int IntKind.i64 n21, Value.int IntKind.i64 (0 : Int)]) w22))
def F119 (t0 : Sl) (t1 : Int) (t2 : Int) (t3 : Nat × Array Value) (w : World) (R : Value → World → Prop) : Prop :=
 AllocP w (Obj.cells #[Value.int IntKind.i64 (0 : Int)] (3 : Nat)) fun (b1 : Nat) (w2 : World) =>
 ¬(4 : Int) = (0 : Int) ∧
 ¬(4 : Int) = (0 : Int) ∧
 ¬(4 : Int) = (0 : Int) ∧
 ∃ (y3 : Int → World → Prop),
 IfB (decide ((8 : Int) ≤ IntKind.i64.wrap (t2 - t1)))
 (∃ (y4 : Int × Int × Int → World → Prop),
 IfB (decide ((50 : Int) ≤ IntKind.i64.wrap (t2 - t1)))
 (CX Try.prog (125 : Nat)
 #[Value.slice t0.1 t0.2 t0.3, Value.int IntKind.i64 (IntKind.i64.wrap (t1 + IntKind.i64.wrap (IntKind.i64.wrap ((IntKind.i64.wrap (t2 - t1)).tdiv (4 : Int)) * (1 : Int)))),
 Value.pointer (some ({ block := b1, off := (0 : Nat) } : Addr)), Value.func (Fn.func t3.1) #[] t3.2]
 w2 fun (v5 : Value) (w6 : World) =>
 ∃ (n7 : Int),
 v5 = Value.int IntKind.i64 n7 ∧
 CX Try.prog (125 : Nat)
 #[Value.slice t0.1 t0.2 t0.3, Value.int IntKind.i64 (IntKind.i64.wrap (t1 + IntKind.i64.wrap (IntKind.i64.wrap ((IntKind.i64.wrap (t2 - t1)).tdiv (4 : Int)) * (2 : Int)))),
 Value.pointer (some ({ block := b1, off := (0 : Nat) } : Addr)), Value.func (Fn.func t3.1) #[] t3.2]
 w6 fun (v8 : Value) (w9 : World) =>
 ∃ (n10 : Int),
 v8 = Value.int IntKind.i64 n10 ∧
 CX Try.prog (125 : Nat)
 #[Value.slice t0.1 t0.2 t0.3, Value.int IntKind.i64 (IntKind.i64.wrap (t1 + IntKind.i64.wrap (IntKind.i64.wrap ((IntKind.i64.wrap (t2 - t1)).tdiv (4 : Int)) * (3 : Int)))),
 Value.pointer (some ({ block := b1, off := (0 : Nat) } : Addr)), Value.func (Fn.func t3.1) #[] t3.2]
 w9 fun (v11 : Value) (w12 : World) => ∃ (n13 : Int), v11 = Value.int IntKind.i64 n13 ∧ ([] : List Nat) = [] ∧ y4 (n7, n10, n13) w12)
 (([] : List Nat) = [] ∧
 y4
 (IntKind.i64.wrap (t1 + IntKind.i64.wrap (IntKind.i64.wrap ((IntKind.i64.wrap (t2 - t1)).tdiv (4 : Int)) * (1 : Int))),
 IntKind.i64.wrap (t1 + IntKind.i64.wrap (IntKind.i64.wrap ((IntKind.i64.wrap (t2 - t1)).tdiv (4 : Int)) * (2 : Int))),
 IntKind.i64.wrap (t1 + IntKind.i64.wrap (IntKind.i64.wrap ((IntKind.i64.wrap (t2 - t1)).tdiv (4 : Int)) * (3 : Int))))
 w2) ∧
 ∀ (x14 : Int × Int × Int) (w15 : World) (y16 : Nat → Value),
 y4 x14 w15 →
 CX Try.prog (126 : Nat)
 #[Value.slice t0.1 t0.2 t0.3, Value.int IntKind.i64 x14.1, Value.int IntKind.i64 x14.snd.1, Value.int IntKind.i64 x14.snd.2, Value.pointer (some ({ block := b1, off := (0 : Nat) } : Addr)),
 Value.func (Fn.func t3.1) #[] t3.2]
 w15 fun (v18 : Value) (w19 : World) => ∃ (n20 : Int), v18 = Value.int IntKind.i64 n20 ∧ ([] : List Nat) = [] ∧ y3 n20 w19)
 (([] : List Nat) = [] ∧ y3 (IntKind.i64.wrap (t1 + IntKind.i64.wrap (IntKind.i64.wrap ((IntKind.i64.wrap (t2 - t1)).tdiv (4 : Int)) * (2 : Int)))) w2) ∧
 ∀ (n21 : Int) (w22 : World) (y23 : Nat → Value),
 y3 n21 w22 →
 (F119j2 R b1 n21 w22)
theorem F119_ok (t0 : Sl) (t1 : Int) (t2 : Int) (t3 : Nat × Array Value) (w : World) (R : Value → World → Prop) (h : F119 t0 t1 t2 t3 w R) : CW Try.prog 119 #[Value.slice t0.1 t0.2 t0.3, Value.int IntKind.i64 t1, Value.int IntKind.i64 t2, Value.func (Fn.func t3.1) #[] t3.2] w R :=
  call_of tbOk mixed en119 Try.func119 rfl (.node (.nil) (.node (.nil) (.node (.nil) (.node (.nil) (.node (.nil) (.node (.nil) (.join [(13, .one (.int .i64))] [33, 34, 35, 36, 37, 38, 39, 40, 12, 41, 42, 43, 44, 13, 45, 46, 47, 48, 14, 49, 50, 51, 52, 53, 54] (.node (.nil) (.node (.join [(12, .one (.int .i64)), (13, .one (.int .i64)), (14, .one (.int .i64))] [35, 36, 37, 38, 39, 40, 12, 41, 42, 43, 44, 13, 45, 46, 47, 48, 14] (.nil) (.nil)) (.nil))) (.nil)))))))) (by kernel_rfl) (Nat.le_of_ble_eq_true (by kernel_rfl)) (Eq.mp (α := F119 t0 t1 t2 t3 w R) (by kernel_rfl) h)
def F120j1 (t0 : Sl) (R : Value → World → Prop) (y1 : Nat → Int × Int → World → Prop) (b3 : Nat) (x4 : Int × Int) (w5 : World) : Prop :=
 IfB (decide (x4.fst < x4.snd))
 (∃ (b8 : Nat),
 ∃ (b9 : Nat),
 t0.1 = some ({ block := b8, off := b9 } : Addr) ∧
 ((0 : Int) ≤ x4.2 ∧ x4.2 < (t0.2 : Int)) ∧
 ∃ (x10 : Int × Int),
 CellsAt w5.drew b8 (b9 + x4.2.toNat * (2 : Nat)) [Value.int IntKind.i64 x10.1, Value.int IntKind.i64 x10.2] ∧
 ∃ (b11 : Nat),
 ∃ (b12 : Nat),
 t0.1 = some ({ block := b11, off := b12 } : Addr) ∧
 ((0 : Int) ≤ x4.1 ∧ x4.1 < (t0.2 : Int)) ∧
 ∃ (x13 : Int × Int),
 CellsAt w5.drew b11 (b12 + x4.1.toNat * (2 : Nat)) [Value.int IntKind.i64 x13.1, Value.int IntKind.i64 x13.2] ∧
 ∃ (b14 : Nat),
 ∃ (b15 : Nat),
 t0.1 = some ({ block := b14, off := b15 } : Addr) ∧
 ((0 : Int) ≤ x4.1 ∧ x4.1 < (t0.2 : Int)) ∧
 #[Value.int IntKind.i64 x10.1, Value.int IntKind.i64 x10.2].size = (2 : Nat) ∧
 StoreP w5.drew b14 (b15 + x4.1.toNat * (2 : Nat)) [Value.int IntKind.i64 x10.1, Value.int IntKind.i64 x10.2] fun (w16 : World) =>
 ∃ (b17 : Nat),
 ∃ (b18 : Nat),
 t0.1 = some ({ block := b17, off := b18 } : Addr) ∧
 ((0 : Int) ≤ x4.2 ∧ x4.2 < (t0.2 : Int)) ∧
 #[Value.int IntKind.i64 x13.1, Value.int IntKind.i64 x13.2].size = (2 : Nat) ∧
 StoreP w16 b17 (b18 + x4.2.toNat * (2 : Nat)) [Value.int IntKind.i64 x13.1, Value.int IntKind.i64 x13.2] fun (w19 : World) =>
 ([] : List Nat) = [] ∧ ∃ (b20 : Nat), b20 < b3 ∧ y1 b20 (IntKind.i64.wrap (x4.1 + (1 : Int)), IntKind.i64.wrap (x4.2 - (1 : Int))) w19)
 (R (Value.tuple #[]) w5)
def F120 (t0 : Sl) (t1 : Int) (t2 : Int) (t3 : Nat × Array Value) (w : World) (R : Value → World → Prop) : Prop :=
 ∃ (y1 : Nat → Int × Int → World → Prop),
 (∃ (b2 : Nat), y1 b2 (t1, IntKind.i64.wrap (t2 - (1 : Int))) w) ∧
 ∀ (b3 : Nat) (x4 : Int × Int) (w5 : World) (y6 : Nat → Value),
 y1 b3 x4 w5 →
 (F120j1 t0 R y1 b3 x4 w5)
theorem F120_ok (t0 : Sl) (t1 : Int) (t2 : Int) (t3 : Nat × Array Value) (w : World) (R : Value → World → Prop) (h : F120 t0 t1 t2 t3 w R) : CW Try.prog 120 #[Value.slice t0.1 t0.2 t0.3, Value.int IntKind.i64 t1, Value.int IntKind.i64 t2, Value.func (Fn.func t3.1) #[] t3.2] w R :=
  call_of tbOk mixed en120 Try.func120 rfl (.node (.nil) (.node (.nil) (.loop [(8, .one (.int .i64)), (9, .one (.int .i64))] [13, 14, 15, 16, 17, 18, 19, 20, 21, 22, 23, 24, 25, 26, 27, 28, 29, 30, 31, 8, 32, 33, 9] (.node (.nil) (.node (.draw (.st 0 (.st 1 (.st 2 (.st 3 (.st 4 (.st 5 (.st 6 (.st 7 (.st 8 (.st 9 (.st 10 (.st 11 (.st 12 (.ac 13 [3, 2] (.st 14 (.ac 15 [] (.fin) (.non))) (.non)))))))))))))))) (.nil)))))) (by kernel_rfl) (Nat.le_of_ble_eq_true (by kernel_rfl)) (Eq.mp (α := F120 t0 t1 t2 t3 w R) (by kernel_rfl) h)
def F121j2 (t0 : Sl) (t2 : Int) (t3 : Nat × Array Value) (y8 : Int → World → Prop) (y9 : Nat → Int → World → Prop) (b11 : Nat) (n12 : Int) (w13 : World) : Prop :=
 IfB (decide (n12 < t2))
 (∃ (b16 : Nat),
 ∃ (b17 : Nat),
 t0.1 = some ({ block := b16, off := b17 } : Addr) ∧
 ((0 : Int) ≤ n12 ∧ n12 < (t0.2 : Int)) ∧
 ∃ (x18 : Int × Int),
 CellsAt w13.drew b16 (b17 + n12.toNat * (2 : Nat)) [Value.int IntKind.i64 x18.1, Value.int IntKind.i64 x18.2] ∧
 ∃ (b19 : Nat),
 ∃ (b20 : Nat),
 t0.1 = some ({ block := b19, off := b20 } : Addr) ∧
 ((0 : Int) ≤ IntKind.i64.wrap (n12 - (1 : Int)) ∧ IntKind.i64.wrap (n12 - (1 : Int)) < (t0.2 : Int)) ∧
 ∃ (x21 : Int × Int),
 CellsAt w13.drew b19 (b20 + (IntKind.i64.wrap (n12 - (1 : Int))).toNat * (2 : Nat)) [Value.int IntKind.i64 x21.1, Value.int IntKind.i64 x21.2] ∧
 CX Try.prog t3.1
 { toList := Value.agg #[Value.int IntKind.i64 x18.1, Value.int IntKind.i64 x18.2] :: Value.agg #[Value.int IntKind.i64 x21.1, Value.int IntKind.i64 x21.2] :: t3.snd.1 }
 w13.drew fun (v22 : Value) (w23 : World) =>
 ∃ (n24 : Int), v22 = Value.int IntKind.i64 n24 ∧ IfB (!decide (n24 < (0 : Int))) (([] : List Nat) = [] ∧ ∃ (b25 : Nat), b25 < b11 ∧ y9 b25 (IntKind.i64.wrap (n12 + (1 : Int))) w23) (([] : List Nat) = [] ∧ y8 n12 w23))
 (([] : List Nat) = [] ∧ y8 n12 w13.drew)
def F121j4 (t0 : Sl) (t3 : Nat × Array Value) (y42 : Unit → World → Prop) (y43 : Nat → Int → World → Prop) (b45 : Nat) (n46 : Int) (w47 : World) : Prop :=
 IfB (decide ((1 : Int) ≤ n46))
 (∃ (b50 : Nat),
 ∃ (b51 : Nat),
 t0.1 = some ({ block := b50, off := b51 } : Addr) ∧
 ((0 : Int) ≤ n46 ∧ n46 < (t0.2 : Int)) ∧
 ∃ (x52 : Int × Int),
 CellsAt w47.drew b50 (b51 + n46.toNat * (2 : Nat)) [Value.int IntKind.i64 x52.1, Value.int IntKind.i64 x52.2] ∧
 ∃ (b53 : Nat),
 ∃ (b54 : Nat),
 t0.1 = some ({ block := b53, off := b54 } : Addr) ∧
 ((0 : Int) ≤ IntKind.i64.wrap (n46 - (1 : Int)) ∧ IntKind.i64.wrap (n46 - (1 : Int)) < (t0.2 : Int)) ∧
 ∃ (x55 : Int × Int),
 CellsAt w47.drew b53 (b54 + (IntKind.i64.wrap (n46 - (1 : Int))).toNat * (2 : Nat)) [Value.int IntKind.i64 x55.1, Value.int IntKind.i64 x55.2] ∧
 CX Try.prog t3.1
 { toList := Value.agg #[Value.int IntKind.i64 x52.1, Value.int IntKind.i64 x52.2] :: Value.agg #[Value.int IntKind.i64 x55.1, Value.int IntKind.i64 x55.2] :: t3.snd.1 }
 w47.drew fun (v56 : Value) (w57 : World) =>
 ∃ (n58 : Int),
 v56 = Value.int IntKind.i64 n58 ∧
 IfB (!decide (n58 < (0 : Int))) (([] : List Nat) = [] ∧ y42 PUnit.unit w57)
 (∃ (b59 : Nat),
 ∃ (b60 : Nat),
 t0.1 = some ({ block := b59, off := b60 } : Addr) ∧
 ((0 : Int) ≤ IntKind.i64.wrap (n46 - (1 : Int)) ∧ IntKind.i64.wrap (n46 - (1 : Int)) < (t0.2 : Int)) ∧
 ∃ (x61 : Int × Int),
 CellsAt w57.drew b59 (b60 + (IntKind.i64.wrap (n46 - (1 : Int))).toNat * (2 : Nat)) [Value.int IntKind.i64 x61.1, Value.int IntKind.i64 x61.2] ∧
 ∃ (b62 : Nat),
 ∃ (b63 : Nat),
 t0.1 = some ({ block := b62, off := b63 } : Addr) ∧
 ((0 : Int) ≤ n46 ∧ n46 < (t0.2 : Int)) ∧
 ∃ (x64 : Int × Int),
 CellsAt w57.drew b62 (b63 + n46.toNat * (2 : Nat)) [Value.int IntKind.i64 x64.1, Value.int IntKind.i64 x64.2] ∧
 ∃ (b65 : Nat),
 ∃ (b66 : Nat),
 t0.1 = some ({ block := b65, off := b66 } : Addr) ∧
 ((0 : Int) ≤ n46 ∧ n46 < (t0.2 : Int)) ∧
 #[Value.int IntKind.i64 x61.1, Value.int IntKind.i64 x61.2].size = (2 : Nat) ∧
 StoreP w57.drew b65 (b66 + n46.toNat * (2 : Nat)) [Value.int IntKind.i64 x61.1, Value.int IntKind.i64 x61.2] fun (w67 : World) =>
 ∃ (b68 : Nat),
 ∃ (b69 : Nat),
 t0.1 = some ({ block := b68, off := b69 } : Addr) ∧
 ((0 : Int) ≤ IntKind.i64.wrap (n46 - (1 : Int)) ∧ IntKind.i64.wrap (n46 - (1 : Int)) < (t0.2 : Int)) ∧
 #[Value.int IntKind.i64 x64.1, Value.int IntKind.i64 x64.2].size = (2 : Nat) ∧
 StoreP w67 b68 (b69 + (IntKind.i64.wrap (n46 - (1 : Int))).toNat * (2 : Nat)) [Value.int IntKind.i64 x64.1, Value.int IntKind.i64 x64.2] fun (w70 : World) =>
 ([] : List Nat) = [] ∧ ∃ (b71 : Nat), b71 < b45 ∧ y43 b71 (IntKind.i64.wrap (n46 - (1 : Int))) w70))
 (([] : List Nat) = [] ∧ y42 PUnit.unit w47)
def F121j7 (t0 : Sl) (t2 : Int) (t3 : Nat × Array Value) (y1 : Nat → Int × Int → World → Prop) (b3 : Nat) (x4 : Int × Int) (n26 : Int) (y81 : Nat → Int → World → Prop) (b83 : Nat) (n84 : Int) (w85 : World) : Prop :=
 IfB (decide (n84 < t2))
 (∃ (b88 : Nat),
 ∃ (b89 : Nat),
 t0.1 = some ({ block := b88, off := b89 } : Addr) ∧
 ((0 : Int) ≤ n84 ∧ n84 < (t0.2 : Int)) ∧
 ∃ (x90 : Int × Int),
 CellsAt w85.drew b88 (b89 + n84.toNat * (2 : Nat)) [Value.int IntKind.i64 x90.1, Value.int IntKind.i64 x90.2] ∧
 ∃ (b91 : Nat),
 ∃ (b92 : Nat),
 t0.1 = some ({ block := b91, off := b92 } : Addr) ∧
 ((0 : Int) ≤ IntKind.i64.wrap (n84 - (1 : Int)) ∧ IntKind.i64.wrap (n84 - (1 : Int)) < (t0.2 : Int)) ∧
 ∃ (x93 : Int × Int),
 CellsAt w85.drew b91 (b92 + (IntKind.i64.wrap (n84 - (1 : Int))).toNat * (2 : Nat)) [Value.int IntKind.i64 x93.1, Value.int IntKind.i64 x93.2] ∧
 CX Try.prog t3.1
 { toList := Value.agg #[Value.int IntKind.i64 x90.1, Value.int IntKind.i64 x90.2] :: Value.agg #[Value.int IntKind.i64 x93.1, Value.int IntKind.i64 x93.2] :: t3.snd.1 }
 w85.drew fun (v94 : Value) (w95 : World) =>
 ∃ (n96 : Int),
 v94 = Value.int IntKind.i64 n96 ∧
 IfB (!decide (n96 < (0 : Int))) (([] : List Nat) = [] ∧ ∃ (b97 : Nat), b97 < b3 ∧ y1 b97 (n26, IntKind.i64.wrap (x4.2 + (1 : Int))) w95)
 (∃ (b98 : Nat),
 ∃ (b99 : Nat),
 t0.1 = some ({ block := b98, off := b99 } : Addr) ∧
 ((0 : Int) ≤ IntKind.i64.wrap (n84 - (1 : Int)) ∧ IntKind.i64.wrap (n84 - (1 : Int)) < (t0.2 : Int)) ∧
 ∃ (x100 : Int × Int),
 CellsAt w95.drew b98 (b99 + (IntKind.i64.wrap (n84 - (1 : Int))).toNat * (2 : Nat)) [Value.int IntKind.i64 x100.1, Value.int IntKind.i64 x100.2] ∧
 ∃ (b101 : Nat),
 ∃ (b102 : Nat),
 t0.1 = some ({ block := b101, off := b102 } : Addr) ∧
 ((0 : Int) ≤ n84 ∧ n84 < (t0.2 : Int)) ∧
 ∃ (x103 : Int × Int),
 CellsAt w95.drew b101 (b102 + n84.toNat * (2 : Nat)) [Value.int IntKind.i64 x103.1, Value.int IntKind.i64 x103.2] ∧
 ∃ (b104 : Nat),
 ∃ (b105 : Nat),
 t0.1 = some ({ block := b104, off := b105 } : Addr) ∧
 ((0 : Int) ≤ n84 ∧ n84 < (t0.2 : Int)) ∧
 #[Value.int IntKind.i64 x100.1, Value.int IntKind.i64 x100.2].size = (2 : Nat) ∧
 StoreP w95.drew b104 (b105 + n84.toNat * (2 : Nat)) [Value.int IntKind.i64 x100.1, Value.int IntKind.i64 x100.2] fun (w106 : World) =>
 ∃ (b107 : Nat),
 ∃ (b108 : Nat),
 t0.1 = some ({ block := b107, off := b108 } : Addr) ∧
 ((0 : Int) ≤ IntKind.i64.wrap (n84 - (1 : Int)) ∧ IntKind.i64.wrap (n84 - (1 : Int)) < (t0.2 : Int)) ∧
 #[Value.int IntKind.i64 x103.1, Value.int IntKind.i64 x103.2].size = (2 : Nat) ∧
 StoreP w106 b107 (b108 + (IntKind.i64.wrap (n84 - (1 : Int))).toNat * (2 : Nat)) [Value.int IntKind.i64 x103.1, Value.int IntKind.i64 x103.2] fun (w109 : World) =>
 ([] : List Nat) = [] ∧ ∃ (b110 : Nat), b110 < b83 ∧ y81 b110 (IntKind.i64.wrap (n84 + (1 : Int))) w109))
 (([] : List Nat) = [] ∧ ∃ (b111 : Nat), b111 < b3 ∧ y1 b111 (n26, IntKind.i64.wrap (x4.2 + (1 : Int))) w85)
def F121j5 (t0 : Sl) (t2 : Int) (t3 : Nat × Array Value) (y1 : Nat → Int × Int → World → Prop) (b3 : Nat) (x4 : Int × Int) (n26 : Int) (w73 : World) : Prop :=
 ∃ (y76 : Bool → World → Prop),
 (([] : List Nat) = [] ∧ y76 (decide ((2 : Int) ≤ IntKind.i64.wrap (t2 - n26))) w73) ∧
 ∀ (t77 : Bool) (w78 : World) (y79 : Nat → Value),
 y76 t77 w78 →
 IfB t77
 (∃ (y81 : Nat → Int → World → Prop),
 (∃ (b82 : Nat), y81 b82 (IntKind.i64.wrap (n26 + (1 : Int))) w78) ∧
 ∀ (b83 : Nat) (n84 : Int) (w85 : World) (y86 : Nat → Value),
 y81 b83 n84 w85 →
 (F121j7 t0 t2 t3 y1 b3 x4 n26 y81 b83 n84 w85))
 (([] : List Nat) = [] ∧ ∃ (b112 : Nat), b112 < b3 ∧ y1 b112 (n26, IntKind.i64.wrap (x4.2 + (1 : Int))) w78)
def F121j3 (t0 : Sl) (t1 : Int) (t2 : Int) (t3 : Nat × Array Value) (R : Value → World → Prop) (y1 : Nat → Int × Int → World → Prop) (b3 : Nat) (x4 : Int × Int) (n26 : Int) (w27 : World) : Prop :=
 IfB (n26 == t2) (R (Value.bool true) w27)
 (IfB (decide (IntKind.i64.wrap (t2 - t1) < (50 : Int))) (R (Value.bool false) w27)
 (∃ (b30 : Nat),
 ∃ (b31 : Nat),
 t0.1 = some ({ block := b30, off := b31 } : Addr) ∧
 ((0 : Int) ≤ IntKind.i64.wrap (n26 - (1 : Int)) ∧ IntKind.i64.wrap (n26 - (1 : Int)) < (t0.2 : Int)) ∧
 ∃ (x32 : Int × Int),
 CellsAt w27.drew b30 (b31 + (IntKind.i64.wrap (n26 - (1 : Int))).toNat * (2 : Nat)) [Value.int IntKind.i64 x32.1, Value.int IntKind.i64 x32.2] ∧
 ∃ (b33 : Nat),
 ∃ (b34 : Nat),
 t0.1 = some ({ block := b33, off := b34 } : Addr) ∧
 ((0 : Int) ≤ n26 ∧ n26 < (t0.2 : Int)) ∧
 ∃ (x35 : Int × Int),
 CellsAt w27.drew b33 (b34 + n26.toNat * (2 : Nat)) [Value.int IntKind.i64 x35.1, Value.int IntKind.i64 x35.2] ∧
 ∃ (b36 : Nat),
 ∃ (b37 : Nat),
 t0.1 = some ({ block := b36, off := b37 } : Addr) ∧
 ((0 : Int) ≤ n26 ∧ n26 < (t0.2 : Int)) ∧
 #[Value.int IntKind.i64 x32.1, Value.int IntKind.i64 x32.2].size = (2 : Nat) ∧
 StoreP w27.drew b36 (b37 + n26.toNat * (2 : Nat)) [Value.int IntKind.i64 x32.1, Value.int IntKind.i64 x32.2] fun (w38 : World) =>
 ∃ (b39 : Nat),
 ∃ (b40 : Nat),
 t0.1 = some ({ block := b39, off := b40 } : Addr) ∧
 ((0 : Int) ≤ IntKind.i64.wrap (n26 - (1 : Int)) ∧ IntKind.i64.wrap (n26 - (1 : Int)) < (t0.2 : Int)) ∧
 #[Value.int IntKind.i64 x35.1, Value.int IntKind.i64 x35.2].size = (2 : Nat) ∧
 StoreP w38 b39 (b40 + (IntKind.i64.wrap (n26 - (1 : Int))).toNat * (2 : Nat)) [Value.int IntKind.i64 x35.1, Value.int IntKind.i64 x35.2] fun (w41 : World) =>
 ∃ (y42 : Unit → World → Prop),
 IfB (decide ((2 : Int) ≤ IntKind.i64.wrap (n26 - t1)))
 (∃ (y43 : Nat → Int → World → Prop),
 (∃ (b44 : Nat), y43 b44 (IntKind.i64.wrap (n26 - (1 : Int))) w41) ∧
 ∀ (b45 : Nat) (n46 : Int) (w47 : World) (y48 : Nat → Value),
 y43 b45 n46 w47 →
 (F121j4 t0 t3 y42 y43 b45 n46 w47))
 (([] : List Nat) = [] ∧ y42 PUnit.unit w41) ∧
 ∀ (y72 : Unit) (w73 : World) (y74 : Nat → Value),
 y42 y72 w73 →
 (F121j5 t0 t2 t3 y1 b3 x4 n26 w73)))
def F121 (t0 : Sl) (t1 : Int) (t2 : Int) (t3 : Nat × Array Value) (w : World) (R : Value → World → Prop) : Prop :=
 ∃ (y1 : Nat → Int × Int → World → Prop),
 (∃ (b2 : Nat), y1 b2 (IntKind.i64.wrap (t1 + (1 : Int)), (0 : Int)) w) ∧
 ∀ (b3 : Nat) (x4 : Int × Int) (w5 : World) (y6 : Nat → Value),
 y1 b3 x4 w5 →
 IfB (decide (x4.snd < (5 : Int)))
 (∃ (y8 : Int → World → Prop),
 (∃ (y9 : Nat → Int → World → Prop),
 (∃ (b10 : Nat), y9 b10 x4.1 w5) ∧
 ∀ (b11 : Nat) (n12 : Int) (w13 : World) (y14 : Nat → Value),
 y9 b11 n12 w13 →
 (F121j2 t0 t2 t3 y8 y9 b11 n12 w13)) ∧
 ∀ (n26 : Int) (w27 : World) (y28 : Nat → Value),
 y8 n26 w27 →
 (F121j3 t0 t1 t2 t3 R y1 b3 x4 n26 w27))
 (R (Value.bool false) w5)
theorem F121_ok (t0 : Sl) (t1 : Int) (t2 : Int) (t3 : Nat × Array Value) (w : World) (R : Value → World → Prop) (h : F121 t0 t1 t2 t3 w R) : CW Try.prog 121 #[Value.slice t0.1 t0.2 t0.3, Value.int IntKind.i64 t1, Value.int IntKind.i64 t2, Value.func (Fn.func t3.1) #[] t3.2] w R :=
  call_of tbOk mixed en121 Try.func121 rfl (.node (.nil) (.node (.nil) (.node (.node (.nil) (.loop [(9, .one (.int .i64)), (10, .one (.int .i64))] [15, 16, 19, 20, 21, 22, 23, 24, 25, 26, 27, 28, 29, 30, 31, 32, 33, 34, 35, 36, 37, 38, 9, 39, 40, 41, 8, 42, 43, 44, 45, 46, 47, 48, 49, 50, 51, 52, 53, 54, 55, 56, 57, 58, 59, 60, 61, 62, 63, 64, 65, 66, 67, 11, 68, 69, 72, 73, 74, 75, 76, 77, 78, 79, 80, 81, 82, 83, 84, 85, 86, 87, 88, 89, 90, 91, 92, 93, 94, 95, 96, 97, 98, 99, 100, 70, 71, 101, 102, 103, 104, 105, 106, 12, 107, 108, 109, 112, 113, 114, 115, 116, 117, 118, 119, 120, 121, 122, 123, 124, 125, 126, 127, 128, 129, 130, 131, 132, 133, 134, 135, 136, 137, 138, 139, 140, 110, 111, 17, 18, 10] (.node (.nil) (.node (.join [(9, .one (.int .i64))] [19, 20, 21, 22, 23, 24, 25, 26, 27, 28, 29, 30, 31, 32, 33, 34, 35, 36, 37, 38, 9] (.loop [(9, .one (.int .i64))] [19, 20, 21, 22, 23, 24, 25, 26, 27, 28, 29, 30, 31, 32, 33, 34, 35, 36, 37, 38, 9] (.node (.node (.draw (.st 0 (.st 1 (.st 2 (.st 3 (.st 4 (.st 5 (.st 6 (.st 7 (.st 8 (.st 9 (.st 10 (.st 11 (.st 12 (.st 13 (.ac 14 [] (.st 15 (.st 16 (.st 17 (.fin)))) (.non))))))))))))))))) (.nil)) (.nil))) (.node (.nil) (.node (.nil) (.node (.draw (.st 0 (.st 1 (.st 2 (.st 3 (.st 4 (.st 5 (.st 6 (.st 7 (.st 8 (.st 9 (.st 10 (.st 11 (.st 12 (.st 13 (.st 14 (.ac 15 [4, 3, 2] (.st 16 (.ac 17 [] (.fin) (.non))) (.non)))))))))))))))))) (.join [] [62, 63, 64, 65, 66, 67, 11, 68, 69, 72, 73, 74, 75, 76, 77, 78, 79, 80, 81, 82, 83, 84, 85, 86, 87, 88, 89, 90, 91, 92, 93, 94, 95, 96, 97, 98, 99, 100, 70, 71] (.node (.nil) (.node (.node (.nil) (.loop [(11, .one (.int .i64))] [68, 69, 72, 73, 74, 75, 76, 77, 78, 79, 80, 81, 82, 83, 84, 85, 86, 87, 88, 89, 90, 91, 92, 93, 94, 95, 96, 97, 98, 99, 100, 70, 71, 11] (.node (.nil) (.node (.node (.node (.draw (.st 0 (.st 1 (.st 2 (.st 3 (.st 4 (.st 5 (.st 6 (.st 7 (.st 8 (.st 9 (.ac 10 [] (.st 11 (.st 12 (.fin))) (.non))))))))))))) (.nil)) (.draw (.st 0 (.st 1 (.st 2 (.st 3 (.st 4 (.st 5 (.st 6 (.st 7 (.st 8 (.st 9 (.st 10 (.st 11 (.st 12 (.st 13 (.st 14 (.ac 15 [4, 3, 2] (.st 16 (.ac 17 [] (.fin) (.non))) (.non))))))))))))))))))) (.nil))))) (.nil))) (.join [(104, .one (.bool))] [101, 102, 103, 104] (.nil) (.node (.node (.nil) (.loop [(12, .one (.int .i64))] [107, 108, 109, 112, 113, 114, 115, 116, 117, 118, 119, 120, 121, 122, 123, 124, 125, 126, 127, 128, 129, 130, 131, 132, 133, 134, 135, 136, 137, 138, 139, 140, 110, 111, 12] (.node (.nil) (.node (.node (.node (.draw (.st 0 (.st 1 (.st 2 (.st 3 (.st 4 (.st 5 (.st 6 (.st 7 (.st 8 (.st 9 (.ac 10 [] (.st 11 (.st 12 (.fin))) (.non))))))))))))) (.nil)) (.draw (.st 0 (.st 1 (.st 2 (.st 3 (.st 4 (.st 5 (.st 6 (.st 7 (.st 8 (.st 9 (.st 10 (.st 11 (.st 12 (.st 13 (.st 14 (.ac 15 [4, 3, 2] (.st 16 (.ac 17 [] (.fin) (.non))) (.non))))))))))))))))))) (.nil))))) (.nil)))))))) (.nil))))) (.nil)))) (by kernel_rfl) (Nat.le_of_ble_eq_true (by kernel_rfl)) (Eq.mp (α := F121 t0 t1 t2 t3 w R) (by kernel_rfl) h)
def F122j2 (t0 : Sl) (t1 : Int) (t4 : Nat × Array Value) (x16 : Int × Int) (y20 : Int → World → Prop) (y21 : Nat → Int → World → Prop) (b23 : Nat) (n24 : Int) (w25 : World) : Prop :=
 IfB (decide (n24 ≤ x16.snd))
 (∃ (b28 : Nat),
 ∃ (b29 : Nat),
 t0.1 = some ({ block := b28, off := b29 } : Addr) ∧
 ((0 : Int) ≤ t1 ∧ t1 < (t0.2 : Int)) ∧
 ∃ (x30 : Int × Int),
 CellsAt w25.drew b28 (b29 + t1.toNat * (2 : Nat)) [Value.int IntKind.i64 x30.1, Value.int IntKind.i64 x30.2] ∧
 ∃ (b31 : Nat),
 ∃ (b32 : Nat),
 t0.1 = some ({ block := b31, off := b32 } : Addr) ∧
 ((0 : Int) ≤ n24 ∧ n24 < (t0.2 : Int)) ∧
 ∃ (x33 : Int × Int),
 CellsAt w25.drew b31 (b32 + n24.toNat * (2 : Nat)) [Value.int IntKind.i64 x33.1, Value.int IntKind.i64 x33.2] ∧
 CX Try.prog t4.1
 { toList := Value.agg #[Value.int IntKind.i64 x30.1, Value.int IntKind.i64 x30.2] :: Value.agg #[Value.int IntKind.i64 x33.1, Value.int IntKind.i64 x33.2] :: t4.snd.1 }
 w25.drew fun (v34 : Value) (w35 : World) =>
 ∃ (n36 : Int), v34 = Value.int IntKind.i64 n36 ∧ IfB (!decide (n36 < (0 : Int))) (([] : List Nat) = [] ∧ ∃ (b37 : Nat), b37 < b23 ∧ y21 b37 (IntKind.i64.wrap (n24 + (1 : Int))) w35) (([] : List Nat) = [] ∧ y20 n24 w35))
 (([] : List Nat) = [] ∧ y20 n24 w25.drew)
def F122j4 (t0 : Sl) (t1 : Int) (t4 : Nat × Array Value) (n38 : Int) (y42 : Int → World → Prop) (y43 : Nat → Int → World → Prop) (b45 : Nat) (n46 : Int) (w47 : World) : Prop :=
 IfB (decide (n38 ≤ n46))
 (∃ (b50 : Nat),
 ∃ (b51 : Nat),
 t0.1 = some ({ block := b50, off := b51 } : Addr) ∧
 ((0 : Int) ≤ t1 ∧ t1 < (t0.2 : Int)) ∧
 ∃ (x52 : Int × Int),
 CellsAt w47.drew b50 (b51 + t1.toNat * (2 : Nat)) [Value.int IntKind.i64 x52.1, Value.int IntKind.i64 x52.2] ∧
 ∃ (b53 : Nat),
 ∃ (b54 : Nat),
 t0.1 = some ({ block := b53, off := b54 } : Addr) ∧
 ((0 : Int) ≤ n46 ∧ n46 < (t0.2 : Int)) ∧
 ∃ (x55 : Int × Int),
 CellsAt w47.drew b53 (b54 + n46.toNat * (2 : Nat)) [Value.int IntKind.i64 x55.1, Value.int IntKind.i64 x55.2] ∧
 CX Try.prog t4.1
 { toList := Value.agg #[Value.int IntKind.i64 x52.1, Value.int IntKind.i64 x52.2] :: Value.agg #[Value.int IntKind.i64 x55.1, Value.int IntKind.i64 x55.2] :: t4.snd.1 }
 w47.drew fun (v56 : Value) (w57 : World) =>
 ∃ (n58 : Int), v56 = Value.int IntKind.i64 n58 ∧ IfB (decide (n58 < (0 : Int))) (([] : List Nat) = [] ∧ ∃ (b59 : Nat), b59 < b45 ∧ y43 b59 (IntKind.i64.wrap (n46 - (1 : Int))) w57) (([] : List Nat) = [] ∧ y42 n46 w57))
 (([] : List Nat) = [] ∧ y42 n46 w47.drew)
def F122j5 (t0 : Sl) (R : Value → World → Prop) (y13 : Nat → Int × Int → World → Prop) (b15 : Nat) (n38 : Int) (n60 : Int) (w61 : World) : Prop :=
 IfB (decide (n60 < n38)) (R (Value.int IntKind.i64 n38) w61)
 (∃ (b64 : Nat),
 ∃ (b65 : Nat),
 t0.1 = some ({ block := b64, off := b65 } : Addr) ∧
 ((0 : Int) ≤ n60 ∧ n60 < (t0.2 : Int)) ∧
 ∃ (x66 : Int × Int),
 CellsAt w61.drew b64 (b65 + n60.toNat * (2 : Nat)) [Value.int IntKind.i64 x66.1, Value.int IntKind.i64 x66.2] ∧
 ∃ (b67 : Nat),
 ∃ (b68 : Nat),
 t0.1 = some ({ block := b67, off := b68 } : Addr) ∧
 ((0 : Int) ≤ n38 ∧ n38 < (t0.2 : Int)) ∧
 ∃ (x69 : Int × Int),
 CellsAt w61.drew b67 (b68 + n38.toNat * (2 : Nat)) [Value.int IntKind.i64 x69.1, Value.int IntKind.i64 x69.2] ∧
 ∃ (b70 : Nat),
 ∃ (b71 : Nat),
 t0.1 = some ({ block := b70, off := b71 } : Addr) ∧
 ((0 : Int) ≤ n38 ∧ n38 < (t0.2 : Int)) ∧
 #[Value.int IntKind.i64 x66.1, Value.int IntKind.i64 x66.2].size = (2 : Nat) ∧
 StoreP w61.drew b70 (b71 + n38.toNat * (2 : Nat)) [Value.int IntKind.i64 x66.1, Value.int IntKind.i64 x66.2] fun (w72 : World) =>
 ∃ (b73 : Nat),
 ∃ (b74 : Nat),
 t0.1 = some ({ block := b73, off := b74 } : Addr) ∧
 ((0 : Int) ≤ n60 ∧ n60 < (t0.2 : Int)) ∧
 #[Value.int IntKind.i64 x69.1, Value.int IntKind.i64 x69.2].size = (2 : Nat) ∧
 StoreP w72 b73 (b74 + n60.toNat * (2 : Nat)) [Value.int IntKind.i64 x69.1, Value.int IntKind.i64 x69.2] fun (w75 : World) =>
 ([] : List Nat) = [] ∧ ∃ (b76 : Nat), b76 < b15 ∧ y13 b76 (IntKind.i64.wrap (n38 + (1 : Int)), IntKind.i64.wrap (n60 - (1 : Int))) w75)
def F122j1 (t0 : Sl) (t1 : Int) (t4 : Nat × Array Value) (R : Value → World → Prop) (y13 : Nat → Int × Int → World → Prop) (b15 : Nat) (x16 : Int × Int) (w17 : World) : Prop :=
 ∃ (y20 : Int → World → Prop),
 (∃ (y21 : Nat → Int → World → Prop),
 (∃ (b22 : Nat), y21 b22 x16.1 w17) ∧
 ∀ (b23 : Nat) (n24 : Int) (w25 : World) (y26 : Nat → Value),
 y21 b23 n24 w25 →
 (F122j2 t0 t1 t4 x16 y20 y21 b23 n24 w25)) ∧
 ∀ (n38 : Int) (w39 : World) (y40 : Nat → Value),
 y20 n38 w39 →
 ∃ (y42 : Int → World → Prop),
 (∃ (y43 : Nat → Int → World → Prop),
 (∃ (b44 : Nat), y43 b44 x16.2 w39) ∧
 ∀ (b45 : Nat) (n46 : Int) (w47 : World) (y48 : Nat → Value),
 y43 b45 n46 w47 →
 (F122j4 t0 t1 t4 n38 y42 y43 b45 n46 w47)) ∧
 ∀ (n60 : Int) (w61 : World) (y62 : Nat → Value),
 y42 n60 w61 →
 (F122j5 t0 R y13 b15 n38 n60 w61)
def F122 (t0 : Sl) (t1 : Int) (t2 : Int) (t3 : Int) (t4 : Nat × Array Value) (w : World) (R : Value → World → Prop) : Prop :=
 ∃ (b1 : Nat),
 ∃ (b2 : Nat),
 t0.1 = some ({ block := b1, off := b2 } : Addr) ∧
 ((0 : Int) ≤ t3 ∧ t3 < (t0.2 : Int)) ∧
 ∃ (x3 : Int × Int),
 CellsAt w.drew b1 (b2 + t3.toNat * (2 : Nat)) [Value.int IntKind.i64 x3.1, Value.int IntKind.i64 x3.2] ∧
 ∃ (b4 : Nat),
 ∃ (b5 : Nat),
 t0.1 = some ({ block := b4, off := b5 } : Addr) ∧
 ((0 : Int) ≤ t1 ∧ t1 < (t0.2 : Int)) ∧
 ∃ (x6 : Int × Int),
 CellsAt w.drew b4 (b5 + t1.toNat * (2 : Nat)) [Value.int IntKind.i64 x6.1, Value.int IntKind.i64 x6.2] ∧
 ∃ (b7 : Nat),
 ∃ (b8 : Nat),
 t0.1 = some ({ block := b7, off := b8 } : Addr) ∧
 ((0 : Int) ≤ t1 ∧ t1 < (t0.2 : Int)) ∧
 #[Value.int IntKind.i64 x3.1, Value.int IntKind.i64 x3.2].size = (2 : Nat) ∧
 StoreP w.drew b7 (b8 + t1.toNat * (2 : Nat)) [Value.int IntKind.i64 x3.1, Value.int IntKind.i64 x3.2] fun (w9 : World) =>
 ∃ (b10 : Nat),
 ∃ (b11 : Nat),
 t0.1 = some ({ block := b10, off := b11 } : Addr) ∧
 ((0 : Int) ≤ t3 ∧ t3 < (t0.2 : Int)) ∧
 #[Value.int IntKind.i64 x6.1, Value.int IntKind.i64 x6.2].size = (2 : Nat) ∧
 StoreP w9 b10 (b11 + t3.toNat * (2 : Nat)) [Value.int IntKind.i64 x6.1, Value.int IntKind.i64 x6.2] fun (w12 : World) =>
 ∃ (y13 : Nat → Int × Int → World → Prop),
 (∃ (b14 : Nat), y13 b14 (IntKind.i64.wrap (t1 + (1 : Int)), IntKind.i64.wrap (t2 - (1 : Int))) w12) ∧
 ∀ (b15 : Nat) (x16 : Int × Int) (w17 : World) (y18 : Nat → Value),
 y13 b15 x16 w17 →
 (F122j1 t0 t1 t4 R y13 b15 x16 w17)
theorem F122_ok (t0 : Sl) (t1 : Int) (t2 : Int) (t3 : Int) (t4 : Nat × Array Value) (w : World) (R : Value → World → Prop) (h : F122 t0 t1 t2 t3 t4 w R) : CW Try.prog 122 #[Value.slice t0.1 t0.2 t0.3, Value.int IntKind.i64 t1, Value.int IntKind.i64 t2, Value.int IntKind.i64 t3, Value.func (Fn.func t4.1) #[] t4.2] w R :=
  call_of tbOk mixed en122 Try.func122 rfl (.node (.nil) (.node (.draw (.st 0 (.st 1 (.st 2 (.st 3 (.st 4 (.st 5 (.st 6 (.st 7 (.st 8 (.st 9 (.st 10 (.st 11 (.st 12 (.ac 13 [3, 2] (.st 14 (.ac 15 [] (.fin) (.non))) (.non)))))))))))))))) (.node (.nil) (.node (.loop [(11, .one (.int .i64)), (12, .one (.int .i64))] [31, 32, 33, 34, 35, 36, 37, 38, 39, 40, 41, 42, 43, 44, 45, 46, 47, 48, 49, 11, 50, 51, 52, 53, 54, 55, 56, 57, 58, 59, 60, 61, 62, 63, 64, 65, 66, 67, 12, 68, 69, 70, 71, 72, 73, 74, 75, 76, 77, 78, 79, 80, 81, 82, 83, 84, 85, 86, 87, 88] (.join [(11, .one (.int .i64))] [31, 32, 33, 34, 35, 36, 37, 38, 39, 40, 41, 42, 43, 44, 45, 46, 47, 48, 49, 11] (.loop [(11, .one (.int .i64))] [31, 32, 33, 34, 35, 36, 37, 38, 39, 40, 41, 42, 43, 44, 45, 46, 47, 48, 49, 11] (.node (.node (.draw (.st 0 (.st 1 (.st 2 (.st 3 (.st 4 (.st 5 (.st 6 (.st 7 (.st 8 (.st 9 (.st 10 (.st 11 (.st 12 (.ac 13 [] (.st 14 (.st 15 (.st 16 (.fin)))) (.non)))))))))))))))) (.nil)) (.nil))) (.join [(12, .one (.int .i64))] [50, 51, 52, 53, 54, 55, 56, 57, 58, 59, 60, 61, 62, 63, 64, 65, 66, 67, 12] (.loop [(12, .one (.int .i64))] [50, 51, 52, 53, 54, 55, 56, 57, 58, 59, 60, 61, 62, 63, 64, 65, 66, 67, 12] (.node (.node (.draw (.st 0 (.st 1 (.st 2 (.st 3 (.st 4 (.st 5 (.st 6 (.st 7 (.st 8 (.st 9 (.st 10 (.st 11 (.st 12 (.ac 13 [] (.st 14 (.st 15 (.fin))) (.non)))))))))))))))) (.nil)) (.nil))) (.node (.nil) (.node (.draw (.st 0 (.st 1 (.st 2 (.st 3 (.st 4 (.st 5 (.st 6 (.st 7 (.st 8 (.st 9 (.st 10 (.st 11 (.st 12 (.ac 13 [3, 2] (.st 14 (.ac 15 [] (.fin) (.non))) (.non)))))))))))))))) (.nil)))))) (.nil))))) (by kernel_rfl) (Nat.le_of_ble_eq_true (by kernel_rfl)) (Eq.mp (α := F122 t0 t1 t2 t3 t4 w R) (by kernel_rfl) h)
def F123j1 (t0 : Sl) (t1 : Int) (t2 : Int) (t4 : Nat × Array Value) (y13 : Int → World → Prop) (y14 : Nat → Int → World → Prop) (b16 : Nat) (n17 : Int) (w18 : World) : Prop :=
 IfB (decide (n17 ≤ IntKind.i64.wrap (t2 - (1 : Int))))
 (∃ (b21 : Nat),
 ∃ (b22 : Nat),
 t0.1 = some ({ block := b21, off := b22 } : Addr) ∧
 ((0 : Int) ≤ n17 ∧ n17 < (t0.2 : Int)) ∧
 ∃ (x23 : Int × Int),
 CellsAt w18.drew b21 (b22 + n17.toNat * (2 : Nat)) [Value.int IntKind.i64 x23.1, Value.int IntKind.i64 x23.2] ∧
 ∃ (b24 : Nat),
 ∃ (b25 : Nat),
 t0.1 = some ({ block := b24, off := b25 } : Addr) ∧
 ((0 : Int) ≤ t1 ∧ t1 < (t0.2 : Int)) ∧
 ∃ (x26 : Int × Int),
 CellsAt w18.drew b24 (b25 + t1.toNat * (2 : Nat)) [Value.int IntKind.i64 x26.1, Value.int IntKind.i64 x26.2] ∧
 CX Try.prog t4.1
 { toList := Value.agg #[Value.int IntKind.i64 x23.1, Value.int IntKind.i64 x23.2] :: Value.agg #[Value.int IntKind.i64 x26.1, Value.int IntKind.i64 x26.2] :: t4.snd.1 }
 w18.drew fun (v27 : Value) (w28 : World) =>
 ∃ (n29 : Int), v27 = Value.int IntKind.i64 n29 ∧ IfB (decide (n29 < (0 : Int))) (([] : List Nat) = [] ∧ ∃ (b30 : Nat), b30 < b16 ∧ y14 b30 (IntKind.i64.wrap (n17 + (1 : Int))) w28) (([] : List Nat) = [] ∧ y13 n17 w28))
 (([] : List Nat) = [] ∧ y13 n17 w18.drew)
def F123j3 (t0 : Sl) (t1 : Int) (t4 : Nat × Array Value) (n31 : Int) (y35 : Int → World → Prop) (y36 : Nat → Int → World → Prop) (b38 : Nat) (n39 : Int) (w40 : World) : Prop :=
 IfB (decide (n31 ≤ n39))
 (∃ (b43 : Nat),
 ∃ (b44 : Nat),
 t0.1 = some ({ block := b43, off := b44 } : Addr) ∧
 ((0 : Int) ≤ n39 ∧ n39 < (t0.2 : Int)) ∧
 ∃ (x45 : Int × Int),
 CellsAt w40.drew b43 (b44 + n39.toNat * (2 : Nat)) [Value.int IntKind.i64 x45.1, Value.int IntKind.i64 x45.2] ∧
 ∃ (b46 : Nat),
 ∃ (b47 : Nat),
 t0.1 = some ({ block := b46, off := b47 } : Addr) ∧
 ((0 : Int) ≤ t1 ∧ t1 < (t0.2 : Int)) ∧
 ∃ (x48 : Int × Int),
 CellsAt w40.drew b46 (b47 + t1.toNat * (2 : Nat)) [Value.int IntKind.i64 x48.1, Value.int IntKind.i64 x48.2] ∧
 CX Try.prog t4.1
 { toList := Value.agg #[Value.int IntKind.i64 x45.1, Value.int IntKind.i64 x45.2] :: Value.agg #[Value.int IntKind.i64 x48.1, Value.int IntKind.i64 x48.2] :: t4.snd.1 }
 w40.drew fun (v49 : Value) (w50 : World) =>
 ∃ (n51 : Int), v49 = Value.int IntKind.i64 n51 ∧ IfB (!decide (n51 < (0 : Int))) (([] : List Nat) = [] ∧ ∃ (b52 : Nat), b52 < b38 ∧ y36 b52 (IntKind.i64.wrap (n39 - (1 : Int))) w50) (([] : List Nat) = [] ∧ y35 n39 w50))
 (([] : List Nat) = [] ∧ y35 n39 w40.drew)
def F123j6 (t0 : Sl) (t1 : Int) (t4 : Nat × Array Value) (x84 : Int × Int) (y88 : Int → World → Prop) (y89 : Nat → Int → World → Prop) (b91 : Nat) (n92 : Int) (w93 : World) : Prop :=
 IfB (decide (n92 ≤ x84.snd))
 (∃ (b96 : Nat),
 ∃ (b97 : Nat),
 t0.1 = some ({ block := b96, off := b97 } : Addr) ∧
 ((0 : Int) ≤ n92 ∧ n92 < (t0.2 : Int)) ∧
 ∃ (x98 : Int × Int),
 CellsAt w93.drew b96 (b97 + n92.toNat * (2 : Nat)) [Value.int IntKind.i64 x98.1, Value.int IntKind.i64 x98.2] ∧
 ∃ (b99 : Nat),
 ∃ (b100 : Nat),
 t0.1 = some ({ block := b99, off := b100 } : Addr) ∧
 ((0 : Int) ≤ t1 ∧ t1 < (t0.2 : Int)) ∧
 ∃ (x101 : Int × Int),
 CellsAt w93.drew b99 (b100 + t1.toNat * (2 : Nat)) [Value.int IntKind.i64 x101.1, Value.int IntKind.i64 x101.2] ∧
 CX Try.prog t4.1
 { toList := Value.agg #[Value.int IntKind.i64 x98.1, Value.int IntKind.i64 x98.2] :: Value.agg #[Value.int IntKind.i64 x101.1, Value.int IntKind.i64 x101.2] :: t4.snd.1 }
 w93.drew fun (v102 : Value) (w103 : World) =>
 ∃ (n104 : Int),
 v102 = Value.int IntKind.i64 n104 ∧ IfB (decide (n104 < (0 : Int))) (([] : List Nat) = [] ∧ ∃ (b105 : Nat), b105 < b91 ∧ y89 b105 (IntKind.i64.wrap (n92 + (1 : Int))) w103) (([] : List Nat) = [] ∧ y88 n92 w103))
 (([] : List Nat) = [] ∧ y88 n92 w93.drew)
def F123j8 (t0 : Sl) (t1 : Int) (t4 : Nat × Array Value) (n106 : Int) (y110 : Int → World → Prop) (y111 : Nat → Int → World → Prop) (b113 : Nat) (n114 : Int) (w115 : World) : Prop :=
 IfB (decide (n106 ≤ n114))
 (∃ (b118 : Nat),
 ∃ (b119 : Nat),
 t0.1 = some ({ block := b118, off := b119 } : Addr) ∧
 ((0 : Int) ≤ n114 ∧ n114 < (t0.2 : Int)) ∧
 ∃ (x120 : Int × Int),
 CellsAt w115.drew b118 (b119 + n114.toNat * (2 : Nat)) [Value.int IntKind.i64 x120.1, Value.int IntKind.i64 x120.2] ∧
 ∃ (b121 : Nat),
 ∃ (b122 : Nat),
 t0.1 = some ({ block := b121, off := b122 } : Addr) ∧
 ((0 : Int) ≤ t1 ∧ t1 < (t0.2 : Int)) ∧
 ∃ (x123 : Int × Int),
 CellsAt w115.drew b121 (b122 + t1.toNat * (2 : Nat)) [Value.int IntKind.i64 x123.1, Value.int IntKind.i64 x123.2] ∧
 CX Try.prog t4.1
 { toList := Value.agg #[Value.int IntKind.i64 x120.1, Value.int IntKind.i64 x120.2] :: Value.agg #[Value.int IntKind.i64 x123.1, Value.int IntKind.i64 x123.2] :: t4.snd.1 }
 w115.drew fun (v124 : Value) (w125 : World) =>
 ∃ (n126 : Int),
 v124 = Value.int IntKind.i64 n126 ∧ IfB (!decide (n126 < (0 : Int))) (([] : List Nat) = [] ∧ ∃ (b127 : Nat), b127 < b113 ∧ y111 b127 (IntKind.i64.wrap (n114 - (1 : Int))) w125) (([] : List Nat) = [] ∧ y110 n114 w125))
 (([] : List Nat) = [] ∧ y110 n114 w115.drew)
def F123j9 (t0 : Sl) (t1 : Int) (R : Value → World → Prop) (y81 : Nat → Int × Int → World → Prop) (b83 : Nat) (n106 : Int) (n128 : Int) (w129 : World) : Prop :=
 IfB (decide (n128 < n106))
 (∃ (b132 : Nat),
 ∃ (b133 : Nat),
 t0.1 = some ({ block := b132, off := b133 } : Addr) ∧
 ((0 : Int) ≤ t1 ∧ t1 < (t0.2 : Int)) ∧
 ∃ (x134 : Int × Int),
 CellsAt w129.drew b132 (b133 + t1.toNat * (2 : Nat)) [Value.int IntKind.i64 x134.1, Value.int IntKind.i64 x134.2] ∧
 ∃ (b135 : Nat),
 ∃ (b136 : Nat),
 t0.1 = some ({ block := b135, off := b136 } : Addr) ∧
 ((0 : Int) ≤ n128 ∧ n128 < (t0.2 : Int)) ∧
 ∃ (x137 : Int × Int),
 CellsAt w129.drew b135 (b136 + n128.toNat * (2 : Nat)) [Value.int IntKind.i64 x137.1, Value.int IntKind.i64 x137.2] ∧
 ∃ (b138 : Nat),
 ∃ (b139 : Nat),
 t0.1 = some ({ block := b138, off := b139 } : Addr) ∧
 ((0 : Int) ≤ n128 ∧ n128 < (t0.2 : Int)) ∧
 #[Value.int IntKind.i64 x134.1, Value.int IntKind.i64 x134.2].size = (2 : Nat) ∧
 StoreP w129.drew b138 (b139 + n128.toNat * (2 : Nat)) [Value.int IntKind.i64 x134.1, Value.int IntKind.i64 x134.2] fun (w140 : World) =>
 ∃ (b141 : Nat),
 ∃ (b142 : Nat),
 t0.1 = some ({ block := b141, off := b142 } : Addr) ∧
 ((0 : Int) ≤ t1 ∧ t1 < (t0.2 : Int)) ∧
 #[Value.int IntKind.i64 x137.1, Value.int IntKind.i64 x137.2].size = (2 : Nat) ∧
 StoreP w140 b141 (b142 + t1.toNat * (2 : Nat)) [Value.int IntKind.i64 x137.1, Value.int IntKind.i64 x137.2] fun (w143 : World) =>
 R (Value.tuple #[Value.int IntKind.i64 n128, Value.bool false]) w143)
 (∃ (b144 : Nat),
 ∃ (b145 : Nat),
 t0.1 = some ({ block := b144, off := b145 } : Addr) ∧
 ((0 : Int) ≤ n128 ∧ n128 < (t0.2 : Int)) ∧
 ∃ (x146 : Int × Int),
 CellsAt w129.drew b144 (b145 + n128.toNat * (2 : Nat)) [Value.int IntKind.i64 x146.1, Value.int IntKind.i64 x146.2] ∧
 ∃ (b147 : Nat),
 ∃ (b148 : Nat),
 t0.1 = some ({ block := b147, off := b148 } : Addr) ∧
 ((0 : Int) ≤ n106 ∧ n106 < (t0.2 : Int)) ∧
 ∃ (x149 : Int × Int),
 CellsAt w129.drew b147 (b148 + n106.toNat * (2 : Nat)) [Value.int IntKind.i64 x149.1, Value.int IntKind.i64 x149.2] ∧
 ∃ (b150 : Nat),
 ∃ (b151 : Nat),
 t0.1 = some ({ block := b150, off := b151 } : Addr) ∧
 ((0 : Int) ≤ n106 ∧ n106 < (t0.2 : Int)) ∧
 #[Value.int IntKind.i64 x146.1, Value.int IntKind.i64 x146.2].size = (2 : Nat) ∧
 StoreP w129.drew b150 (b151 + n106.toNat * (2 : Nat)) [Value.int IntKind.i64 x146.1, Value.int IntKind.i64 x146.2] fun (w152 : World) =>
 ∃ (b153 : Nat),
 ∃ (b154 : Nat),
 t0.1 = some ({ block := b153, off := b154 } : Addr) ∧
 ((0 : Int) ≤ n128 ∧ n128 < (t0.2 : Int)) ∧
 #[Value.int IntKind.i64 x149.1, Value.int IntKind.i64 x149.2].size = (2 : Nat) ∧
 StoreP w152 b153 (b154 + n128.toNat * (2 : Nat)) [Value.int IntKind.i64 x149.1, Value.int IntKind.i64 x149.2] fun (w155 : World) =>
 ([] : List Nat) = [] ∧ ∃ (b156 : Nat), b156 < b83 ∧ y81 b156 (IntKind.i64.wrap (n106 + (1 : Int)), IntKind.i64.wrap (n128 - (1 : Int))) w155)
def F123j5 (t0 : Sl) (t1 : Int) (t4 : Nat × Array Value) (R : Value → World → Prop) (y81 : Nat → Int × Int → World → Prop) (b83 : Nat) (x84 : Int × Int) (w85 : World) : Prop :=
 ∃ (y88 : Int → World → Prop),
 (∃ (y89 : Nat → Int → World → Prop),
 (∃ (b90 : Nat), y89 b90 x84.1 w85) ∧
 ∀ (b91 : Nat) (n92 : Int) (w93 : World) (y94 : Nat → Value),
 y89 b91 n92 w93 →
 (F123j6 t0 t1 t4 x84 y88 y89 b91 n92 w93)) ∧
 ∀ (n106 : Int) (w107 : World) (y108 : Nat → Value),
 y88 n106 w107 →
 ∃ (y110 : Int → World → Prop),
 (∃ (y111 : Nat → Int → World → Prop),
 (∃ (b112 : Nat), y111 b112 x84.2 w107) ∧
 ∀ (b113 : Nat) (n114 : Int) (w115 : World) (y116 : Nat → Value),
 y111 b113 n114 w115 →
 (F123j8 t0 t1 t4 n106 y110 y111 b113 n114 w115)) ∧
 ∀ (n128 : Int) (w129 : World) (y130 : Nat → Value),
 y110 n128 w129 →
 (F123j9 t0 t1 R y81 b83 n106 n128 w129)
def F123j4 (t0 : Sl) (t1 : Int) (t4 : Nat × Array Value) (R : Value → World → Prop) (n31 : Int) (n53 : Int) (w54 : World) : Prop :=
 IfB (decide (n53 < n31))
 (∃ (b57 : Nat),
 ∃ (b58 : Nat),
 t0.1 = some ({ block := b57, off := b58 } : Addr) ∧
 ((0 : Int) ≤ t1 ∧ t1 < (t0.2 : Int)) ∧
 ∃ (x59 : Int × Int),
 CellsAt w54.drew b57 (b58 + t1.toNat * (2 : Nat)) [Value.int IntKind.i64 x59.1, Value.int IntKind.i64 x59.2] ∧
 ∃ (b60 : Nat),
 ∃ (b61 : Nat),
 t0.1 = some ({ block := b60, off := b61 } : Addr) ∧
 ((0 : Int) ≤ n53 ∧ n53 < (t0.2 : Int)) ∧
 ∃ (x62 : Int × Int),
 CellsAt w54.drew b60 (b61 + n53.toNat * (2 : Nat)) [Value.int IntKind.i64 x62.1, Value.int IntKind.i64 x62.2] ∧
 ∃ (b63 : Nat),
 ∃ (b64 : Nat),
 t0.1 = some ({ block := b63, off := b64 } : Addr) ∧
 ((0 : Int) ≤ n53 ∧ n53 < (t0.2 : Int)) ∧
 #[Value.int IntKind.i64 x59.1, Value.int IntKind.i64 x59.2].size = (2 : Nat) ∧
 StoreP w54.drew b63 (b64 + n53.toNat * (2 : Nat)) [Value.int IntKind.i64 x59.1, Value.int IntKind.i64 x59.2] fun (w65 : World) =>
 ∃ (b66 : Nat),
 ∃ (b67 : Nat),
 t0.1 = some ({ block := b66, off := b67 } : Addr) ∧
 ((0 : Int) ≤ t1 ∧ t1 < (t0.2 : Int)) ∧
 #[Value.int IntKind.i64 x62.1, Value.int IntKind.i64 x62.2].size = (2 : Nat) ∧
 StoreP w65 b66 (b67 + t1.toNat * (2 : Nat)) [Value.int IntKind.i64 x62.1, Value.int IntKind.i64 x62.2] fun (w68 : World) =>
 R (Value.tuple #[Value.int IntKind.i64 n53, Value.bool true]) w68)
 (∃ (b69 : Nat),
 ∃ (b70 : Nat),
 t0.1 = some ({ block := b69, off := b70 } : Addr) ∧
 ((0 : Int) ≤ n53 ∧ n53 < (t0.2 : Int)) ∧
 ∃ (x71 : Int × Int),
 CellsAt w54.drew b69 (b70 + n53.toNat * (2 : Nat)) [Value.int IntKind.i64 x71.1, Value.int IntKind.i64 x71.2] ∧
 ∃ (b72 : Nat),
 ∃ (b73 : Nat),
 t0.1 = some ({ block := b72, off := b73 } : Addr) ∧
 ((0 : Int) ≤ n31 ∧ n31 < (t0.2 : Int)) ∧
 ∃ (x74 : Int × Int),
 CellsAt w54.drew b72 (b73 + n31.toNat * (2 : Nat)) [Value.int IntKind.i64 x74.1, Value.int IntKind.i64 x74.2] ∧
 ∃ (b75 : Nat),
 ∃ (b76 : Nat),
 t0.1 = some ({ block := b75, off := b76 } : Addr) ∧
 ((0 : Int) ≤ n31 ∧ n31 < (t0.2 : Int)) ∧
 #[Value.int IntKind.i64 x71.1, Value.int IntKind.i64 x71.2].size = (2 : Nat) ∧
 StoreP w54.drew b75 (b76 + n31.toNat * (2 : Nat)) [Value.int IntKind.i64 x71.1, Value.int IntKind.i64 x71.2] fun (w77 : World) =>
 ∃ (b78 : Nat),
 ∃ (b79 : Nat),
 t0.1 = some ({ block := b78, off := b79 } : Addr) ∧
 ((0 : Int) ≤ n53 ∧ n53 < (t0.2 : Int)) ∧
 #[Value.int IntKind.i64 x74.1, Value.int IntKind.i64 x74.2].size = (2 : Nat) ∧
 StoreP w77 b78 (b79 + n53.toNat * (2 : Nat)) [Value.int IntKind.i64 x74.1, Value.int IntKind.i64 x74.2] fun (w80 : World) =>
 ∃ (y81 : Nat → Int × Int → World → Prop),
 (∃ (b82 : Nat), y81 b82 (IntKind.i64.wrap (n31 + (1 : Int)), IntKind.i64.wrap (n53 - (1 : Int))) w80) ∧
 ∀ (b83 : Nat) (x84 : Int × Int) (w85 : World) (y86 : Nat → Value),
 y81 b83 x84 w85 →
 (F123j5 t0 t1 t4 R y81 b83 x84 w85))
def F123 (t0 : Sl) (t1 : Int) (t2 : Int) (t3 : Int) (t4 : Nat × Array Value) (w : World) (R : Value → World → Prop) : Prop :=
 ∃ (b1 : Nat),
 ∃ (b2 : Nat),
 t0.1 = some ({ block := b1, off := b2 } : Addr) ∧
 ((0 : Int) ≤ t3 ∧ t3 < (t0.2 : Int)) ∧
 ∃ (x3 : Int × Int),
 CellsAt w.drew b1 (b2 + t3.toNat * (2 : Nat)) [Value.int IntKind.i64 x3.1, Value.int IntKind.i64 x3.2] ∧
 ∃ (b4 : Nat),
 ∃ (b5 : Nat),
 t0.1 = some ({ block := b4, off := b5 } : Addr) ∧
 ((0 : Int) ≤ t1 ∧ t1 < (t0.2 : Int)) ∧
 ∃ (x6 : Int × Int),
 CellsAt w.drew b4 (b5 + t1.toNat * (2 : Nat)) [Value.int IntKind.i64 x6.1, Value.int IntKind.i64 x6.2] ∧
 ∃ (b7 : Nat),
 ∃ (b8 : Nat),
 t0.1 = some ({ block := b7, off := b8 } : Addr) ∧
 ((0 : Int) ≤ t1 ∧ t1 < (t0.2 : Int)) ∧
 #[Value.int IntKind.i64 x3.1, Value.int IntKind.i64 x3.2].size = (2 : Nat) ∧
 StoreP w.drew b7 (b8 + t1.toNat * (2 : Nat)) [Value.int IntKind.i64 x3.1, Value.int IntKind.i64 x3.2] fun (w9 : World) =>
 ∃ (b10 : Nat),
 ∃ (b11 : Nat),
 t0.1 = some ({ block := b10, off := b11 } : Addr) ∧
 ((0 : Int) ≤ t3 ∧ t3 < (t0.2 : Int)) ∧
 #[Value.int IntKind.i64 x6.1, Value.int IntKind.i64 x6.2].size = (2 : Nat) ∧
 StoreP w9 b10 (b11 + t3.toNat * (2 : Nat)) [Value.int IntKind.i64 x6.1, Value.int IntKind.i64 x6.2] fun (w12 : World) =>
 ∃ (y13 : Int → World → Prop),
 (∃ (y14 : Nat → Int → World → Prop),
 (∃ (b15 : Nat), y14 b15 (IntKind.i64.wrap (t1 + (1 : Int))) w12) ∧
 ∀ (b16 : Nat) (n17 : Int) (w18 : World) (y19 : Nat → Value),
 y14 b16 n17 w18 →
 (F123j1 t0 t1 t2 t4 y13 y14 b16 n17 w18)) ∧
 ∀ (n31 : Int) (w32 : World) (y33 : Nat → Value),
 y13 n31 w32 →
 ∃ (y35 : Int → World → Prop),
 (∃ (y36 : Nat → Int → World → Prop),
 (∃ (b37 : Nat), y36 b37 (IntKind.i64.wrap (t2 - (1 : Int))) w32) ∧
 ∀ (b38 : Nat) (n39 : Int) (w40 : World) (y41 : Nat → Value),
 y36 b38 n39 w40 →
 (F123j3 t0 t1 t4 n31 y35 y36 b38 n39 w40)) ∧
 ∀ (n53 : Int) (w54 : World) (y55 : Nat → Value),
 y35 n53 w54 →
 (F123j4 t0 t1 t4 R n31 n53 w54)
theorem F123_ok (t0 : Sl) (t1 : Int) (t2 : Int) (t3 : Int) (t4 : Nat × Array Value) (w : World) (R : Value → World → Prop) (h : F123 t0 t1 t2 t3 t4 w R) : CW Try.prog 123 #[Value.slice t0.1 t0.2 t0.3, Value.int IntKind.i64 t1, Value.int IntKind.i64 t2, Value.int IntKind.i64 t3, Value.func (Fn.func t4.1) #[] t4.2] w R :=
  call_of tbOk mixed en123 Try.func123 rfl (.node (.nil) (.node (.draw (.st 0 (.st 1 (.st 2 (.st 3 (.st 4 (.st 5 (.st 6 (.st 7 (.st 8 (.st 9 (.st 10 (.st 11 (.st 12 (.ac 13 [3, 2] (.st 14 (.ac 15 [] (.fin) (.non))) (.non)))))))))))))))) (.node (.nil) (.join [(12, .one (.int .i64))] [32, 33, 34, 35, 36, 37, 38, 39, 40, 41, 42, 43, 44, 45, 46, 47, 48, 49, 12] (.loop [(12, .one (.int .i64))] [32, 33, 34, 35, 36, 37, 38, 39, 40, 41, 42, 43, 44, 45, 46, 47, 48, 49, 12] (.node (.node (.draw (.st 0 (.st 1 (.st 2 (.st 3 (.st 4 (.st 5 (.st 6 (.st 7 (.st 8 (.st 9 (.st 10 (.st 11 (.st 12 (.ac 13 [] (.st 14 (.st 15 (.fin))) (.non)))))))))))))))) (.nil)) (.nil))) (.join [(13, .one (.int .i64))] [50, 51, 52, 53, 54, 55, 56, 57, 58, 59, 60, 61, 62, 63, 64, 65, 66, 67, 68, 13] (.loop [(13, .one (.int .i64))] [50, 51, 52, 53, 54, 55, 56, 57, 58, 59, 60, 61, 62, 63, 64, 65, 66, 67, 68, 13] (.node (.node (.draw (.st 0 (.st 1 (.st 2 (.st 3 (.st 4 (.st 5 (.st 6 (.st 7 (.st 8 (.st 9 (.st 10 (.st 11 (.st 12 (.ac 13 [] (.st 14 (.st 15 (.st 16 (.fin)))) (.non)))))))))))))))) (.nil)) (.nil))) (.node (.node (.nil) (.node (.node (.draw (.st 0 (.st 1 (.st 2 (.st 3 (.st 4 (.st 5 (.st 6 (.st 7 (.st 8 (.st 9 (.st 10 (.st 11 (.st 12 (.ac 13 [3, 2] (.st 14 (.ac 15 [] (.fin) (.non))) (.non)))))))))))))))) (.nil)) (.nil))) (.node (.draw (.st 0 (.st 1 (.st 2 (.st 3 (.st 4 (.st 5 (.st 6 (.st 7 (.st 8 (.st 9 (.st 10 (.st 11 (.st 12 (.ac 13 [3, 2] (.st 14 (.ac 15 [] (.fin) (.non))) (.non)))))))))))))))) (.node (.nil) (.node (.nil) (.node (.loop [(12, .one (.int .i64)), (13, .one (.int .i64))] [105, 106, 107, 108, 109, 110, 111, 112, 113, 114, 115, 116, 117, 118, 119, 120, 121, 122, 12, 123, 124, 125, 126, 127, 128, 129, 130, 131, 132, 133, 134, 135, 136, 137, 138, 139, 140, 141, 13, 142, 143, 144, 145, 146, 147, 148, 149, 150, 151, 152, 153, 154, 155, 156, 157, 158, 159, 160, 161, 162] (.join [(12, .one (.int .i64))] [105, 106, 107, 108, 109, 110, 111, 112, 113, 114, 115, 116, 117, 118, 119, 120, 121, 122, 12] (.loop [(12, .one (.int .i64))] [105, 106, 107, 108, 109, 110, 111, 112, 113, 114, 115, 116, 117, 118, 119, 120, 121, 122, 12] (.node (.node (.draw (.st 0 (.st 1 (.st 2 (.st 3 (.st 4 (.st 5 (.st 6 (.st 7 (.st 8 (.st 9 (.st 10 (.st 11 (.st 12 (.ac 13 [] (.st 14 (.st 15 (.fin))) (.non)))))))))))))))) (.nil)) (.nil))) (.join [(13, .one (.int .i64))] [123, 124, 125, 126, 127, 128, 129, 130, 131, 132, 133, 134, 135, 136, 137, 138, 139, 140, 141, 13] (.loop [(13, .one (.int .i64))] [123, 124, 125, 126, 127, 128, 129, 130, 131, 132, 133, 134, 135, 136, 137, 138, 139, 140, 141, 13] (.node (.node (.draw (.st 0 (.st 1 (.st 2 (.st 3 (.st 4 (.st 5 (.st 6 (.st 7 (.st 8 (.st 9 (.st 10 (.st 11 (.st 12 (.ac 13 [] (.st 14 (.st 15 (.st 16 (.fin)))) (.non)))))))))))))))) (.nil)) (.nil))) (.node (.nil) (.node (.draw (.st 0 (.st 1 (.st 2 (.st 3 (.st 4 (.st 5 (.st 6 (.st 7 (.st 8 (.st 9 (.st 10 (.st 11 (.st 12 (.ac 13 [3, 2] (.st 14 (.ac 15 [] (.fin) (.non))) (.non)))))))))))))))) (.nil)))))) (.node (.draw (.st 0 (.st 1 (.st 2 (.st 3 (.st 4 (.st 5 (.st 6 (.st 7 (.st 8 (.st 9 (.st 10 (.st 11 (.st 12 (.ac 13 [3, 2] (.st 14 (.ac 15 [] (.fin) (.non))) (.non)))))))))))))))) (.nil)))))))))))) (by kernel_rfl) (Nat.le_of_ble_eq_true (by kernel_rfl)) (Eq.mp (α := F123 t0 t1 t2 t3 t4 w R) (by kernel_rfl) h)
def F124j2 (t0 : Sl) (t3 : Int) (t4 : Nat × Array Value) (R : Value → World → Prop) (y1 : Nat → Int → World → Prop) (b3 : Nat) (n4 : Int) (n18 : Int) (w19 : World) : Prop :=
 ∃ (b22 : Nat),
 ∃ (b23 : Nat),
 t0.1 = some ({ block := b22, off := b23 } : Addr) ∧
 ((0 : Int) ≤ IntKind.i64.wrap (t3 + n4) ∧ IntKind.i64.wrap (t3 + n4) < (t0.2 : Int)) ∧
 ∃ (x24 : Int × Int),
 CellsAt w19.drew b22 (b23 + (IntKind.i64.wrap (t3 + n4)).toNat * (2 : Nat)) [Value.int IntKind.i64 x24.1, Value.int IntKind.i64 x24.2] ∧
 ∃ (b25 : Nat),
 ∃ (b26 : Nat),
 t0.1 = some ({ block := b25, off := b26 } : Addr) ∧
 ((0 : Int) ≤ IntKind.i64.wrap (t3 + n18) ∧ IntKind.i64.wrap (t3 + n18) < (t0.2 : Int)) ∧
 ∃ (x27 : Int × Int),
 CellsAt w19.drew b25 (b26 + (IntKind.i64.wrap (t3 + n18)).toNat * (2 : Nat)) [Value.int IntKind.i64 x27.1, Value.int IntKind.i64 x27.2] ∧
 CX Try.prog t4.1
 { toList := Value.agg #[Value.int IntKind.i64 x24.1, Value.int IntKind.i64 x24.2] :: Value.agg #[Value.int IntKind.i64 x27.1, Value.int IntKind.i64 x27.2] :: t4.snd.1 }
 w19.drew fun (v28 : Value) (w29 : World) =>
 ∃ (n30 : Int),
 v28 = Value.int IntKind.i64 n30 ∧
 IfB (!decide (n30 < (0 : Int))) (R (Value.tuple #[]) w29)
 (∃ (b31 : Nat),
 ∃ (b32 : Nat),
 t0.1 = some ({ block := b31, off := b32 } : Addr) ∧
 ((0 : Int) ≤ IntKind.i64.wrap (t3 + n18) ∧ IntKind.i64.wrap (t3 + n18) < (t0.2 : Int)) ∧
 ∃ (x33 : Int × Int),
 CellsAt w29.drew b31 (b32 + (IntKind.i64.wrap (t3 + n18)).toNat * (2 : Nat)) [Value.int IntKind.i64 x33.1, Value.int IntKind.i64 x33.2] ∧
 ∃ (b34 : Nat),
 ∃ (b35 : Nat),
 t0.1 = some ({ block := b34, off := b35 } : Addr) ∧
 ((0 : Int) ≤ IntKind.i64.wrap (t3 + n4) ∧ IntKind.i64.wrap (t3 + n4) < (t0.2 : Int)) ∧
 ∃ (x36 : Int × Int),
 CellsAt w29.drew b34 (b35 + (IntKind.i64.wrap (t3 + n4)).toNat * (2 : Nat)) [Value.int IntKind.i64 x36.1, Value.int IntKind.i64 x36.2] ∧
 ∃ (b37 : Nat),
 ∃ (b38 : Nat),
 t0.1 = some ({ block := b37, off := b38 } : Addr) ∧
 ((0 : Int) ≤ IntKind.i64.wrap (t3 + n4) ∧ IntKind.i64.wrap (t3 + n4) < (t0.2 : Int)) ∧
 #[Value.int IntKind.i64 x33.1, Value.int IntKind.i64 x33.2].size = (2 : Nat) ∧
 StoreP w29.drew b37 (b38 + (IntKind.i64.wrap (t3 + n4)).toNat * (2 : Nat)) [Value.int IntKind.i64 x33.1, Value.int IntKind.i64 x33.2] fun (w39 : World) =>
 ∃ (b40 : Nat),
 ∃ (b41 : Nat),
 t0.1 = some ({ block := b40, off := b41 } : Addr) ∧
 ((0 : Int) ≤ IntKind.i64.wrap (t3 + n18) ∧ IntKind.i64.wrap (t3 + n18) < (t0.2 : Int)) ∧
 #[Value.int IntKind.i64 x36.1, Value.int IntKind.i64 x36.2].size = (2 : Nat) ∧
 StoreP w39 b40 (b41 + (IntKind.i64.wrap (t3 + n18)).toNat * (2 : Nat)) [Value.int IntKind.i64 x36.1, Value.int IntKind.i64 x36.2] fun (w42 : World) =>
 ([] : List Nat) = [] ∧ ∃ (b43 : Nat), b43 < b3 ∧ y1 b43 n18 w42)
def F124j1 (t0 : Sl) (t2 : Int) (t3 : Int) (t4 : Nat × Array Value) (R : Value → World → Prop) (y1 : Nat → Int → World → Prop) (b3 : Nat) (n4 : Int) (w5 : World) : Prop :=
 IfB (decide (t2 ≤ IntKind.i64.wrap (IntKind.i64.wrap ((2 : Int) * n4) + (1 : Int)))) (R (Value.tuple #[]) w5)
 (∃ (y8 : Int → World → Prop),
 IfB (decide (IntKind.i64.wrap (IntKind.i64.wrap (IntKind.i64.wrap ((2 : Int) * n4) + (1 : Int)) + (1 : Int)) < t2))
 (∃ (b9 : Nat),
 ∃ (b10 : Nat),
 t0.1 = some ({ block := b9, off := b10 } : Addr) ∧
 ((0 : Int) ≤ IntKind.i64.wrap (t3 + IntKind.i64.wrap (IntKind.i64.wrap ((2 : Int) * n4) + (1 : Int))) ∧
 IntKind.i64.wrap (t3 + IntKind.i64.wrap (IntKind.i64.wrap ((2 : Int) * n4) + (1 : Int))) < (t0.2 : Int)) ∧
 ∃ (x11 : Int × Int),
 CellsAt w5.drew b9 (b10 + (IntKind.i64.wrap (t3 + IntKind.i64.wrap (IntKind.i64.wrap ((2 : Int) * n4) + (1 : Int)))).toNat * (2 : Nat)) [Value.int IntKind.i64 x11.1, Value.int IntKind.i64 x11.2] ∧
 ∃ (b12 : Nat),
 ∃ (b13 : Nat),
 t0.1 = some ({ block := b12, off := b13 } : Addr) ∧
 ((0 : Int) ≤ IntKind.i64.wrap (IntKind.i64.wrap (t3 + IntKind.i64.wrap (IntKind.i64.wrap ((2 : Int) * n4) + (1 : Int))) + (1 : Int)) ∧
 IntKind.i64.wrap (IntKind.i64.wrap (t3 + IntKind.i64.wrap (IntKind.i64.wrap ((2 : Int) * n4) + (1 : Int))) + (1 : Int)) < (t0.2 : Int)) ∧
 ∃ (x14 : Int × Int),
 CellsAt w5.drew b12 (b13 + (IntKind.i64.wrap (IntKind.i64.wrap (t3 + IntKind.i64.wrap (IntKind.i64.wrap ((2 : Int) * n4) + (1 : Int))) + (1 : Int))).toNat * (2 : Nat))
 [Value.int IntKind.i64 x14.1, Value.int IntKind.i64 x14.2] ∧
 CX Try.prog t4.1
 { toList := Value.agg #[Value.int IntKind.i64 x11.1, Value.int IntKind.i64 x11.2] :: Value.agg #[Value.int IntKind.i64 x14.1, Value.int IntKind.i64 x14.2] :: t4.snd.1 }
 w5.drew fun (v15 : Value) (w16 : World) =>
 ∃ (n17 : Int),
 v15 = Value.int IntKind.i64 n17 ∧
 IfB (decide (n17 < (0 : Int))) (([] : List Nat) = [] ∧ y8 (IntKind.i64.wrap (IntKind.i64.wrap (IntKind.i64.wrap ((2 : Int) * n4) + (1 : Int)) + (1 : Int))) w16)
 (([] : List Nat) = [] ∧ y8 (IntKind.i64.wrap (IntKind.i64.wrap ((2 : Int) * n4) + (1 : Int))) w16))
 (([] : List Nat) = [] ∧ y8 (IntKind.i64.wrap (IntKind.i64.wrap ((2 : Int) * n4) + (1 : Int))) w5.drew) ∧
 ∀ (n18 : Int) (w19 : World) (y20 : Nat → Value),
 y8 n18 w19 →
 (F124j2 t0 t3 t4 R y1 b3 n4 n18 w19))
def F124 (t0 : Sl) (t1 : Int) (t2 : Int) (t3 : Int) (t4 : Nat × Array Value) (w : World) (R : Value → World → Prop) : Prop :=
 ∃ (y1 : Nat → Int → World → Prop),
 (∃ (b2 : Nat), y1 b2 t1 w) ∧
 ∀ (b3 : Nat) (n4 : Int) (w5 : World) (y6 : Nat → Value),
 y1 b3 n4 w5 →
 (F124j1 t0 t2 t3 t4 R y1 b3 n4 w5)
theorem F124_ok (t0 : Sl) (t1 : Int) (t2 : Int) (t3 : Int) (t4 : Nat × Array Value) (w : World) (R : Value → World → Prop) (h : F124 t0 t1 t2 t3 t4 w R) : CW Try.prog 124 #[Value.slice t0.1 t0.2 t0.3, Value.int IntKind.i64 t1, Value.int IntKind.i64 t2, Value.int IntKind.i64 t3, Value.func (Fn.func t4.1) #[] t4.2] w R :=
  call_of tbOk mixed en124 Try.func124 rfl (.node (.nil) (.loop [(10, .one (.int .i64))] [13, 14, 15, 11, 16, 17, 18, 19, 20, 21, 22, 23, 24, 25, 26, 27, 28, 29, 30, 31, 32, 33, 34, 35, 36, 37, 38, 39, 40, 41, 42, 43, 44, 45, 46, 47, 48, 49, 50, 51, 52, 53, 54, 55, 56, 57, 58, 59, 60, 61, 62, 63, 64, 65, 66, 67, 68, 69, 70, 71, 72, 73, 74, 75, 76, 77, 78, 79, 80, 81, 10] (.node (.nil) (.node (.nil) (.join [(11, .one (.int .i64))] [19, 20, 21, 22, 23, 24, 25, 26, 27, 28, 29, 30, 31, 32, 33, 34, 35, 36, 37, 38, 39, 40, 41, 42, 11] (.node (.draw (.st 0 (.st 1 (.st 2 (.st 3 (.st 4 (.st 5 (.st 6 (.st 7 (.st 8 (.st 9 (.st 10 (.st 11 (.st 12 (.st 13 (.st 14 (.st 15 (.st 16 (.st 17 (.st 18 (.ac 19 [] (.st 20 (.st 21 (.fin))) (.non)))))))))))))))))))))) (.nil)) (.node (.node (.draw (.st 0 (.st 1 (.st 2 (.st 3 (.st 4 (.st 5 (.st 6 (.st 7 (.st 8 (.st 9 (.st 10 (.st 11 (.st 12 (.ac 13 [] (.st 14 (.st 15 (.fin))) (.non)))))))))))))))) (.nil)) (.node (.draw (.st 0 (.st 1 (.st 2 (.st 3 (.st 4 (.st 5 (.st 6 (.st 7 (.st 8 (.st 9 (.st 10 (.st 11 (.st 12 (.st 13 (.st 14 (.st 15 (.st 16 (.st 17 (.st 18 (.st 19 (.st 20 (.ac 21 [7, 6, 5, 4] (.st 22 (.ac 23 [] (.fin) (.non))) (.non)))))))))))))))))))))))) (.nil)))))))) (by kernel_rfl) (Nat.le_of_ble_eq_true (by kernel_rfl)) (Eq.mp (α := F124 t0 t1 t2 t3 t4 w R) (by kernel_rfl) h)
def F125 (t0 : Sl) (t1 : Int) (t2 : Option Addr) (t3 : Nat × Array Value) (w : World) (R : Value → World → Prop) : Prop :=
 CX Try.prog (126 : Nat)
 #[Value.slice t0.1 t0.2 t0.3, Value.int IntKind.i64 (IntKind.i64.wrap (t1 - (1 : Int))), Value.int IntKind.i64 t1, Value.int IntKind.i64 (IntKind.i64.wrap (t1 + (1 : Int))), Value.pointer t2,
 Value.func (Fn.func t3.1) #[] t3.2]
 w fun (v1 : Value) (w2 : World) => ∃ (n3 : Int), v1 = Value.int IntKind.i64 n3 ∧ R (Value.int IntKind.i64 n3) w2
theorem F125_ok (t0 : Sl) (t1 : Int) (t2 : Option Addr) (t3 : Nat × Array Value) (w : World) (R : Value → World → Prop) (h : F125 t0 t1 t2 t3 w R) : CW Try.prog 125 #[Value.slice t0.1 t0.2 t0.3, Value.int IntKind.i64 t1, Value.pointer t2, Value.func (Fn.func t3.1) #[] t3.2] w R :=
  call_of tbOk mixed en125 Try.func125 rfl (.nil) (by kernel_rfl) (Nat.le_of_ble_eq_true (by kernel_rfl)) (Eq.mp (α := F125 t0 t1 t2 t3 w R) (by kernel_rfl) h)
def F126 (t0 : Sl) (t1 : Int) (t2 : Int) (t3 : Int) (t4 : Option Addr) (t5 : Nat × Array Value) (w : World) (R : Value → World → Prop) : Prop :=
 CX Try.prog (127 : Nat) #[Value.slice t0.1 t0.2 t0.3, Value.int IntKind.i64 t1, Value.int IntKind.i64 t2, Value.pointer t4, Value.func (Fn.func t5.1) #[] t5.2] w
 fun (v1 : Value) (w2 : World) =>
 ∃ (x3 : Int × Int),
 v1 = Value.tuple #[Value.int IntKind.i64 x3.1, Value.int IntKind.i64 x3.2] ∧
 CX Try.prog (127 : Nat) #[Value.slice t0.1 t0.2 t0.3, Value.int IntKind.i64 x3.2, Value.int IntKind.i64 t3, Value.pointer t4, Value.func (Fn.func t5.1) #[] t5.2] w2
 fun (v4 : Value) (w5 : World) =>
 ∃ (x6 : Int × Int),
 v4 = Value.tuple #[Value.int IntKind.i64 x6.1, Value.int IntKind.i64 x6.2] ∧
 CX Try.prog (127 : Nat) #[Value.slice t0.1 t0.2 t0.3, Value.int IntKind.i64 x3.1, Value.int IntKind.i64 x6.1, Value.pointer t4, Value.func (Fn.func t5.1) #[] t5.2] w5
 fun (v7 : Value) (w8 : World) => ∃ (x9 : Int × Int), v7 = Value.tuple #[Value.int IntKind.i64 x9.1, Value.int IntKind.i64 x9.2] ∧ R (Value.int IntKind.i64 x9.2) w8
theorem F126_ok (t0 : Sl) (t1 : Int) (t2 : Int) (t3 : Int) (t4 : Option Addr) (t5 : Nat × Array Value) (w : World) (R : Value → World → Prop) (h : F126 t0 t1 t2 t3 t4 t5 w R) : CW Try.prog 126 #[Value.slice t0.1 t0.2 t0.3, Value.int IntKind.i64 t1, Value.int IntKind.i64 t2, Value.int IntKind.i64 t3, Value.pointer t4, Value.func (Fn.func t5.1) #[] t5.2] w R :=
  call_of tbOk mixed en126 Try.func126 rfl (.nil) (by kernel_rfl) (Nat.le_of_ble_eq_true (by kernel_rfl)) (Eq.mp (α := F126 t0 t1 t2 t3 t4 t5 w R) (by kernel_rfl) h)
def F127 (t0 : Sl) (t1 : Int) (t2 : Int) (t3 : Option Addr) (t4 : Nat × Array Value) (w : World) (R : Value → World → Prop) : Prop :=
 ∃ (b1 : Nat),
 ∃ (b2 : Nat),
 t0.1 = some ({ block := b1, off := b2 } : Addr) ∧
 ((0 : Int) ≤ t2 ∧ t2 < (t0.2 : Int)) ∧
 ∃ (x3 : Int × Int),
 CellsAt w.drew b1 (b2 + t2.toNat * (2 : Nat)) [Value.int IntKind.i64 x3.1, Value.int IntKind.i64 x3.2] ∧
 ∃ (b4 : Nat),
 ∃ (b5 : Nat),
 t0.1 = some ({ block := b4, off := b5 } : Addr) ∧
 ((0 : Int) ≤ t1 ∧ t1 < (t0.2 : Int)) ∧
 ∃ (x6 : Int × Int),
 CellsAt w.drew b4 (b5 + t1.toNat * (2 : Nat)) [Value.int IntKind.i64 x6.1, Value.int IntKind.i64 x6.2] ∧
 CX Try.prog t4.1
 { toList := Value.agg #[Value.int IntKind.i64 x3.1, Value.int IntKind.i64 x3.2] :: Value.agg #[Value.int IntKind.i64 x6.1, Value.int IntKind.i64 x6.2] :: t4.snd.1 } w.drew
 fun (v7 : Value) (w8 : World) =>
 ∃ (n9 : Int),
 v7 = Value.int IntKind.i64 n9 ∧
 IfB (decide (n9 < (0 : Int)))
 (∃ (b10 : Nat),
 ∃ (b11 : Nat),
 t3 = some ({ block := b10, off := b11 } : Addr) ∧
 ∃ (n12 : Int),
 w8.cell? ({ block := b10, off := b11 } : Addr) = some (Value.int IntKind.i64 n12) ∧
 ∃ (b13 : Nat),
 ∃ (b14 : Nat),
 t3 = some ({ block := b13, off := b14 } : Addr) ∧
 #[Value.int IntKind.i64 (IntKind.i64.wrap (n12 + (1 : Int)))].size = (1 : Nat) ∧
 StoreP w8 b13 b14 [Value.int IntKind.i64 (IntKind.i64.wrap (n12 + (1 : Int)))] fun (w15 : World) => R (Value.tuple #[Value.int IntKind.i64 t2, Value.int IntKind.i64 t1]) w15)
 (R (Value.tuple #[Value.int IntKind.i64 t1, Value.int IntKind.i64 t2]) w8)
theorem F127_ok (t0 : Sl) (t1 : Int) (t2 : Int) (t3 : Option Addr) (t4 : Nat × Array Value) (w : World) (R : Value → World → Prop) (h : F127 t0 t1 t2 t3 t4 w R) : CW Try.prog 127 #[Value.slice t0.1 t0.2 t0.3, Value.int IntKind.i64 t1, Value.int IntKind.i64 t2, Value.pointer t3, Value.func (Fn.func t4.1) #[] t4.2] w R :=
  call_of tbOk mixed en127 Try.func127 rfl (.node (.nil) (.node (.node (.draw (.st 0 (.st 1 (.st 2 (.st 3 (.st 4 (.st 5 (.st 6 (.st 7 (.st 8 (.ac 9 [] (.st 10 (.fin)) (.non)))))))))))) (.nil)) (.nil))) (by kernel_rfl) (Nat.le_of_ble_eq_true (by kernel_rfl)) (Eq.mp (α := F127 t0 t1 t2 t3 t4 w R) (by kernel_rfl) h)
end Go.Proofs.Ytmmhbjbaallkfaa.Gx

/- Written by mkf.py: what is to be shown of functions, as Gx reckons it from their code. -/
namespace Go.Proofs.Ytmmhbjbaallkfaa.Gx
open Go
def GxLSby0 : ByteArray := (ByteArray.mk (Array.mk (([(0 : UInt8), (1 : UInt8), (2 : UInt8), (2 : UInt8), (3 : UInt8), (3 : UInt8), (3 : UInt8), (3 : UInt8), (4 : UInt8), (4 : UInt8), (4 : UInt8), (4 : UInt8), (4 : UInt8), (4 : UInt8), (4 : UInt8), (4 : UInt8), (5 : UInt8), (5 : UInt8), (5 : UInt8), (5 : UInt8), (5 : UInt8), (5 : UInt8), (5 : UInt8), (5 : UInt8), (5 : UInt8), (5 : UInt8), (5 : UInt8), (5 : UInt8), (5 : UInt8), (5 : UInt8), (5 : UInt8), (5 : UInt8), (6 : UInt8), (6 : UInt8), (6 : UInt8), (6 : UInt8), (6 : UInt8), (6 : UInt8), (6 : UInt8), (6 : UInt8), (6 : UInt8), (6 : UInt8), (6 : UInt8), (6 : UInt8), (6 : UInt8), (6 : UInt8), (6 : UInt8), (6 : UInt8), (6 : UInt8), (6 : UInt8), (6 : UInt8), (6 : UInt8), (6 : UInt8), (6 : UInt8), (6 : UInt8), (6 : UInt8), (6 : UInt8), (6 : UInt8), (6 : UInt8), (6 : UInt8), (6 : UInt8), (6 : UInt8), (6 : UInt8), (6 : UInt8)].append [(7 : UInt8), (7 : UInt8), (7 : UInt8), (7 : UInt8), (7 : UInt8), (7 : UInt8), (7 : UInt8), (7 : UInt8), (7 : UInt8), (7 : UInt8), (7 : UInt8), (7 : UInt8), (7 : UInt8), (7 : UInt8), (7 : UInt8), (7 : UInt8), (7 : UInt8), (7 : UInt8), (7 : UInt8), (7 : UInt8), (7 : UInt8), (7 : UInt8), (7 : UInt8), (7 : UInt8), (7 : UInt8), (7 : UInt8), (7 : UInt8), (7 : UInt8), (7 : UInt8), (7 : UInt8), (7 : UInt8), (7 : UInt8), (7 : UInt8), (7 : UInt8), (7 : UInt8), (7 : UInt8), (7 : UInt8), (7 : UInt8), (7 : UInt8), (7 : UInt8), (7 : UInt8), (7 : UInt8), (7 : UInt8), (7 : UInt8), (7 : UInt8), (7 : UInt8), (7 : UInt8), (7 : UInt8), (7 : UInt8), (7 : UInt8), (7 : UInt8), (7 : UInt8), (7 : UInt8), (7 : UInt8), (7 : UInt8), (7 : UInt8), (7 : UInt8), (7 : UInt8), (7 : UInt8), (7 : UInt8), (7 : UInt8), (7 : UInt8), (7 : UInt8), (7 : UInt8)]).append ([(8 : UInt8), (8 : UInt8), (8 : UInt8), (8 : UInt8), (8 : UInt8), (8 : UInt8), (8 : UInt8), (8 : UInt8), (8 : UInt8), (8 : UInt8), (8 : UInt8), (8 : UInt8), (8 : UInt8), (8 : UInt8), (8 : UInt8), (8 : UInt8), (8 : UInt8), (8 : UInt8), (8 : UInt8), (8 : UInt8), (8 : UInt8), (8 : UInt8), (8 : UInt8), (8 : UInt8), (8 : UInt8), (8 : UInt8), (8 : UInt8), (8 : UInt8), (8 : UInt8), (8 : UInt8), (8 : UInt8), (8 : UInt8), (8 : UInt8), (8 : UInt8), (8 : UInt8), (8 : UInt8), (8 : UInt8), (8 : UInt8), (8 : UInt8), (8 : UInt8), (8 : UInt8), (8 : UInt8), (8 : UInt8), (8 : UInt8), (8 : UInt8), (8 : UInt8), (8 : UInt8), (8 : UInt8), (8 : UInt8), (8 : UInt8), (8 : UInt8), (8 : UInt8), (8 : UInt8), (8 : UInt8), (8 : UInt8), (8 : UInt8), (8 : UInt8), (8 : UInt8), (8 : UInt8), (8 : UInt8), (8 : UInt8), (8 : UInt8), (8 : UInt8), (8 : UInt8)].append [(8 : UInt8), (8 : UInt8), (8 : UInt8), (8 : UInt8), (8 : UInt8), (8 : UInt8), (8 : UInt8), (8 : UInt8), (8 : UInt8), (8 : UInt8), (8 : UInt8), (8 : UInt8), (8 : UInt8), (8 : UInt8), (8 : UInt8), (8 : UInt8), (8 : UInt8), (8 : UInt8), (8 : UInt8), (8 : UInt8), (8 : UInt8), (8 : UInt8), (8 : UInt8), (8 : UInt8), (8 : UInt8), (8 : UInt8), (8 : UInt8), (8 : UInt8), (8 : UInt8), (8 : UInt8), (8 : UInt8), (8 : UInt8), (8 : UInt8), (8 : UInt8), (8 : UInt8), (8 : UInt8), (8 : UInt8), (8 : UInt8), (8 : UInt8), (8 : UInt8), (8 : UInt8), (8 : UInt8), (8 : UInt8), (8 : UInt8), (8 : UInt8), (8 : UInt8), (8 : UInt8), (8 : UInt8), (8 : UInt8), (8 : UInt8), (8 : UInt8), (8 : UInt8), (8 : UInt8), (8 : UInt8), (8 : UInt8), (8 : UInt8), (8 : UInt8), (8 : UInt8), (8 : UInt8), (8 : UInt8), (8 : UInt8), (8 : UInt8), (8 : UInt8), (8 : UInt8)]) )))
set_option linter.unusedVariables false
set_option maxRecDepth 100000
def F49 (t0 : Sl) (w : World) (R : Value → World → Prop) : Prop :=
 CX Try.prog (62 : Nat) #[Value.int IntKind.u64 (IntKind.u64.wrap (t0.2 : Int))] w fun (v1 : Value) (w2 : World) =>
 ∃ (n3 : Int),
 v1 = Value.int IntKind.i64 n3 ∧
 CX Try.prog (68 : Nat) #[Value.slice t0.1 t0.2 t0.3, Value.int IntKind.i64 (0 : Int), Value.int IntKind.i64 (t0.2 : Int), Value.int IntKind.i64 n3] w2 fun (v4 : Value) (w5 : World) =>
 ∃ (y6 : Unit), v4 = Value.tuple #[] ∧ R (Value.tuple #[]) w5
theorem F49_ok (t0 : Sl) (w : World) (R : Value → World → Prop) (h : F49 t0 w R) : CW Try.prog 49 #[Value.slice t0.1 t0.2 t0.3] w R :=
  call_of tbOk mixed en49 Try.func49 rfl (.nil) (by kernel_rfl) (Nat.le_of_ble_eq_true (by kernel_rfl)) (Eq.mp (α := F49 t0 w R) (by kernel_rfl) h)
def F68k2 (t0 : Sl) (x4 : Int × Int × Int × Bool × Bool) (x56 : Int × Bool) (n18 : Int) (w55 : World) (b3 : Nat) (y1 : Nat → Int × Int × Int × Bool × Bool → World → Prop) : Prop :=
 CX Try.prog (68 : Nat) #[Value.slice t0.1 t0.2 t0.3, Value.int IntKind.i64 x4.1, Value.int IntKind.i64 x56.1, Value.int IntKind.i64 n18] w55 fun (v57 : Value) (w58 : World) =>
 ∃ (y59 : Unit),
 v57 = Value.tuple #[] ∧
 ([] : List Nat) = [] ∧
 ∃ (b60 : Nat),
 b60 < b3 ∧
 y1 b60 (IntKind.i64.wrap (x56.1 + (1 : Int)), x4.snd.1, n18, decide (IntKind.i64.wrap ((IntKind.i64.wrap (x4.snd.fst - x4.fst)).tdiv (8 : Int)) ≤ IntKind.i64.wrap (x56.fst - x4.fst)), x56.2) w58
def F68k1 (t0 : Sl) (x56 : Int × Bool) (x4 : Int × Int × Int × Bool × Bool) (n18 : Int) (w55 : World) (b3 : Nat) (y1 : Nat → Int × Int × Int × Bool × Bool → World → Prop) : Prop :=
 CX Try.prog (68 : Nat) #[Value.slice t0.1 t0.2 t0.3, Value.int IntKind.i64 (IntKind.i64.wrap (x56.1 + (1 : Int))), Value.int IntKind.i64 x4.snd.1, Value.int IntKind.i64 n18] w55
 fun (v61 : Value) (w62 : World) =>
 ∃ (y63 : Unit),
 v61 = Value.tuple #[] ∧
 ([] : List Nat) = [] ∧
 ∃ (b64 : Nat), b64 < b3 ∧ y1 b64 (x4.1, x56.1, n18, decide (IntKind.i64.wrap ((IntKind.i64.wrap (x4.snd.fst - x4.fst)).tdiv (8 : Int)) ≤ IntKind.i64.wrap (x4.snd.fst - x56.fst)), x56.2) w62
def F68j4 (t0 : Sl) (y1 : Nat → Int × Int × Int × Bool × Bool → World → Prop) (b3 : Nat) (x4 : Int × Int × Int × Bool × Bool) (n18 : Int) (x29 : Int × Int) (w38 : World) : Prop :=
 IfB (decide ((0 : Int) < x4.fst))
 (∃ (b41 : Nat),
 ∃ (b42 : Nat),
 t0.1 = some ({ block := b41, off := b42 } : Addr) ∧
 ((0 : Int) ≤ IntKind.i64.wrap (x4.1 - (1 : Int)) ∧ IntKind.i64.wrap (x4.1 - (1 : Int)) < (t0.2 : Int)) ∧
 ∃ (n43 : Int),
 w38.drew.cell? ({ block := b41, off := b42 + (IntKind.i64.wrap (x4.1 - (1 : Int))).toNat } : Addr) = some (Value.int IntKind.i64 n43) ∧
 ∃ (b44 : Nat),
 ∃ (b45 : Nat),
 t0.1 = some ({ block := b44, off := b45 } : Addr) ∧
 ((0 : Int) ≤ x29.1 ∧ x29.1 < (t0.2 : Int)) ∧
 ∃ (n46 : Int),
 w38.drew.cell? ({ block := b44, off := b45 + x29.1.toNat } : Addr) = some (Value.int IntKind.i64 n46) ∧
 CX Try.prog (92 : Nat) #[Value.int IntKind.i64 n43, Value.int IntKind.i64 n46] w38.drew fun (v47 : Value) (w48 : World) =>
 ∃ (t49 : Bool),
 v47 = Value.bool t49 ∧
 IfB (!t49)
 (CX Try.prog (93 : Nat) #[Value.slice t0.1 t0.2 t0.3, Value.int IntKind.i64 x4.1, Value.int IntKind.i64 x4.snd.1, Value.int IntKind.i64 x29.1] w48 fun (v50 : Value) (w51 : World) =>
 ∃ (n52 : Int), v50 = Value.int IntKind.i64 n52 ∧ ([] : List Nat) = [] ∧ ∃ (b53 : Nat), b53 < b3 ∧ y1 b53 (n52, x4.snd.1, n18, x4.snd.snd.snd.1, x4.snd.snd.snd.2) w51)
 (CX Try.prog (94 : Nat) #[Value.slice t0.1 t0.2 t0.3, Value.int IntKind.i64 x4.1, Value.int IntKind.i64 x4.snd.1, Value.int IntKind.i64 x29.1] w48 fun (v54 : Value) (w55 : World) =>
 ∃ (x56 : Int × Bool),
 v54 = Value.tuple #[Value.int IntKind.i64 x56.1, Value.bool x56.2] ∧
 ¬(8 : Int) = (0 : Int) ∧
 IfB (decide (IntKind.i64.wrap (x56.fst - x4.fst) < IntKind.i64.wrap (x4.snd.fst - x56.fst)))
 (F68k2 t0 x4 x56 n18 w55 b3 y1)
 (F68k1 t0 x56 x4 n18 w55 b3 y1)))
 (CX Try.prog (94 : Nat) #[Value.slice t0.1 t0.2 t0.3, Value.int IntKind.i64 x4.1, Value.int IntKind.i64 x4.snd.1, Value.int IntKind.i64 x29.1] w38.drew fun (v65 : Value) (w66 : World) =>
 ∃ (x67 : Int × Bool),
 v65 = Value.tuple #[Value.int IntKind.i64 x67.1, Value.bool x67.2] ∧
 ¬(8 : Int) = (0 : Int) ∧
 IfB (decide (IntKind.i64.wrap (x67.fst - x4.fst) < IntKind.i64.wrap (x4.snd.fst - x67.fst)))
 (F68k2 t0 x4 x67 n18 w66 b3 y1)
 (F68k1 t0 x67 x4 n18 w66 b3 y1))
def F68j3 (t0 : Sl) (R : Value → World → Prop) (y1 : Nat → Int × Int × Int × Bool × Bool → World → Prop) (b3 : Nat) (x4 : Int × Int × Int × Bool × Bool) (n18 : Int) (x29 : Int × Int) (w30 : World) : Prop :=
 ∃ (y33 : Unit → World → Prop),
 IfB x4.snd.snd.snd.1
 (IfB x4.snd.snd.snd.2
 (IfB (x29.2 == (1 : Int))
 (CX Try.prog (91 : Nat) #[Value.slice t0.1 t0.2 t0.3, Value.int IntKind.i64 x4.1, Value.int IntKind.i64 x4.snd.1] w30 fun (v34 : Value) (w35 : World) =>
 ∃ (t36 : Bool), v34 = Value.bool t36 ∧ IfB t36 (R (Value.tuple #[]) w35) (([] : List Nat) = [] ∧ y33 PUnit.unit w35))
 (([] : List Nat) = [] ∧ y33 PUnit.unit w30))
 (([] : List Nat) = [] ∧ y33 PUnit.unit w30))
 (([] : List Nat) = [] ∧ y33 PUnit.unit w30) ∧
 ∀ (y37 : Unit) (w38 : World) (y39 : Nat → Value),
 y33 y37 w38 →
 (F68j4 t0 y1 b3 x4 n18 x29 w38)
def F68j2 (t0 : Sl) (R : Value → World → Prop) (y1 : Nat → Int × Int × Int × Bool × Bool → World → Prop) (b3 : Nat) (x4 : Int × Int × Int × Bool × Bool) (n18 : Int) (w19 : World) : Prop :=
 CX Try.prog (89 : Nat) #[Value.slice t0.1 t0.2 t0.3, Value.int IntKind.i64 x4.1, Value.int IntKind.i64 x4.snd.1] w19 fun (v22 : Value) (w23 : World) =>
 ∃ (x24 : Int × Int),
 v22 = Value.tuple #[Value.int IntKind.i64 x24.1, Value.int IntKind.i64 x24.2] ∧
 ∃ (y25 : Int × Int → World → Prop),
 IfB (x24.2 == (2 : Int))
 (CX Try.prog (90 : Nat) #[Value.slice t0.1 t0.2 t0.3, Value.int IntKind.i64 x4.1, Value.int IntKind.i64 x4.snd.1] w23 fun (v26 : Value) (w27 : World) =>
 ∃ (y28 : Unit), v26 = Value.tuple #[] ∧ ([] : List Nat) = [] ∧ y25 (IntKind.i64.wrap (IntKind.i64.wrap (x4.snd.1 - (1 : Int)) - IntKind.i64.wrap (x24.1 - x4.1)), (1 : Int)) w27)
 (([] : List Nat) = [] ∧ y25 (x24.1, x24.2) w23) ∧
 ∀ (x29 : Int × Int) (w30 : World) (y31 : Nat → Value),
 y25 x29 w30 →
 (F68j3 t0 R y1 b3 x4 n18 x29 w30)
def F68j1 (t0 : Sl) (R : Value → World → Prop) (y1 : Nat → Int × Int × Int × Bool × Bool → World → Prop) (b3 : Nat) (x4 : Int × Int × Int × Bool × Bool) (w5 : World) : Prop :=
 IfB (decide (IntKind.i64.wrap (x4.snd.fst - x4.fst) ≤ (12 : Int)))
 (CX Try.prog (86 : Nat) #[Value.slice t0.1 t0.2 t0.3, Value.int IntKind.i64 x4.1, Value.int IntKind.i64 x4.snd.1] w5 fun (v8 : Value) (w9 : World) =>
 ∃ (y10 : Unit), v8 = Value.tuple #[] ∧ R (Value.tuple #[]) w9)
 (IfB (x4.snd.snd.1 == (0 : Int))
 (CX Try.prog (87 : Nat) #[Value.slice t0.1 t0.2 t0.3, Value.int IntKind.i64 x4.1, Value.int IntKind.i64 x4.snd.1] w5 fun (v11 : Value) (w12 : World) =>
 ∃ (y13 : Unit), v11 = Value.tuple #[] ∧ R (Value.tuple #[]) w12)
 (∃ (y14 : Int → World → Prop),
 IfB (!x4.snd.snd.snd.1)
 (CX Try.prog (88 : Nat) #[Value.slice t0.1 t0.2 t0.3, Value.int IntKind.i64 x4.1, Value.int IntKind.i64 x4.snd.1] w5 fun (v15 : Value) (w16 : World) =>
 ∃ (y17 : Unit), v15 = Value.tuple #[] ∧ ([] : List Nat) = [] ∧ y14 (IntKind.i64.wrap (x4.snd.snd.1 - (1 : Int))) w16)
 (([] : List Nat) = [] ∧ y14 x4.snd.snd.1 w5) ∧
 ∀ (n18 : Int) (w19 : World) (y20 : Nat → Value),
 y14 n18 w19 →
 (F68j2 t0 R y1 b3 x4 n18 w19)))
def F68 (t0 : Sl) (t1 : Int) (t2 : Int) (t3 : Int) (w : World) (R : Value → World → Prop) : Prop :=
 ∃ (y1 : Nat → Int × Int × Int × Bool × Bool → World → Prop),
 (∃ (b2 : Nat), y1 b2 (t1, t2, t3, true, true) w) ∧
 ∀ (b3 : Nat) (x4 : Int × Int × Int × Bool × Bool) (w5 : World) (y6 : Nat → Value),
 y1 b3 x4 w5 →
 (F68j1 t0 R y1 b3 x4 w5)
theorem F68_ok (t0 : Sl) (t1 : Int) (t2 : Int) (t3 : Int) (w : World) (R : Value → World → Prop) (h : F68 t0 t1 t2 t3 w R) : CW Try.prog 68 #[Value.slice t0.1 t0.2 t0.3, Value.int IntKind.i64 t1, Value.int IntKind.i64 t2, Value.int IntKind.i64 t3] w R :=
  call_of tbOk mixed en68 Try.func68 rfl (.node (.nil) (.node (.nil) (.loop [(1, .one (.int .i64)), (2, .one (.int .i64)), (3, .one (.int .i64)), (8, .one (.bool)), (9, .one (.bool))] [19, 20, 21, 10, 22, 23, 24, 25, 26, 27, 28, 29, 30, 31, 32, 33, 34, 35, 36, 37, 38, 39, 40, 41, 3, 43, 44, 45, 46, 42, 47, 48, 11, 12, 49, 50, 51, 52, 53, 54, 55, 56, 57, 58, 59, 60, 61, 62, 63, 64, 65, 66, 67, 68, 69, 70, 71, 72, 73, 74, 75, 76, 77, 78, 79, 80, 81, 82, 83, 84, 85, 86, 87, 88, 89, 90, 91, 92, 13, 93, 1, 95, 96, 97, 98, 99, 94, 100, 101, 14, 15, 102, 9, 103, 104, 105, 106, 107, 108, 16, 17, 109, 110, 18, 111, 112, 113, 114, 115, 116, 8, 117, 118, 119, 120, 121, 122, 123, 124, 125, 126, 127, 128, 129, 130, 131, 132, 133, 2] (.node (.nil) (.node (.nil) (.node (.nil) (.join [(3, .one (.int .i64))] [34, 35, 36, 37, 38, 39, 40, 41, 3] (.nil) (.node (.nil) (.join [(11, .one (.int .i64)), (12, .one (.int .i64))] [49, 50, 51, 52, 53, 54, 55, 56, 57, 58, 59, 60, 11, 12] (.nil) (.join [] [61, 62, 63, 64, 65, 66, 67, 68, 69, 70, 71, 72] (.nil) (.node (.node (.draw (.st 0 (.st 1 (.st 2 (.st 3 (.st 4 (.st 5 (.st 6 (.st 7 (.st 8 (.st 9 (.st 10 (.st 11 (.ac 12 [] (.st 13 (.st 14 (.fin))) (.non))))))))))))))) (.nil)) (.nil)))))))))))) (by kernel_rfl) (Nat.le_of_ble_eq_true (by kernel_rfl)) (Eq.mp (α := F68 t0 t1 t2 t3 w R) (by kernel_rfl) h)
def F62 (t0 : Int) (w : World) (R : Value → World → Prop) : Prop :=
 CX Try.prog (84 : Nat) #[Value.int IntKind.u64 t0] w fun (v1 : Value) (w2 : World) => ∃ (n3 : Int), v1 = Value.int IntKind.i64 n3 ∧ R (Value.int IntKind.i64 n3) w2
theorem F62_ok (t0 : Int) (w : World) (R : Value → World → Prop) (h : F62 t0 w R) : CW Try.prog 62 #[Value.int IntKind.u64 t0] w R :=
  call_of tbOk mixed en62 Try.func62 rfl (.nil) (by kernel_rfl) (Nat.le_of_ble_eq_true (by kernel_rfl)) (Eq.mp (α := F62 t0 w R) (by kernel_rfl) h)
def F86j2 (t0 : Sl) (t1 : Int) (y1 : Nat → Int → World → Prop) (b3 : Nat) (n4 : Int) (y8 : Nat → Int → World → Prop) (b10 : Nat) (n11 : Int) (w12 : World) : Prop :=
 IfB (decide (t1 < n11))
 (∃ (b15 : Nat),
 ∃ (b16 : Nat),
 t0.1 = some ({ block := b15, off := b16 } : Addr) ∧
 ((0 : Int) ≤ n11 ∧ n11 < (t0.2 : Int)) ∧
 ∃ (n17 : Int),
 w12.drew.cell? ({ block := b15, off := b16 + n11.toNat } : Addr) = some (Value.int IntKind.i64 n17) ∧
 ∃ (b18 : Nat),
 ∃ (b19 : Nat),
 t0.1 = some ({ block := b18, off := b19 } : Addr) ∧
 ((0 : Int) ≤ IntKind.i64.wrap (n11 - (1 : Int)) ∧ IntKind.i64.wrap (n11 - (1 : Int)) < (t0.2 : Int)) ∧
 ∃ (n20 : Int),
 w12.drew.cell? ({ block := b18, off := b19 + (IntKind.i64.wrap (n11 - (1 : Int))).toNat } : Addr) = some (Value.int IntKind.i64 n20) ∧
 CX Try.prog (92 : Nat) #[Value.int IntKind.i64 n17, Value.int IntKind.i64 n20] w12.drew fun (v21 : Value) (w22 : World) =>
 ∃ (t23 : Bool),
 v21 = Value.bool t23 ∧
 IfB t23
 (∃ (b24 : Nat),
 ∃ (b25 : Nat),
 t0.1 = some ({ block := b24, off := b25 } : Addr) ∧
 ((0 : Int) ≤ IntKind.i64.wrap (n11 - (1 : Int)) ∧ IntKind.i64.wrap (n11 - (1 : Int)) < (t0.2 : Int)) ∧
 ∃ (n26 : Int),
 w22.drew.cell? ({ block := b24, off := b25 + (IntKind.i64.wrap (n11 - (1 : Int))).toNat } : Addr) = some (Value.int IntKind.i64 n26) ∧
 ∃ (b27 : Nat),
 ∃ (b28 : Nat),
 t0.1 = some ({ block := b27, off := b28 } : Addr) ∧
 ((0 : Int) ≤ n11 ∧ n11 < (t0.2 : Int)) ∧
 ∃ (n29 : Int),
 w22.drew.cell? ({ block := b27, off := b28 + n11.toNat } : Addr) = some (Value.int IntKind.i64 n29) ∧
 ∃ (b30 : Nat),
 ∃ (b31 : Nat),
 t0.1 = some ({ block := b30, off := b31 } : Addr) ∧
 ((0 : Int) ≤ n11 ∧ n11 < (t0.2 : Int)) ∧
 #[Value.int IntKind.i64 n26].size = (1 : Nat) ∧
 StoreP w22.drew b30 (b31 + n11.toNat) [Value.int IntKind.i64 n26] fun (w32 : World) =>
 ∃ (b33 : Nat),
 ∃ (b34 : Nat),
 t0.1 = some ({ block := b33, off := b34 } : Addr) ∧
 ((0 : Int) ≤ IntKind.i64.wrap (n11 - (1 : Int)) ∧ IntKind.i64.wrap (n11 - (1 : Int)) < (t0.2 : Int)) ∧
 #[Value.int IntKind.i64 n29].size = (1 : Nat) ∧
 StoreP w32 b33 (b34 + (IntKind.i64.wrap (n11 - (1 : Int))).toNat) [Value.int IntKind.i64 n29] fun (w35 : World) => ([] : List Nat) = [] ∧ ∃ (b36 : Nat), b36 < b10 ∧ y8 b36 (IntKind.i64.wrap (n11 - (1 : Int))) w35)
 (([] : List Nat) = [] ∧ ∃ (b37 : Nat), b37 < b3 ∧ y1 b37 (IntKind.i64.wrap (n4 + (1 : Int))) w22))
 (([] : List Nat) = [] ∧ ∃ (b38 : Nat), b38 < b3 ∧ y1 b38 (IntKind.i64.wrap (n4 + (1 : Int))) w12.drew)
def F86 (t0 : Sl) (t1 : Int) (t2 : Int) (w : World) (R : Value → World → Prop) : Prop :=
 ∃ (y1 : Nat → Int → World → Prop),
 (∃ (b2 : Nat), y1 b2 (IntKind.i64.wrap (t1 + (1 : Int))) w) ∧
 ∀ (b3 : Nat) (n4 : Int) (w5 : World) (y6 : Nat → Value),
 y1 b3 n4 w5 →
 IfB (decide (n4 < t2))
 (∃ (y8 : Nat → Int → World → Prop),
 (∃ (b9 : Nat), y8 b9 n4 w5) ∧
 ∀ (b10 : Nat) (n11 : Int) (w12 : World) (y13 : Nat → Value),
 y8 b10 n11 w12 →
 (F86j2 t0 t1 y1 b3 n4 y8 b10 n11 w12))
 (R (Value.tuple #[]) w5)
theorem F86_ok (t0 : Sl) (t1 : Int) (t2 : Int) (w : World) (R : Value → World → Prop) (h : F86 t0 t1 t2 w R) : CW Try.prog 86 #[Value.slice t0.1 t0.2 t0.3, Value.int IntKind.i64 t1, Value.int IntKind.i64 t2] w R :=
  call_of tbOk mixed en86 Try.func86 rfl (.node (.nil) (.loop [(6, .one (.int .i64))] [10, 11, 12, 15, 7, 16, 17, 18, 19, 20, 21, 22, 23, 24, 25, 26, 27, 28, 29, 30, 33, 34, 35, 36, 37, 38, 39, 40, 41, 42, 43, 44, 45, 46, 47, 48, 31, 32, 13, 14, 6] (.node (.nil) (.node (.node (.nil) (.loop [(7, .one (.int .i64))] [16, 17, 18, 19, 20, 21, 22, 23, 24, 25, 26, 27, 28, 29, 30, 33, 34, 35, 36, 37, 38, 39, 40, 41, 42, 43, 44, 45, 46, 47, 48, 31, 32, 7] (.node (.node (.draw (.st 0 (.st 1 (.st 2 (.st 3 (.st 4 (.st 5 (.st 6 (.st 7 (.st 8 (.st 9 (.st 10 (.st 11 (.st 12 (.ac 13 [] (.st 14 (.fin)) (.non)))))))))))))))) (.nil)) (.node (.draw (.st 0 (.st 1 (.st 2 (.st 3 (.st 4 (.st 5 (.st 6 (.st 7 (.st 8 (.st 9 (.st 10 (.st 11 (.st 12 (.st 13 (.st 14 (.ac 15 [4, 3, 2] (.st 16 (.ac 17 [] (.fin) (.non))) (.non)))))))))))))))))) (.nil))))) (.nil))))) (by kernel_rfl) (Nat.le_of_ble_eq_true (by kernel_rfl)) (Eq.mp (α := F86 t0 t1 t2 w R) (by kernel_rfl) h)
def F87j2 (t0 : Sl) (t1 : Int) (R : Value → World → Prop) (y12 : Nat → Int → World → Prop) (b14 : Nat) (n15 : Int) (w16 : World) : Prop :=
 IfB (decide ((0 : Int) ≤ n15))
 (∃ (b19 : Nat),
 ∃ (b20 : Nat),
 t0.1 = some ({ block := b19, off := b20 } : Addr) ∧
 ((0 : Int) ≤ IntKind.i64.wrap (t1 + n15) ∧ IntKind.i64.wrap (t1 + n15) < (t0.2 : Int)) ∧
 ∃ (n21 : Int),
 w16.drew.cell? ({ block := b19, off := b20 + (IntKind.i64.wrap (t1 + n15)).toNat } : Addr) = some (Value.int IntKind.i64 n21) ∧
 ∃ (b22 : Nat),
 ∃ (b23 : Nat),
 t0.1 = some ({ block := b22, off := b23 } : Addr) ∧
 ((0 : Int) ≤ t1 ∧ t1 < (t0.2 : Int)) ∧
 ∃ (n24 : Int),
 w16.drew.cell? ({ block := b22, off := b23 + t1.toNat } : Addr) = some (Value.int IntKind.i64 n24) ∧
 ∃ (b25 : Nat),
 ∃ (b26 : Nat),
 t0.1 = some ({ block := b25, off := b26 } : Addr) ∧
 ((0 : Int) ≤ t1 ∧ t1 < (t0.2 : Int)) ∧
 #[Value.int IntKind.i64 n21].size = (1 : Nat) ∧
 StoreP w16.drew b25 (b26 + t1.toNat) [Value.int IntKind.i64 n21] fun (w27 : World) =>
 ∃ (b28 : Nat),
 ∃ (b29 : Nat),
 t0.1 = some ({ block := b28, off := b29 } : Addr) ∧
 ((0 : Int) ≤ IntKind.i64.wrap (t1 + n15) ∧ IntKind.i64.wrap (t1 + n15) < (t0.2 : Int)) ∧
 #[Value.int IntKind.i64 n24].size = (1 : Nat) ∧
 StoreP w27 b28 (b29 + (IntKind.i64.wrap (t1 + n15)).toNat) [Value.int IntKind.i64 n24] fun (w30 : World) =>
 CX Try.prog (108 : Nat) #[Value.slice t0.1 t0.2 t0.3, Value.int IntKind.i64 (0 : Int), Value.int IntKind.i64 n15, Value.int IntKind.i64 t1] w30 fun (v31 : Value) (w32 : World) =>
 ∃ (y33 : Unit), v31 = Value.tuple #[] ∧ ([] : List Nat) = [] ∧ ∃ (b34 : Nat), b34 < b14 ∧ y12 b34 (IntKind.i64.wrap (n15 - (1 : Int))) w32)
 (R (Value.tuple #[]) w16)
def F87j1 (t0 : Sl) (t1 : Int) (t2 : Int) (R : Value → World → Prop) (y1 : Nat → Int → World → Prop) (b3 : Nat) (n4 : Int) (w5 : World) : Prop :=
 IfB (decide ((0 : Int) ≤ n4))
 (CX Try.prog (108 : Nat) #[Value.slice t0.1 t0.2 t0.3, Value.int IntKind.i64 n4, Value.int IntKind.i64 (IntKind.i64.wrap (t2 - t1)), Value.int IntKind.i64 t1] w5
 fun (v8 : Value) (w9 : World) => ∃ (y10 : Unit), v8 = Value.tuple #[] ∧ ([] : List Nat) = [] ∧ ∃ (b11 : Nat), b11 < b3 ∧ y1 b11 (IntKind.i64.wrap (n4 - (1 : Int))) w9)
 (∃ (y12 : Nat → Int → World → Prop),
 (∃ (b13 : Nat), y12 b13 (IntKind.i64.wrap (IntKind.i64.wrap (t2 - t1) - (1 : Int))) w5) ∧
 ∀ (b14 : Nat) (n15 : Int) (w16 : World) (y17 : Nat → Value),
 y12 b14 n15 w16 →
 (F87j2 t0 t1 R y12 b14 n15 w16))
def F87 (t0 : Sl) (t1 : Int) (t2 : Int) (w : World) (R : Value → World → Prop) : Prop :=
 ¬(2 : Int) = (0 : Int) ∧
 ∃ (y1 : Nat → Int → World → Prop),
 (∃ (b2 : Nat), y1 b2 (IntKind.i64.wrap ((IntKind.i64.wrap (IntKind.i64.wrap (t2 - t1) - (1 : Int))).tdiv (2 : Int))) w) ∧
 ∀ (b3 : Nat) (n4 : Int) (w5 : World) (y6 : Nat → Value),
 y1 b3 n4 w5 →
 (F87j1 t0 t1 t2 R y1 b3 n4 w5)
theorem F87_ok (t0 : Sl) (t1 : Int) (t2 : Int) (w : World) (R : Value → World → Prop) (h : F87 t0 t1 t2 w R) : CW Try.prog 87 #[Value.slice t0.1 t0.2 t0.3, Value.int IntKind.i64 t1, Value.int IntKind.i64 t2] w R :=
  call_of tbOk mixed en87 Try.func87 rfl (.node (.nil) (.node (.nil) (.node (.nil) (.node (.node (.nil) (.loop [(9, .one (.int .i64))] [18, 19, 22, 23, 24, 25, 26, 20, 21, 9] (.nil))) (.node (.nil) (.loop [(10, .one (.int .i64))] [29, 30, 33, 34, 35, 36, 37, 38, 39, 40, 41, 42, 43, 44, 45, 46, 47, 48, 49, 50, 51, 52, 53, 54, 55, 31, 32, 10] (.node (.nil) (.node (.node (.draw (.st 0 (.st 1 (.st 2 (.st 3 (.st 4 (.st 5 (.st 6 (.st 7 (.st 8 (.st 9 (.st 10 (.st 11 (.st 12 (.st 13 (.st 14 (.st 15 (.st 16 (.ac 17 [5, 4, 3, 2] (.st 18 (.ac 19 [] (.fin) (.non))) (.non)))))))))))))))))))) (.nil)) (.nil))))))))) (by kernel_rfl) (Nat.le_of_ble_eq_true (by kernel_rfl)) (Eq.mp (α := F87 t0 t1 t2 w R) (by kernel_rfl) h)
def F88j2 (t0 : Sl) (t1 : Int) (y7 : Nat → Int → World → Prop) (b9 : Nat) (n10 : Int) (n18 : Int) (w19 : World) : Prop :=
 ∃ (b22 : Nat),
 ∃ (b23 : Nat),
 t0.1 = some ({ block := b22, off := b23 } : Addr) ∧
 ((0 : Int) ≤ IntKind.i64.wrap (t1 + n18) ∧ IntKind.i64.wrap (t1 + n18) < (t0.2 : Int)) ∧
 ∃ (n24 : Int),
 w19.drew.cell? ({ block := b22, off := b23 + (IntKind.i64.wrap (t1 + n18)).toNat } : Addr) = some (Value.int IntKind.i64 n24) ∧
 ∃ (b25 : Nat),
 ∃ (b26 : Nat),
 t0.1 = some ({ block := b25, off := b26 } : Addr) ∧
 ((0 : Int) ≤ n10 ∧ n10 < (t0.2 : Int)) ∧
 ∃ (n27 : Int),
 w19.drew.cell? ({ block := b25, off := b26 + n10.toNat } : Addr) = some (Value.int IntKind.i64 n27) ∧
 ∃ (b28 : Nat),
 ∃ (b29 : Nat),
 t0.1 = some ({ block := b28, off := b29 } : Addr) ∧
 ((0 : Int) ≤ n10 ∧ n10 < (t0.2 : Int)) ∧
 #[Value.int IntKind.i64 n24].size = (1 : Nat) ∧
 StoreP w19.drew b28 (b29 + n10.toNat) [Value.int IntKind.i64 n24] fun (w30 : World) =>
 ∃ (b31 : Nat),
 ∃ (b32 : Nat),
 t0.1 = some ({ block := b31, off := b32 } : Addr) ∧
 ((0 : Int) ≤ IntKind.i64.wrap (t1 + n18) ∧ IntKind.i64.wrap (t1 + n18) < (t0.2 : Int)) ∧
 #[Value.int IntKind.i64 n27].size = (1 : Nat) ∧
 StoreP w30 b31 (b32 + (IntKind.i64.wrap (t1 + n18)).toNat) [Value.int IntKind.i64 n27] fun (w33 : World) => ([] : List Nat) = [] ∧ ∃ (b34 : Nat), b34 < b9 ∧ y7 b34 (IntKind.i64.wrap (n10 + (1 : Int))) w33
def F88j1 (t0 : Sl) (t1 : Int) (t2 : Int) (R : Value → World → Prop) (b1 : Nat) (n6 : Int) (y7 : Nat → Int → World → Prop) (b9 : Nat) (n10 : Int) (w11 : World) : Prop :=
 ¬(4 : Int) = (0 : Int) ∧
 IfB (decide (n10 ≤ IntKind.i64.wrap (IntKind.i64.wrap (t1 + IntKind.i64.wrap (IntKind.i64.wrap ((IntKind.i64.wrap (t2 - t1)).tdiv (4 : Int)) * (2 : Int))) + (1 : Int))))
 (CX Try.prog (105 : Nat) #[Value.pointer (some ({ block := b1, off := (0 : Nat) } : Addr))] w11 fun (v14 : Value) (w15 : World) =>
 ∃ (n16 : Int),
 v14 = Value.int IntKind.u64 n16 ∧
 ∃ (y17 : Int → World → Prop),
 IfB (decide (IntKind.i64.wrap (t2 - t1) ≤ IntKind.i64.wrap (bitsI BinOp.and IntKind.u64 n16 (IntKind.u64.wrap (n6 - (1 : Int))))))
 (([] : List Nat) = [] ∧ y17 (IntKind.i64.wrap (IntKind.i64.wrap (bitsI BinOp.and IntKind.u64 n16 (IntKind.u64.wrap (n6 - (1 : Int)))) - IntKind.i64.wrap (t2 - t1))) w15)
 (([] : List Nat) = [] ∧ y17 (IntKind.i64.wrap (bitsI BinOp.and IntKind.u64 n16 (IntKind.u64.wrap (n6 - (1 : Int))))) w15) ∧
 ∀ (n18 : Int) (w19 : World) (y20 : Nat → Value),
 y17 n18 w19 →
 (F88j2 t0 t1 y7 b9 n10 n18 w19))
 (R (Value.tuple #[]) w11)
def F88 (t0 : Sl) (t1 : Int) (t2 : Int) (w : World) (R : Value → World → Prop) : Prop :=
 IfB (decide ((8 : Int) ≤ IntKind.i64.wrap (t2 - t1)))
 (AllocP w (Obj.cells #[Value.int IntKind.u64 (0 : Int)] (121 : Nat)) fun (b1 : Nat) (w2 : World) =>
 #[Value.int IntKind.u64 (IntKind.u64.wrap (IntKind.i64.wrap (t2 - t1)))].size = (1 : Nat) ∧
 StoreP w2 b1 (0 : Nat) [Value.int IntKind.u64 (IntKind.u64.wrap (IntKind.i64.wrap (t2 - t1)))] fun (w3 : World) =>
 CX Try.prog (104 : Nat) #[Value.int IntKind.i64 (IntKind.i64.wrap (t2 - t1))] w3 fun (v4 : Value) (w5 : World) =>
 ∃ (n6 : Int),
 v4 = Value.int IntKind.u64 n6 ∧
 ¬(4 : Int) = (0 : Int) ∧
 ∃ (y7 : Nat → Int → World → Prop),
 (∃ (b8 : Nat), y7 b8 (IntKind.i64.wrap (IntKind.i64.wrap (t1 + IntKind.i64.wrap (IntKind.i64.wrap ((IntKind.i64.wrap (t2 - t1)).tdiv (4 : Int)) * (2 : Int))) - (1 : Int))) w5) ∧
 ∀ (b9 : Nat) (n10 : Int) (w11 : World) (y12 : Nat → Value),
 y7 b9 n10 w11 →
 (F88j1 t0 t1 t2 R b1 n6 y7 b9 n10 w11))
 (R (Value.tuple #[]) w)
theorem F88_ok (t0 : Sl) (t1 : Int) (t2 : Int) (w : World) (R : Value → World → Prop) (h : F88 t0 t1 t2 w R) : CW Try.prog 88 #[Value.slice t0.1 t0.2 t0.3, Value.int IntKind.i64 t1, Value.int IntKind.i64 t2] w R :=
  call_of tbOk mixed en88 Try.func88 rfl (.node (.nil) (.node (.nil) (.node (.node (.nil) (.node (.nil) (.node (.nil) (.loop [(9, .one (.int .i64))] [26, 27, 28, 29, 30, 31, 32, 33, 36, 37, 38, 39, 40, 10, 41, 42, 43, 44, 45, 46, 47, 48, 49, 50, 51, 52, 53, 54, 55, 56, 57, 58, 59, 60, 61, 62, 63, 64, 34, 35, 9] (.node (.nil) (.node (.node (.nil) (.join [(10, .one (.int .i64))] [41, 42, 43, 44, 45, 46, 10] (.nil) (.draw (.st 0 (.st 1 (.st 2 (.st 3 (.st 4 (.st 5 (.st 6 (.st 7 (.st 8 (.st 9 (.st 10 (.st 11 (.st 12 (.st 13 (.st 14 (.st 15 (.st 16 (.ac 17 [5, 4, 3, 2] (.st 18 (.ac 19 [] (.fin) (.non))) (.non)))))))))))))))))))))) (.nil))))))) (.nil)))) (by kernel_rfl) (Nat.le_of_ble_eq_true (by kernel_rfl)) (Eq.mp (α := F88 t0 t1 t2 w R) (by kernel_rfl) h)
def F89j2 (R : Value → World → Prop) (b1 : Nat) (n21 : Int) (w22 : World) : Prop :=
 ∃ (n25 : Int),
 w22.cell? ({ block := b1, off := (0 : Nat) } : Addr) = some (Value.int IntKind.i64 n25) ∧
 IfB (n25 == (0 : Int)) (R (Value.tuple #[Value.int IntKind.i64 n21, Value.int IntKind.i64 (1 : Int)]) w22)
 (IfB (n25 == (12 : Int)) (R (Value.tuple #[Value.int IntKind.i64 n21, Value.int IntKind.i64 (2 : Int)]) w22)
 (R (Value.tuple #[Value.int IntKind.i64 n21, Value.int IntKind.i64 (0 : Int)]) w22))
def F89 (t0 : Sl) (t1 : Int) (t2 : Int) (w : World) (R : Value → World → Prop) : Prop :=
 AllocP w (Obj.cells #[Value.int IntKind.i64 (0 : Int)] (3 : Nat)) fun (b1 : Nat) (w2 : World) =>
 ¬(4 : Int) = (0 : Int) ∧
 ¬(4 : Int) = (0 : Int) ∧
 ¬(4 : Int) = (0 : Int) ∧
 ∃ (y3 : Int → World → Prop),
 IfB (decide ((8 : Int) ≤ IntKind.i64.wrap (t2 - t1)))
 (∃ (y4 : Int × Int × Int → World → Prop),
 IfB (decide ((50 : Int) ≤ IntKind.i64.wrap (t2 - t1)))
 (CX Try.prog (109 : Nat)
 #[Value.slice t0.1 t0.2 t0.3, Value.int IntKind.i64 (IntKind.i64.wrap (t1 + IntKind.i64.wrap (IntKind.i64.wrap ((IntKind.i64.wrap (t2 - t1)).tdiv (4 : Int)) * (1 : Int)))),
 Value.pointer (some ({ block := b1, off := (0 : Nat) } : Addr))]
 w2 fun (v5 : Value) (w6 : World) =>
 ∃ (n7 : Int),
 v5 = Value.int IntKind.i64 n7 ∧
 CX Try.prog (109 : Nat)
 #[Value.slice t0.1 t0.2 t0.3, Value.int IntKind.i64 (IntKind.i64.wrap (t1 + IntKind.i64.wrap (IntKind.i64.wrap ((IntKind.i64.wrap (t2 - t1)).tdiv (4 : Int)) * (2 : Int)))),
 Value.pointer (some ({ block := b1, off := (0 : Nat) } : Addr))]
 w6 fun (v8 : Value) (w9 : World) =>
 ∃ (n10 : Int),
 v8 = Value.int IntKind.i64 n10 ∧
 CX Try.prog (109 : Nat)
 #[Value.slice t0.1 t0.2 t0.3, Value.int IntKind.i64 (IntKind.i64.wrap (t1 + IntKind.i64.wrap (IntKind.i64.wrap ((IntKind.i64.wrap (t2 - t1)).tdiv (4 : Int)) * (3 : Int)))),
 Value.pointer (some ({ block := b1, off := (0 : Nat) } : Addr))]
 w9 fun (v11 : Value) (w12 : World) => ∃ (n13 : Int), v11 = Value.int IntKind.i64 n13 ∧ ([] : List Nat) = [] ∧ y4 (n7, n10, n13) w12)
 (([] : List Nat) = [] ∧
 y4
 (IntKind.i64.wrap (t1 + IntKind.i64.wrap (IntKind.i64.wrap ((IntKind.i64.wrap (t2 - t1)).tdiv (4 : Int)) * (1 : Int))),
 IntKind.i64.wrap (t1 + IntKind.i64.wrap (IntKind.i64.wrap ((IntKind.i64.wrap (t2 - t1)).tdiv (4 : Int)) * (2 : Int))),
 IntKind.i64.wrap (t1 + IntKind.i64.wrap (IntKind.i64.wrap ((IntKind.i64.wrap (t2 - t1)).tdiv (4 : Int)) * (3 : Int))))
 w2) ∧
 ∀ (x14 : Int × Int × Int) (w15 : World) (y16 : Nat → Value),
 y4 x14 w15 →
 CX Try.prog (110 : Nat)
 #[Value.slice t0.1 t0.2 t0.3, Value.int IntKind.i64 x14.1, Value.int IntKind.i64 x14.snd.1, Value.int IntKind.i64 x14.snd.2, Value.pointer (some ({ block := b1, off := (0 : Nat) } : Addr))] w15
 fun (v18 : Value) (w19 : World) => ∃ (n20 : Int), v18 = Value.int IntKind.i64 n20 ∧ ([] : List Nat) = [] ∧ y3 n20 w19)
 (([] : List Nat) = [] ∧ y3 (IntKind.i64.wrap (t1 + IntKind.i64.wrap (IntKind.i64.wrap ((IntKind.i64.wrap (t2 - t1)).tdiv (4 : Int)) * (2 : Int)))) w2) ∧
 ∀ (n21 : Int) (w22 : World) (y23 : Nat → Value),
 y3 n21 w22 →
 (F89j2 R b1 n21 w22)
theorem F89_ok (t0 : Sl) (t1 : Int) (t2 : Int) (w : World) (R : Value → World → Prop) (h : F89 t0 t1 t2 w R) : CW Try.prog 89 #[Value.slice t0.1 t0.2 t0.3, Value.int IntKind.i64 t1, Value.int IntKind.i64 t2] w R :=
  call_of tbOk mixed en89 Try.func89 rfl (.node (.nil) (.node (.nil) (.node (.nil) (.node (.nil) (.node (.nil) (.node (.nil) (.join [(11, .one (.int .i64))] [31, 32, 33, 34, 35, 36, 37, 10, 38, 39, 40, 11, 41, 42, 43, 12, 44, 45, 46, 47, 48] (.node (.nil) (.node (.join [(10, .one (.int .i64)), (11, .one (.int .i64)), (12, .one (.int .i64))] [33, 34, 35, 36, 37, 10, 38, 39, 40, 11, 41, 42, 43, 12] (.nil) (.nil)) (.nil))) (.nil)))))))) (by kernel_rfl) (Nat.le_of_ble_eq_true (by kernel_rfl)) (Eq.mp (α := F89 t0 t1 t2 w R) (by kernel_rfl) h)
def F90j1 (t0 : Sl) (R : Value → World → Prop) (y1 : Nat → Int × Int → World → Prop) (b3 : Nat) (x4 : Int × Int) (w5 : World) : Prop :=
 IfB (decide (x4.fst < x4.snd))
 (∃ (b8 : Nat),
 ∃ (b9 : Nat),
 t0.1 = some ({ block := b8, off := b9 } : Addr) ∧
 ((0 : Int) ≤ x4.2 ∧ x4.2 < (t0.2 : Int)) ∧
 ∃ (n10 : Int),
 w5.drew.cell? ({ block := b8, off := b9 + x4.2.toNat } : Addr) = some (Value.int IntKind.i64 n10) ∧
 ∃ (b11 : Nat),
 ∃ (b12 : Nat),
 t0.1 = some ({ block := b11, off := b12 } : Addr) ∧
 ((0 : Int) ≤ x4.1 ∧ x4.1 < (t0.2 : Int)) ∧
 ∃ (n13 : Int),
 w5.drew.cell? ({ block := b11, off := b12 + x4.1.toNat } : Addr) = some (Value.int IntKind.i64 n13) ∧
 ∃ (b14 : Nat),
 ∃ (b15 : Nat),
 t0.1 = some ({ block := b14, off := b15 } : Addr) ∧
 ((0 : Int) ≤ x4.1 ∧ x4.1 < (t0.2 : Int)) ∧
 #[Value.int IntKind.i64 n10].size = (1 : Nat) ∧
 StoreP w5.drew b14 (b15 + x4.1.toNat) [Value.int IntKind.i64 n10] fun (w16 : World) =>
 ∃ (b17 : Nat),
 ∃ (b18 : Nat),
 t0.1 = some ({ block := b17, off := b18 } : Addr) ∧
 ((0 : Int) ≤ x4.2 ∧ x4.2 < (t0.2 : Int)) ∧
 #[Value.int IntKind.i64 n13].size = (1 : Nat) ∧
 StoreP w16 b17 (b18 + x4.2.toNat) [Value.int IntKind.i64 n13] fun (w19 : World) =>
 ([] : List Nat) = [] ∧ ∃ (b20 : Nat), b20 < b3 ∧ y1 b20 (IntKind.i64.wrap (x4.1 + (1 : Int)), IntKind.i64.wrap (x4.2 - (1 : Int))) w19)
 (R (Value.tuple #[]) w5)
def F90 (t0 : Sl) (t1 : Int) (t2 : Int) (w : World) (R : Value → World → Prop) : Prop :=
 ∃ (y1 : Nat → Int × Int → World → Prop),
 (∃ (b2 : Nat), y1 b2 (t1, IntKind.i64.wrap (t2 - (1 : Int))) w) ∧
 ∀ (b3 : Nat) (x4 : Int × Int) (w5 : World) (y6 : Nat → Value),
 y1 b3 x4 w5 →
 (F90j1 t0 R y1 b3 x4 w5)
theorem F90_ok (t0 : Sl) (t1 : Int) (t2 : Int) (w : World) (R : Value → World → Prop) (h : F90 t0 t1 t2 w R) : CW Try.prog 90 #[Value.slice t0.1 t0.2 t0.3, Value.int IntKind.i64 t1, Value.int IntKind.i64 t2] w R :=
  call_of tbOk mixed en90 Try.func90 rfl (.node (.nil) (.node (.nil) (.loop [(6, .one (.int .i64)), (7, .one (.int .i64))] [11, 12, 13, 14, 15, 16, 17, 18, 19, 20, 21, 22, 23, 24, 25, 26, 27, 28, 29, 6, 30, 31, 7] (.node (.nil) (.node (.draw (.st 0 (.st 1 (.st 2 (.st 3 (.st 4 (.st 5 (.st 6 (.st 7 (.st 8 (.st 9 (.st 10 (.st 11 (.st 12 (.ac 13 [3, 2] (.st 14 (.ac 15 [] (.fin) (.non))) (.non)))))))))))))))) (.nil)))))) (by kernel_rfl) (Nat.le_of_ble_eq_true (by kernel_rfl)) (Eq.mp (α := F90 t0 t1 t2 w R) (by kernel_rfl) h)
def F91j2 (t0 : Sl) (t2 : Int) (y8 : Int → World → Prop) (y9 : Nat → Int → World → Prop) (b11 : Nat) (n12 : Int) (w13 : World) : Prop :=
 IfB (decide (n12 < t2))
 (∃ (b16 : Nat),
 ∃ (b17 : Nat),
 t0.1 = some ({ block := b16, off := b17 } : Addr) ∧
 ((0 : Int) ≤ n12 ∧ n12 < (t0.2 : Int)) ∧
 ∃ (n18 : Int),
 w13.drew.cell? ({ block := b16, off := b17 + n12.toNat } : Addr) = some (Value.int IntKind.i64 n18) ∧
 ∃ (b19 : Nat),
 ∃ (b20 : Nat),
 t0.1 = some ({ block := b19, off := b20 } : Addr) ∧
 ((0 : Int) ≤ IntKind.i64.wrap (n12 - (1 : Int)) ∧ IntKind.i64.wrap (n12 - (1 : Int)) < (t0.2 : Int)) ∧
 ∃ (n21 : Int),
 w13.drew.cell? ({ block := b19, off := b20 + (IntKind.i64.wrap (n12 - (1 : Int))).toNat } : Addr) = some (Value.int IntKind.i64 n21) ∧
 CX Try.prog (92 : Nat) #[Value.int IntKind.i64 n18, Value.int IntKind.i64 n21] w13.drew fun (v22 : Value) (w23 : World) =>
 ∃ (t24 : Bool), v22 = Value.bool t24 ∧ IfB (!t24) (([] : List Nat) = [] ∧ ∃ (b25 : Nat), b25 < b11 ∧ y9 b25 (IntKind.i64.wrap (n12 + (1 : Int))) w23) (([] : List Nat) = [] ∧ y8 n12 w23))
 (([] : List Nat) = [] ∧ y8 n12 w13.drew)
def F91j4 (t0 : Sl) (y42 : Unit → World → Prop) (y43 : Nat → Int → World → Prop) (b45 : Nat) (n46 : Int) (w47 : World) : Prop :=
 IfB (decide ((1 : Int) ≤ n46))
 (∃ (b50 : Nat),
 ∃ (b51 : Nat),
 t0.1 = some ({ block := b50, off := b51 } : Addr) ∧
 ((0 : Int) ≤ n46 ∧ n46 < (t0.2 : Int)) ∧
 ∃ (n52 : Int),
 w47.drew.cell? ({ block := b50, off := b51 + n46.toNat } : Addr) = some (Value.int IntKind.i64 n52) ∧
 ∃ (b53 : Nat),
 ∃ (b54 : Nat),
 t0.1 = some ({ block := b53, off := b54 } : Addr) ∧
 ((0 : Int) ≤ IntKind.i64.wrap (n46 - (1 : Int)) ∧ IntKind.i64.wrap (n46 - (1 : Int)) < (t0.2 : Int)) ∧
 ∃ (n55 : Int),
 w47.drew.cell? ({ block := b53, off := b54 + (IntKind.i64.wrap (n46 - (1 : Int))).toNat } : Addr) = some (Value.int IntKind.i64 n55) ∧
 CX Try.prog (92 : Nat) #[Value.int IntKind.i64 n52, Value.int IntKind.i64 n55] w47.drew fun (v56 : Value) (w57 : World) =>
 ∃ (t58 : Bool),
 v56 = Value.bool t58 ∧
 IfB (!t58) (([] : List Nat) = [] ∧ y42 PUnit.unit w57)
 (∃ (b59 : Nat),
 ∃ (b60 : Nat),
 t0.1 = some ({ block := b59, off := b60 } : Addr) ∧
 ((0 : Int) ≤ IntKind.i64.wrap (n46 - (1 : Int)) ∧ IntKind.i64.wrap (n46 - (1 : Int)) < (t0.2 : Int)) ∧
 ∃ (n61 : Int),
 w57.drew.cell? ({ block := b59, off := b60 + (IntKind.i64.wrap (n46 - (1 : Int))).toNat } : Addr) = some (Value.int IntKind.i64 n61) ∧
 ∃ (b62 : Nat),
 ∃ (b63 : Nat),
 t0.1 = some ({ block := b62, off := b63 } : Addr) ∧
 ((0 : Int) ≤ n46 ∧ n46 < (t0.2 : Int)) ∧
 ∃ (n64 : Int),
 w57.drew.cell? ({ block := b62, off := b63 + n46.toNat } : Addr) = some (Value.int IntKind.i64 n64) ∧
 ∃ (b65 : Nat),
 ∃ (b66 : Nat),
 t0.1 = some ({ block := b65, off := b66 } : Addr) ∧
 ((0 : Int) ≤ n46 ∧ n46 < (t0.2 : Int)) ∧
 #[Value.int IntKind.i64 n61].size = (1 : Nat) ∧
 StoreP w57.drew b65 (b66 + n46.toNat) [Value.int IntKind.i64 n61] fun (w67 : World) =>
 ∃ (b68 : Nat),
 ∃ (b69 : Nat),
 t0.1 = some ({ block := b68, off := b69 } : Addr) ∧
 ((0 : Int) ≤ IntKind.i64.wrap (n46 - (1 : Int)) ∧ IntKind.i64.wrap (n46 - (1 : Int)) < (t0.2 : Int)) ∧
 #[Value.int IntKind.i64 n64].size = (1 : Nat) ∧
 StoreP w67 b68 (b69 + (IntKind.i64.wrap (n46 - (1 : Int))).toNat) [Value.int IntKind.i64 n64] fun (w70 : World) =>
 ([] : List Nat) = [] ∧ ∃ (b71 : Nat), b71 < b45 ∧ y43 b71 (IntKind.i64.wrap (n46 - (1 : Int))) w70))
 (([] : List Nat) = [] ∧ y42 PUnit.unit w47)
def F91j7 (t0 : Sl) (t2 : Int) (y1 : Nat → Int × Int → World → Prop) (b3 : Nat) (x4 : Int × Int) (n26 : Int) (y81 : Nat → Int → World → Prop) (b83 : Nat) (n84 : Int) (w85 : World) : Prop :=
 IfB (decide (n84 < t2))
 (∃ (b88 : Nat),
 ∃ (b89 : Nat),
 t0.1 = some ({ block := b88, off := b89 } : Addr) ∧
 ((0 : Int) ≤ n84 ∧ n84 < (t0.2 : Int)) ∧
 ∃ (n90 : Int),
 w85.drew.cell? ({ block := b88, off := b89 + n84.toNat } : Addr) = some (Value.int IntKind.i64 n90) ∧
 ∃ (b91 : Nat),
 ∃ (b92 : Nat),
 t0.1 = some ({ block := b91, off := b92 } : Addr) ∧
 ((0 : Int) ≤ IntKind.i64.wrap (n84 - (1 : Int)) ∧ IntKind.i64.wrap (n84 - (1 : Int)) < (t0.2 : Int)) ∧
 ∃ (n93 : Int),
 w85.drew.cell? ({ block := b91, off := b92 + (IntKind.i64.wrap (n84 - (1 : Int))).toNat } : Addr) = some (Value.int IntKind.i64 n93) ∧
 CX Try.prog (92 : Nat) #[Value.int IntKind.i64 n90, Value.int IntKind.i64 n93] w85.drew fun (v94 : Value) (w95 : World) =>
 ∃ (t96 : Bool),
 v94 = Value.bool t96 ∧
 IfB (!t96) (([] : List Nat) = [] ∧ ∃ (b97 : Nat), b97 < b3 ∧ y1 b97 (n26, IntKind.i64.wrap (x4.2 + (1 : Int))) w95)
 (∃ (b98 : Nat),
 ∃ (b99 : Nat),
 t0.1 = some ({ block := b98, off := b99 } : Addr) ∧
 ((0 : Int) ≤ IntKind.i64.wrap (n84 - (1 : Int)) ∧ IntKind.i64.wrap (n84 - (1 : Int)) < (t0.2 : Int)) ∧
 ∃ (n100 : Int),
 w95.drew.cell? ({ block := b98, off := b99 + (IntKind.i64.wrap (n84 - (1 : Int))).toNat } : Addr) = some (Value.int IntKind.i64 n100) ∧
 ∃ (b101 : Nat),
 ∃ (b102 : Nat),
 t0.1 = some ({ block := b101, off := b102 } : Addr) ∧
 ((0 : Int) ≤ n84 ∧ n84 < (t0.2 : Int)) ∧
 ∃ (n103 : Int),
 w95.drew.cell? ({ block := b101, off := b102 + n84.toNat } : Addr) = some (Value.int IntKind.i64 n103) ∧
 ∃ (b104 : Nat),
 ∃ (b105 : Nat),
 t0.1 = some ({ block := b104, off := b105 } : Addr) ∧
 ((0 : Int) ≤ n84 ∧ n84 < (t0.2 : Int)) ∧
 #[Value.int IntKind.i64 n100].size = (1 : Nat) ∧
 StoreP w95.drew b104 (b105 + n84.toNat) [Value.int IntKind.i64 n100] fun (w106 : World) =>
 ∃ (b107 : Nat),
 ∃ (b108 : Nat),
 t0.1 = some ({ block := b107, off := b108 } : Addr) ∧
 ((0 : Int) ≤ IntKind.i64.wrap (n84 - (1 : Int)) ∧ IntKind.i64.wrap (n84 - (1 : Int)) < (t0.2 : Int)) ∧
 #[Value.int IntKind.i64 n103].size = (1 : Nat) ∧
 StoreP w106 b107 (b108 + (IntKind.i64.wrap (n84 - (1 : Int))).toNat) [Value.int IntKind.i64 n103] fun (w109 : World) =>
 ([] : List Nat) = [] ∧ ∃ (b110 : Nat), b110 < b83 ∧ y81 b110 (IntKind.i64.wrap (n84 + (1 : Int))) w109))
 (([] : List Nat) = [] ∧ ∃ (b111 : Nat), b111 < b3 ∧ y1 b111 (n26, IntKind.i64.wrap (x4.2 + (1 : Int))) w85)
def F91j5 (t0 : Sl) (t2 : Int) (y1 : Nat → Int × Int → World → Prop) (b3 : Nat) (x4 : Int × Int) (n26 : Int) (w73 : World) : Prop :=
 ∃ (y76 : Bool → World → Prop),
 (([] : List Nat) = [] ∧ y76 (decide ((2 : Int) ≤ IntKind.i64.wrap (t2 - n26))) w73) ∧
 ∀ (t77 : Bool) (w78 : World) (y79 : Nat → Value),
 y76 t77 w78 →
 IfB t77
 (∃ (y81 : Nat → Int → World → Prop),
 (∃ (b82 : Nat), y81 b82 (IntKind.i64.wrap (n26 + (1 : Int))) w78) ∧
 ∀ (b83 : Nat) (n84 : Int) (w85 : World) (y86 : Nat → Value),
 y81 b83 n84 w85 →
 (F91j7 t0 t2 y1 b3 x4 n26 y81 b83 n84 w85))
 (([] : List Nat) = [] ∧ ∃ (b112 : Nat), b112 < b3 ∧ y1 b112 (n26, IntKind.i64.wrap (x4.2 + (1 : Int))) w78)
def F91j3 (t0 : Sl) (t1 : Int) (t2 : Int) (R : Value → World → Prop) (y1 : Nat → Int × Int → World → Prop) (b3 : Nat) (x4 : Int × Int) (n26 : Int) (w27 : World) : Prop :=
 IfB (n26 == t2) (R (Value.bool true) w27)
 (IfB (decide (IntKind.i64.wrap (t2 - t1) < (50 : Int))) (R (Value.bool false) w27)
 (∃ (b30 : Nat),
 ∃ (b31 : Nat),
 t0.1 = some ({ block := b30, off := b31 } : Addr) ∧
 ((0 : Int) ≤ IntKind.i64.wrap (n26 - (1 : Int)) ∧ IntKind.i64.wrap (n26 - (1 : Int)) < (t0.2 : Int)) ∧
 ∃ (n32 : Int),
 w27.drew.cell? ({ block := b30, off := b31 + (IntKind.i64.wrap (n26 - (1 : Int))).toNat } : Addr) = some (Value.int IntKind.i64 n32) ∧
 ∃ (b33 : Nat),
 ∃ (b34 : Nat),
 t0.1 = some ({ block := b33, off := b34 } : Addr) ∧
 ((0 : Int) ≤ n26 ∧ n26 < (t0.2 : Int)) ∧
 ∃ (n35 : Int),
 w27.drew.cell? ({ block := b33, off := b34 + n26.toNat } : Addr) = some (Value.int IntKind.i64 n35) ∧
 ∃ (b36 : Nat),
 ∃ (b37 : Nat),
 t0.1 = some ({ block := b36, off := b37 } : Addr) ∧
 ((0 : Int) ≤ n26 ∧ n26 < (t0.2 : Int)) ∧
 #[Value.int IntKind.i64 n32].size = (1 : Nat) ∧
 StoreP w27.drew b36 (b37 + n26.toNat) [Value.int IntKind.i64 n32] fun (w38 : World) =>
 ∃ (b39 : Nat),
 ∃ (b40 : Nat),
 t0.1 = some ({ block := b39, off := b40 } : Addr) ∧
 ((0 : Int) ≤ IntKind.i64.wrap (n26 - (1 : Int)) ∧ IntKind.i64.wrap (n26 - (1 : Int)) < (t0.2 : Int)) ∧
 #[Value.int IntKind.i64 n35].size = (1 : Nat) ∧
 StoreP w38 b39 (b40 + (IntKind.i64.wrap (n26 - (1 : Int))).toNat) [Value.int IntKind.i64 n35] fun (w41 : World) =>
 ∃ (y42 : Unit → World → Prop),
 IfB (decide ((2 : Int) ≤ IntKind.i64.wrap (n26 - t1)))
 (∃ (y43 : Nat → Int → World → Prop),
 (∃ (b44 : Nat), y43 b44 (IntKind.i64.wrap (n26 - (1 : Int))) w41) ∧
 ∀ (b45 : Nat) (n46 : Int) (w47 : World) (y48 : Nat → Value),
 y43 b45 n46 w47 →
 (F91j4 t0 y42 y43 b45 n46 w47))
 (([] : List Nat) = [] ∧ y42 PUnit.unit w41) ∧
 ∀ (y72 : Unit) (w73 : World) (y74 : Nat → Value),
 y42 y72 w73 →
 (F91j5 t0 t2 y1 b3 x4 n26 w73)))
def F91 (t0 : Sl) (t1 : Int) (t2 : Int) (w : World) (R : Value → World → Prop) : Prop :=
 ∃ (y1 : Nat → Int × Int → World → Prop),
 (∃ (b2 : Nat), y1 b2 (IntKind.i64.wrap (t1 + (1 : Int)), (0 : Int)) w) ∧
 ∀ (b3 : Nat) (x4 : Int × Int) (w5 : World) (y6 : Nat → Value),
 y1 b3 x4 w5 →
 IfB (decide (x4.snd < (5 : Int)))
 (∃ (y8 : Int → World → Prop),
 (∃ (y9 : Nat → Int → World → Prop),
 (∃ (b10 : Nat), y9 b10 x4.1 w5) ∧
 ∀ (b11 : Nat) (n12 : Int) (w13 : World) (y14 : Nat → Value),
 y9 b11 n12 w13 →
 (F91j2 t0 t2 y8 y9 b11 n12 w13)) ∧
 ∀ (n26 : Int) (w27 : World) (y28 : Nat → Value),
 y8 n26 w27 →
 (F91j3 t0 t1 t2 R y1 b3 x4 n26 w27))
 (R (Value.bool false) w5)
theorem F91_ok (t0 : Sl) (t1 : Int) (t2 : Int) (w : World) (R : Value → World → Prop) (h : F91 t0 t1 t2 w R) : CW Try.prog 91 #[Value.slice t0.1 t0.2 t0.3, Value.int IntKind.i64 t1, Value.int IntKind.i64 t2] w R :=
  call_of tbOk mixed en91 Try.func91 rfl (.node (.nil) (.node (.nil) (.node (.node (.nil) (.loop [(7, .one (.int .i64)), (8, .one (.int .i64))] [13, 14, 17, 18, 19, 20, 21, 22, 23, 24, 25, 26, 27, 28, 29, 30, 31, 32, 33, 34, 7, 35, 36, 37, 6, 38, 39, 40, 41, 42, 43, 44, 45, 46, 47, 48, 49, 50, 51, 52, 53, 54, 55, 56, 57, 58, 59, 60, 61, 62, 63, 9, 64, 65, 68, 69, 70, 71, 72, 73, 74, 75, 76, 77, 78, 79, 80, 81, 82, 83, 84, 85, 86, 87, 88, 89, 90, 91, 92, 93, 94, 66, 67, 95, 96, 97, 98, 99, 100, 10, 101, 102, 103, 106, 107, 108, 109, 110, 111, 112, 113, 114, 115, 116, 117, 118, 119, 120, 121, 122, 123, 124, 125, 126, 127, 128, 129, 130, 131, 132, 104, 105, 15, 16, 8] (.node (.nil) (.node (.join [(7, .one (.int .i64))] [17, 18, 19, 20, 21, 22, 23, 24, 25, 26, 27, 28, 29, 30, 31, 32, 33, 34, 7] (.loop [(7, .one (.int .i64))] [17, 18, 19, 20, 21, 22, 23, 24, 25, 26, 27, 28, 29, 30, 31, 32, 33, 34, 7] (.node (.node (.draw (.st 0 (.st 1 (.st 2 (.st 3 (.st 4 (.st 5 (.st 6 (.st 7 (.st 8 (.st 9 (.st 10 (.st 11 (.st 12 (.ac 13 [] (.st 14 (.st 15 (.fin))) (.non)))))))))))))))) (.nil)) (.nil))) (.node (.nil) (.node (.nil) (.node (.draw (.st 0 (.st 1 (.st 2 (.st 3 (.st 4 (.st 5 (.st 6 (.st 7 (.st 8 (.st 9 (.st 10 (.st 11 (.st 12 (.st 13 (.st 14 (.ac 15 [4, 3, 2] (.st 16 (.ac 17 [] (.fin) (.non))) (.non)))))))))))))))))) (.join [] [58, 59, 60, 61, 62, 63, 9, 64, 65, 68, 69, 70, 71, 72, 73, 74, 75, 76, 77, 78, 79, 80, 81, 82, 83, 84, 85, 86, 87, 88, 89, 90, 91, 92, 93, 94, 66, 67] (.node (.nil) (.node (.node (.nil) (.loop [(9, .one (.int .i64))] [64, 65, 68, 69, 70, 71, 72, 73, 74, 75, 76, 77, 78, 79, 80, 81, 82, 83, 84, 85, 86, 87, 88, 89, 90, 91, 92, 93, 94, 66, 67, 9] (.node (.nil) (.node (.node (.node (.draw (.st 0 (.st 1 (.st 2 (.st 3 (.st 4 (.st 5 (.st 6 (.st 7 (.st 8 (.ac 9 [] (.st 10 (.fin)) (.non)))))))))))) (.nil)) (.draw (.st 0 (.st 1 (.st 2 (.st 3 (.st 4 (.st 5 (.st 6 (.st 7 (.st 8 (.st 9 (.st 10 (.st 11 (.st 12 (.st 13 (.st 14 (.ac 15 [4, 3, 2] (.st 16 (.ac 17 [] (.fin) (.non))) (.non))))))))))))))))))) (.nil))))) (.nil))) (.join [(98, .one (.bool))] [95, 96, 97, 98] (.nil) (.node (.node (.nil) (.loop [(10, .one (.int .i64))] [101, 102, 103, 106, 107, 108, 109, 110, 111, 112, 113, 114, 115, 116, 117, 118, 119, 120, 121, 122, 123, 124, 125, 126, 127, 128, 129, 130, 131, 132, 104, 105, 10] (.node (.nil) (.node (.node (.node (.draw (.st 0 (.st 1 (.st 2 (.st 3 (.st 4 (.st 5 (.st 6 (.st 7 (.st 8 (.ac 9 [] (.st 10 (.fin)) (.non)))))))))))) (.nil)) (.draw (.st 0 (.st 1 (.st 2 (.st 3 (.st 4 (.st 5 (.st 6 (.st 7 (.st 8 (.st 9 (.st 10 (.st 11 (.st 12 (.st 13 (.st 14 (.ac 15 [4, 3, 2] (.st 16 (.ac 17 [] (.fin) (.non))) (.non))))))))))))))))))) (.nil))))) (.nil)))))))) (.nil))))) (.nil)))) (by kernel_rfl) (Nat.le_of_ble_eq_true (by kernel_rfl)) (Eq.mp (α := F91 t0 t1 t2 w R) (by kernel_rfl) h)
def F92 (t0 : Int) (t1 : Int) (w : World) (R : Value → World → Prop) : Prop :=
 CX Try.prog (63 : Nat) #[Value.int IntKind.i64 t0] w fun (v1 : Value) (w2 : World) =>
 ∃ (t3 : Bool),
 v1 = Value.bool t3 ∧
 IfB t3
 (CX Try.prog (63 : Nat) #[Value.int IntKind.i64 t1] w2 fun (v4 : Value) (w5 : World) =>
 ∃ (t6 : Bool), v4 = Value.bool t6 ∧ IfB (!t6) (R (Value.bool true) w5) (R (Value.bool (decide (t0 < t1))) w5))
 (R (Value.bool (decide (t0 < t1))) w2)
theorem F92_ok (t0 : Int) (t1 : Int) (w : World) (R : Value → World → Prop) (h : F92 t0 t1 w R) : CW Try.prog 92 #[Value.int IntKind.i64 t0, Value.int IntKind.i64 t1] w R :=
  call_of tbOk mixed en92 Try.func92 rfl (.nil) (by kernel_rfl) (Nat.le_of_ble_eq_true (by kernel_rfl)) (Eq.mp (α := F92 t0 t1 w R) (by kernel_rfl) h)
def F93j2 (t0 : Sl) (t1 : Int) (x16 : Int × Int) (y20 : Int → World → Prop) (y21 : Nat → Int → World → Prop) (b23 : Nat) (n24 : Int) (w25 : World) : Prop :=
 IfB (decide (n24 ≤ x16.snd))
 (∃ (b28 : Nat),
 ∃ (b29 : Nat),
 t0.1 = some ({ block := b28, off := b29 } : Addr) ∧
 ((0 : Int) ≤ t1 ∧ t1 < (t0.2 : Int)) ∧
 ∃ (n30 : Int),
 w25.drew.cell? ({ block := b28, off := b29 + t1.toNat } : Addr) = some (Value.int IntKind.i64 n30) ∧
 ∃ (b31 : Nat),
 ∃ (b32 : Nat),
 t0.1 = some ({ block := b31, off := b32 } : Addr) ∧
 ((0 : Int) ≤ n24 ∧ n24 < (t0.2 : Int)) ∧
 ∃ (n33 : Int),
 w25.drew.cell? ({ block := b31, off := b32 + n24.toNat } : Addr) = some (Value.int IntKind.i64 n33) ∧
 CX Try.prog (92 : Nat) #[Value.int IntKind.i64 n30, Value.int IntKind.i64 n33] w25.drew fun (v34 : Value) (w35 : World) =>
 ∃ (t36 : Bool), v34 = Value.bool t36 ∧ IfB (!t36) (([] : List Nat) = [] ∧ ∃ (b37 : Nat), b37 < b23 ∧ y21 b37 (IntKind.i64.wrap (n24 + (1 : Int))) w35) (([] : List Nat) = [] ∧ y20 n24 w35))
 (([] : List Nat) = [] ∧ y20 n24 w25.drew)
def F93j4 (t0 : Sl) (t1 : Int) (n38 : Int) (y42 : Int → World → Prop) (y43 : Nat → Int → World → Prop) (b45 : Nat) (n46 : Int) (w47 : World) : Prop :=
 IfB (decide (n38 ≤ n46))
 (∃ (b50 : Nat),
 ∃ (b51 : Nat),
 t0.1 = some ({ block := b50, off := b51 } : Addr) ∧
 ((0 : Int) ≤ t1 ∧ t1 < (t0.2 : Int)) ∧
 ∃ (n52 : Int),
 w47.drew.cell? ({ block := b50, off := b51 + t1.toNat } : Addr) = some (Value.int IntKind.i64 n52) ∧
 ∃ (b53 : Nat),
 ∃ (b54 : Nat),
 t0.1 = some ({ block := b53, off := b54 } : Addr) ∧
 ((0 : Int) ≤ n46 ∧ n46 < (t0.2 : Int)) ∧
 ∃ (n55 : Int),
 w47.drew.cell? ({ block := b53, off := b54 + n46.toNat } : Addr) = some (Value.int IntKind.i64 n55) ∧
 CX Try.prog (92 : Nat) #[Value.int IntKind.i64 n52, Value.int IntKind.i64 n55] w47.drew fun (v56 : Value) (w57 : World) =>
 ∃ (t58 : Bool), v56 = Value.bool t58 ∧ IfB t58 (([] : List Nat) = [] ∧ ∃ (b59 : Nat), b59 < b45 ∧ y43 b59 (IntKind.i64.wrap (n46 - (1 : Int))) w57) (([] : List Nat) = [] ∧ y42 n46 w57))
 (([] : List Nat) = [] ∧ y42 n46 w47.drew)
def F93j5 (t0 : Sl) (R : Value → World → Prop) (y13 : Nat → Int × Int → World → Prop) (b15 : Nat) (n38 : Int) (n60 : Int) (w61 : World) : Prop :=
 IfB (decide (n60 < n38)) (R (Value.int IntKind.i64 n38) w61)
 (∃ (b64 : Nat),
 ∃ (b65 : Nat),
 t0.1 = some ({ block := b64, off := b65 } : Addr) ∧
 ((0 : Int) ≤ n60 ∧ n60 < (t0.2 : Int)) ∧
 ∃ (n66 : Int),
 w61.drew.cell? ({ block := b64, off := b65 + n60.toNat } : Addr) = some (Value.int IntKind.i64 n66) ∧
 ∃ (b67 : Nat),
 ∃ (b68 : Nat),
 t0.1 = some ({ block := b67, off := b68 } : Addr) ∧
 ((0 : Int) ≤ n38 ∧ n38 < (t0.2 : Int)) ∧
 ∃ (n69 : Int),
 w61.drew.cell? ({ block := b67, off := b68 + n38.toNat } : Addr) = some (Value.int IntKind.i64 n69) ∧
 ∃ (b70 : Nat),
 ∃ (b71 : Nat),
 t0.1 = some ({ block := b70, off := b71 } : Addr) ∧
 ((0 : Int) ≤ n38 ∧ n38 < (t0.2 : Int)) ∧
 #[Value.int IntKind.i64 n66].size = (1 : Nat) ∧
 StoreP w61.drew b70 (b71 + n38.toNat) [Value.int IntKind.i64 n66] fun (w72 : World) =>
 ∃ (b73 : Nat),
 ∃ (b74 : Nat),
 t0.1 = some ({ block := b73, off := b74 } : Addr) ∧
 ((0 : Int) ≤ n60 ∧ n60 < (t0.2 : Int)) ∧
 #[Value.int IntKind.i64 n69].size = (1 : Nat) ∧
 StoreP w72 b73 (b74 + n60.toNat) [Value.int IntKind.i64 n69] fun (w75 : World) =>
 ([] : List Nat) = [] ∧ ∃ (b76 : Nat), b76 < b15 ∧ y13 b76 (IntKind.i64.wrap (n38 + (1 : Int)), IntKind.i64.wrap (n60 - (1 : Int))) w75)
def F93j1 (t0 : Sl) (t1 : Int) (R : Value → World → Prop) (y13 : Nat → Int × Int → World → Prop) (b15 : Nat) (x16 : Int × Int) (w17 : World) : Prop :=
 ∃ (y20 : Int → World → Prop),
 (∃ (y21 : Nat → Int → World → Prop),
 (∃ (b22 : Nat), y21 b22 x16.1 w17) ∧
 ∀ (b23 : Nat) (n24 : Int) (w25 : World) (y26 : Nat → Value),
 y21 b23 n24 w25 →
 (F93j2 t0 t1 x16 y20 y21 b23 n24 w25)) ∧
 ∀ (n38 : Int) (w39 : World) (y40 : Nat → Value),
 y20 n38 w39 →
 ∃ (y42 : Int → World → Prop),
 (∃ (y43 : Nat → Int → World → Prop),
 (∃ (b44 : Nat), y43 b44 x16.2 w39) ∧
 ∀ (b45 : Nat) (n46 : Int) (w47 : World) (y48 : Nat → Value),
 y43 b45 n46 w47 →
 (F93j4 t0 t1 n38 y42 y43 b45 n46 w47)) ∧
 ∀ (n60 : Int) (w61 : World) (y62 : Nat → Value),
 y42 n60 w61 →
 (F93j5 t0 R y13 b15 n38 n60 w61)
def F93 (t0 : Sl) (t1 : Int) (t2 : Int) (t3 : Int) (w : World) (R : Value → World → Prop) : Prop :=
 ∃ (b1 : Nat),
 ∃ (b2 : Nat),
 t0.1 = some ({ block := b1, off := b2 } : Addr) ∧
 ((0 : Int) ≤ t3 ∧ t3 < (t0.2 : Int)) ∧
 ∃ (n3 : Int),
 w.drew.cell? ({ block := b1, off := b2 + t3.toNat } : Addr) = some (Value.int IntKind.i64 n3) ∧
 ∃ (b4 : Nat),
 ∃ (b5 : Nat),
 t0.1 = some ({ block := b4, off := b5 } : Addr) ∧
 ((0 : Int) ≤ t1 ∧ t1 < (t0.2 : Int)) ∧
 ∃ (n6 : Int),
 w.drew.cell? ({ block := b4, off := b5 + t1.toNat } : Addr) = some (Value.int IntKind.i64 n6) ∧
 ∃ (b7 : Nat),
 ∃ (b8 : Nat),
 t0.1 = some ({ block := b7, off := b8 } : Addr) ∧
 ((0 : Int) ≤ t1 ∧ t1 < (t0.2 : Int)) ∧
 #[Value.int IntKind.i64 n3].size = (1 : Nat) ∧
 StoreP w.drew b7 (b8 + t1.toNat) [Value.int IntKind.i64 n3] fun (w9 : World) =>
 ∃ (b10 : Nat),
 ∃ (b11 : Nat),
 t0.1 = some ({ block := b10, off := b11 } : Addr) ∧
 ((0 : Int) ≤ t3 ∧ t3 < (t0.2 : Int)) ∧
 #[Value.int IntKind.i64 n6].size = (1 : Nat) ∧
 StoreP w9 b10 (b11 + t3.toNat) [Value.int IntKind.i64 n6] fun (w12 : World) =>
 ∃ (y13 : Nat → Int × Int → World → Prop),
 (∃ (b14 : Nat), y13 b14 (IntKind.i64.wrap (t1 + (1 : Int)), IntKind.i64.wrap (t2 - (1 : Int))) w12) ∧
 ∀ (b15 : Nat) (x16 : Int × Int) (w17 : World) (y18 : Nat → Value),
 y13 b15 x16 w17 →
 (F93j1 t0 t1 R y13 b15 x16 w17)
theorem F93_ok (t0 : Sl) (t1 : Int) (t2 : Int) (t3 : Int) (w : World) (R : Value → World → Prop) (h : F93 t0 t1 t2 t3 w R) : CW Try.prog 93 #[Value.slice t0.1 t0.2 t0.3, Value.int IntKind.i64 t1, Value.int IntKind.i64 t2, Value.int IntKind.i64 t3] w R :=
  call_of tbOk mixed en93 Try.func93 rfl (.node (.nil) (.node (.draw (.st 0 (.st 1 (.st 2 (.st 3 (.st 4 (.st 5 (.st 6 (.st 7 (.st 8 (.st 9 (.st 10 (.st 11 (.st 12 (.ac 13 [3, 2] (.st 14 (.ac 15 [] (.fin) (.non))) (.non)))))))))))))))) (.node (.nil) (.node (.loop [(9, .one (.int .i64)), (10, .one (.int .i64))] [29, 30, 31, 32, 33, 34, 35, 36, 37, 38, 39, 40, 41, 42, 43, 44, 45, 9, 46, 47, 48, 49, 50, 51, 52, 53, 54, 55, 56, 57, 58, 59, 60, 61, 10, 62, 63, 64, 65, 66, 67, 68, 69, 70, 71, 72, 73, 74, 75, 76, 77, 78, 79, 80, 81, 82] (.join [(9, .one (.int .i64))] [29, 30, 31, 32, 33, 34, 35, 36, 37, 38, 39, 40, 41, 42, 43, 44, 45, 9] (.loop [(9, .one (.int .i64))] [29, 30, 31, 32, 33, 34, 35, 36, 37, 38, 39, 40, 41, 42, 43, 44, 45, 9] (.node (.node (.draw (.st 0 (.st 1 (.st 2 (.st 3 (.st 4 (.st 5 (.st 6 (.st 7 (.st 8 (.st 9 (.st 10 (.st 11 (.ac 12 [] (.st 13 (.st 14 (.fin))) (.non))))))))))))))) (.nil)) (.nil))) (.join [(10, .one (.int .i64))] [46, 47, 48, 49, 50, 51, 52, 53, 54, 55, 56, 57, 58, 59, 60, 61, 10] (.loop [(10, .one (.int .i64))] [46, 47, 48, 49, 50, 51, 52, 53, 54, 55, 56, 57, 58, 59, 60, 61, 10] (.node (.node (.draw (.st 0 (.st 1 (.st 2 (.st 3 (.st 4 (.st 5 (.st 6 (.st 7 (.st 8 (.st 9 (.st 10 (.st 11 (.ac 12 [] (.st 13 (.fin)) (.non))))))))))))))) (.nil)) (.nil))) (.node (.nil) (.node (.draw (.st 0 (.st 1 (.st 2 (.st 3 (.st 4 (.st 5 (.st 6 (.st 7 (.st 8 (.st 9 (.st 10 (.st 11 (.st 12 (.ac 13 [3, 2] (.st 14 (.ac 15 [] (.fin) (.non))) (.non)))))))))))))))) (.nil)))))) (.nil))))) (by kernel_rfl) (Nat.le_of_ble_eq_true (by kernel_rfl)) (Eq.mp (α := F93 t0 t1 t2 t3 w R) (by kernel_rfl) h)
def F94k2 (t0 : Sl) (n92 : Int) (w93 : World) (t1 : Int) (b91 : Nat) (y89 : Nat → Int → World → Prop) (y88 : Int → World → Prop) : Prop :=
 ∃ (b96 : Nat),
 ∃ (b97 : Nat),
 t0.1 = some ({ block := b96, off := b97 } : Addr) ∧
 ((0 : Int) ≤ n92 ∧ n92 < (t0.2 : Int)) ∧
 ∃ (n98 : Int),
 w93.drew.cell? ({ block := b96, off := b97 + n92.toNat } : Addr) = some (Value.int IntKind.i64 n98) ∧
 ∃ (b99 : Nat),
 ∃ (b100 : Nat),
 t0.1 = some ({ block := b99, off := b100 } : Addr) ∧
 ((0 : Int) ≤ t1 ∧ t1 < (t0.2 : Int)) ∧
 ∃ (n101 : Int),
 w93.drew.cell? ({ block := b99, off := b100 + t1.toNat } : Addr) = some (Value.int IntKind.i64 n101) ∧
 CX Try.prog (92 : Nat) #[Value.int IntKind.i64 n98, Value.int IntKind.i64 n101] w93.drew fun (v102 : Value) (w103 : World) =>
 ∃ (t104 : Bool), v102 = Value.bool t104 ∧ IfB t104 (([] : List Nat) = [] ∧ ∃ (b105 : Nat), b105 < b91 ∧ y89 b105 (IntKind.i64.wrap (n92 + (1 : Int))) w103) (([] : List Nat) = [] ∧ y88 n92 w103)
def F94j1 (t0 : Sl) (t1 : Int) (t2 : Int) (y13 : Int → World → Prop) (y14 : Nat → Int → World → Prop) (b16 : Nat) (n17 : Int) (w18 : World) : Prop :=
 IfB (decide (n17 ≤ IntKind.i64.wrap (t2 - (1 : Int))))
 (F94k2 t0 n17 w18 t1 b16 y14 y13)
 (([] : List Nat) = [] ∧ y13 n17 w18.drew)
def F94k1 (t0 : Sl) (n114 : Int) (w115 : World) (t1 : Int) (b113 : Nat) (y111 : Nat → Int → World → Prop) (y110 : Int → World → Prop) : Prop :=
 ∃ (b118 : Nat),
 ∃ (b119 : Nat),
 t0.1 = some ({ block := b118, off := b119 } : Addr) ∧
 ((0 : Int) ≤ n114 ∧ n114 < (t0.2 : Int)) ∧
 ∃ (n120 : Int),
 w115.drew.cell? ({ block := b118, off := b119 + n114.toNat } : Addr) = some (Value.int IntKind.i64 n120) ∧
 ∃ (b121 : Nat),
 ∃ (b122 : Nat),
 t0.1 = some ({ block := b121, off := b122 } : Addr) ∧
 ((0 : Int) ≤ t1 ∧ t1 < (t0.2 : Int)) ∧
 ∃ (n123 : Int),
 w115.drew.cell? ({ block := b121, off := b122 + t1.toNat } : Addr) = some (Value.int IntKind.i64 n123) ∧
 CX Try.prog (92 : Nat) #[Value.int IntKind.i64 n120, Value.int IntKind.i64 n123] w115.drew fun (v124 : Value) (w125 : World) =>
 ∃ (t126 : Bool), v124 = Value.bool t126 ∧ IfB (!t126) (([] : List Nat) = [] ∧ ∃ (b127 : Nat), b127 < b113 ∧ y111 b127 (IntKind.i64.wrap (n114 - (1 : Int))) w125) (([] : List Nat) = [] ∧ y110 n114 w125)
def F94j3 (t0 : Sl) (t1 : Int) (n31 : Int) (y35 : Int → World → Prop) (y36 : Nat → Int → World → Prop) (b38 : Nat) (n39 : Int) (w40 : World) : Prop :=
 IfB (decide (n31 ≤ n39))
 (F94k1 t0 n39 w40 t1 b38 y36 y35)
 (([] : List Nat) = [] ∧ y35 n39 w40.drew)
def F94j6 (t0 : Sl) (t1 : Int) (x84 : Int × Int) (y88 : Int → World → Prop) (y89 : Nat → Int → World → Prop) (b91 : Nat) (n92 : Int) (w93 : World) : Prop :=
 IfB (decide (n92 ≤ x84.snd))
 (F94k2 t0 n92 w93 t1 b91 y89 y88)
 (([] : List Nat) = [] ∧ y88 n92 w93.drew)
def F94j8 (t0 : Sl) (t1 : Int) (n106 : Int) (y110 : Int → World → Prop) (y111 : Nat → Int → World → Prop) (b113 : Nat) (n114 : Int) (w115 : World) : Prop :=
 IfB (decide (n106 ≤ n114))
 (F94k1 t0 n114 w115 t1 b113 y111 y110)
 (([] : List Nat) = [] ∧ y110 n114 w115.drew)
def F94j9 (t0 : Sl) (t1 : Int) (R : Value → World → Prop) (y81 : Nat → Int × Int → World → Prop) (b83 : Nat) (n106 : Int) (n128 : Int) (w129 : World) : Prop :=
 IfB (decide (n128 < n106))
 (∃ (b132 : Nat),
 ∃ (b133 : Nat),
 t0.1 = some ({ block := b132, off := b133 } : Addr) ∧
 ((0 : Int) ≤ t1 ∧ t1 < (t0.2 : Int)) ∧
 ∃ (n134 : Int),
 w129.drew.cell? ({ block := b132, off := b133 + t1.toNat } : Addr) = some (Value.int IntKind.i64 n134) ∧
 ∃ (b135 : Nat),
 ∃ (b136 : Nat),
 t0.1 = some ({ block := b135, off := b136 } : Addr) ∧
 ((0 : Int) ≤ n128 ∧ n128 < (t0.2 : Int)) ∧
 ∃ (n137 : Int),
 w129.drew.cell? ({ block := b135, off := b136 + n128.toNat } : Addr) = some (Value.int IntKind.i64 n137) ∧
 ∃ (b138 : Nat),
 ∃ (b139 : Nat),
 t0.1 = some ({ block := b138, off := b139 } : Addr) ∧
 ((0 : Int) ≤ n128 ∧ n128 < (t0.2 : Int)) ∧
 #[Value.int IntKind.i64 n134].size = (1 : Nat) ∧
 StoreP w129.drew b138 (b139 + n128.toNat) [Value.int IntKind.i64 n134] fun (w140 : World) =>
 ∃ (b141 : Nat),
 ∃ (b142 : Nat),
 t0.1 = some ({ block := b141, off := b142 } : Addr) ∧
 ((0 : Int) ≤ t1 ∧ t1 < (t0.2 : Int)) ∧
 #[Value.int IntKind.i64 n137].size = (1 : Nat) ∧
 StoreP w140 b141 (b142 + t1.toNat) [Value.int IntKind.i64 n137] fun (w143 : World) => R (Value.tuple #[Value.int IntKind.i64 n128, Value.bool false]) w143)
 (∃ (b144 : Nat),
 ∃ (b145 : Nat),
 t0.1 = some ({ block := b144, off := b145 } : Addr) ∧
 ((0 : Int) ≤ n128 ∧ n128 < (t0.2 : Int)) ∧
 ∃ (n146 : Int),
 w129.drew.cell? ({ block := b144, off := b145 + n128.toNat } : Addr) = some (Value.int IntKind.i64 n146) ∧
 ∃ (b147 : Nat),
 ∃ (b148 : Nat),
 t0.1 = some ({ block := b147, off := b148 } : Addr) ∧
 ((0 : Int) ≤ n106 ∧ n106 < (t0.2 : Int)) ∧
 ∃ (n149 : Int),
 w129.drew.cell? ({ block := b147, off := b148 + n106.toNat } : Addr) = some (Value.int IntKind.i64 n149) ∧
 ∃ (b150 : Nat),
 ∃ (b151 : Nat),
 t0.1 = some ({ block := b150, off := b151 } : Addr) ∧
 ((0 : Int) ≤ n106 ∧ n106 < (t0.2 : Int)) ∧
 #[Value.int IntKind.i64 n146].size = (1 : Nat) ∧
 StoreP w129.drew b150 (b151 + n106.toNat) [Value.int IntKind.i64 n146] fun (w152 : World) =>
 ∃ (b153 : Nat),
 ∃ (b154 : Nat),
 t0.1 = some ({ block := b153, off := b154 } : Addr) ∧
 ((0 : Int) ≤ n128 ∧ n128 < (t0.2 : Int)) ∧
 #[Value.int IntKind.i64 n149].size = (1 : Nat) ∧
 StoreP w152 b153 (b154 + n128.toNat) [Value.int IntKind.i64 n149] fun (w155 : World) =>
 ([] : List Nat) = [] ∧ ∃ (b156 : Nat), b156 < b83 ∧ y81 b156 (IntKind.i64.wrap (n106 + (1 : Int)), IntKind.i64.wrap (n128 - (1 : Int))) w155)
def F94j5 (t0 : Sl) (t1 : Int) (R : Value → World → Prop) (y81 : Nat → Int × Int → World → Prop) (b83 : Nat) (x84 : Int × Int) (w85 : World) : Prop :=
 ∃ (y88 : Int → World → Prop),
 (∃ (y89 : Nat → Int → World → Prop),
 (∃ (b90 : Nat), y89 b90 x84.1 w85) ∧
 ∀ (b91 : Nat) (n92 : Int) (w93 : World) (y94 : Nat → Value),
 y89 b91 n92 w93 →
 (F94j6 t0 t1 x84 y88 y89 b91 n92 w93)) ∧
 ∀ (n106 : Int) (w107 : World) (y108 : Nat → Value),
 y88 n106 w107 →
 ∃ (y110 : Int → World → Prop),
 (∃ (y111 : Nat → Int → World → Prop),
 (∃ (b112 : Nat), y111 b112 x84.2 w107) ∧
 ∀ (b113 : Nat) (n114 : Int) (w115 : World) (y116 : Nat → Value),
 y111 b113 n114 w115 →
 (F94j8 t0 t1 n106 y110 y111 b113 n114 w115)) ∧
 ∀ (n128 : Int) (w129 : World) (y130 : Nat → Value),
 y110 n128 w129 →
 (F94j9 t0 t1 R y81 b83 n106 n128 w129)
def F94j4 (t0 : Sl) (t1 : Int) (R : Value → World → Prop) (n31 : Int) (n53 : Int) (w54 : World) : Prop :=
 IfB (decide (n53 < n31))
 (∃ (b57 : Nat),
 ∃ (b58 : Nat),
 t0.1 = some ({ block := b57, off := b58 } : Addr) ∧
 ((0 : Int) ≤ t1 ∧ t1 < (t0.2 : Int)) ∧
 ∃ (n59 : Int),
 w54.drew.cell? ({ block := b57, off := b58 + t1.toNat } : Addr) = some (Value.int IntKind.i64 n59) ∧
 ∃ (b60 : Nat),
 ∃ (b61 : Nat),
 t0.1 = some ({ block := b60, off := b61 } : Addr) ∧
 ((0 : Int) ≤ n53 ∧ n53 < (t0.2 : Int)) ∧
 ∃ (n62 : Int),
 w54.drew.cell? ({ block := b60, off := b61 + n53.toNat } : Addr) = some (Value.int IntKind.i64 n62) ∧
 ∃ (b63 : Nat),
 ∃ (b64 : Nat),
 t0.1 = some ({ block := b63, off := b64 } : Addr) ∧
 ((0 : Int) ≤ n53 ∧ n53 < (t0.2 : Int)) ∧
 #[Value.int IntKind.i64 n59].size = (1 : Nat) ∧
 StoreP w54.drew b63 (b64 + n53.toNat) [Value.int IntKind.i64 n59] fun (w65 : World) =>
 ∃ (b66 : Nat),
 ∃ (b67 : Nat),
 t0.1 = some ({ block := b66, off := b67 } : Addr) ∧
 ((0 : Int) ≤ t1 ∧ t1 < (t0.2 : Int)) ∧
 #[Value.int IntKind.i64 n62].size = (1 : Nat) ∧
 StoreP w65 b66 (b67 + t1.toNat) [Value.int IntKind.i64 n62] fun (w68 : World) => R (Value.tuple #[Value.int IntKind.i64 n53, Value.bool true]) w68)
 (∃ (b69 : Nat),
 ∃ (b70 : Nat),
 t0.1 = some ({ block := b69, off := b70 } : Addr) ∧
 ((0 : Int) ≤ n53 ∧ n53 < (t0.2 : Int)) ∧
 ∃ (n71 : Int),
 w54.drew.cell? ({ block := b69, off := b70 + n53.toNat } : Addr) = some (Value.int IntKind.i64 n71) ∧
 ∃ (b72 : Nat),
 ∃ (b73 : Nat),
 t0.1 = some ({ block := b72, off := b73 } : Addr) ∧
 ((0 : Int) ≤ n31 ∧ n31 < (t0.2 : Int)) ∧
 ∃ (n74 : Int),
 w54.drew.cell? ({ block := b72, off := b73 + n31.toNat } : Addr) = some (Value.int IntKind.i64 n74) ∧
 ∃ (b75 : Nat),
 ∃ (b76 : Nat),
 t0.1 = some ({ block := b75, off := b76 } : Addr) ∧
 ((0 : Int) ≤ n31 ∧ n31 < (t0.2 : Int)) ∧
 #[Value.int IntKind.i64 n71].size = (1 : Nat) ∧
 StoreP w54.drew b75 (b76 + n31.toNat) [Value.int IntKind.i64 n71] fun (w77 : World) =>
 ∃ (b78 : Nat),
 ∃ (b79 : Nat),
 t0.1 = some ({ block := b78, off := b79 } : Addr) ∧
 ((0 : Int) ≤ n53 ∧ n53 < (t0.2 : Int)) ∧
 #[Value.int IntKind.i64 n74].size = (1 : Nat) ∧
 StoreP w77 b78 (b79 + n53.toNat) [Value.int IntKind.i64 n74] fun (w80 : World) =>
 ∃ (y81 : Nat → Int × Int → World → Prop),
 (∃ (b82 : Nat), y81 b82 (IntKind.i64.wrap (n31 + (1 : Int)), IntKind.i64.wrap (n53 - (1 : Int))) w80) ∧
 ∀ (b83 : Nat) (x84 : Int × Int) (w85 : World) (y86 : Nat → Value),
 y81 b83 x84 w85 →
 (F94j5 t0 t1 R y81 b83 x84 w85))
def F94 (t0 : Sl) (t1 : Int) (t2 : Int) (t3 : Int) (w : World) (R : Value → World → Prop) : Prop :=
 ∃ (b1 : Nat),
 ∃ (b2 : Nat),
 t0.1 = some ({ block := b1, off := b2 } : Addr) ∧
 ((0 : Int) ≤ t3 ∧ t3 < (t0.2 : Int)) ∧
 ∃ (n3 : Int),
 w.drew.cell? ({ block := b1, off := b2 + t3.toNat } : Addr) = some (Value.int IntKind.i64 n3) ∧
 ∃ (b4 : Nat),
 ∃ (b5 : Nat),
 t0.1 = some ({ block := b4, off := b5 } : Addr) ∧
 ((0 : Int) ≤ t1 ∧ t1 < (t0.2 : Int)) ∧
 ∃ (n6 : Int),
 w.drew.cell? ({ block := b4, off := b5 + t1.toNat } : Addr) = some (Value.int IntKind.i64 n6) ∧
 ∃ (b7 : Nat),
 ∃ (b8 : Nat),
 t0.1 = some ({ block := b7, off := b8 } : Addr) ∧
 ((0 : Int) ≤ t1 ∧ t1 < (t0.2 : Int)) ∧
 #[Value.int IntKind.i64 n3].size = (1 : Nat) ∧
 StoreP w.drew b7 (b8 + t1.toNat) [Value.int IntKind.i64 n3] fun (w9 : World) =>
 ∃ (b10 : Nat),
 ∃ (b11 : Nat),
 t0.1 = some ({ block := b10, off := b11 } : Addr) ∧
 ((0 : Int) ≤ t3 ∧ t3 < (t0.2 : Int)) ∧
 #[Value.int IntKind.i64 n6].size = (1 : Nat) ∧
 StoreP w9 b10 (b11 + t3.toNat) [Value.int IntKind.i64 n6] fun (w12 : World) =>
 ∃ (y13 : Int → World → Prop),
 (∃ (y14 : Nat → Int → World → Prop),
 (∃ (b15 : Nat), y14 b15 (IntKind.i64.wrap (t1 + (1 : Int))) w12) ∧
 ∀ (b16 : Nat) (n17 : Int) (w18 : World) (y19 : Nat → Value),
 y14 b16 n17 w18 →
 (F94j1 t0 t1 t2 y13 y14 b16 n17 w18)) ∧
 ∀ (n31 : Int) (w32 : World) (y33 : Nat → Value),
 y13 n31 w32 →
 ∃ (y35 : Int → World → Prop),
 (∃ (y36 : Nat → Int → World → Prop),
 (∃ (b37 : Nat), y36 b37 (IntKind.i64.wrap (t2 - (1 : Int))) w32) ∧
 ∀ (b38 : Nat) (n39 : Int) (w40 : World) (y41 : Nat → Value),
 y36 b38 n39 w40 →
 (F94j3 t0 t1 n31 y35 y36 b38 n39 w40)) ∧
 ∀ (n53 : Int) (w54 : World) (y55 : Nat → Value),
 y35 n53 w54 →
 (F94j4 t0 t1 R n31 n53 w54)
theorem F94_ok (t0 : Sl) (t1 : Int) (t2 : Int) (t3 : Int) (w : World) (R : Value → World → Prop) (h : F94 t0 t1 t2 t3 w R) : CW Try.prog 94 #[Value.slice t0.1 t0.2 t0.3, Value.int IntKind.i64 t1, Value.int IntKind.i64 t2, Value.int IntKind.i64 t3] w R :=
  call_of tbOk mixed en94 Try.func94 rfl (.node (.nil) (.node (.draw (.st 0 (.st 1 (.st 2 (.st 3 (.st 4 (.st 5 (.st 6 (.st 7 (.st 8 (.st 9 (.st 10 (.st 11 (.st 12 (.ac 13 [3, 2] (.st 14 (.ac 15 [] (.fin) (.non))) (.non)))))))))))))))) (.node (.nil) (.join [(10, .one (.int .i64))] [30, 31, 32, 33, 34, 35, 36, 37, 38, 39, 40, 41, 42, 43, 44, 45, 10] (.loop [(10, .one (.int .i64))] [30, 31, 32, 33, 34, 35, 36, 37, 38, 39, 40, 41, 42, 43, 44, 45, 10] (.node (.node (.draw (.st 0 (.st 1 (.st 2 (.st 3 (.st 4 (.st 5 (.st 6 (.st 7 (.st 8 (.st 9 (.st 10 (.st 11 (.ac 12 [] (.st 13 (.fin)) (.non))))))))))))))) (.nil)) (.nil))) (.join [(11, .one (.int .i64))] [46, 47, 48, 49, 50, 51, 52, 53, 54, 55, 56, 57, 58, 59, 60, 61, 62, 11] (.loop [(11, .one (.int .i64))] [46, 47, 48, 49, 50, 51, 52, 53, 54, 55, 56, 57, 58, 59, 60, 61, 62, 11] (.node (.node (.draw (.st 0 (.st 1 (.st 2 (.st 3 (.st 4 (.st 5 (.st 6 (.st 7 (.st 8 (.st 9 (.st 10 (.st 11 (.ac 12 [] (.st 13 (.st 14 (.fin))) (.non))))))))))))))) (.nil)) (.nil))) (.node (.node (.nil) (.node (.node (.draw (.st 0 (.st 1 (.st 2 (.st 3 (.st 4 (.st 5 (.st 6 (.st 7 (.st 8 (.st 9 (.st 10 (.st 11 (.st 12 (.ac 13 [3, 2] (.st 14 (.ac 15 [] (.fin) (.non))) (.non)))))))))))))))) (.nil)) (.nil))) (.node (.draw (.st 0 (.st 1 (.st 2 (.st 3 (.st 4 (.st 5 (.st 6 (.st 7 (.st 8 (.st 9 (.st 10 (.st 11 (.st 12 (.ac 13 [3, 2] (.st 14 (.ac 15 [] (.fin) (.non))) (.non)))))))))))))))) (.node (.nil) (.node (.nil) (.node (.loop [(10, .one (.int .i64)), (11, .one (.int .i64))] [99, 100, 101, 102, 103, 104, 105, 106, 107, 108, 109, 110, 111, 112, 113, 114, 10, 115, 116, 117, 118, 119, 120, 121, 122, 123, 124, 125, 126, 127, 128, 129, 130, 131, 11, 132, 133, 134, 135, 136, 137, 138, 139, 140, 141, 142, 143, 144, 145, 146, 147, 148, 149, 150, 151, 152] (.join [(10, .one (.int .i64))] [99, 100, 101, 102, 103, 104, 105, 106, 107, 108, 109, 110, 111, 112, 113, 114, 10] (.loop [(10, .one (.int .i64))] [99, 100, 101, 102, 103, 104, 105, 106, 107, 108, 109, 110, 111, 112, 113, 114, 10] (.node (.node (.draw (.st 0 (.st 1 (.st 2 (.st 3 (.st 4 (.st 5 (.st 6 (.st 7 (.st 8 (.st 9 (.st 10 (.st 11 (.ac 12 [] (.st 13 (.fin)) (.non))))))))))))))) (.nil)) (.nil))) (.join [(11, .one (.int .i64))] [115, 116, 117, 118, 119, 120, 121, 122, 123, 124, 125, 126, 127, 128, 129, 130, 131, 11] (.loop [(11, .one (.int .i64))] [115, 116, 117, 118, 119, 120, 121, 122, 123, 124, 125, 126, 127, 128, 129, 130, 131, 11] (.node (.node (.draw (.st 0 (.st 1 (.st 2 (.st 3 (.st 4 (.st 5 (.st 6 (.st 7 (.st 8 (.st 9 (.st 10 (.st 11 (.ac 12 [] (.st 13 (.st 14 (.fin))) (.non))))))))))))))) (.nil)) (.nil))) (.node (.nil) (.node (.draw (.st 0 (.st 1 (.st 2 (.st 3 (.st 4 (.st 5 (.st 6 (.st 7 (.st 8 (.st 9 (.st 10 (.st 11 (.st 12 (.ac 13 [3, 2] (.st 14 (.ac 15 [] (.fin) (.non))) (.non)))))))))))))))) (.nil)))))) (.node (.draw (.st 0 (.st 1 (.st 2 (.st 3 (.st 4 (.st 5 (.st 6 (.st 7 (.st 8 (.st 9 (.st 10 (.st 11 (.st 12 (.ac 13 [3, 2] (.st 14 (.ac 15 [] (.fin) (.non))) (.non)))))))))))))))) (.nil)))))))))))) (by kernel_rfl) (Nat.le_of_ble_eq_true (by kernel_rfl)) (Eq.mp (α := F94 t0 t1 t2 t3 w R) (by kernel_rfl) h)
def F84k8 (t0 : Int) (R : Value → World → Prop) (w : World) : Prop :=
 (0 : Int) ≤ (8 : Int) ∧
 ∃ (y1 : UInt8),
 (0 : Int) ≤
 IntKind.u8.wrap
 (((t0.fdiv ((2 : Int) ^ min (Int.toNat (32 : Int)) IntKind.u64.bits)).fdiv ((2 : Int) ^ min (Int.toNat (16 : Int)) IntKind.u64.bits)).fdiv ((2 : Int) ^ min (Int.toNat (8 : Int)) IntKind.u64.bits)) ∧
 GxLSby0[(IntKind.u8.wrap
 (((t0.fdiv ((2 : Int) ^ min (Int.toNat (32 : Int)) IntKind.u64.bits)).fdiv ((2 : Int) ^ min (Int.toNat (16 : Int)) IntKind.u64.bits)).fdiv
 ((2 : Int) ^ min (Int.toNat (8 : Int)) IntKind.u64.bits))).toNat]? =
 some y1 ∧
 R (Value.int IntKind.i64 (IntKind.i64.wrap (IntKind.i64.wrap (IntKind.i64.wrap ((32 : Int) + (16 : Int)) + (8 : Int)) + IntKind.i64.wrap (y1.toNat : Int)))) w
def F84k5 (t0 : Int) (R : Value → World → Prop) (w : World) : Prop :=
 ∃ (y4 : UInt8),
 (0 : Int) ≤ IntKind.u8.wrap ((t0.fdiv ((2 : Int) ^ min (Int.toNat (32 : Int)) IntKind.u64.bits)).fdiv ((2 : Int) ^ min (Int.toNat (16 : Int)) IntKind.u64.bits)) ∧
 GxLSby0[(IntKind.u8.wrap ((t0.fdiv ((2 : Int) ^ min (Int.toNat (32 : Int)) IntKind.u64.bits)).fdiv ((2 : Int) ^ min (Int.toNat (16 : Int)) IntKind.u64.bits))).toNat]? =
 some y4 ∧
 R (Value.int IntKind.i64 (IntKind.i64.wrap (IntKind.i64.wrap ((32 : Int) + (16 : Int)) + IntKind.i64.wrap (y4.toNat : Int)))) w
def F84k6 (t0 : Int) (R : Value → World → Prop) (w : World) : Prop :=
 (0 : Int) ≤ (8 : Int) ∧
 ∃ (y7 : UInt8),
 (0 : Int) ≤ IntKind.u8.wrap ((t0.fdiv ((2 : Int) ^ min (Int.toNat (32 : Int)) IntKind.u64.bits)).fdiv ((2 : Int) ^ min (Int.toNat (8 : Int)) IntKind.u64.bits)) ∧
 GxLSby0[(IntKind.u8.wrap ((t0.fdiv ((2 : Int) ^ min (Int.toNat (32 : Int)) IntKind.u64.bits)).fdiv ((2 : Int) ^ min (Int.toNat (8 : Int)) IntKind.u64.bits))).toNat]? =
 some y7 ∧
 R (Value.int IntKind.i64 (IntKind.i64.wrap (IntKind.i64.wrap ((32 : Int) + (8 : Int)) + IntKind.i64.wrap (y7.toNat : Int)))) w
def F84k2 (t0 : Int) (R : Value → World → Prop) (w : World) : Prop :=
 ∃ (y10 : UInt8),
 (0 : Int) ≤ IntKind.u8.wrap (t0.fdiv ((2 : Int) ^ min (Int.toNat (32 : Int)) IntKind.u64.bits)) ∧
 GxLSby0[(IntKind.u8.wrap (t0.fdiv ((2 : Int) ^ min (Int.toNat (32 : Int)) IntKind.u64.bits))).toNat]? =
 some y10 ∧
 R (Value.int IntKind.i64 (IntKind.i64.wrap ((32 : Int) + IntKind.i64.wrap (y10.toNat : Int)))) w
def F84k7 (t0 : Int) (R : Value → World → Prop) (w : World) : Prop :=
 (0 : Int) ≤ (8 : Int) ∧
 ∃ (y13 : UInt8),
 (0 : Int) ≤ IntKind.u8.wrap ((t0.fdiv ((2 : Int) ^ min (Int.toNat (16 : Int)) IntKind.u64.bits)).fdiv ((2 : Int) ^ min (Int.toNat (8 : Int)) IntKind.u64.bits)) ∧
 GxLSby0[(IntKind.u8.wrap ((t0.fdiv ((2 : Int) ^ min (Int.toNat (16 : Int)) IntKind.u64.bits)).fdiv ((2 : Int) ^ min (Int.toNat (8 : Int)) IntKind.u64.bits))).toNat]? =
 some y13 ∧
 R (Value.int IntKind.i64 (IntKind.i64.wrap (IntKind.i64.wrap (IntKind.i64.wrap ((0 : Int) + (16 : Int)) + (8 : Int)) + IntKind.i64.wrap (y13.toNat : Int)))) w
def F84k3 (t0 : Int) (R : Value → World → Prop) (w : World) : Prop :=
 ∃ (y16 : UInt8),
 (0 : Int) ≤ IntKind.u8.wrap (t0.fdiv ((2 : Int) ^ min (Int.toNat (16 : Int)) IntKind.u64.bits)) ∧
 GxLSby0[(IntKind.u8.wrap (t0.fdiv ((2 : Int) ^ min (Int.toNat (16 : Int)) IntKind.u64.bits))).toNat]? =
 some y16 ∧
 R (Value.int IntKind.i64 (IntKind.i64.wrap (IntKind.i64.wrap ((0 : Int) + (16 : Int)) + IntKind.i64.wrap (y16.toNat : Int)))) w
def F84k4 (t0 : Int) (R : Value → World → Prop) (w : World) : Prop :=
 (0 : Int) ≤ (8 : Int) ∧
 ∃ (y19 : UInt8),
 (0 : Int) ≤ IntKind.u8.wrap (t0.fdiv ((2 : Int) ^ min (Int.toNat (8 : Int)) IntKind.u64.bits)) ∧
 GxLSby0[(IntKind.u8.wrap (t0.fdiv ((2 : Int) ^ min (Int.toNat (8 : Int)) IntKind.u64.bits))).toNat]? =
 some y19 ∧
 R (Value.int IntKind.i64 (IntKind.i64.wrap (IntKind.i64.wrap ((0 : Int) + (8 : Int)) + IntKind.i64.wrap (y19.toNat : Int)))) w
def F84k1 (t0 : Int) (R : Value → World → Prop) (w : World) : Prop :=
 ∃ (y22 : UInt8),
 (0 : Int) ≤ IntKind.u8.wrap t0 ∧
 GxLSby0[(IntKind.u8.wrap t0).toNat]? =
 some y22 ∧
 R (Value.int IntKind.i64 (IntKind.i64.wrap ((0 : Int) + IntKind.i64.wrap (y22.toNat : Int)))) w
def F84 (t0 : Int) (w : World) (R : Value → World → Prop) : Prop :=
 IfB (decide ((4294967296 : Int) ≤ t0))
 ((0 : Int) ≤ (32 : Int) ∧
 IfB (decide ((65536 : Int) ≤ t0.fdiv ((2 : Int) ^ min (Int.toNat (32 : Int)) IntKind.u64.bits)))
 ((0 : Int) ≤ (16 : Int) ∧
 IfB (decide ((256 : Int) ≤ (t0.fdiv ((2 : Int) ^ min (Int.toNat (32 : Int)) IntKind.u64.bits)).fdiv ((2 : Int) ^ min (Int.toNat (16 : Int)) IntKind.u64.bits)))
 (F84k8 t0 R w)
 (F84k5 t0 R w))
 (IfB (decide ((256 : Int) ≤ t0.fdiv ((2 : Int) ^ min (Int.toNat (32 : Int)) IntKind.u64.bits)))
 (F84k6 t0 R w)
 (F84k2 t0 R w)))
 (IfB (decide ((65536 : Int) ≤ t0))
 ((0 : Int) ≤ (16 : Int) ∧
 IfB (decide ((256 : Int) ≤ t0.fdiv ((2 : Int) ^ min (Int.toNat (16 : Int)) IntKind.u64.bits)))
 (F84k7 t0 R w)
 (F84k3 t0 R w))
 (IfB (decide ((256 : Int) ≤ t0))
 (F84k4 t0 R w)
 (F84k1 t0 R w)))
theorem F84_ok (t0 : Int) (w : World) (R : Value → World → Prop) (h : F84 t0 w R) : CW Try.prog 84 #[Value.int IntKind.u64 t0] w R :=
  call_of tbOk mixed en84 Try.func84 rfl (.nil) (by kernel_rfl) (Nat.le_of_ble_eq_true (by kernel_rfl)) (Eq.mp (α := F84 t0 w R) (by kernel_rfl) h)
def F108j2 (t0 : Sl) (t3 : Int) (R : Value → World → Prop) (y1 : Nat → Int → World → Prop) (b3 : Nat) (n4 : Int) (n18 : Int) (w19 : World) : Prop :=
 ∃ (b22 : Nat),
 ∃ (b23 : Nat),
 t0.1 = some ({ block := b22, off := b23 } : Addr) ∧
 ((0 : Int) ≤ IntKind.i64.wrap (t3 + n4) ∧ IntKind.i64.wrap (t3 + n4) < (t0.2 : Int)) ∧
 ∃ (n24 : Int),
 w19.drew.cell? ({ block := b22, off := b23 + (IntKind.i64.wrap (t3 + n4)).toNat } : Addr) = some (Value.int IntKind.i64 n24) ∧
 ∃ (b25 : Nat),
 ∃ (b26 : Nat),
 t0.1 = some ({ block := b25, off := b26 } : Addr) ∧
 ((0 : Int) ≤ IntKind.i64.wrap (t3 + n18) ∧ IntKind.i64.wrap (t3 + n18) < (t0.2 : Int)) ∧
 ∃ (n27 : Int),
 w19.drew.cell? ({ block := b25, off := b26 + (IntKind.i64.wrap (t3 + n18)).toNat } : Addr) = some (Value.int IntKind.i64 n27) ∧
 CX Try.prog (92 : Nat) #[Value.int IntKind.i64 n24, Value.int IntKind.i64 n27] w19.drew fun (v28 : Value) (w29 : World) =>
 ∃ (t30 : Bool),
 v28 = Value.bool t30 ∧
 IfB (!t30) (R (Value.tuple #[]) w29)
 (∃ (b31 : Nat),
 ∃ (b32 : Nat),
 t0.1 = some ({ block := b31, off := b32 } : Addr) ∧
 ((0 : Int) ≤ IntKind.i64.wrap (t3 + n18) ∧ IntKind.i64.wrap (t3 + n18) < (t0.2 : Int)) ∧
 ∃ (n33 : Int),
 w29.drew.cell? ({ block := b31, off := b32 + (IntKind.i64.wrap (t3 + n18)).toNat } : Addr) = some (Value.int IntKind.i64 n33) ∧
 ∃ (b34 : Nat),
 ∃ (b35 : Nat),
 t0.1 = some ({ block := b34, off := b35 } : Addr) ∧
 ((0 : Int) ≤ IntKind.i64.wrap (t3 + n4) ∧ IntKind.i64.wrap (t3 + n4) < (t0.2 : Int)) ∧
 ∃ (n36 : Int),
 w29.drew.cell? ({ block := b34, off := b35 + (IntKind.i64.wrap (t3 + n4)).toNat } : Addr) = some (Value.int IntKind.i64 n36) ∧
 ∃ (b37 : Nat),
 ∃ (b38 : Nat),
 t0.1 = some ({ block := b37, off := b38 } : Addr) ∧
 ((0 : Int) ≤ IntKind.i64.wrap (t3 + n4) ∧ IntKind.i64.wrap (t3 + n4) < (t0.2 : Int)) ∧
 #[Value.int IntKind.i64 n33].size = (1 : Nat) ∧
 StoreP w29.drew b37 (b38 + (IntKind.i64.wrap (t3 + n4)).toNat) [Value.int IntKind.i64 n33] fun (w39 : World) =>
 ∃ (b40 : Nat),
 ∃ (b41 : Nat),
 t0.1 = some ({ block := b40, off := b41 } : Addr) ∧
 ((0 : Int) ≤ IntKind.i64.wrap (t3 + n18) ∧ IntKind.i64.wrap (t3 + n18) < (t0.2 : Int)) ∧
 #[Value.int IntKind.i64 n36].size = (1 : Nat) ∧
 StoreP w39 b40 (b41 + (IntKind.i64.wrap (t3 + n18)).toNat) [Value.int IntKind.i64 n36] fun (w42 : World) => ([] : List Nat) = [] ∧ ∃ (b43 : Nat), b43 < b3 ∧ y1 b43 n18 w42)
def F108j1 (t0 : Sl) (t2 : Int) (t3 : Int) (R : Value → World → Prop) (y1 : Nat → Int → World → Prop) (b3 : Nat) (n4 : Int) (w5 : World) : Prop :=
 IfB (decide (t2 ≤ IntKind.i64.wrap (IntKind.i64.wrap ((2 : Int) * n4) + (1 : Int)))) (R (Value.tuple #[]) w5)
 (∃ (y8 : Int → World → Prop),
 IfB (decide (IntKind.i64.wrap (IntKind.i64.wrap (IntKind.i64.wrap ((2 : Int) * n4) + (1 : Int)) + (1 : Int)) < t2))
 (∃ (b9 : Nat),
 ∃ (b10 : Nat),
 t0.1 = some ({ block := b9, off := b10 } : Addr) ∧
 ((0 : Int) ≤ IntKind.i64.wrap (t3 + IntKind.i64.wrap (IntKind.i64.wrap ((2 : Int) * n4) + (1 : Int))) ∧
 IntKind.i64.wrap (t3 + IntKind.i64.wrap (IntKind.i64.wrap ((2 : Int) * n4) + (1 : Int))) < (t0.2 : Int)) ∧
 ∃ (n11 : Int),
 w5.drew.cell? ({ block := b9, off := b10 + (IntKind.i64.wrap (t3 + IntKind.i64.wrap (IntKind.i64.wrap ((2 : Int) * n4) + (1 : Int)))).toNat } : Addr) = some (Value.int IntKind.i64 n11) ∧
 ∃ (b12 : Nat),
 ∃ (b13 : Nat),
 t0.1 = some ({ block := b12, off := b13 } : Addr) ∧
 ((0 : Int) ≤ IntKind.i64.wrap (IntKind.i64.wrap (t3 + IntKind.i64.wrap (IntKind.i64.wrap ((2 : Int) * n4) + (1 : Int))) + (1 : Int)) ∧
 IntKind.i64.wrap (IntKind.i64.wrap (t3 + IntKind.i64.wrap (IntKind.i64.wrap ((2 : Int) * n4) + (1 : Int))) + (1 : Int)) < (t0.2 : Int)) ∧
 ∃ (n14 : Int),
 w5.drew.cell? ({ block := b12, off := b13 + (IntKind.i64.wrap (IntKind.i64.wrap (t3 + IntKind.i64.wrap (IntKind.i64.wrap ((2 : Int) * n4) + (1 : Int))) + (1 : Int))).toNat } : Addr) =
 some (Value.int IntKind.i64 n14) ∧
 CX Try.prog (92 : Nat) #[Value.int IntKind.i64 n11, Value.int IntKind.i64 n14] w5.drew fun (v15 : Value) (w16 : World) =>
 ∃ (t17 : Bool),
 v15 = Value.bool t17 ∧
 IfB t17 (([] : List Nat) = [] ∧ y8 (IntKind.i64.wrap (IntKind.i64.wrap (IntKind.i64.wrap ((2 : Int) * n4) + (1 : Int)) + (1 : Int))) w16)
 (([] : List Nat) = [] ∧ y8 (IntKind.i64.wrap (IntKind.i64.wrap ((2 : Int) * n4) + (1 : Int))) w16))
 (([] : List Nat) = [] ∧ y8 (IntKind.i64.wrap (IntKind.i64.wrap ((2 : Int) * n4) + (1 : Int))) w5.drew) ∧
 ∀ (n18 : Int) (w19 : World) (y20 : Nat → Value),
 y8 n18 w19 →
 (F108j2 t0 t3 R y1 b3 n4 n18 w19))
def F108 (t0 : Sl) (t1 : Int) (t2 : Int) (t3 : Int) (w : World) (R : Value → World → Prop) : Prop :=
 ∃ (y1 : Nat → Int → World → Prop),
 (∃ (b2 : Nat), y1 b2 t1 w) ∧
 ∀ (b3 : Nat) (n4 : Int) (w5 : World) (y6 : Nat → Value),
 y1 b3 n4 w5 →
 (F108j1 t0 t2 t3 R y1 b3 n4 w5)
theorem F108_ok (t0 : Sl) (t1 : Int) (t2 : Int) (t3 : Int) (w : World) (R : Value → World → Prop) (h : F108 t0 t1 t2 t3 w R) : CW Try.prog 108 #[Value.slice t0.1 t0.2 t0.3, Value.int IntKind.i64 t1, Value.int IntKind.i64 t2, Value.int IntKind.i64 t3] w R :=
  call_of tbOk mixed en108 Try.func108 rfl (.node (.nil) (.loop [(8, .one (.int .i64))] [11, 12, 13, 9, 14, 15, 16, 17, 18, 19, 20, 21, 22, 23, 24, 25, 26, 27, 28, 29, 30, 31, 32, 33, 34, 35, 36, 37, 38, 39, 40, 41, 42, 43, 44, 45, 46, 47, 48, 49, 50, 51, 52, 53, 54, 55, 56, 57, 58, 59, 60, 61, 62, 63, 64, 65, 66, 67, 68, 69, 70, 71, 72, 73, 74, 75, 8] (.node (.nil) (.node (.nil) (.join [(9, .one (.int .i64))] [17, 18, 19, 20, 21, 22, 23, 24, 25, 26, 27, 28, 29, 30, 31, 32, 33, 34, 35, 36, 37, 38, 9] (.node (.draw (.st 0 (.st 1 (.st 2 (.st 3 (.st 4 (.st 5 (.st 6 (.st 7 (.st 8 (.st 9 (.st 10 (.st 11 (.st 12 (.st 13 (.st 14 (.st 15 (.st 16 (.st 17 (.ac 18 [] (.st 19 (.fin)) (.non))))))))))))))))))))) (.nil)) (.node (.node (.draw (.st 0 (.st 1 (.st 2 (.st 3 (.st 4 (.st 5 (.st 6 (.st 7 (.st 8 (.st 9 (.st 10 (.st 11 (.ac 12 [] (.st 13 (.fin)) (.non))))))))))))))) (.nil)) (.node (.draw (.st 0 (.st 1 (.st 2 (.st 3 (.st 4 (.st 5 (.st 6 (.st 7 (.st 8 (.st 9 (.st 10 (.st 11 (.st 12 (.st 13 (.st 14 (.st 15 (.st 16 (.st 17 (.st 18 (.st 19 (.st 20 (.ac 21 [7, 6, 5, 4] (.st 22 (.ac 23 [] (.fin) (.non))) (.non)))))))))))))))))))))))) (.nil)))))))) (by kernel_rfl) (Nat.le_of_ble_eq_true (by kernel_rfl)) (Eq.mp (α := F108 t0 t1 t2 t3 w R) (by kernel_rfl) h)
def F104 (t0 : Int) (w : World) (R : Value → World → Prop) : Prop :=
 CX Try.prog (62 : Nat) #[Value.int IntKind.u64 (IntKind.u64.wrap t0)] w fun (v1 : Value) (w2 : World) =>
 ∃ (n3 : Int), v1 = Value.int IntKind.i64 n3 ∧ (0 : Int) ≤ n3 ∧ R (Value.int IntKind.u64 (IntKind.u64.wrap ((1 : Int) * (2 : Int) ^ min n3.toNat IntKind.u64.bits))) w2
theorem F104_ok (t0 : Int) (w : World) (R : Value → World → Prop) (h : F104 t0 w R) : CW Try.prog 104 #[Value.int IntKind.i64 t0] w R :=
  call_of tbOk mixed en104 Try.func104 rfl (.nil) (by kernel_rfl) (Nat.le_of_ble_eq_true (by kernel_rfl)) (Eq.mp (α := F104 t0 w R) (by kernel_rfl) h)
def F105 (t0 : Option Addr) (w : World) (R : Value → World → Prop) : Prop :=
 ∃ (b1 : Nat),
 ∃ (b2 : Nat),
 t0 = some ({ block := b1, off := b2 } : Addr) ∧
 ∃ (n3 : Int),
 w.drew.cell? ({ block := b1, off := b2 } : Addr) = some (Value.int IntKind.u64 n3) ∧
 ∃ (b4 : Nat),
 ∃ (b5 : Nat),
 t0 = some ({ block := b4, off := b5 } : Addr) ∧
 ∃ (n6 : Int),
 w.drew.cell? ({ block := b4, off := b5 } : Addr) = some (Value.int IntKind.u64 n6) ∧
 (0 : Int) ≤ (13 : Int) ∧
 ∃ (b7 : Nat),
 ∃ (b8 : Nat),
 t0 = some ({ block := b7, off := b8 } : Addr) ∧
 #[Value.int IntKind.u64 (bitsI BinOp.xor IntKind.u64 n3 (IntKind.u64.wrap (n6 * (2 : Int) ^ min (Int.toNat (13 : Int)) IntKind.u64.bits)))].size = (1 : Nat) ∧
 StoreP w.drew b7 b8 [Value.int IntKind.u64 (bitsI BinOp.xor IntKind.u64 n3 (IntKind.u64.wrap (n6 * (2 : Int) ^ min (Int.toNat (13 : Int)) IntKind.u64.bits)))] fun (w9 : World) =>
 ∃ (b10 : Nat),
 ∃ (b11 : Nat),
 t0 = some ({ block := b10, off := b11 } : Addr) ∧
 ∃ (n12 : Int),
 w9.drew.cell? ({ block := b10, off := b11 } : Addr) = some (Value.int IntKind.u64 n12) ∧
 ∃ (b13 : Nat),
 ∃ (b14 : Nat),
 t0 = some ({ block := b13, off := b14 } : Addr) ∧
 ∃ (n15 : Int),
 w9.drew.cell? ({ block := b13, off := b14 } : Addr) = some (Value.int IntKind.u64 n15) ∧
 (0 : Int) ≤ (7 : Int) ∧
 ∃ (b16 : Nat),
 ∃ (b17 : Nat),
 t0 = some ({ block := b16, off := b17 } : Addr) ∧
 #[Value.int IntKind.u64 (bitsI BinOp.xor IntKind.u64 n12 (n15.fdiv ((2 : Int) ^ min (Int.toNat (7 : Int)) IntKind.u64.bits)))].size = (1 : Nat) ∧
 StoreP w9.drew b16 b17 [Value.int IntKind.u64 (bitsI BinOp.xor IntKind.u64 n12 (n15.fdiv ((2 : Int) ^ min (Int.toNat (7 : Int)) IntKind.u64.bits)))] fun (w18 : World) =>
 ∃ (b19 : Nat),
 ∃ (b20 : Nat),
 t0 = some ({ block := b19, off := b20 } : Addr) ∧
 ∃ (n21 : Int),
 w18.drew.cell? ({ block := b19, off := b20 } : Addr) = some (Value.int IntKind.u64 n21) ∧
 ∃ (b22 : Nat),
 ∃ (b23 : Nat),
 t0 = some ({ block := b22, off := b23 } : Addr) ∧
 ∃ (n24 : Int),
 w18.drew.cell? ({ block := b22, off := b23 } : Addr) = some (Value.int IntKind.u64 n24) ∧
 (0 : Int) ≤ (17 : Int) ∧
 ∃ (b25 : Nat),
 ∃ (b26 : Nat),
 t0 = some ({ block := b25, off := b26 } : Addr) ∧
 #[Value.int IntKind.u64 (bitsI BinOp.xor IntKind.u64 n21 (IntKind.u64.wrap (n24 * (2 : Int) ^ min (Int.toNat (17 : Int)) IntKind.u64.bits)))].size = (1 : Nat) ∧
 StoreP w18.drew b25 b26 [Value.int IntKind.u64 (bitsI BinOp.xor IntKind.u64 n21 (IntKind.u64.wrap (n24 * (2 : Int) ^ min (Int.toNat (17 : Int)) IntKind.u64.bits)))] fun (w27 : World) =>
 ∃ (b28 : Nat), ∃ (b29 : Nat), t0 = some ({ block := b28, off := b29 } : Addr) ∧ ∃ (n30 : Int), w27.cell? ({ block := b28, off := b29 } : Addr) = some (Value.int IntKind.u64 n30) ∧ R (Value.int IntKind.u64 n30) w27
theorem F105_ok (t0 : Option Addr) (w : World) (R : Value → World → Prop) (h : F105 t0 w R) : CW Try.prog 105 #[Value.pointer t0] w R :=
  call_of tbOk mixed en105 Try.func105 rfl (.node (.nil) (.node (.draw (.st 0 (.st 1 (.st 2 (.st 3 (.st 4 (.st 5 (.st 6 (.st 7 (.st 8 (.ac 9 [] (.fin) (.non)))))))))))) (.node (.draw (.st 0 (.st 1 (.st 2 (.st 3 (.st 4 (.st 5 (.st 6 (.st 7 (.st 8 (.ac 9 [] (.fin) (.non)))))))))))) (.node (.draw (.st 0 (.st 1 (.st 2 (.st 3 (.st 4 (.st 5 (.st 6 (.st 7 (.st 8 (.ac 9 [] (.fin) (.non)))))))))))) (.nil))))) (by kernel_rfl) (Nat.le_of_ble_eq_true (by kernel_rfl)) (Eq.mp (α := F105 t0 w R) (by kernel_rfl) h)
def F109 (t0 : Sl) (t1 : Int) (t2 : Option Addr) (w : World) (R : Value → World → Prop) : Prop :=
 CX Try.prog (110 : Nat)
 #[Value.slice t0.1 t0.2 t0.3, Value.int IntKind.i64 (IntKind.i64.wrap (t1 - (1 : Int))), Value.int IntKind.i64 t1, Value.int IntKind.i64 (IntKind.i64.wrap (t1 + (1 : Int))), Value.pointer t2]
 w fun (v1 : Value) (w2 : World) => ∃ (n3 : Int), v1 = Value.int IntKind.i64 n3 ∧ R (Value.int IntKind.i64 n3) w2
theorem F109_ok (t0 : Sl) (t1 : Int) (t2 : Option Addr) (w : World) (R : Value → World → Prop) (h : F109 t0 t1 t2 w R) : CW Try.prog 109 #[Value.slice t0.1 t0.2 t0.3, Value.int IntKind.i64 t1, Value.pointer t2] w R :=
  call_of tbOk mixed en109 Try.func109 rfl (.nil) (by kernel_rfl) (Nat.le_of_ble_eq_true (by kernel_rfl)) (Eq.mp (α := F109 t0 t1 t2 w R) (by kernel_rfl) h)
def F110 (t0 : Sl) (t1 : Int) (t2 : Int) (t3 : Int) (t4 : Option Addr) (w : World) (R : Value → World → Prop) : Prop :=
 CX Try.prog (115 : Nat) #[Value.slice t0.1 t0.2 t0.3, Value.int IntKind.i64 t1, Value.int IntKind.i64 t2, Value.pointer t4] w fun (v1 : Value) (w2 : World) =>
 ∃ (x3 : Int × Int),
 v1 = Value.tuple #[Value.int IntKind.i64 x3.1, Value.int IntKind.i64 x3.2] ∧
 CX Try.prog (115 : Nat) #[Value.slice t0.1 t0.2 t0.3, Value.int IntKind.i64 x3.2, Value.int IntKind.i64 t3, Value.pointer t4] w2 fun (v4 : Value) (w5 : World) =>
 ∃ (x6 : Int × Int),
 v4 = Value.tuple #[Value.int IntKind.i64 x6.1, Value.int IntKind.i64 x6.2] ∧
 CX Try.prog (115 : Nat) #[Value.slice t0.1 t0.2 t0.3, Value.int IntKind.i64 x3.1, Value.int IntKind.i64 x6.1, Value.pointer t4] w5 fun (v7 : Value) (w8 : World) =>
 ∃ (x9 : Int × Int), v7 = Value.tuple #[Value.int IntKind.i64 x9.1, Value.int IntKind.i64 x9.2] ∧ R (Value.int IntKind.i64 x9.2) w8
theorem F110_ok (t0 : Sl) (t1 : Int) (t2 : Int) (t3 : Int) (t4 : Option Addr) (w : World) (R : Value → World → Prop) (h : F110 t0 t1 t2 t3 t4 w R) : CW Try.prog 110 #[Value.slice t0.1 t0.2 t0.3, Value.int IntKind.i64 t1, Value.int IntKind.i64 t2, Value.int IntKind.i64 t3, Value.pointer t4] w R :=
  call_of tbOk mixed en110 Try.func110 rfl (.nil) (by kernel_rfl) (Nat.le_of_ble_eq_true (by kernel_rfl)) (Eq.mp (α := F110 t0 t1 t2 t3 t4 w R) (by kernel_rfl) h)
def F63 (t0 : Int) (w : World) (R : Value → World → Prop) : Prop :=
 R (Value.bool (t0 != t0)) w
theorem F63_ok (t0 : Int) (w : World) (R : Value → World → Prop) (h : F63 t0 w R) : CW Try.prog 63 #[Value.int IntKind.i64 t0] w R :=
  call_of tbOk mixed en63 Try.func63 rfl (.nil) (by kernel_rfl) (Nat.le_of_ble_eq_true (by kernel_rfl)) (Eq.mp (α := F63 t0 w R) (by kernel_rfl) h)
def F115 (t0 : Sl) (t1 : Int) (t2 : Int) (t3 : Option Addr) (w : World) (R : Value → World → Prop) : Prop :=
 ∃ (b1 : Nat),
 ∃ (b2 : Nat),
 t0.1 = some ({ block := b1, off := b2 } : Addr) ∧
 ((0 : Int) ≤ t2 ∧ t2 < (t0.2 : Int)) ∧
 ∃ (n3 : Int),
 w.drew.cell? ({ block := b1, off := b2 + t2.toNat } : Addr) = some (Value.int IntKind.i64 n3) ∧
 ∃ (b4 : Nat),
 ∃ (b5 : Nat),
 t0.1 = some ({ block := b4, off := b5 } : Addr) ∧
 ((0 : Int) ≤ t1 ∧ t1 < (t0.2 : Int)) ∧
 ∃ (n6 : Int),
 w.drew.cell? ({ block := b4, off := b5 + t1.toNat } : Addr) = some (Value.int IntKind.i64 n6) ∧
 CX Try.prog (92 : Nat) #[Value.int IntKind.i64 n3, Value.int IntKind.i64 n6] w.drew fun (v7 : Value) (w8 : World) =>
 ∃ (t9 : Bool),
 v7 = Value.bool t9 ∧
 IfB t9
 (∃ (b10 : Nat),
 ∃ (b11 : Nat),
 t3 = some ({ block := b10, off := b11 } : Addr) ∧
 ∃ (n12 : Int),
 w8.cell? ({ block := b10, off := b11 } : Addr) = some (Value.int IntKind.i64 n12) ∧
 ∃ (b13 : Nat),
 ∃ (b14 : Nat),
 t3 = some ({ block := b13, off := b14 } : Addr) ∧
 #[Value.int IntKind.i64 (IntKind.i64.wrap (n12 + (1 : Int)))].size = (1 : Nat) ∧
 StoreP w8 b13 b14 [Value.int IntKind.i64 (IntKind.i64.wrap (n12 + (1 : Int)))] fun (w15 : World) => R (Value.tuple #[Value.int IntKind.i64 t2, Value.int IntKind.i64 t1]) w15)
 (R (Value.tuple #[Value.int IntKind.i64 t1, Value.int IntKind.i64 t2]) w8)
theorem F115_ok (t0 : Sl) (t1 : Int) (t2 : Int) (t3 : Option Addr) (w : World) (R : Value → World → Prop) (h : F115 t0 t1 t2 t3 w R) : CW Try.prog 115 #[Value.slice t0.1 t0.2 t0.3, Value.int IntKind.i64 t1, Value.int IntKind.i64 t2, Value.pointer t3] w R :=
  call_of tbOk mixed en115 Try.func115 rfl (.node (.nil) (.node (.node (.draw (.st 0 (.st 1 (.st 2 (.st 3 (.st 4 (.st 5 (.st 6 (.st 7 (.ac 8 [] (.fin) (.non))))))))))) (.nil)) (.nil))) (by kernel_rfl) (Nat.le_of_ble_eq_true (by kernel_rfl)) (Eq.mp (α := F115 t0 t1 t2 t3 w R) (by kernel_rfl) h)
end Go.Proofs.Ytmmhbjbaallkfaa.Gx
