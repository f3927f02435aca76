/- Written by mktab.py: the types that the functions of this seat use, as Gx reads them, and the facts on each function. -/
import Derived.Test.YtmmhbjbaallkfaaProg
import Derived.Test.YtmmhbjbaallkfaaGxA
import Derived.KernelRfl
namespace Go.Proofs.Ytmmhbjbaallkfaa.Gx
open Go
abbrev tt0 : TI := { kd := .other, size := 1, bytes := 0, zero := (.tuple #[]), sh := .tup [] }
abbrev tt3 : TI := { kd := .int .i64, size := 1, bytes := 8, zero := (.int .i64 0), sh := .one (.int .i64) }
abbrev tt4 : TI := { kd := .bool, size := 1, bytes := 1, zero := (.bool false), sh := .one .bool }
abbrev tt5 : TI := { kd := .int .u8, size := 1, bytes := 1, zero := (.int .u8 0), sh := .one (.int .u8) }
abbrev tt9 : TI := { kd := .string, size := 1, bytes := 16, zero := (.string ⟨#[]⟩), sh := .one .str }
abbrev tt20 : TI := { kd := .iface, size := 1, bytes := 16, zero := .nilIface, sh := .one .any }
abbrev tt22 : TI := { kd := .slice 27, size := 1, bytes := 24, zero := (.slice none 0 0), sh := .one .sl }
abbrev tt25 : TI := { kd := .slice 51, size := 1, bytes := 24, zero := (.slice none 0 0), sh := .one .sl }
abbrev tt27 : TI := { kd := .struct [(3, 0), (3, 1), (3, 2), (4, 3), (25, 4), (25, 5)], size := 6, bytes := 80, zero := (.agg #[(.int .i64 0), (.int .i64 0), (.int .i64 0), (.bool false), (.slice none 0 0), (.slice none 0 0)]), sh := .agg [.int .i64, .int .i64, .int .i64, .bool, .sl, .sl] }
abbrev tt29 : TI := { kd := .slice 31, size := 1, bytes := 24, zero := (.slice none 0 0), sh := .one .sl }
abbrev tt31 : TI := { kd := .slice 3, size := 1, bytes := 24, zero := (.slice none 0 0), sh := .one .sl }
abbrev tt33 : TI := { kd := .slice 37, size := 1, bytes := 24, zero := (.slice none 0 0), sh := .one .sl }
abbrev tt37 : TI := { kd := .slice 4, size := 1, bytes := 24, zero := (.slice none 0 0), sh := .one .sl }
abbrev tt40 : TI := { kd := .slice 44, size := 1, bytes := 24, zero := (.slice none 0 0), sh := .one .sl }
abbrev tt44 : TI := { kd := .array 2 3, size := 2, bytes := 16, zero := (.agg #[(.int .i64 0), (.int .i64 0)]), sh := .agg [.int .i64, .int .i64] }
abbrev tt48 : TI := { kd := .other, size := 1, bytes := 0, zero := (.tuple #[(.slice none 0 0), (.bool false)]), sh := .tup [.sl, .bool] }
abbrev tt51 : TI := { kd := .struct [(3, 0), (3, 1)], size := 2, bytes := 16, zero := (.agg #[(.int .i64 0), (.int .i64 0)]), sh := .agg [.int .i64, .int .i64] }
abbrev tt52 : TI := { kd := .ptr, size := 1, bytes := 8, zero := (.pointer none), sh := .one .ptr }
abbrev tt57 : TI := { kd := .func, size := 1, bytes := 8, zero := .nilFunc, sh := .one .clo }
abbrev tt59 : TI := { kd := .map 44 4, size := 1, bytes := 8, zero := (.map none), sh := .one .map }
abbrev tt63 : TI := { kd := .func, size := 1, bytes := 8, zero := .nilFunc, sh := .one .clo }
abbrev tt67 : TI := { kd := .func, size := 1, bytes := 8, zero := .nilFunc, sh := .one .clo }
abbrev tt70 : TI := { kd := .map 3 4, size := 1, bytes := 8, zero := (.map none), sh := .one .map }
abbrev tt72 : TI := { kd := .array 1000 4, size := 1000, bytes := 1000, zero := (.agg (Array.replicate 1000 (.bool false))), sh := .one .arr }
abbrev tt73 : TI := { kd := .func, size := 1, bytes := 8, zero := .nilFunc, sh := .one .clo }
abbrev tt74 : TI := { kd := .func, size := 1, bytes := 8, zero := .nilFunc, sh := .one .clo }
abbrev tt75 : TI := { kd := .func, size := 1, bytes := 8, zero := .nilFunc, sh := .one .clo }
abbrev tt78 : TI := { kd := .func, size := 1, bytes := 8, zero := .nilFunc, sh := .one .clo }
abbrev tt79 : TI := { kd := .func, size := 1, bytes := 8, zero := .nilFunc, sh := .one .clo }
abbrev tt84 : TI := { kd := .int .u64, size := 1, bytes := 8, zero := (.int .u64 0), sh := .one (.int .u64) }
abbrev tt87 : TI := { kd := .func, size := 1, bytes := 8, zero := .nilFunc, sh := .one .clo }
abbrev tt91 : TI := { kd := .func, size := 1, bytes := 8, zero := .nilFunc, sh := .one .clo }
abbrev tt92 : TI := { kd := .func, size := 1, bytes := 8, zero := .nilFunc, sh := .one .clo }
abbrev tt93 : TI := { kd := .func, size := 1, bytes := 8, zero := .nilFunc, sh := .one .clo }
abbrev tt97 : TI := { kd := .int .i64, size := 1, bytes := 8, zero := (.int .i64 0), sh := .one (.int .i64) }
abbrev tt98 : TI := { kd := .other, size := 1, bytes := 0, zero := (.tuple #[(.int .i64 0), (.int .i64 0)]), sh := .tup [.int .i64, .int .i64] }
abbrev tt102 : TI := { kd := .other, size := 1, bytes := 0, zero := (.tuple #[(.int .i64 0), (.bool false)]), sh := .tup [.int .i64, .bool] }
abbrev tt105 : TI := { kd := .int .u32, size := 1, bytes := 4, zero := (.int .u32 0), sh := .one (.int .u32) }
abbrev tt107 : TI := { kd := .int .u64, size := 1, bytes := 8, zero := (.int .u64 0), sh := .one (.int .u64) }
abbrev tt116 : TI := { kd := .func, size := 1, bytes := 8, zero := .nilFunc, sh := .one .clo }
abbrev tt117 : TI := { kd := .slice 25, size := 1, bytes := 24, zero := (.slice none 0 0), sh := .one .sl }
abbrev tt120 : TI := { kd := .func, size := 1, bytes := 8, zero := .nilFunc, sh := .one .clo }
abbrev tt121 : TI := { kd := .int .u64, size := 1, bytes := 8, zero := (.int .u64 0), sh := .one (.int .u64) }
abbrev tt125 : TI := { kd := .ptr, size := 1, bytes := 8, zero := (.pointer none), sh := .one .ptr }
abbrev tt132 : TI := { kd := .ptr, size := 1, bytes := 8, zero := (.pointer none), sh := .one .ptr }
abbrev tt133 : TI := { kd := .other, size := 1, bytes := 0, zero := (.tuple #[(.int .i64 0), (.int .i64 0)]), sh := .tup [.int .i64, .int .i64] }

def tbL : List (Nat × TI) := [
  (0, { kd := .other, size := 1, bytes := 0, zero := (.tuple #[]), sh := .tup [] }),
  (3, { kd := .int .i64, size := 1, bytes := 8, zero := (.int .i64 0), sh := .one (.int .i64) }),
  (4, { kd := .bool, size := 1, bytes := 1, zero := (.bool false), sh := .one .bool }),
  (5, { kd := .int .u8, size := 1, bytes := 1, zero := (.int .u8 0), sh := .one (.int .u8) }),
  (9, { kd := .string, size := 1, bytes := 16, zero := (.string ⟨#[]⟩), sh := .one .str }),
  (20, { kd := .iface, size := 1, bytes := 16, zero := .nilIface, sh := .one .any }),
  (22, { kd := .slice 27, size := 1, bytes := 24, zero := (.slice none 0 0), sh := .one .sl }),
  (25, { kd := .slice 51, size := 1, bytes := 24, zero := (.slice none 0 0), sh := .one .sl }),
  (27, { kd := .struct [(3, 0), (3, 1), (3, 2), (4, 3), (25, 4), (25, 5)], size := 6, bytes := 80, zero := (.agg #[(.int .i64 0), (.int .i64 0), (.int .i64 0), (.bool false), (.slice none 0 0), (.slice none 0 0)]), sh := .agg [.int .i64, .int .i64, .int .i64, .bool, .sl, .sl] }),
  (29, { kd := .slice 31, size := 1, bytes := 24, zero := (.slice none 0 0), sh := .one .sl }),
  (31, { kd := .slice 3, size := 1, bytes := 24, zero := (.slice none 0 0), sh := .one .sl }),
  (33, { kd := .slice 37, size := 1, bytes := 24, zero := (.slice none 0 0), sh := .one .sl }),
  (37, { kd := .slice 4, size := 1, bytes := 24, zero := (.slice none 0 0), sh := .one .sl }),
  (40, { kd := .slice 44, size := 1, bytes := 24, zero := (.slice none 0 0), sh := .one .sl }),
  (44, { kd := .array 2 3, size := 2, bytes := 16, zero := (.agg #[(.int .i64 0), (.int .i64 0)]), sh := .agg [.int .i64, .int .i64] }),
  (48, { kd := .other, size := 1, bytes := 0, zero := (.tuple #[(.slice none 0 0), (.bool false)]), sh := .tup [.sl, .bool] }),
  (51, { kd := .struct [(3, 0), (3, 1)], size := 2, bytes := 16, zero := (.agg #[(.int .i64 0), (.int .i64 0)]), sh := .agg [.int .i64, .int .i64] }),
  (52, { kd := .ptr, size := 1, bytes := 8, zero := (.pointer none), sh := .one .ptr }),
  (57, { kd := .func, size := 1, bytes := 8, zero := .nilFunc, sh := .one .clo }),
  (59, { kd := .map 44 4, size := 1, bytes := 8, zero := (.map none), sh := .one .map }),
  (63, { kd := .func, size := 1, bytes := 8, zero := .nilFunc, sh := .one .clo }),
  (67, { kd := .func, size := 1, bytes := 8, zero := .nilFunc, sh := .one .clo }),
  (70, { kd := .map 3 4, size := 1, bytes := 8, zero := (.map none), sh := .one .map }),
  (72, { kd := .array 1000 4, size := 1000, bytes := 1000, zero := (.agg (Array.replicate 1000 (.bool false))), sh := .one .arr }),
  (73, { kd := .func, size := 1, bytes := 8, zero := .nilFunc, sh := .one .clo }),
  (74, { kd := .func, size := 1, bytes := 8, zero := .nilFunc, sh := .one .clo }),
  (75, { kd := .func, size := 1, bytes := 8, zero := .nilFunc, sh := .one .clo }),
  (78, { kd := .func, size := 1, bytes := 8, zero := .nilFunc, sh := .one .clo }),
  (79, { kd := .func, size := 1, bytes := 8, zero := .nilFunc, sh := .one .clo }),
  (84, { kd := .int .u64, size := 1, bytes := 8, zero := (.int .u64 0), sh := .one (.int .u64) }),
  (87, { kd := .func, size := 1, bytes := 8, zero := .nilFunc, sh := .one .clo }),
  (91, { kd := .func, size := 1, bytes := 8, zero := .nilFunc, sh := .one .clo }),
  (92, { kd := .func, size := 1, bytes := 8, zero := .nilFunc, sh := .one .clo }),
  (93, { kd := .func, size := 1, bytes := 8, zero := .nilFunc, sh := .one .clo }),
  (97, { kd := .int .i64, size := 1, bytes := 8, zero := (.int .i64 0), sh := .one (.int .i64) }),
  (98, { kd := .other, size := 1, bytes := 0, zero := (.tuple #[(.int .i64 0), (.int .i64 0)]), sh := .tup [.int .i64, .int .i64] }),
  (102, { kd := .other, size := 1, bytes := 0, zero := (.tuple #[(.int .i64 0), (.bool false)]), sh := .tup [.int .i64, .bool] }),
  (105, { kd := .int .u32, size := 1, bytes := 4, zero := (.int .u32 0), sh := .one (.int .u32) }),
  (107, { kd := .int .u64, size := 1, bytes := 8, zero := (.int .u64 0), sh := .one (.int .u64) }),
  (116, { kd := .func, size := 1, bytes := 8, zero := .nilFunc, sh := .one .clo }),
  (117, { kd := .slice 25, size := 1, bytes := 24, zero := (.slice none 0 0), sh := .one .sl }),
  (120, { kd := .func, size := 1, bytes := 8, zero := .nilFunc, sh := .one .clo }),
  (121, { kd := .int .u64, size := 1, bytes := 8, zero := (.int .u64 0), sh := .one (.int .u64) }),
  (125, { kd := .ptr, size := 1, bytes := 8, zero := (.pointer none), sh := .one .ptr }),
  (132, { kd := .ptr, size := 1, bytes := 8, zero := (.pointer none), sh := .one .ptr }),
  (133, { kd := .other, size := 1, bytes := 0, zero := (.tuple #[(.int .i64 0), (.int .i64 0)]), sh := .tup [.int .i64, .int .i64] })
  ]
def tb : Tab := fun t => lkT t tbL

theorem ti0 : TI.Ok Try.prog 0 { kd := .other, size := 1, bytes := 0, zero := (.tuple #[]), sh := .tup [] } := ⟨by kernel_rfl, by kernel_rfl, by rfl⟩
theorem ti3 : TI.Ok Try.prog 3 { kd := .int .i64, size := 1, bytes := 8, zero := (.int .i64 0), sh := .one (.int .i64) } := ⟨by kernel_rfl, by kernel_rfl, by rfl⟩
theorem ti4 : TI.Ok Try.prog 4 { kd := .bool, size := 1, bytes := 1, zero := (.bool false), sh := .one .bool } := ⟨by kernel_rfl, by kernel_rfl, by rfl⟩
theorem ti5 : TI.Ok Try.prog 5 { kd := .int .u8, size := 1, bytes := 1, zero := (.int .u8 0), sh := .one (.int .u8) } := ⟨by kernel_rfl, by kernel_rfl, by rfl⟩
theorem ti9 : TI.Ok Try.prog 9 { kd := .string, size := 1, bytes := 16, zero := (.string ⟨#[]⟩), sh := .one .str } := ⟨by kernel_rfl, by kernel_rfl, by rfl⟩
theorem ti20 : TI.Ok Try.prog 20 { kd := .iface, size := 1, bytes := 16, zero := .nilIface, sh := .one .any } := ⟨by kernel_rfl, by kernel_rfl, by rfl⟩
theorem ti22 : TI.Ok Try.prog 22 { kd := .slice 27, size := 1, bytes := 24, zero := (.slice none 0 0), sh := .one .sl } := ⟨by kernel_rfl, by kernel_rfl, by rfl⟩
theorem ti25 : TI.Ok Try.prog 25 { kd := .slice 51, size := 1, bytes := 24, zero := (.slice none 0 0), sh := .one .sl } := ⟨by kernel_rfl, by kernel_rfl, by rfl⟩
theorem ti27 : TI.Ok Try.prog 27 { kd := .struct [(3, 0), (3, 1), (3, 2), (4, 3), (25, 4), (25, 5)], size := 6, bytes := 80, zero := (.agg #[(.int .i64 0), (.int .i64 0), (.int .i64 0), (.bool false), (.slice none 0 0), (.slice none 0 0)]), sh := .agg [.int .i64, .int .i64, .int .i64, .bool, .sl, .sl] } := ⟨by kernel_rfl, by kernel_rfl, by rfl⟩
theorem ti29 : TI.Ok Try.prog 29 { kd := .slice 31, size := 1, bytes := 24, zero := (.slice none 0 0), sh := .one .sl } := ⟨by kernel_rfl, by kernel_rfl, by rfl⟩
theorem ti31 : TI.Ok Try.prog 31 { kd := .slice 3, size := 1, bytes := 24, zero := (.slice none 0 0), sh := .one .sl } := ⟨by kernel_rfl, by kernel_rfl, by rfl⟩
theorem ti33 : TI.Ok Try.prog 33 { kd := .slice 37, size := 1, bytes := 24, zero := (.slice none 0 0), sh := .one .sl } := ⟨by kernel_rfl, by kernel_rfl, by rfl⟩
theorem ti37 : TI.Ok Try.prog 37 { kd := .slice 4, size := 1, bytes := 24, zero := (.slice none 0 0), sh := .one .sl } := ⟨by kernel_rfl, by kernel_rfl, by rfl⟩
theorem ti40 : TI.Ok Try.prog 40 { kd := .slice 44, size := 1, bytes := 24, zero := (.slice none 0 0), sh := .one .sl } := ⟨by kernel_rfl, by kernel_rfl, by rfl⟩
theorem ti44 : TI.Ok Try.prog 44 { kd := .array 2 3, size := 2, bytes := 16, zero := (.agg #[(.int .i64 0), (.int .i64 0)]), sh := .agg [.int .i64, .int .i64] } := ⟨by kernel_rfl, by kernel_rfl, by rfl⟩
theorem ti48 : TI.Ok Try.prog 48 { kd := .other, size := 1, bytes := 0, zero := (.tuple #[(.slice none 0 0), (.bool false)]), sh := .tup [.sl, .bool] } := ⟨by kernel_rfl, by kernel_rfl, by rfl⟩
theorem ti51 : TI.Ok Try.prog 51 { kd := .struct [(3, 0), (3, 1)], size := 2, bytes := 16, zero := (.agg #[(.int .i64 0), (.int .i64 0)]), sh := .agg [.int .i64, .int .i64] } := ⟨by kernel_rfl, by kernel_rfl, by rfl⟩
theorem ti52 : TI.Ok Try.prog 52 { kd := .ptr, size := 1, bytes := 8, zero := (.pointer none), sh := .one .ptr } := ⟨by kernel_rfl, by kernel_rfl, by rfl⟩
theorem ti57 : TI.Ok Try.prog 57 { kd := .func, size := 1, bytes := 8, zero := .nilFunc, sh := .one .clo } := ⟨by kernel_rfl, by kernel_rfl, by rfl⟩
theorem ti59 : TI.Ok Try.prog 59 { kd := .map 44 4, size := 1, bytes := 8, zero := (.map none), sh := .one .map } := ⟨by kernel_rfl, by kernel_rfl, by rfl⟩
theorem ti63 : TI.Ok Try.prog 63 { kd := .func, size := 1, bytes := 8, zero := .nilFunc, sh := .one .clo } := ⟨by kernel_rfl, by kernel_rfl, by rfl⟩
theorem ti67 : TI.Ok Try.prog 67 { kd := .func, size := 1, bytes := 8, zero := .nilFunc, sh := .one .clo } := ⟨by kernel_rfl, by kernel_rfl, by rfl⟩
theorem ti70 : TI.Ok Try.prog 70 { kd := .map 3 4, size := 1, bytes := 8, zero := (.map none), sh := .one .map } := ⟨by kernel_rfl, by kernel_rfl, by rfl⟩
theorem ti72 : TI.Ok Try.prog 72 { kd := .array 1000 4, size := 1000, bytes := 1000, zero := (.agg (Array.replicate 1000 (.bool false))), sh := .one .arr } := ⟨by kernel_rfl, by kernel_rfl, by simp [Value.cells]⟩
theorem ti73 : TI.Ok Try.prog 73 { kd := .func, size := 1, bytes := 8, zero := .nilFunc, sh := .one .clo } := ⟨by kernel_rfl, by kernel_rfl, by rfl⟩
theorem ti74 : TI.Ok Try.prog 74 { kd := .func, size := 1, bytes := 8, zero := .nilFunc, sh := .one .clo } := ⟨by kernel_rfl, by kernel_rfl, by rfl⟩
theorem ti75 : TI.Ok Try.prog 75 { kd := .func, size := 1, bytes := 8, zero := .nilFunc, sh := .one .clo } := ⟨by kernel_rfl, by kernel_rfl, by rfl⟩
theorem ti78 : TI.Ok Try.prog 78 { kd := .func, size := 1, bytes := 8, zero := .nilFunc, sh := .one .clo } := ⟨by kernel_rfl, by kernel_rfl, by rfl⟩
theorem ti79 : TI.Ok Try.prog 79 { kd := .func, size := 1, bytes := 8, zero := .nilFunc, sh := .one .clo } := ⟨by kernel_rfl, by kernel_rfl, by rfl⟩
theorem ti84 : TI.Ok Try.prog 84 { kd := .int .u64, size := 1, bytes := 8, zero := (.int .u64 0), sh := .one (.int .u64) } := ⟨by kernel_rfl, by kernel_rfl, by rfl⟩
theorem ti87 : TI.Ok Try.prog 87 { kd := .func, size := 1, bytes := 8, zero := .nilFunc, sh := .one .clo } := ⟨by kernel_rfl, by kernel_rfl, by rfl⟩
theorem ti91 : TI.Ok Try.prog 91 { kd := .func, size := 1, bytes := 8, zero := .nilFunc, sh := .one .clo } := ⟨by kernel_rfl, by kernel_rfl, by rfl⟩
theorem ti92 : TI.Ok Try.prog 92 { kd := .func, size := 1, bytes := 8, zero := .nilFunc, sh := .one .clo } := ⟨by kernel_rfl, by kernel_rfl, by rfl⟩
theorem ti93 : TI.Ok Try.prog 93 { kd := .func, size := 1, bytes := 8, zero := .nilFunc, sh := .one .clo } := ⟨by kernel_rfl, by kernel_rfl, by rfl⟩
theorem ti97 : TI.Ok Try.prog 97 { kd := .int .i64, size := 1, bytes := 8, zero := (.int .i64 0), sh := .one (.int .i64) } := ⟨by kernel_rfl, by kernel_rfl, by rfl⟩
theorem ti98 : TI.Ok Try.prog 98 { kd := .other, size := 1, bytes := 0, zero := (.tuple #[(.int .i64 0), (.int .i64 0)]), sh := .tup [.int .i64, .int .i64] } := ⟨by kernel_rfl, by kernel_rfl, by rfl⟩
theorem ti102 : TI.Ok Try.prog 102 { kd := .other, size := 1, bytes := 0, zero := (.tuple #[(.int .i64 0), (.bool false)]), sh := .tup [.int .i64, .bool] } := ⟨by kernel_rfl, by kernel_rfl, by rfl⟩
theorem ti105 : TI.Ok Try.prog 105 { kd := .int .u32, size := 1, bytes := 4, zero := (.int .u32 0), sh := .one (.int .u32) } := ⟨by kernel_rfl, by kernel_rfl, by rfl⟩
theorem ti107 : TI.Ok Try.prog 107 { kd := .int .u64, size := 1, bytes := 8, zero := (.int .u64 0), sh := .one (.int .u64) } := ⟨by kernel_rfl, by kernel_rfl, by rfl⟩
theorem ti116 : TI.Ok Try.prog 116 { kd := .func, size := 1, bytes := 8, zero := .nilFunc, sh := .one .clo } := ⟨by kernel_rfl, by kernel_rfl, by rfl⟩
theorem ti117 : TI.Ok Try.prog 117 { kd := .slice 25, size := 1, bytes := 24, zero := (.slice none 0 0), sh := .one .sl } := ⟨by kernel_rfl, by kernel_rfl, by rfl⟩
theorem ti120 : TI.Ok Try.prog 120 { kd := .func, size := 1, bytes := 8, zero := .nilFunc, sh := .one .clo } := ⟨by kernel_rfl, by kernel_rfl, by rfl⟩
theorem ti121 : TI.Ok Try.prog 121 { kd := .int .u64, size := 1, bytes := 8, zero := (.int .u64 0), sh := .one (.int .u64) } := ⟨by kernel_rfl, by kernel_rfl, by rfl⟩
theorem ti125 : TI.Ok Try.prog 125 { kd := .ptr, size := 1, bytes := 8, zero := (.pointer none), sh := .one .ptr } := ⟨by kernel_rfl, by kernel_rfl, by rfl⟩
theorem ti132 : TI.Ok Try.prog 132 { kd := .ptr, size := 1, bytes := 8, zero := (.pointer none), sh := .one .ptr } := ⟨by kernel_rfl, by kernel_rfl, by rfl⟩
theorem ti133 : TI.Ok Try.prog 133 { kd := .other, size := 1, bytes := 0, zero := (.tuple #[(.int .i64 0), (.int .i64 0)]), sh := .tup [.int .i64, .int .i64] } := ⟨by kernel_rfl, by kernel_rfl, by rfl⟩

theorem lkT_mem {t : Nat} {i : TI} : ∀ {l : List (Nat × TI)}, lkT t l = some i → (t, i) ∈ l
  | [], h => by cases h
  | q :: l, h => by
    unfold lkT at h
    split at h
    · rename_i e
      have := Nat.eq_of_beq_eq_true e
      subst this
      cases h
      exact List.mem_cons_self ..
    · exact List.mem_cons_of_mem _ (lkT_mem h)

theorem tbOk : tb.Ok Try.prog := by
  intro t i h
  have h := lkT_mem h
  simp only [tbL, List.mem_cons, List.not_mem_nil, or_false, Prod.mk.injEq] at h
  rcases h with ⟨rfl, rfl⟩ | ⟨rfl, rfl⟩ | ⟨rfl, rfl⟩ | ⟨rfl, rfl⟩ | ⟨rfl, rfl⟩ | ⟨rfl, rfl⟩ | ⟨rfl, rfl⟩ | ⟨rfl, rfl⟩ | ⟨rfl, rfl⟩ | ⟨rfl, rfl⟩ | ⟨rfl, rfl⟩ | ⟨rfl, rfl⟩ | ⟨rfl, rfl⟩ | ⟨rfl, rfl⟩ | ⟨rfl, rfl⟩ | ⟨rfl, rfl⟩ | ⟨rfl, rfl⟩ | ⟨rfl, rfl⟩ | ⟨rfl, rfl⟩ | ⟨rfl, rfl⟩ | ⟨rfl, rfl⟩ | ⟨rfl, rfl⟩ | ⟨rfl, rfl⟩ | ⟨rfl, rfl⟩ | ⟨rfl, rfl⟩ | ⟨rfl, rfl⟩ | ⟨rfl, rfl⟩ | ⟨rfl, rfl⟩ | ⟨rfl, rfl⟩ | ⟨rfl, rfl⟩ | ⟨rfl, rfl⟩ | ⟨rfl, rfl⟩ | ⟨rfl, rfl⟩ | ⟨rfl, rfl⟩ | ⟨rfl, rfl⟩ | ⟨rfl, rfl⟩ | ⟨rfl, rfl⟩ | ⟨rfl, rfl⟩ | ⟨rfl, rfl⟩ | ⟨rfl, rfl⟩ | ⟨rfl, rfl⟩ | ⟨rfl, rfl⟩ | ⟨rfl, rfl⟩ | ⟨rfl, rfl⟩ | ⟨rfl, rfl⟩ | ⟨rfl, rfl⟩
  · exact ti0
  · exact ti3
  · exact ti4
  · exact ti5
  · exact ti9
  · exact ti20
  · exact ti22
  · exact ti25
  · exact ti27
  · exact ti29
  · exact ti31
  · exact ti33
  · exact ti37
  · exact ti40
  · exact ti44
  · exact ti48
  · exact ti51
  · exact ti52
  · exact ti57
  · exact ti59
  · exact ti63
  · exact ti67
  · exact ti70
  · exact ti72
  · exact ti73
  · exact ti74
  · exact ti75
  · exact ti78
  · exact ti79
  · exact ti84
  · exact ti87
  · exact ti91
  · exact ti92
  · exact ti93
  · exact ti97
  · exact ti98
  · exact ti102
  · exact ti105
  · exact ti107
  · exact ti116
  · exact ti117
  · exact ti120
  · exact ti121
  · exact ti125
  · exact ti132
  · exact ti133

theorem mixed : Try.prog.follows .mixedOrders = true := by kernel_rfl

theorem en3 : Entr Try.prog 3 := entr_of Try.func3 (by kernel_rfl) (by kernel_rfl)
theorem en4 : Entr Try.prog 4 := entr_of Try.func4 (by kernel_rfl) (by kernel_rfl)
theorem en5 : Entr Try.prog 5 := entr_of Try.func5 (by kernel_rfl) (by kernel_rfl)
theorem en6 : Entr Try.prog 6 := entr_of Try.func6 (by kernel_rfl) (by kernel_rfl)
theorem en7 : Entr Try.prog 7 := entr_of Try.func7 (by kernel_rfl) (by kernel_rfl)
theorem en8 : Entr Try.prog 8 := entr_of Try.func8 (by kernel_rfl) (by kernel_rfl)
theorem en9 : Entr Try.prog 9 := entr_of Try.func9 (by kernel_rfl) (by kernel_rfl)
theorem en10 : Entr Try.prog 10 := entr_of Try.func10 (by kernel_rfl) (by kernel_rfl)
theorem en11 : Entr Try.prog 11 := entr_of Try.func11 (by kernel_rfl) (by kernel_rfl)
theorem en12 : Entr Try.prog 12 := entr_of Try.func12 (by kernel_rfl) (by kernel_rfl)
theorem en13 : Entr Try.prog 13 := entr_of Try.func13 (by kernel_rfl) (by kernel_rfl)
theorem en14 : Entr Try.prog 14 := entr_of Try.func14 (by kernel_rfl) (by kernel_rfl)
theorem en15 : Entr Try.prog 15 := entr_of Try.func15 (by kernel_rfl) (by kernel_rfl)
theorem en16 : Entr Try.prog 16 := entr_of Try.func16 (by kernel_rfl) (by kernel_rfl)
theorem en17 : Entr Try.prog 17 := entr_of Try.func17 (by kernel_rfl) (by kernel_rfl)
theorem en18 : Entr Try.prog 18 := entr_of Try.func18 (by kernel_rfl) (by kernel_rfl)
theorem en19 : Entr Try.prog 19 := entr_of Try.func19 (by kernel_rfl) (by kernel_rfl)
theorem en20 : Entr Try.prog 20 := entr_of Try.func20 (by kernel_rfl) (by kernel_rfl)
theorem en21 : Entr Try.prog 21 := entr_of Try.func21 (by kernel_rfl) (by kernel_rfl)
theorem en22 : Entr Try.prog 22 := entr_of Try.func22 (by kernel_rfl) (by kernel_rfl)
theorem en23 : Entr Try.prog 23 := entr_of Try.func23 (by kernel_rfl) (by kernel_rfl)
theorem en24 : Entr Try.prog 24 := entr_of Try.func24 (by kernel_rfl) (by kernel_rfl)
theorem en25 : Entr Try.prog 25 := entr_of Try.func25 (by kernel_rfl) (by kernel_rfl)
theorem en26 : Entr Try.prog 26 := entr_of Try.func26 (by kernel_rfl) (by kernel_rfl)
theorem en27 : Entr Try.prog 27 := entr_of Try.func27 (by kernel_rfl) (by kernel_rfl)
theorem en28 : Entr Try.prog 28 := entr_of Try.func28 (by kernel_rfl) (by kernel_rfl)
theorem en29 : Entr Try.prog 29 := entr_of Try.func29 (by kernel_rfl) (by kernel_rfl)
theorem en30 : Entr Try.prog 30 := entr_of Try.func30 (by kernel_rfl) (by kernel_rfl)
theorem en31 : Entr Try.prog 31 := entr_of Try.func31 (by kernel_rfl) (by kernel_rfl)
theorem en32 : Entr Try.prog 32 := entr_of Try.func32 (by kernel_rfl) (by kernel_rfl)
theorem en33 : Entr Try.prog 33 := entr_of Try.func33 (by kernel_rfl) (by kernel_rfl)
theorem en34 : Entr Try.prog 34 := entr_of Try.func34 (by kernel_rfl) (by kernel_rfl)
theorem en35 : Entr Try.prog 35 := entr_of Try.func35 (by kernel_rfl) (by kernel_rfl)
theorem en36 : Entr Try.prog 36 := entr_of Try.func36 (by kernel_rfl) (by kernel_rfl)
theorem en37 : Entr Try.prog 37 := entr_of Try.func37 (by kernel_rfl) (by kernel_rfl)
theorem en38 : Entr Try.prog 38 := entr_of Try.func38 (by kernel_rfl) (by kernel_rfl)
theorem en39 : Entr Try.prog 39 := entr_of Try.func39 (by kernel_rfl) (by kernel_rfl)
theorem en40 : Entr Try.prog 40 := entr_of Try.func40 (by kernel_rfl) (by kernel_rfl)
theorem en41 : Entr Try.prog 41 := entr_of Try.func41 (by kernel_rfl) (by kernel_rfl)
theorem en42 : Entr Try.prog 42 := entr_of Try.func42 (by kernel_rfl) (by kernel_rfl)
theorem en43 : Entr Try.prog 43 := entr_of Try.func43 (by kernel_rfl) (by kernel_rfl)
theorem en44 : Entr Try.prog 44 := entr_of Try.func44 (by kernel_rfl) (by kernel_rfl)
theorem en45 : Entr Try.prog 45 := entr_of Try.func45 (by kernel_rfl) (by kernel_rfl)
theorem en46 : Entr Try.prog 46 := entr_of Try.func46 (by kernel_rfl) (by kernel_rfl)
theorem en47 : Entr Try.prog 47 := entr_of Try.func47 (by kernel_rfl) (by kernel_rfl)
theorem en48 : Entr Try.prog 48 := entr_of Try.func48 (by kernel_rfl) (by kernel_rfl)
theorem en49 : Entr Try.prog 49 := entr_of Try.func49 (by kernel_rfl) (by kernel_rfl)
theorem en50 : Entr Try.prog 50 := entr_of Try.func50 (by kernel_rfl) (by kernel_rfl)
theorem en51 : Entr Try.prog 51 := entr_of Try.func51 (by kernel_rfl) (by kernel_rfl)
theorem en52 : Entr Try.prog 52 := entr_of Try.func52 (by kernel_rfl) (by kernel_rfl)
theorem en53 : Entr Try.prog 53 := entr_of Try.func53 (by kernel_rfl) (by kernel_rfl)
theorem en54 : Entr Try.prog 54 := entr_of Try.func54 (by kernel_rfl) (by kernel_rfl)
theorem en55 : Entr Try.prog 55 := entr_of Try.func55 (by kernel_rfl) (by kernel_rfl)
theorem en56 : Entr Try.prog 56 := entr_of Try.func56 (by kernel_rfl) (by kernel_rfl)
theorem en57 : Entr Try.prog 57 := entr_of Try.func57 (by kernel_rfl) (by kernel_rfl)
theorem en58 : Entr Try.prog 58 := entr_of Try.func58 (by kernel_rfl) (by kernel_rfl)
theorem en59 : Entr Try.prog 59 := entr_of Try.func59 (by kernel_rfl) (by kernel_rfl)
theorem en60 : Entr Try.prog 60 := entr_of Try.func60 (by kernel_rfl) (by kernel_rfl)
theorem en61 : Entr Try.prog 61 := entr_of Try.func61 (by kernel_rfl) (by kernel_rfl)
theorem en62 : Entr Try.prog 62 := entr_of Try.func62 (by kernel_rfl) (by kernel_rfl)
theorem en63 : Entr Try.prog 63 := entr_of Try.func63 (by kernel_rfl) (by kernel_rfl)
theorem en64 : Entr Try.prog 64 := entr_of Try.func64 (by kernel_rfl) (by kernel_rfl)
theorem en65 : Entr Try.prog 65 := entr_of Try.func65 (by kernel_rfl) (by kernel_rfl)
theorem en66 : Entr Try.prog 66 := entr_of Try.func66 (by kernel_rfl) (by kernel_rfl)
theorem en67 : Entr Try.prog 67 := entr_of Try.func67 (by kernel_rfl) (by kernel_rfl)
theorem en68 : Entr Try.prog 68 := entr_of Try.func68 (by kernel_rfl) (by kernel_rfl)
theorem en69 : Entr Try.prog 69 := entr_of Try.func69 (by kernel_rfl) (by kernel_rfl)
theorem en70 : Entr Try.prog 70 := entr_of Try.func70 (by kernel_rfl) (by kernel_rfl)
theorem en71 : Entr Try.prog 71 := entr_of Try.func71 (by kernel_rfl) (by kernel_rfl)
theorem en72 : Entr Try.prog 72 := entr_of Try.func72 (by kernel_rfl) (by kernel_rfl)
theorem en73 : Entr Try.prog 73 := entr_of Try.func73 (by kernel_rfl) (by kernel_rfl)
theorem en74 : Entr Try.prog 74 := entr_of Try.func74 (by kernel_rfl) (by kernel_rfl)
theorem en75 : Entr Try.prog 75 := entr_of Try.func75 (by kernel_rfl) (by kernel_rfl)
theorem en76 : Entr Try.prog 76 := entr_of Try.func76 (by kernel_rfl) (by kernel_rfl)
theorem en77 : Entr Try.prog 77 := entr_of Try.func77 (by kernel_rfl) (by kernel_rfl)
theorem en78 : Entr Try.prog 78 := entr_of Try.func78 (by kernel_rfl) (by kernel_rfl)
theorem en79 : Entr Try.prog 79 := entr_of Try.func79 (by kernel_rfl) (by kernel_rfl)
theorem en80 : Entr Try.prog 80 := entr_of Try.func80 (by kernel_rfl) (by kernel_rfl)
theorem en81 : Entr Try.prog 81 := entr_of Try.func81 (by kernel_rfl) (by kernel_rfl)
theorem en82 : Entr Try.prog 82 := entr_of Try.func82 (by kernel_rfl) (by kernel_rfl)
theorem en83 : Entr Try.prog 83 := entr_of Try.func83 (by kernel_rfl) (by kernel_rfl)
theorem en84 : Entr Try.prog 84 := entr_of Try.func84 (by kernel_rfl) (by kernel_rfl)
theorem en85 : Entr Try.prog 85 := entr_of Try.func85 (by kernel_rfl) (by kernel_rfl)
theorem en86 : Entr Try.prog 86 := entr_of Try.func86 (by kernel_rfl) (by kernel_rfl)
theorem en87 : Entr Try.prog 87 := entr_of Try.func87 (by kernel_rfl) (by kernel_rfl)
theorem en88 : Entr Try.prog 88 := entr_of Try.func88 (by kernel_rfl) (by kernel_rfl)
theorem en89 : Entr Try.prog 89 := entr_of Try.func89 (by kernel_rfl) (by kernel_rfl)
theorem en90 : Entr Try.prog 90 := entr_of Try.func90 (by kernel_rfl) (by kernel_rfl)
theorem en91 : Entr Try.prog 91 := entr_of Try.func91 (by kernel_rfl) (by kernel_rfl)
theorem en92 : Entr Try.prog 92 := entr_of Try.func92 (by kernel_rfl) (by kernel_rfl)
theorem en93 : Entr Try.prog 93 := entr_of Try.func93 (by kernel_rfl) (by kernel_rfl)
theorem en94 : Entr Try.prog 94 := entr_of Try.func94 (by kernel_rfl) (by kernel_rfl)
theorem en95 : Entr Try.prog 95 := entr_of Try.func95 (by kernel_rfl) (by kernel_rfl)
theorem en96 : Entr Try.prog 96 := entr_of Try.func96 (by kernel_rfl) (by kernel_rfl)
theorem en97 : Entr Try.prog 97 := entr_of Try.func97 (by kernel_rfl) (by kernel_rfl)
theorem en98 : Entr Try.prog 98 := entr_of Try.func98 (by kernel_rfl) (by kernel_rfl)
theorem en99 : Entr Try.prog 99 := entr_of Try.func99 (by kernel_rfl) (by kernel_rfl)
theorem en100 : Entr Try.prog 100 := entr_of Try.func100 (by kernel_rfl) (by kernel_rfl)
theorem en101 : Entr Try.prog 101 := entr_of Try.func101 (by kernel_rfl) (by kernel_rfl)
theorem en102 : Entr Try.prog 102 := entr_of Try.func102 (by kernel_rfl) (by kernel_rfl)
theorem en103 : Entr Try.prog 103 := entr_of Try.func103 (by kernel_rfl) (by kernel_rfl)
theorem en104 : Entr Try.prog 104 := entr_of Try.func104 (by kernel_rfl) (by kernel_rfl)
theorem en105 : Entr Try.prog 105 := entr_of Try.func105 (by kernel_rfl) (by kernel_rfl)
theorem en106 : Entr Try.prog 106 := entr_of Try.func106 (by kernel_rfl) (by kernel_rfl)
theorem en107 : Entr Try.prog 107 := entr_of Try.func107 (by kernel_rfl) (by kernel_rfl)
theorem en108 : Entr Try.prog 108 := entr_of Try.func108 (by kernel_rfl) (by kernel_rfl)
theorem en109 : Entr Try.prog 109 := entr_of Try.func109 (by kernel_rfl) (by kernel_rfl)
theorem en110 : Entr Try.prog 110 := entr_of Try.func110 (by kernel_rfl) (by kernel_rfl)
theorem en111 : Entr Try.prog 111 := entr_of Try.func111 (by kernel_rfl) (by kernel_rfl)
theorem en112 : Entr Try.prog 112 := entr_of Try.func112 (by kernel_rfl) (by kernel_rfl)
theorem en113 : Entr Try.prog 113 := entr_of Try.func113 (by kernel_rfl) (by kernel_rfl)
theorem en114 : Entr Try.prog 114 := entr_of Try.func114 (by kernel_rfl) (by kernel_rfl)
theorem en115 : Entr Try.prog 115 := entr_of Try.func115 (by kernel_rfl) (by kernel_rfl)
theorem en116 : Entr Try.prog 116 := entr_of Try.func116 (by kernel_rfl) (by kernel_rfl)
theorem en117 : Entr Try.prog 117 := entr_of Try.func117 (by kernel_rfl) (by kernel_rfl)
theorem en118 : Entr Try.prog 118 := entr_of Try.func118 (by kernel_rfl) (by kernel_rfl)
theorem en119 : Entr Try.prog 119 := entr_of Try.func119 (by kernel_rfl) (by kernel_rfl)
theorem en120 : Entr Try.prog 120 := entr_of Try.func120 (by kernel_rfl) (by kernel_rfl)
theorem en121 : Entr Try.prog 121 := entr_of Try.func121 (by kernel_rfl) (by kernel_rfl)
theorem en122 : Entr Try.prog 122 := entr_of Try.func122 (by kernel_rfl) (by kernel_rfl)
theorem en123 : Entr Try.prog 123 := entr_of Try.func123 (by kernel_rfl) (by kernel_rfl)
theorem en124 : Entr Try.prog 124 := entr_of Try.func124 (by kernel_rfl) (by kernel_rfl)
theorem en125 : Entr Try.prog 125 := entr_of Try.func125 (by kernel_rfl) (by kernel_rfl)
theorem en126 : Entr Try.prog 126 := entr_of Try.func126 (by kernel_rfl) (by kernel_rfl)
theorem en127 : Entr Try.prog 127 := entr_of Try.func127 (by kernel_rfl) (by kernel_rfl)

end Go.Proofs.Ytmmhbjbaallkfaa.Gx
