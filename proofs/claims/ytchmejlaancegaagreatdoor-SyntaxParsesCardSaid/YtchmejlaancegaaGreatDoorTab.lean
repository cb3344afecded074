import Derived.Test.YtchmejlaancegaaGreatDoorFn
import Derived.Test.YtchmejlaancegaaGreatDoorProg
import Derived.KernelRfl
set_option linter.unusedSimpArgs false
namespace Lx
open Go
open Go.Proofs (Tryz.prog)
def T2 : TI := ⟨.int .i64, 1, 8, .int .i64 0, true⟩
def T3 : TI := ⟨.int .i64, 1, 8, .int .i64 0, true⟩
def T4 : TI := ⟨.boo, 1, 1, .bool false, true⟩
def T5 : TI := ⟨.int .u8, 1, 1, .int .u8 0, true⟩
def T9 : TI := ⟨.str, 1, 16, .string ⟨#[]⟩, true⟩
def T12 : TI := ⟨.int .u64, 1, 8, .int .u64 0, true⟩
def T13 : TI := ⟨.st [(0, 9), (1, 12)], 2, 24, .agg #[.string ⟨#[]⟩, .int .u64 0], false⟩
def T20 : TI := ⟨.ifc, 1, 16, .nilIface, false⟩
def T21 : TI := ⟨.int .i32, 1, 4, .int .i32 0, true⟩
def T22 : TI := ⟨.int .i64, 1, 8, .int .i64 0, true⟩
def T23 : TI := ⟨.sli 25, 1, 24, .slice none 0 0, false⟩
def T24 : TI := ⟨.st [(0, 22), (1, 9), (2, 2), (3, 3), (4, 23)], 5, 64, .agg #[.int .i64 0, .string ⟨#[]⟩, .int .i64 0, .int .i64 0, .slice none 0 0], false⟩
def T25 : TI := ⟨.st [(0, 22), (1, 9), (2, 2), (3, 3), (4, 23)], 5, 64, .agg #[.int .i64 0, .string ⟨#[]⟩, .int .i64 0, .int .i64 0, .slice none 0 0], false⟩
def T26 : TI := ⟨.int .i64, 1, 8, .int .i64 0, true⟩
def T29 : TI := ⟨.sli 31, 1, 24, .slice none 0 0, false⟩
def T30 : TI := ⟨.st [(0, 3), (1, 9), (2, 2), (3, 3), (4, 29)], 5, 64, .agg #[.int .i64 0, .string ⟨#[]⟩, .int .i64 0, .int .i64 0, .slice none 0 0], false⟩
def T31 : TI := ⟨.st [(0, 3), (1, 9), (2, 2), (3, 3), (4, 29)], 5, 64, .agg #[.int .i64 0, .string ⟨#[]⟩, .int .i64 0, .int .i64 0, .slice none 0 0], false⟩
def T38 : TI := ⟨.sli 49, 1, 24, .slice none 0 0, false⟩
def T41 : TI := ⟨.st [(0, 3), (1, 26)], 2, 16, .agg #[.int .i64 0, .int .i64 0], true⟩
def T42 : TI := ⟨.st [(0, 3), (1, 26)], 2, 16, .agg #[.int .i64 0, .int .i64 0], true⟩
def T44 : TI := ⟨.ptr 46, 1, 8, .pointer none, false⟩
def T45 : TI := ⟨.st [(0, 38), (1, 3)], 2, 32, .agg #[.slice none 0 0, .int .i64 0], false⟩
def T46 : TI := ⟨.st [(0, 38), (1, 3)], 2, 32, .agg #[.slice none 0 0, .int .i64 0], false⟩
def T47 : TI := ⟨.int .i64, 1, 8, .int .i64 0, true⟩
def T48 : TI := ⟨.st [(0, 47), (1, 9), (2, 2), (3, 3)], 4, 40, .agg #[.int .i64 0, .string ⟨#[]⟩, .int .i64 0, .int .i64 0], true⟩
def T49 : TI := ⟨.st [(0, 47), (1, 9), (2, 2), (3, 3)], 4, 40, .agg #[.int .i64 0, .string ⟨#[]⟩, .int .i64 0, .int .i64 0], true⟩
def T54 : TI := ⟨.sli 61, 1, 24, .slice none 0 0, false⟩
def T57 : TI := ⟨.ptr 59, 1, 8, .pointer none, false⟩
def T58 : TI := ⟨.st [(0, 54), (1, 3), (2, 3), (3, 3), (4, 3)], 5, 56, .agg #[.slice none 0 0, .int .i64 0, .int .i64 0, .int .i64 0, .int .i64 0], false⟩
def T59 : TI := ⟨.st [(0, 54), (1, 3), (2, 3), (3, 3), (4, 3)], 5, 56, .agg #[.slice none 0 0, .int .i64 0, .int .i64 0, .int .i64 0, .int .i64 0], false⟩
def T60 : TI := ⟨.st [(0, 3), (1, 9), (2, 2), (3, 3)], 4, 40, .agg #[.int .i64 0, .string ⟨#[]⟩, .int .i64 0, .int .i64 0], true⟩
def T61 : TI := ⟨.st [(0, 3), (1, 9), (2, 2), (3, 3)], 4, 40, .agg #[.int .i64 0, .string ⟨#[]⟩, .int .i64 0, .int .i64 0], true⟩
def T79 : TI := ⟨.ifc, 1, 16, .nilIface, false⟩
def T82 : TI := ⟨.arr 3 9, 3, 48, .agg #[.string ⟨#[]⟩, .string ⟨#[]⟩, .string ⟨#[]⟩], false⟩
def T88 : TI := ⟨.sli 9, 1, 24, .slice none 0 0, false⟩
def T101 : TI := ⟨.int .u64, 1, 8, .int .u64 0, true⟩
def T104 : TI := ⟨.int .u64, 1, 8, .int .u64 0, true⟩
def T109 : TI := ⟨.sli 5, 1, 24, .slice none 0 0, false⟩
def T114 : TI := ⟨.map 9 22, 1, 8, .map none, false⟩
def T115 : TI := ⟨.ptr 5, 1, 8, .pointer none, false⟩
def T117 : TI := ⟨.st [(0, 9)], 1, 16, .agg #[.string ⟨#[]⟩], true⟩
def T120 : TI := ⟨.arr 24 5, 24, 24, .agg #[.int .u8 0, .int .u8 0, .int .u8 0, .int .u8 0, .int .u8 0, .int .u8 0, .int .u8 0, .int .u8 0, .int .u8 0, .int .u8 0, .int .u8 0, .int .u8 0, .int .u8 0, .int .u8 0, .int .u8 0, .int .u8 0, .int .u8 0, .int .u8 0, .int .u8 0, .int .u8 0, .int .u8 0, .int .u8 0, .int .u8 0, .int .u8 0], false⟩
def T127 : TI := ⟨.arr 20 101, 20, 160, .agg #[.int .u64 0, .int .u64 0, .int .u64 0, .int .u64 0, .int .u64 0, .int .u64 0, .int .u64 0, .int .u64 0, .int .u64 0, .int .u64 0, .int .u64 0, .int .u64 0, .int .u64 0, .int .u64 0, .int .u64 0, .int .u64 0, .int .u64 0, .int .u64 0, .int .u64 0, .int .u64 0], false⟩
def T128 : TI := ⟨.int .u32, 1, 4, .int .u32 0, true⟩
def T129 : TI := ⟨.arr 65 5, 65, 65, .agg #[.int .u8 0, .int .u8 0, .int .u8 0, .int .u8 0, .int .u8 0, .int .u8 0, .int .u8 0, .int .u8 0, .int .u8 0, .int .u8 0, .int .u8 0, .int .u8 0, .int .u8 0, .int .u8 0, .int .u8 0, .int .u8 0, .int .u8 0, .int .u8 0, .int .u8 0, .int .u8 0, .int .u8 0, .int .u8 0, .int .u8 0, .int .u8 0, .int .u8 0, .int .u8 0, .int .u8 0, .int .u8 0, .int .u8 0, .int .u8 0, .int .u8 0, .int .u8 0, .int .u8 0, .int .u8 0, .int .u8 0, .int .u8 0, .int .u8 0, .int .u8 0, .int .u8 0, .int .u8 0, .int .u8 0, .int .u8 0, .int .u8 0, .int .u8 0, .int .u8 0, .int .u8 0, .int .u8 0, .int .u8 0, .int .u8 0, .int .u8 0, .int .u8 0, .int .u8 0, .int .u8 0, .int .u8 0, .int .u8 0, .int .u8 0, .int .u8 0, .int .u8 0, .int .u8 0, .int .u8 0, .int .u8 0, .int .u8 0, .int .u8 0, .int .u8 0, .int .u8 0], false⟩
def T133 : TI := ⟨.arr 32 5, 32, 32, .agg #[.int .u8 0, .int .u8 0, .int .u8 0, .int .u8 0, .int .u8 0, .int .u8 0, .int .u8 0, .int .u8 0, .int .u8 0, .int .u8 0, .int .u8 0, .int .u8 0, .int .u8 0, .int .u8 0, .int .u8 0, .int .u8 0, .int .u8 0, .int .u8 0, .int .u8 0, .int .u8 0, .int .u8 0, .int .u8 0, .int .u8 0, .int .u8 0, .int .u8 0, .int .u8 0, .int .u8 0, .int .u8 0, .int .u8 0, .int .u8 0, .int .u8 0, .int .u8 0], false⟩
def T134 : TI := ⟨.arr 64 5, 64, 64, .agg #[.int .u8 0, .int .u8 0, .int .u8 0, .int .u8 0, .int .u8 0, .int .u8 0, .int .u8 0, .int .u8 0, .int .u8 0, .int .u8 0, .int .u8 0, .int .u8 0, .int .u8 0, .int .u8 0, .int .u8 0, .int .u8 0, .int .u8 0, .int .u8 0, .int .u8 0, .int .u8 0, .int .u8 0, .int .u8 0, .int .u8 0, .int .u8 0, .int .u8 0, .int .u8 0, .int .u8 0, .int .u8 0, .int .u8 0, .int .u8 0, .int .u8 0, .int .u8 0, .int .u8 0, .int .u8 0, .int .u8 0, .int .u8 0, .int .u8 0, .int .u8 0, .int .u8 0, .int .u8 0, .int .u8 0, .int .u8 0, .int .u8 0, .int .u8 0, .int .u8 0, .int .u8 0, .int .u8 0, .int .u8 0, .int .u8 0, .int .u8 0, .int .u8 0, .int .u8 0, .int .u8 0, .int .u8 0, .int .u8 0, .int .u8 0, .int .u8 0, .int .u8 0, .int .u8 0, .int .u8 0, .int .u8 0, .int .u8 0, .int .u8 0, .int .u8 0], false⟩
set_option maxRecDepth 100000 in
def tl : List (Nat × TI) := [(2, T2), (3, T3), (4, T4), (5, T5), (9, T9), (12, T12), (13, T13), (20, T20), (21, T21), (22, T22), (23, T23), (24, T24), (25, T25), (26, T26), (29, T29), (30, T30), (31, T31), (38, T38), (41, T41), (42, T42), (44, T44), (45, T45), (46, T46), (47, T47), (48, T48), (49, T49), (54, T54), (57, T57), (58, T58), (59, T59), (60, T60), (61, T61), (79, T79), (82, T82), (88, T88), (101, T101), (104, T104), (109, T109), (114, T114), (115, T115), (117, T117), (120, T120), (127, T127), (128, T128), (129, T129), (133, T133), (134, T134)]
set_option maxRecDepth 100000 in
theorem tl_oks : TOKs Go.Proofs.Tryz.prog tl := by
  refine ⟨⟨_, _, Go.Proofs.Tryz.type2, rfl, rfl, rfl, Go.Proofs.Tryz.underlying2, rfl, rfl, rfl⟩, ?_⟩
  refine ⟨⟨_, _, Go.Proofs.Tryz.type3, rfl, rfl, rfl, Go.Proofs.Tryz.underlying3, rfl, rfl, rfl⟩, ?_⟩
  refine ⟨⟨_, _, Go.Proofs.Tryz.type4, rfl, rfl, rfl, Go.Proofs.Tryz.underlying4, rfl, rfl, rfl⟩, ?_⟩
  refine ⟨⟨_, _, Go.Proofs.Tryz.type5, rfl, rfl, rfl, Go.Proofs.Tryz.underlying5, rfl, rfl, rfl⟩, ?_⟩
  refine ⟨⟨_, _, Go.Proofs.Tryz.type9, rfl, rfl, rfl, Go.Proofs.Tryz.underlying9, rfl, rfl, rfl⟩, ?_⟩
  refine ⟨⟨_, _, Go.Proofs.Tryz.type12, rfl, rfl, rfl, Go.Proofs.Tryz.underlying12, rfl, rfl, rfl⟩, ?_⟩
  refine ⟨⟨_, _, Go.Proofs.Tryz.type13, rfl, rfl, rfl, Go.Proofs.Tryz.underlying13, rfl, rfl, rfl⟩, ?_⟩
  refine ⟨⟨_, _, Go.Proofs.Tryz.type20, rfl, rfl, rfl, Go.Proofs.Tryz.underlying20, rfl, rfl, rfl⟩, ?_⟩
  refine ⟨⟨_, _, Go.Proofs.Tryz.type21, rfl, rfl, rfl, Go.Proofs.Tryz.underlying21, rfl, rfl, rfl⟩, ?_⟩
  refine ⟨⟨_, _, Go.Proofs.Tryz.type22, rfl, rfl, rfl, Go.Proofs.Tryz.underlying22, rfl, rfl, rfl⟩, ?_⟩
  refine ⟨⟨_, _, Go.Proofs.Tryz.type23, rfl, rfl, rfl, Go.Proofs.Tryz.underlying23, rfl, rfl, rfl⟩, ?_⟩
  refine ⟨⟨_, _, Go.Proofs.Tryz.type24, rfl, rfl, rfl, Go.Proofs.Tryz.underlying24, rfl, rfl, rfl⟩, ?_⟩
  refine ⟨⟨_, _, Go.Proofs.Tryz.type25, rfl, rfl, rfl, Go.Proofs.Tryz.underlying25, rfl, rfl, rfl⟩, ?_⟩
  refine ⟨⟨_, _, Go.Proofs.Tryz.type26, rfl, rfl, rfl, Go.Proofs.Tryz.underlying26, rfl, rfl, rfl⟩, ?_⟩
  refine ⟨⟨_, _, Go.Proofs.Tryz.type29, rfl, rfl, rfl, Go.Proofs.Tryz.underlying29, rfl, rfl, rfl⟩, ?_⟩
  refine ⟨⟨_, _, Go.Proofs.Tryz.type30, rfl, rfl, rfl, Go.Proofs.Tryz.underlying30, rfl, rfl, rfl⟩, ?_⟩
  refine ⟨⟨_, _, Go.Proofs.Tryz.type31, rfl, rfl, rfl, Go.Proofs.Tryz.underlying31, rfl, rfl, rfl⟩, ?_⟩
  refine ⟨⟨_, _, Go.Proofs.Tryz.type38, rfl, rfl, rfl, Go.Proofs.Tryz.underlying38, rfl, rfl, rfl⟩, ?_⟩
  refine ⟨⟨_, _, Go.Proofs.Tryz.type41, rfl, rfl, rfl, Go.Proofs.Tryz.underlying41, rfl, rfl, by kernel_rfl⟩, ?_⟩
  refine ⟨⟨_, _, Go.Proofs.Tryz.type42, rfl, rfl, rfl, Go.Proofs.Tryz.underlying42, rfl, rfl, by kernel_rfl⟩, ?_⟩
  refine ⟨⟨_, _, Go.Proofs.Tryz.type44, rfl, rfl, rfl, Go.Proofs.Tryz.underlying44, rfl, rfl, rfl⟩, ?_⟩
  refine ⟨⟨_, _, Go.Proofs.Tryz.type45, rfl, rfl, rfl, Go.Proofs.Tryz.underlying45, rfl, rfl, rfl⟩, ?_⟩
  refine ⟨⟨_, _, Go.Proofs.Tryz.type46, rfl, rfl, rfl, Go.Proofs.Tryz.underlying46, rfl, rfl, rfl⟩, ?_⟩
  refine ⟨⟨_, _, Go.Proofs.Tryz.type47, rfl, rfl, rfl, Go.Proofs.Tryz.underlying47, rfl, rfl, rfl⟩, ?_⟩
  refine ⟨⟨_, _, Go.Proofs.Tryz.type48, rfl, rfl, rfl, Go.Proofs.Tryz.underlying48, rfl, rfl, by kernel_rfl⟩, ?_⟩
  refine ⟨⟨_, _, Go.Proofs.Tryz.type49, rfl, rfl, rfl, Go.Proofs.Tryz.underlying49, rfl, rfl, by kernel_rfl⟩, ?_⟩
  refine ⟨⟨_, _, Go.Proofs.Tryz.type54, rfl, rfl, rfl, Go.Proofs.Tryz.underlying54, rfl, rfl, rfl⟩, ?_⟩
  refine ⟨⟨_, _, Go.Proofs.Tryz.type57, rfl, rfl, rfl, Go.Proofs.Tryz.underlying57, rfl, rfl, rfl⟩, ?_⟩
  refine ⟨⟨_, _, Go.Proofs.Tryz.type58, rfl, rfl, rfl, Go.Proofs.Tryz.underlying58, rfl, rfl, rfl⟩, ?_⟩
  refine ⟨⟨_, _, Go.Proofs.Tryz.type59, rfl, rfl, rfl, Go.Proofs.Tryz.underlying59, rfl, rfl, rfl⟩, ?_⟩
  refine ⟨⟨_, _, Go.Proofs.Tryz.type60, rfl, rfl, rfl, Go.Proofs.Tryz.underlying60, rfl, rfl, by kernel_rfl⟩, ?_⟩
  refine ⟨⟨_, _, Go.Proofs.Tryz.type61, rfl, rfl, rfl, Go.Proofs.Tryz.underlying61, rfl, rfl, by kernel_rfl⟩, ?_⟩
  refine ⟨⟨_, _, Go.Proofs.Tryz.type79, rfl, rfl, rfl, Go.Proofs.Tryz.underlying79, rfl, rfl, rfl⟩, ?_⟩
  refine ⟨⟨_, _, Go.Proofs.Tryz.type82, rfl, rfl, rfl, Go.Proofs.Tryz.underlying82, rfl, rfl, rfl⟩, ?_⟩
  refine ⟨⟨_, _, Go.Proofs.Tryz.type88, rfl, rfl, rfl, Go.Proofs.Tryz.underlying88, rfl, rfl, rfl⟩, ?_⟩
  refine ⟨⟨_, _, Go.Proofs.Tryz.type101, rfl, rfl, rfl, Go.Proofs.Tryz.underlying101, rfl, rfl, rfl⟩, ?_⟩
  refine ⟨⟨_, _, Go.Proofs.Tryz.type104, rfl, rfl, rfl, Go.Proofs.Tryz.underlying104, rfl, rfl, rfl⟩, ?_⟩
  refine ⟨⟨_, _, Go.Proofs.Tryz.type109, rfl, rfl, rfl, Go.Proofs.Tryz.underlying109, rfl, rfl, rfl⟩, ?_⟩
  refine ⟨⟨_, _, Go.Proofs.Tryz.type114, rfl, rfl, rfl, Go.Proofs.Tryz.underlying114, rfl, rfl, rfl⟩, ?_⟩
  refine ⟨⟨_, _, Go.Proofs.Tryz.type115, rfl, rfl, rfl, Go.Proofs.Tryz.underlying115, rfl, rfl, rfl⟩, ?_⟩
  refine ⟨⟨_, _, Go.Proofs.Tryz.type117, rfl, rfl, rfl, Go.Proofs.Tryz.underlying117, rfl, rfl, by kernel_rfl⟩, ?_⟩
  refine ⟨⟨_, _, Go.Proofs.Tryz.type120, rfl, rfl, rfl, Go.Proofs.Tryz.underlying120, rfl, rfl, rfl⟩, ?_⟩
  refine ⟨⟨_, _, Go.Proofs.Tryz.type127, rfl, rfl, rfl, Go.Proofs.Tryz.underlying127, rfl, rfl, rfl⟩, ?_⟩
  refine ⟨⟨_, _, Go.Proofs.Tryz.type128, rfl, rfl, rfl, Go.Proofs.Tryz.underlying128, rfl, rfl, rfl⟩, ?_⟩
  refine ⟨⟨_, _, Go.Proofs.Tryz.type129, rfl, rfl, rfl, Go.Proofs.Tryz.underlying129, rfl, rfl, rfl⟩, ?_⟩
  refine ⟨⟨_, _, Go.Proofs.Tryz.type133, rfl, rfl, rfl, Go.Proofs.Tryz.underlying133, rfl, rfl, rfl⟩, ?_⟩
  refine ⟨⟨_, _, Go.Proofs.Tryz.type134, rfl, rfl, rfl, Go.Proofs.Tryz.underlying134, rfl, rfl, rfl⟩, ?_⟩
  exact trivial
theorem tl_ok : TOK Go.Proofs.Tryz.prog tl := tl_oks.ok
set_option maxRecDepth 100000 in
theorem tl_zoks : ZOKs tl := by
  refine ⟨rfl, ?_⟩
  refine ⟨rfl, ?_⟩
  refine ⟨rfl, ?_⟩
  refine ⟨rfl, ?_⟩
  refine ⟨rfl, ?_⟩
  refine ⟨rfl, ?_⟩
  refine ⟨rfl, ?_⟩
  refine ⟨rfl, ?_⟩
  refine ⟨rfl, ?_⟩
  refine ⟨rfl, ?_⟩
  refine ⟨rfl, ?_⟩
  refine ⟨rfl, ?_⟩
  refine ⟨rfl, ?_⟩
  refine ⟨rfl, ?_⟩
  refine ⟨rfl, ?_⟩
  refine ⟨rfl, ?_⟩
  refine ⟨rfl, ?_⟩
  refine ⟨rfl, ?_⟩
  refine ⟨rfl, ?_⟩
  refine ⟨rfl, ?_⟩
  refine ⟨rfl, ?_⟩
  refine ⟨rfl, ?_⟩
  refine ⟨rfl, ?_⟩
  refine ⟨rfl, ?_⟩
  refine ⟨rfl, ?_⟩
  refine ⟨rfl, ?_⟩
  refine ⟨rfl, ?_⟩
  refine ⟨rfl, ?_⟩
  refine ⟨rfl, ?_⟩
  refine ⟨rfl, ?_⟩
  refine ⟨rfl, ?_⟩
  refine ⟨rfl, ?_⟩
  refine ⟨rfl, ?_⟩
  refine ⟨rfl, ?_⟩
  refine ⟨rfl, ?_⟩
  refine ⟨rfl, ?_⟩
  refine ⟨rfl, ?_⟩
  refine ⟨rfl, ?_⟩
  refine ⟨rfl, ?_⟩
  refine ⟨rfl, ?_⟩
  refine ⟨rfl, ?_⟩
  refine ⟨rfl, ?_⟩
  refine ⟨rfl, ?_⟩
  refine ⟨rfl, ?_⟩
  refine ⟨rfl, ?_⟩
  refine ⟨rfl, ?_⟩
  refine ⟨rfl, ?_⟩
  exact trivial
theorem tl_zok : ZOK tl := tl_zoks.ok
def mkE (w : Bool) (own vis : Nat → Bool) : Env := ⟨tl, w, own, vis⟩
section
variable (w : Bool) (own vis : Nat → Bool)
@[push_cast] theorem mkE_wrap : (mkE w own vis).wrap = w := rfl
@[push_cast] theorem mkE_own : (mkE w own vis).own = own := rfl
@[push_cast] theorem mkE_vis : (mkE w own vis).vis = vis := rfl
@[push_cast] theorem ti2 : (mkE w own vis).ti 2 = some T2 := by kernel_rfl
@[push_cast] theorem ti3 : (mkE w own vis).ti 3 = some T3 := by kernel_rfl
@[push_cast] theorem ti4 : (mkE w own vis).ti 4 = some T4 := by kernel_rfl
@[push_cast] theorem ti5 : (mkE w own vis).ti 5 = some T5 := by kernel_rfl
@[push_cast] theorem ti9 : (mkE w own vis).ti 9 = some T9 := by kernel_rfl
@[push_cast] theorem ti12 : (mkE w own vis).ti 12 = some T12 := by kernel_rfl
@[push_cast] theorem ti13 : (mkE w own vis).ti 13 = some T13 := by kernel_rfl
@[push_cast] theorem ti20 : (mkE w own vis).ti 20 = some T20 := by kernel_rfl
@[push_cast] theorem ti21 : (mkE w own vis).ti 21 = some T21 := by kernel_rfl
@[push_cast] theorem ti22 : (mkE w own vis).ti 22 = some T22 := by kernel_rfl
@[push_cast] theorem ti23 : (mkE w own vis).ti 23 = some T23 := by kernel_rfl
@[push_cast] theorem ti24 : (mkE w own vis).ti 24 = some T24 := by kernel_rfl
@[push_cast] theorem ti25 : (mkE w own vis).ti 25 = some T25 := by kernel_rfl
@[push_cast] theorem ti26 : (mkE w own vis).ti 26 = some T26 := by kernel_rfl
@[push_cast] theorem ti29 : (mkE w own vis).ti 29 = some T29 := by kernel_rfl
@[push_cast] theorem ti30 : (mkE w own vis).ti 30 = some T30 := by kernel_rfl
@[push_cast] theorem ti31 : (mkE w own vis).ti 31 = some T31 := by kernel_rfl
@[push_cast] theorem ti38 : (mkE w own vis).ti 38 = some T38 := by kernel_rfl
@[push_cast] theorem ti41 : (mkE w own vis).ti 41 = some T41 := by kernel_rfl
@[push_cast] theorem ti42 : (mkE w own vis).ti 42 = some T42 := by kernel_rfl
@[push_cast] theorem ti44 : (mkE w own vis).ti 44 = some T44 := by kernel_rfl
@[push_cast] theorem ti45 : (mkE w own vis).ti 45 = some T45 := by kernel_rfl
@[push_cast] theorem ti46 : (mkE w own vis).ti 46 = some T46 := by kernel_rfl
@[push_cast] theorem ti47 : (mkE w own vis).ti 47 = some T47 := by kernel_rfl
@[push_cast] theorem ti48 : (mkE w own vis).ti 48 = some T48 := by kernel_rfl
@[push_cast] theorem ti49 : (mkE w own vis).ti 49 = some T49 := by kernel_rfl
@[push_cast] theorem ti54 : (mkE w own vis).ti 54 = some T54 := by kernel_rfl
@[push_cast] theorem ti57 : (mkE w own vis).ti 57 = some T57 := by kernel_rfl
@[push_cast] theorem ti58 : (mkE w own vis).ti 58 = some T58 := by kernel_rfl
@[push_cast] theorem ti59 : (mkE w own vis).ti 59 = some T59 := by kernel_rfl
@[push_cast] theorem ti60 : (mkE w own vis).ti 60 = some T60 := by kernel_rfl
@[push_cast] theorem ti61 : (mkE w own vis).ti 61 = some T61 := by kernel_rfl
@[push_cast] theorem ti79 : (mkE w own vis).ti 79 = some T79 := by kernel_rfl
@[push_cast] theorem ti82 : (mkE w own vis).ti 82 = some T82 := by kernel_rfl
@[push_cast] theorem ti88 : (mkE w own vis).ti 88 = some T88 := by kernel_rfl
@[push_cast] theorem ti101 : (mkE w own vis).ti 101 = some T101 := by kernel_rfl
@[push_cast] theorem ti104 : (mkE w own vis).ti 104 = some T104 := by kernel_rfl
@[push_cast] theorem ti109 : (mkE w own vis).ti 109 = some T109 := by kernel_rfl
@[push_cast] theorem ti114 : (mkE w own vis).ti 114 = some T114 := by kernel_rfl
@[push_cast] theorem ti115 : (mkE w own vis).ti 115 = some T115 := by kernel_rfl
@[push_cast] theorem ti117 : (mkE w own vis).ti 117 = some T117 := by kernel_rfl
@[push_cast] theorem ti120 : (mkE w own vis).ti 120 = some T120 := by kernel_rfl
@[push_cast] theorem ti127 : (mkE w own vis).ti 127 = some T127 := by kernel_rfl
@[push_cast] theorem ti128 : (mkE w own vis).ti 128 = some T128 := by kernel_rfl
@[push_cast] theorem ti129 : (mkE w own vis).ti 129 = some T129 := by kernel_rfl
@[push_cast] theorem ti133 : (mkE w own vis).ti 133 = some T133 := by kernel_rfl
@[push_cast] theorem ti134 : (mkE w own vis).ti 134 = some T134 := by kernel_rfl
end
@[push_cast] theorem T2_size : T2.size = 1 := rfl
@[push_cast] theorem T2_bytes : T2.bytes = 8 := rfl
@[push_cast] theorem T2_agg : T2.agg = false := rfl
@[push_cast] theorem T2_str : T2.str = false := rfl
@[push_cast] theorem T2_cmp : T2.cmp = true := rfl
@[push_cast] theorem T2_desc : T2.desc = .int .i64 := rfl
@[push_cast] theorem T2_cv : cv T2.zero = .d (.int .i64 0) := rfl
@[push_cast] theorem T2_vcs : vcs T2.zero = [.d (.int .i64 0)] := rfl
@[push_cast] theorem T3_size : T3.size = 1 := rfl
@[push_cast] theorem T3_bytes : T3.bytes = 8 := rfl
@[push_cast] theorem T3_agg : T3.agg = false := rfl
@[push_cast] theorem T3_str : T3.str = false := rfl
@[push_cast] theorem T3_cmp : T3.cmp = true := rfl
@[push_cast] theorem T3_desc : T3.desc = .int .i64 := rfl
@[push_cast] theorem T3_cv : cv T3.zero = .d (.int .i64 0) := rfl
@[push_cast] theorem T3_vcs : vcs T3.zero = [.d (.int .i64 0)] := rfl
@[push_cast] theorem T4_size : T4.size = 1 := rfl
@[push_cast] theorem T4_bytes : T4.bytes = 1 := rfl
@[push_cast] theorem T4_agg : T4.agg = false := rfl
@[push_cast] theorem T4_str : T4.str = false := rfl
@[push_cast] theorem T4_cmp : T4.cmp = true := rfl
@[push_cast] theorem T4_desc : T4.desc = .boo := rfl
@[push_cast] theorem T4_cv : cv T4.zero = .d (.bool false) := rfl
@[push_cast] theorem T4_vcs : vcs T4.zero = [.d (.bool false)] := rfl
@[push_cast] theorem T5_size : T5.size = 1 := rfl
@[push_cast] theorem T5_bytes : T5.bytes = 1 := rfl
@[push_cast] theorem T5_agg : T5.agg = false := rfl
@[push_cast] theorem T5_str : T5.str = false := rfl
@[push_cast] theorem T5_cmp : T5.cmp = true := rfl
@[push_cast] theorem T5_desc : T5.desc = .int .u8 := rfl
@[push_cast] theorem T5_cv : cv T5.zero = .d (.int .u8 0) := rfl
@[push_cast] theorem T5_vcs : vcs T5.zero = [.d (.int .u8 0)] := rfl
@[push_cast] theorem T9_size : T9.size = 1 := rfl
@[push_cast] theorem T9_bytes : T9.bytes = 16 := rfl
@[push_cast] theorem T9_agg : T9.agg = false := rfl
@[push_cast] theorem T9_str : T9.str = false := rfl
@[push_cast] theorem T9_cmp : T9.cmp = true := rfl
@[push_cast] theorem T9_desc : T9.desc = .str := rfl
@[push_cast] theorem T9_cv : cv T9.zero = .d (.st []) := rfl
@[push_cast] theorem T9_vcs : vcs T9.zero = [.d (.st [])] := rfl
@[push_cast] theorem T12_size : T12.size = 1 := rfl
@[push_cast] theorem T12_bytes : T12.bytes = 8 := rfl
@[push_cast] theorem T12_agg : T12.agg = false := rfl
@[push_cast] theorem T12_str : T12.str = false := rfl
@[push_cast] theorem T12_cmp : T12.cmp = true := rfl
@[push_cast] theorem T12_desc : T12.desc = .int .u64 := rfl
@[push_cast] theorem T12_cv : cv T12.zero = .d (.int .u64 0) := rfl
@[push_cast] theorem T12_vcs : vcs T12.zero = [.d (.int .u64 0)] := rfl
@[push_cast] theorem T13_size : T13.size = 2 := rfl
@[push_cast] theorem T13_bytes : T13.bytes = 24 := rfl
@[push_cast] theorem T13_agg : T13.agg = true := rfl
@[push_cast] theorem T13_str : T13.str = true := rfl
@[push_cast] theorem T13_cmp : T13.cmp = false := rfl
@[push_cast] theorem T13_fields : T13.fields = [(0, 9), (1, 12)] := rfl
@[push_cast] theorem T13_desc : T13.desc = .st [(0, 9), (1, 12)] := rfl
@[push_cast] theorem T13_cv : cv T13.zero = .d (.ag [.st [], .int .u64 0]) := rfl
@[push_cast] theorem T13_vcs : vcs T13.zero = [.d (.st []), .d (.int .u64 0)] := rfl
@[push_cast] theorem T20_size : T20.size = 1 := rfl
@[push_cast] theorem T20_bytes : T20.bytes = 16 := rfl
@[push_cast] theorem T20_agg : T20.agg = false := rfl
@[push_cast] theorem T20_str : T20.str = false := rfl
@[push_cast] theorem T20_cmp : T20.cmp = false := rfl
@[push_cast] theorem T20_desc : T20.desc = .ifc := rfl
@[push_cast] theorem T20_cv : cv T20.zero = .d (.imm (.nilIface)) := rfl
@[push_cast] theorem T20_vcs : vcs T20.zero = [.d (.imm (.nilIface))] := rfl
@[push_cast] theorem T21_size : T21.size = 1 := rfl
@[push_cast] theorem T21_bytes : T21.bytes = 4 := rfl
@[push_cast] theorem T21_agg : T21.agg = false := rfl
@[push_cast] theorem T21_str : T21.str = false := rfl
@[push_cast] theorem T21_cmp : T21.cmp = true := rfl
@[push_cast] theorem T21_desc : T21.desc = .int .i32 := rfl
@[push_cast] theorem T21_cv : cv T21.zero = .d (.int .i32 0) := rfl
@[push_cast] theorem T21_vcs : vcs T21.zero = [.d (.int .i32 0)] := rfl
@[push_cast] theorem T22_size : T22.size = 1 := rfl
@[push_cast] theorem T22_bytes : T22.bytes = 8 := rfl
@[push_cast] theorem T22_agg : T22.agg = false := rfl
@[push_cast] theorem T22_str : T22.str = false := rfl
@[push_cast] theorem T22_cmp : T22.cmp = true := rfl
@[push_cast] theorem T22_desc : T22.desc = .int .i64 := rfl
@[push_cast] theorem T22_cv : cv T22.zero = .d (.int .i64 0) := rfl
@[push_cast] theorem T22_vcs : vcs T22.zero = [.d (.int .i64 0)] := rfl
@[push_cast] theorem T23_size : T23.size = 1 := rfl
@[push_cast] theorem T23_bytes : T23.bytes = 24 := rfl
@[push_cast] theorem T23_agg : T23.agg = false := rfl
@[push_cast] theorem T23_str : T23.str = false := rfl
@[push_cast] theorem T23_cmp : T23.cmp = false := rfl
@[push_cast] theorem T23_desc : T23.desc = .sli 25 := rfl
@[push_cast] theorem T23_cv : cv T23.zero = .d (.imm (.slice none 0 0)) := rfl
@[push_cast] theorem T23_vcs : vcs T23.zero = [.d (.imm (.slice none 0 0))] := rfl
@[push_cast] theorem T24_size : T24.size = 5 := rfl
@[push_cast] theorem T24_bytes : T24.bytes = 64 := rfl
@[push_cast] theorem T24_agg : T24.agg = true := rfl
@[push_cast] theorem T24_str : T24.str = true := rfl
@[push_cast] theorem T24_cmp : T24.cmp = false := rfl
@[push_cast] theorem T24_fields : T24.fields = [(0, 22), (1, 9), (2, 2), (3, 3), (4, 23)] := rfl
@[push_cast] theorem T24_desc : T24.desc = .st [(0, 22), (1, 9), (2, 2), (3, 3), (4, 23)] := rfl
@[push_cast] theorem T24_cv : cv T24.zero = .d (.ag [.int .i64 0, .st [], .int .i64 0, .int .i64 0, .imm (.slice none 0 0)]) := rfl
@[push_cast] theorem T24_vcs : vcs T24.zero = [.d (.int .i64 0), .d (.st []), .d (.int .i64 0), .d (.int .i64 0), .d (.imm (.slice none 0 0))] := rfl
@[push_cast] theorem T25_size : T25.size = 5 := rfl
@[push_cast] theorem T25_bytes : T25.bytes = 64 := rfl
@[push_cast] theorem T25_agg : T25.agg = true := rfl
@[push_cast] theorem T25_str : T25.str = true := rfl
@[push_cast] theorem T25_cmp : T25.cmp = false := rfl
@[push_cast] theorem T25_fields : T25.fields = [(0, 22), (1, 9), (2, 2), (3, 3), (4, 23)] := rfl
@[push_cast] theorem T25_desc : T25.desc = .st [(0, 22), (1, 9), (2, 2), (3, 3), (4, 23)] := rfl
@[push_cast] theorem T25_cv : cv T25.zero = .d (.ag [.int .i64 0, .st [], .int .i64 0, .int .i64 0, .imm (.slice none 0 0)]) := rfl
@[push_cast] theorem T25_vcs : vcs T25.zero = [.d (.int .i64 0), .d (.st []), .d (.int .i64 0), .d (.int .i64 0), .d (.imm (.slice none 0 0))] := rfl
@[push_cast] theorem T26_size : T26.size = 1 := rfl
@[push_cast] theorem T26_bytes : T26.bytes = 8 := rfl
@[push_cast] theorem T26_agg : T26.agg = false := rfl
@[push_cast] theorem T26_str : T26.str = false := rfl
@[push_cast] theorem T26_cmp : T26.cmp = true := rfl
@[push_cast] theorem T26_desc : T26.desc = .int .i64 := rfl
@[push_cast] theorem T26_cv : cv T26.zero = .d (.int .i64 0) := rfl
@[push_cast] theorem T26_vcs : vcs T26.zero = [.d (.int .i64 0)] := rfl
@[push_cast] theorem T29_size : T29.size = 1 := rfl
@[push_cast] theorem T29_bytes : T29.bytes = 24 := rfl
@[push_cast] theorem T29_agg : T29.agg = false := rfl
@[push_cast] theorem T29_str : T29.str = false := rfl
@[push_cast] theorem T29_cmp : T29.cmp = false := rfl
@[push_cast] theorem T29_desc : T29.desc = .sli 31 := rfl
@[push_cast] theorem T29_cv : cv T29.zero = .d (.imm (.slice none 0 0)) := rfl
@[push_cast] theorem T29_vcs : vcs T29.zero = [.d (.imm (.slice none 0 0))] := rfl
@[push_cast] theorem T30_size : T30.size = 5 := rfl
@[push_cast] theorem T30_bytes : T30.bytes = 64 := rfl
@[push_cast] theorem T30_agg : T30.agg = true := rfl
@[push_cast] theorem T30_str : T30.str = true := rfl
@[push_cast] theorem T30_cmp : T30.cmp = false := rfl
@[push_cast] theorem T30_fields : T30.fields = [(0, 3), (1, 9), (2, 2), (3, 3), (4, 29)] := rfl
@[push_cast] theorem T30_desc : T30.desc = .st [(0, 3), (1, 9), (2, 2), (3, 3), (4, 29)] := rfl
@[push_cast] theorem T30_cv : cv T30.zero = .d (.ag [.int .i64 0, .st [], .int .i64 0, .int .i64 0, .imm (.slice none 0 0)]) := rfl
@[push_cast] theorem T30_vcs : vcs T30.zero = [.d (.int .i64 0), .d (.st []), .d (.int .i64 0), .d (.int .i64 0), .d (.imm (.slice none 0 0))] := rfl
@[push_cast] theorem T31_size : T31.size = 5 := rfl
@[push_cast] theorem T31_bytes : T31.bytes = 64 := rfl
@[push_cast] theorem T31_agg : T31.agg = true := rfl
@[push_cast] theorem T31_str : T31.str = true := rfl
@[push_cast] theorem T31_cmp : T31.cmp = false := rfl
@[push_cast] theorem T31_fields : T31.fields = [(0, 3), (1, 9), (2, 2), (3, 3), (4, 29)] := rfl
@[push_cast] theorem T31_desc : T31.desc = .st [(0, 3), (1, 9), (2, 2), (3, 3), (4, 29)] := rfl
@[push_cast] theorem T31_cv : cv T31.zero = .d (.ag [.int .i64 0, .st [], .int .i64 0, .int .i64 0, .imm (.slice none 0 0)]) := rfl
@[push_cast] theorem T31_vcs : vcs T31.zero = [.d (.int .i64 0), .d (.st []), .d (.int .i64 0), .d (.int .i64 0), .d (.imm (.slice none 0 0))] := rfl
@[push_cast] theorem T38_size : T38.size = 1 := rfl
@[push_cast] theorem T38_bytes : T38.bytes = 24 := rfl
@[push_cast] theorem T38_agg : T38.agg = false := rfl
@[push_cast] theorem T38_str : T38.str = false := rfl
@[push_cast] theorem T38_cmp : T38.cmp = false := rfl
@[push_cast] theorem T38_desc : T38.desc = .sli 49 := rfl
@[push_cast] theorem T38_cv : cv T38.zero = .d (.imm (.slice none 0 0)) := rfl
@[push_cast] theorem T38_vcs : vcs T38.zero = [.d (.imm (.slice none 0 0))] := rfl
@[push_cast] theorem T41_size : T41.size = 2 := rfl
@[push_cast] theorem T41_bytes : T41.bytes = 16 := rfl
@[push_cast] theorem T41_agg : T41.agg = true := rfl
@[push_cast] theorem T41_str : T41.str = true := rfl
@[push_cast] theorem T41_cmp : T41.cmp = true := rfl
@[push_cast] theorem T41_fields : T41.fields = [(0, 3), (1, 26)] := rfl
@[push_cast] theorem T41_desc : T41.desc = .st [(0, 3), (1, 26)] := rfl
@[push_cast] theorem T41_cv : cv T41.zero = .d (.ag [.int .i64 0, .int .i64 0]) := rfl
@[push_cast] theorem T41_vcs : vcs T41.zero = [.d (.int .i64 0), .d (.int .i64 0)] := rfl
@[push_cast] theorem T42_size : T42.size = 2 := rfl
@[push_cast] theorem T42_bytes : T42.bytes = 16 := rfl
@[push_cast] theorem T42_agg : T42.agg = true := rfl
@[push_cast] theorem T42_str : T42.str = true := rfl
@[push_cast] theorem T42_cmp : T42.cmp = true := rfl
@[push_cast] theorem T42_fields : T42.fields = [(0, 3), (1, 26)] := rfl
@[push_cast] theorem T42_desc : T42.desc = .st [(0, 3), (1, 26)] := rfl
@[push_cast] theorem T42_cv : cv T42.zero = .d (.ag [.int .i64 0, .int .i64 0]) := rfl
@[push_cast] theorem T42_vcs : vcs T42.zero = [.d (.int .i64 0), .d (.int .i64 0)] := rfl
@[push_cast] theorem T44_size : T44.size = 1 := rfl
@[push_cast] theorem T44_bytes : T44.bytes = 8 := rfl
@[push_cast] theorem T44_agg : T44.agg = false := rfl
@[push_cast] theorem T44_str : T44.str = false := rfl
@[push_cast] theorem T44_cmp : T44.cmp = false := rfl
@[push_cast] theorem T44_desc : T44.desc = .ptr 46 := rfl
@[push_cast] theorem T44_cv : cv T44.zero = .d (.imm (.pointer none)) := rfl
@[push_cast] theorem T44_vcs : vcs T44.zero = [.d (.imm (.pointer none))] := rfl
@[push_cast] theorem T45_size : T45.size = 2 := rfl
@[push_cast] theorem T45_bytes : T45.bytes = 32 := rfl
@[push_cast] theorem T45_agg : T45.agg = true := rfl
@[push_cast] theorem T45_str : T45.str = true := rfl
@[push_cast] theorem T45_cmp : T45.cmp = false := rfl
@[push_cast] theorem T45_fields : T45.fields = [(0, 38), (1, 3)] := rfl
@[push_cast] theorem T45_desc : T45.desc = .st [(0, 38), (1, 3)] := rfl
@[push_cast] theorem T45_cv : cv T45.zero = .d (.ag [.imm (.slice none 0 0), .int .i64 0]) := rfl
@[push_cast] theorem T45_vcs : vcs T45.zero = [.d (.imm (.slice none 0 0)), .d (.int .i64 0)] := rfl
@[push_cast] theorem T46_size : T46.size = 2 := rfl
@[push_cast] theorem T46_bytes : T46.bytes = 32 := rfl
@[push_cast] theorem T46_agg : T46.agg = true := rfl
@[push_cast] theorem T46_str : T46.str = true := rfl
@[push_cast] theorem T46_cmp : T46.cmp = false := rfl
@[push_cast] theorem T46_fields : T46.fields = [(0, 38), (1, 3)] := rfl
@[push_cast] theorem T46_desc : T46.desc = .st [(0, 38), (1, 3)] := rfl
@[push_cast] theorem T46_cv : cv T46.zero = .d (.ag [.imm (.slice none 0 0), .int .i64 0]) := rfl
@[push_cast] theorem T46_vcs : vcs T46.zero = [.d (.imm (.slice none 0 0)), .d (.int .i64 0)] := rfl
@[push_cast] theorem T47_size : T47.size = 1 := rfl
@[push_cast] theorem T47_bytes : T47.bytes = 8 := rfl
@[push_cast] theorem T47_agg : T47.agg = false := rfl
@[push_cast] theorem T47_str : T47.str = false := rfl
@[push_cast] theorem T47_cmp : T47.cmp = true := rfl
@[push_cast] theorem T47_desc : T47.desc = .int .i64 := rfl
@[push_cast] theorem T47_cv : cv T47.zero = .d (.int .i64 0) := rfl
@[push_cast] theorem T47_vcs : vcs T47.zero = [.d (.int .i64 0)] := rfl
@[push_cast] theorem T48_size : T48.size = 4 := rfl
@[push_cast] theorem T48_bytes : T48.bytes = 40 := rfl
@[push_cast] theorem T48_agg : T48.agg = true := rfl
@[push_cast] theorem T48_str : T48.str = true := rfl
@[push_cast] theorem T48_cmp : T48.cmp = true := rfl
@[push_cast] theorem T48_fields : T48.fields = [(0, 47), (1, 9), (2, 2), (3, 3)] := rfl
@[push_cast] theorem T48_desc : T48.desc = .st [(0, 47), (1, 9), (2, 2), (3, 3)] := rfl
@[push_cast] theorem T48_cv : cv T48.zero = .d (.ag [.int .i64 0, .st [], .int .i64 0, .int .i64 0]) := rfl
@[push_cast] theorem T48_vcs : vcs T48.zero = [.d (.int .i64 0), .d (.st []), .d (.int .i64 0), .d (.int .i64 0)] := rfl
@[push_cast] theorem T49_size : T49.size = 4 := rfl
@[push_cast] theorem T49_bytes : T49.bytes = 40 := rfl
@[push_cast] theorem T49_agg : T49.agg = true := rfl
@[push_cast] theorem T49_str : T49.str = true := rfl
@[push_cast] theorem T49_cmp : T49.cmp = true := rfl
@[push_cast] theorem T49_fields : T49.fields = [(0, 47), (1, 9), (2, 2), (3, 3)] := rfl
@[push_cast] theorem T49_desc : T49.desc = .st [(0, 47), (1, 9), (2, 2), (3, 3)] := rfl
@[push_cast] theorem T49_cv : cv T49.zero = .d (.ag [.int .i64 0, .st [], .int .i64 0, .int .i64 0]) := rfl
@[push_cast] theorem T49_vcs : vcs T49.zero = [.d (.int .i64 0), .d (.st []), .d (.int .i64 0), .d (.int .i64 0)] := rfl
@[push_cast] theorem T54_size : T54.size = 1 := rfl
@[push_cast] theorem T54_bytes : T54.bytes = 24 := rfl
@[push_cast] theorem T54_agg : T54.agg = false := rfl
@[push_cast] theorem T54_str : T54.str = false := rfl
@[push_cast] theorem T54_cmp : T54.cmp = false := rfl
@[push_cast] theorem T54_desc : T54.desc = .sli 61 := rfl
@[push_cast] theorem T54_cv : cv T54.zero = .d (.imm (.slice none 0 0)) := rfl
@[push_cast] theorem T54_vcs : vcs T54.zero = [.d (.imm (.slice none 0 0))] := rfl
@[push_cast] theorem T57_size : T57.size = 1 := rfl
@[push_cast] theorem T57_bytes : T57.bytes = 8 := rfl
@[push_cast] theorem T57_agg : T57.agg = false := rfl
@[push_cast] theorem T57_str : T57.str = false := rfl
@[push_cast] theorem T57_cmp : T57.cmp = false := rfl
@[push_cast] theorem T57_desc : T57.desc = .ptr 59 := rfl
@[push_cast] theorem T57_cv : cv T57.zero = .d (.imm (.pointer none)) := rfl
@[push_cast] theorem T57_vcs : vcs T57.zero = [.d (.imm (.pointer none))] := rfl
@[push_cast] theorem T58_size : T58.size = 5 := rfl
@[push_cast] theorem T58_bytes : T58.bytes = 56 := rfl
@[push_cast] theorem T58_agg : T58.agg = true := rfl
@[push_cast] theorem T58_str : T58.str = true := rfl
@[push_cast] theorem T58_cmp : T58.cmp = false := rfl
@[push_cast] theorem T58_fields : T58.fields = [(0, 54), (1, 3), (2, 3), (3, 3), (4, 3)] := rfl
@[push_cast] theorem T58_desc : T58.desc = .st [(0, 54), (1, 3), (2, 3), (3, 3), (4, 3)] := rfl
@[push_cast] theorem T58_cv : cv T58.zero = .d (.ag [.imm (.slice none 0 0), .int .i64 0, .int .i64 0, .int .i64 0, .int .i64 0]) := rfl
@[push_cast] theorem T58_vcs : vcs T58.zero = [.d (.imm (.slice none 0 0)), .d (.int .i64 0), .d (.int .i64 0), .d (.int .i64 0), .d (.int .i64 0)] := rfl
@[push_cast] theorem T59_size : T59.size = 5 := rfl
@[push_cast] theorem T59_bytes : T59.bytes = 56 := rfl
@[push_cast] theorem T59_agg : T59.agg = true := rfl
@[push_cast] theorem T59_str : T59.str = true := rfl
@[push_cast] theorem T59_cmp : T59.cmp = false := rfl
@[push_cast] theorem T59_fields : T59.fields = [(0, 54), (1, 3), (2, 3), (3, 3), (4, 3)] := rfl
@[push_cast] theorem T59_desc : T59.desc = .st [(0, 54), (1, 3), (2, 3), (3, 3), (4, 3)] := rfl
@[push_cast] theorem T59_cv : cv T59.zero = .d (.ag [.imm (.slice none 0 0), .int .i64 0, .int .i64 0, .int .i64 0, .int .i64 0]) := rfl
@[push_cast] theorem T59_vcs : vcs T59.zero = [.d (.imm (.slice none 0 0)), .d (.int .i64 0), .d (.int .i64 0), .d (.int .i64 0), .d (.int .i64 0)] := rfl
@[push_cast] theorem T60_size : T60.size = 4 := rfl
@[push_cast] theorem T60_bytes : T60.bytes = 40 := rfl
@[push_cast] theorem T60_agg : T60.agg = true := rfl
@[push_cast] theorem T60_str : T60.str = true := rfl
@[push_cast] theorem T60_cmp : T60.cmp = true := rfl
@[push_cast] theorem T60_fields : T60.fields = [(0, 3), (1, 9), (2, 2), (3, 3)] := rfl
@[push_cast] theorem T60_desc : T60.desc = .st [(0, 3), (1, 9), (2, 2), (3, 3)] := rfl
@[push_cast] theorem T60_cv : cv T60.zero = .d (.ag [.int .i64 0, .st [], .int .i64 0, .int .i64 0]) := rfl
@[push_cast] theorem T60_vcs : vcs T60.zero = [.d (.int .i64 0), .d (.st []), .d (.int .i64 0), .d (.int .i64 0)] := rfl
@[push_cast] theorem T61_size : T61.size = 4 := rfl
@[push_cast] theorem T61_bytes : T61.bytes = 40 := rfl
@[push_cast] theorem T61_agg : T61.agg = true := rfl
@[push_cast] theorem T61_str : T61.str = true := rfl
@[push_cast] theorem T61_cmp : T61.cmp = true := rfl
@[push_cast] theorem T61_fields : T61.fields = [(0, 3), (1, 9), (2, 2), (3, 3)] := rfl
@[push_cast] theorem T61_desc : T61.desc = .st [(0, 3), (1, 9), (2, 2), (3, 3)] := rfl
@[push_cast] theorem T61_cv : cv T61.zero = .d (.ag [.int .i64 0, .st [], .int .i64 0, .int .i64 0]) := rfl
@[push_cast] theorem T61_vcs : vcs T61.zero = [.d (.int .i64 0), .d (.st []), .d (.int .i64 0), .d (.int .i64 0)] := rfl
@[push_cast] theorem T79_size : T79.size = 1 := rfl
@[push_cast] theorem T79_bytes : T79.bytes = 16 := rfl
@[push_cast] theorem T79_agg : T79.agg = false := rfl
@[push_cast] theorem T79_str : T79.str = false := rfl
@[push_cast] theorem T79_cmp : T79.cmp = false := rfl
@[push_cast] theorem T79_desc : T79.desc = .ifc := rfl
@[push_cast] theorem T79_cv : cv T79.zero = .d (.imm (.nilIface)) := rfl
@[push_cast] theorem T79_vcs : vcs T79.zero = [.d (.imm (.nilIface))] := rfl
@[push_cast] theorem T82_size : T82.size = 3 := rfl
@[push_cast] theorem T82_bytes : T82.bytes = 48 := rfl
@[push_cast] theorem T82_agg : T82.agg = true := rfl
@[push_cast] theorem T82_str : T82.str = false := rfl
@[push_cast] theorem T82_cmp : T82.cmp = false := rfl
@[push_cast] theorem T82_desc : T82.desc = .arr 3 9 := rfl
@[push_cast] theorem T82_cv : cv T82.zero = .d (.ag [.st [], .st [], .st []]) := rfl
@[push_cast] theorem T82_vcs : vcs T82.zero = [.d (.st []), .d (.st []), .d (.st [])] := rfl
@[push_cast] theorem T88_size : T88.size = 1 := rfl
@[push_cast] theorem T88_bytes : T88.bytes = 24 := rfl
@[push_cast] theorem T88_agg : T88.agg = false := rfl
@[push_cast] theorem T88_str : T88.str = false := rfl
@[push_cast] theorem T88_cmp : T88.cmp = false := rfl
@[push_cast] theorem T88_desc : T88.desc = .sli 9 := rfl
@[push_cast] theorem T88_cv : cv T88.zero = .d (.imm (.slice none 0 0)) := rfl
@[push_cast] theorem T88_vcs : vcs T88.zero = [.d (.imm (.slice none 0 0))] := rfl
@[push_cast] theorem T101_size : T101.size = 1 := rfl
@[push_cast] theorem T101_bytes : T101.bytes = 8 := rfl
@[push_cast] theorem T101_agg : T101.agg = false := rfl
@[push_cast] theorem T101_str : T101.str = false := rfl
@[push_cast] theorem T101_cmp : T101.cmp = true := rfl
@[push_cast] theorem T101_desc : T101.desc = .int .u64 := rfl
@[push_cast] theorem T101_cv : cv T101.zero = .d (.int .u64 0) := rfl
@[push_cast] theorem T101_vcs : vcs T101.zero = [.d (.int .u64 0)] := rfl
@[push_cast] theorem T104_size : T104.size = 1 := rfl
@[push_cast] theorem T104_bytes : T104.bytes = 8 := rfl
@[push_cast] theorem T104_agg : T104.agg = false := rfl
@[push_cast] theorem T104_str : T104.str = false := rfl
@[push_cast] theorem T104_cmp : T104.cmp = true := rfl
@[push_cast] theorem T104_desc : T104.desc = .int .u64 := rfl
@[push_cast] theorem T104_cv : cv T104.zero = .d (.int .u64 0) := rfl
@[push_cast] theorem T104_vcs : vcs T104.zero = [.d (.int .u64 0)] := rfl
@[push_cast] theorem T109_size : T109.size = 1 := rfl
@[push_cast] theorem T109_bytes : T109.bytes = 24 := rfl
@[push_cast] theorem T109_agg : T109.agg = false := rfl
@[push_cast] theorem T109_str : T109.str = false := rfl
@[push_cast] theorem T109_cmp : T109.cmp = false := rfl
@[push_cast] theorem T109_desc : T109.desc = .sli 5 := rfl
@[push_cast] theorem T109_cv : cv T109.zero = .d (.imm (.slice none 0 0)) := rfl
@[push_cast] theorem T109_vcs : vcs T109.zero = [.d (.imm (.slice none 0 0))] := rfl
@[push_cast] theorem T114_size : T114.size = 1 := rfl
@[push_cast] theorem T114_bytes : T114.bytes = 8 := rfl
@[push_cast] theorem T114_agg : T114.agg = false := rfl
@[push_cast] theorem T114_str : T114.str = false := rfl
@[push_cast] theorem T114_cmp : T114.cmp = false := rfl
@[push_cast] theorem T114_desc : T114.desc = .map 9 22 := rfl
@[push_cast] theorem T114_cv : cv T114.zero = .d (.imm (.map none)) := rfl
@[push_cast] theorem T114_vcs : vcs T114.zero = [.d (.imm (.map none))] := rfl
@[push_cast] theorem T115_size : T115.size = 1 := rfl
@[push_cast] theorem T115_bytes : T115.bytes = 8 := rfl
@[push_cast] theorem T115_agg : T115.agg = false := rfl
@[push_cast] theorem T115_str : T115.str = false := rfl
@[push_cast] theorem T115_cmp : T115.cmp = false := rfl
@[push_cast] theorem T115_desc : T115.desc = .ptr 5 := rfl
@[push_cast] theorem T115_cv : cv T115.zero = .d (.imm (.pointer none)) := rfl
@[push_cast] theorem T115_vcs : vcs T115.zero = [.d (.imm (.pointer none))] := rfl
@[push_cast] theorem T117_size : T117.size = 1 := rfl
@[push_cast] theorem T117_bytes : T117.bytes = 16 := rfl
@[push_cast] theorem T117_agg : T117.agg = true := rfl
@[push_cast] theorem T117_str : T117.str = true := rfl
@[push_cast] theorem T117_cmp : T117.cmp = true := rfl
@[push_cast] theorem T117_fields : T117.fields = [(0, 9)] := rfl
@[push_cast] theorem T117_desc : T117.desc = .st [(0, 9)] := rfl
@[push_cast] theorem T117_cv : cv T117.zero = .d (.ag [.st []]) := rfl
@[push_cast] theorem T117_vcs : vcs T117.zero = [.d (.st [])] := rfl
@[push_cast] theorem T120_size : T120.size = 24 := rfl
@[push_cast] theorem T120_bytes : T120.bytes = 24 := rfl
@[push_cast] theorem T120_agg : T120.agg = true := rfl
@[push_cast] theorem T120_str : T120.str = false := rfl
@[push_cast] theorem T120_cmp : T120.cmp = false := rfl
@[push_cast] theorem T120_desc : T120.desc = .arr 24 5 := rfl
@[push_cast] theorem T120_cv : cv T120.zero = .d (.ag [.int .u8 0, .int .u8 0, .int .u8 0, .int .u8 0, .int .u8 0, .int .u8 0, .int .u8 0, .int .u8 0, .int .u8 0, .int .u8 0, .int .u8 0, .int .u8 0, .int .u8 0, .int .u8 0, .int .u8 0, .int .u8 0, .int .u8 0, .int .u8 0, .int .u8 0, .int .u8 0, .int .u8 0, .int .u8 0, .int .u8 0, .int .u8 0]) := rfl
@[push_cast] theorem T120_vcs : vcs T120.zero = [.d (.int .u8 0), .d (.int .u8 0), .d (.int .u8 0), .d (.int .u8 0), .d (.int .u8 0), .d (.int .u8 0), .d (.int .u8 0), .d (.int .u8 0), .d (.int .u8 0), .d (.int .u8 0), .d (.int .u8 0), .d (.int .u8 0), .d (.int .u8 0), .d (.int .u8 0), .d (.int .u8 0), .d (.int .u8 0), .d (.int .u8 0), .d (.int .u8 0), .d (.int .u8 0), .d (.int .u8 0), .d (.int .u8 0), .d (.int .u8 0), .d (.int .u8 0), .d (.int .u8 0)] := rfl
@[push_cast] theorem T127_size : T127.size = 20 := rfl
@[push_cast] theorem T127_bytes : T127.bytes = 160 := rfl
@[push_cast] theorem T127_agg : T127.agg = true := rfl
@[push_cast] theorem T127_str : T127.str = false := rfl
@[push_cast] theorem T127_cmp : T127.cmp = false := rfl
@[push_cast] theorem T127_desc : T127.desc = .arr 20 101 := rfl
@[push_cast] theorem T127_cv : cv T127.zero = .d (.ag [.int .u64 0, .int .u64 0, .int .u64 0, .int .u64 0, .int .u64 0, .int .u64 0, .int .u64 0, .int .u64 0, .int .u64 0, .int .u64 0, .int .u64 0, .int .u64 0, .int .u64 0, .int .u64 0, .int .u64 0, .int .u64 0, .int .u64 0, .int .u64 0, .int .u64 0, .int .u64 0]) := rfl
@[push_cast] theorem T127_vcs : vcs T127.zero = [.d (.int .u64 0), .d (.int .u64 0), .d (.int .u64 0), .d (.int .u64 0), .d (.int .u64 0), .d (.int .u64 0), .d (.int .u64 0), .d (.int .u64 0), .d (.int .u64 0), .d (.int .u64 0), .d (.int .u64 0), .d (.int .u64 0), .d (.int .u64 0), .d (.int .u64 0), .d (.int .u64 0), .d (.int .u64 0), .d (.int .u64 0), .d (.int .u64 0), .d (.int .u64 0), .d (.int .u64 0)] := rfl
@[push_cast] theorem T128_size : T128.size = 1 := rfl
@[push_cast] theorem T128_bytes : T128.bytes = 4 := rfl
@[push_cast] theorem T128_agg : T128.agg = false := rfl
@[push_cast] theorem T128_str : T128.str = false := rfl
@[push_cast] theorem T128_cmp : T128.cmp = true := rfl
@[push_cast] theorem T128_desc : T128.desc = .int .u32 := rfl
@[push_cast] theorem T128_cv : cv T128.zero = .d (.int .u32 0) := rfl
@[push_cast] theorem T128_vcs : vcs T128.zero = [.d (.int .u32 0)] := rfl
@[push_cast] theorem T129_size : T129.size = 65 := rfl
@[push_cast] theorem T129_bytes : T129.bytes = 65 := rfl
@[push_cast] theorem T129_agg : T129.agg = true := rfl
@[push_cast] theorem T129_str : T129.str = false := rfl
@[push_cast] theorem T129_cmp : T129.cmp = false := rfl
@[push_cast] theorem T129_desc : T129.desc = .arr 65 5 := rfl
@[push_cast] theorem T129_cv : cv T129.zero = .d (.ag [.int .u8 0, .int .u8 0, .int .u8 0, .int .u8 0, .int .u8 0, .int .u8 0, .int .u8 0, .int .u8 0, .int .u8 0, .int .u8 0, .int .u8 0, .int .u8 0, .int .u8 0, .int .u8 0, .int .u8 0, .int .u8 0, .int .u8 0, .int .u8 0, .int .u8 0, .int .u8 0, .int .u8 0, .int .u8 0, .int .u8 0, .int .u8 0, .int .u8 0, .int .u8 0, .int .u8 0, .int .u8 0, .int .u8 0, .int .u8 0, .int .u8 0, .int .u8 0, .int .u8 0, .int .u8 0, .int .u8 0, .int .u8 0, .int .u8 0, .int .u8 0, .int .u8 0, .int .u8 0, .int .u8 0, .int .u8 0, .int .u8 0, .int .u8 0, .int .u8 0, .int .u8 0, .int .u8 0, .int .u8 0, .int .u8 0, .int .u8 0, .int .u8 0, .int .u8 0, .int .u8 0, .int .u8 0, .int .u8 0, .int .u8 0, .int .u8 0, .int .u8 0, .int .u8 0, .int .u8 0, .int .u8 0, .int .u8 0, .int .u8 0, .int .u8 0, .int .u8 0]) := rfl
@[push_cast] theorem T129_vcs : vcs T129.zero = [.d (.int .u8 0), .d (.int .u8 0), .d (.int .u8 0), .d (.int .u8 0), .d (.int .u8 0), .d (.int .u8 0), .d (.int .u8 0), .d (.int .u8 0), .d (.int .u8 0), .d (.int .u8 0), .d (.int .u8 0), .d (.int .u8 0), .d (.int .u8 0), .d (.int .u8 0), .d (.int .u8 0), .d (.int .u8 0), .d (.int .u8 0), .d (.int .u8 0), .d (.int .u8 0), .d (.int .u8 0), .d (.int .u8 0), .d (.int .u8 0), .d (.int .u8 0), .d (.int .u8 0), .d (.int .u8 0), .d (.int .u8 0), .d (.int .u8 0), .d (.int .u8 0), .d (.int .u8 0), .d (.int .u8 0), .d (.int .u8 0), .d (.int .u8 0), .d (.int .u8 0), .d (.int .u8 0), .d (.int .u8 0), .d (.int .u8 0), .d (.int .u8 0), .d (.int .u8 0), .d (.int .u8 0), .d (.int .u8 0), .d (.int .u8 0), .d (.int .u8 0), .d (.int .u8 0), .d (.int .u8 0), .d (.int .u8 0), .d (.int .u8 0), .d (.int .u8 0), .d (.int .u8 0), .d (.int .u8 0), .d (.int .u8 0), .d (.int .u8 0), .d (.int .u8 0), .d (.int .u8 0), .d (.int .u8 0), .d (.int .u8 0), .d (.int .u8 0), .d (.int .u8 0), .d (.int .u8 0), .d (.int .u8 0), .d (.int .u8 0), .d (.int .u8 0), .d (.int .u8 0), .d (.int .u8 0), .d (.int .u8 0), .d (.int .u8 0)] := rfl
@[push_cast] theorem T133_size : T133.size = 32 := rfl
@[push_cast] theorem T133_bytes : T133.bytes = 32 := rfl
@[push_cast] theorem T133_agg : T133.agg = true := rfl
@[push_cast] theorem T133_str : T133.str = false := rfl
@[push_cast] theorem T133_cmp : T133.cmp = false := rfl
@[push_cast] theorem T133_desc : T133.desc = .arr 32 5 := rfl
@[push_cast] theorem T133_cv : cv T133.zero = .d (.ag [.int .u8 0, .int .u8 0, .int .u8 0, .int .u8 0, .int .u8 0, .int .u8 0, .int .u8 0, .int .u8 0, .int .u8 0, .int .u8 0, .int .u8 0, .int .u8 0, .int .u8 0, .int .u8 0, .int .u8 0, .int .u8 0, .int .u8 0, .int .u8 0, .int .u8 0, .int .u8 0, .int .u8 0, .int .u8 0, .int .u8 0, .int .u8 0, .int .u8 0, .int .u8 0, .int .u8 0, .int .u8 0, .int .u8 0, .int .u8 0, .int .u8 0, .int .u8 0]) := rfl
@[push_cast] theorem T133_vcs : vcs T133.zero = [.d (.int .u8 0), .d (.int .u8 0), .d (.int .u8 0), .d (.int .u8 0), .d (.int .u8 0), .d (.int .u8 0), .d (.int .u8 0), .d (.int .u8 0), .d (.int .u8 0), .d (.int .u8 0), .d (.int .u8 0), .d (.int .u8 0), .d (.int .u8 0), .d (.int .u8 0), .d (.int .u8 0), .d (.int .u8 0), .d (.int .u8 0), .d (.int .u8 0), .d (.int .u8 0), .d (.int .u8 0), .d (.int .u8 0), .d (.int .u8 0), .d (.int .u8 0), .d (.int .u8 0), .d (.int .u8 0), .d (.int .u8 0), .d (.int .u8 0), .d (.int .u8 0), .d (.int .u8 0), .d (.int .u8 0), .d (.int .u8 0), .d (.int .u8 0)] := rfl
@[push_cast] theorem T134_size : T134.size = 64 := rfl
@[push_cast] theorem T134_bytes : T134.bytes = 64 := rfl
@[push_cast] theorem T134_agg : T134.agg = true := rfl
@[push_cast] theorem T134_str : T134.str = false := rfl
@[push_cast] theorem T134_cmp : T134.cmp = false := rfl
@[push_cast] theorem T134_desc : T134.desc = .arr 64 5 := rfl
@[push_cast] theorem T134_cv : cv T134.zero = .d (.ag [.int .u8 0, .int .u8 0, .int .u8 0, .int .u8 0, .int .u8 0, .int .u8 0, .int .u8 0, .int .u8 0, .int .u8 0, .int .u8 0, .int .u8 0, .int .u8 0, .int .u8 0, .int .u8 0, .int .u8 0, .int .u8 0, .int .u8 0, .int .u8 0, .int .u8 0, .int .u8 0, .int .u8 0, .int .u8 0, .int .u8 0, .int .u8 0, .int .u8 0, .int .u8 0, .int .u8 0, .int .u8 0, .int .u8 0, .int .u8 0, .int .u8 0, .int .u8 0, .int .u8 0, .int .u8 0, .int .u8 0, .int .u8 0, .int .u8 0, .int .u8 0, .int .u8 0, .int .u8 0, .int .u8 0, .int .u8 0, .int .u8 0, .int .u8 0, .int .u8 0, .int .u8 0, .int .u8 0, .int .u8 0, .int .u8 0, .int .u8 0, .int .u8 0, .int .u8 0, .int .u8 0, .int .u8 0, .int .u8 0, .int .u8 0, .int .u8 0, .int .u8 0, .int .u8 0, .int .u8 0, .int .u8 0, .int .u8 0, .int .u8 0, .int .u8 0]) := rfl
@[push_cast] theorem T134_vcs : vcs T134.zero = [.d (.int .u8 0), .d (.int .u8 0), .d (.int .u8 0), .d (.int .u8 0), .d (.int .u8 0), .d (.int .u8 0), .d (.int .u8 0), .d (.int .u8 0), .d (.int .u8 0), .d (.int .u8 0), .d (.int .u8 0), .d (.int .u8 0), .d (.int .u8 0), .d (.int .u8 0), .d (.int .u8 0), .d (.int .u8 0), .d (.int .u8 0), .d (.int .u8 0), .d (.int .u8 0), .d (.int .u8 0), .d (.int .u8 0), .d (.int .u8 0), .d (.int .u8 0), .d (.int .u8 0), .d (.int .u8 0), .d (.int .u8 0), .d (.int .u8 0), .d (.int .u8 0), .d (.int .u8 0), .d (.int .u8 0), .d (.int .u8 0), .d (.int .u8 0), .d (.int .u8 0), .d (.int .u8 0), .d (.int .u8 0), .d (.int .u8 0), .d (.int .u8 0), .d (.int .u8 0), .d (.int .u8 0), .d (.int .u8 0), .d (.int .u8 0), .d (.int .u8 0), .d (.int .u8 0), .d (.int .u8 0), .d (.int .u8 0), .d (.int .u8 0), .d (.int .u8 0), .d (.int .u8 0), .d (.int .u8 0), .d (.int .u8 0), .d (.int .u8 0), .d (.int .u8 0), .d (.int .u8 0), .d (.int .u8 0), .d (.int .u8 0), .d (.int .u8 0), .d (.int .u8 0), .d (.int .u8 0), .d (.int .u8 0), .d (.int .u8 0), .d (.int .u8 0), .d (.int .u8 0), .d (.int .u8 0), .d (.int .u8 0)] := rfl
end Lx
