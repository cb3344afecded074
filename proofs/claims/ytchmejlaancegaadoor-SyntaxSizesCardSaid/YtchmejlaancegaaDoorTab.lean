/-
  THE TYPES OF THE TRANSLATION, written by a program (gentab.py).
-/
import Derived.Test.YtchmejlaancegaaDoorFn
import Derived.Test.YtchmejlaancegaaDoorProg
import Derived.KernelRfl
set_option linter.unusedSimpArgs false
namespace Lx
open Go
open Go.Proofs (Tryd.prog)
def T2 : TI := ⟨.int .i64, 1, 8, .int .i64 0, true⟩
def T3 : TI := ⟨.int .i64, 1, 8, .int .i64 0, true⟩
def T4 : TI := ⟨.boo, 1, 1, .bool false, true⟩
def T5 : TI := ⟨.int .u8, 1, 1, .int .u8 0, true⟩
def T9 : TI := ⟨.str, 1, 16, .string ⟨#[]⟩, true⟩
def T12 : TI := ⟨.int .u64, 1, 8, .int .u64 0, true⟩
def T13 : TI := ⟨.st [(0, 9), (1, 12)], 2, 24, .agg #[.string ⟨#[]⟩, .int .u64 0], false⟩
def T20 : TI := ⟨.ifc, 1, 16, .nilIface, false⟩
def T21 : TI := ⟨.int .i32, 1, 4, .int .i32 0, true⟩
def T22 : TI := ⟨.sli 3, 1, 24, .slice none 0 0, false⟩
def T23 : TI := ⟨.int .i64, 1, 8, .int .i64 0, true⟩
def T24 : TI := ⟨.sli 26, 1, 24, .slice none 0 0, false⟩
def T25 : TI := ⟨.st [(0, 23), (1, 9), (2, 2), (3, 3), (4, 24)], 5, 64, .agg #[.int .i64 0, .string ⟨#[]⟩, .int .i64 0, .int .i64 0, .slice none 0 0], false⟩
def T26 : TI := ⟨.st [(0, 23), (1, 9), (2, 2), (3, 3), (4, 24)], 5, 64, .agg #[.int .i64 0, .string ⟨#[]⟩, .int .i64 0, .int .i64 0, .slice none 0 0], false⟩
def T27 : TI := ⟨.int .i64, 1, 8, .int .i64 0, true⟩
def T33 : TI := ⟨.sli 35, 1, 24, .slice none 0 0, false⟩
def T34 : TI := ⟨.st [(0, 3), (1, 9), (2, 2), (3, 3), (4, 33)], 5, 64, .agg #[.int .i64 0, .string ⟨#[]⟩, .int .i64 0, .int .i64 0, .slice none 0 0], false⟩
def T35 : TI := ⟨.st [(0, 3), (1, 9), (2, 2), (3, 3), (4, 33)], 5, 64, .agg #[.int .i64 0, .string ⟨#[]⟩, .int .i64 0, .int .i64 0, .slice none 0 0], false⟩
def T41 : TI := ⟨.sli 46, 1, 24, .slice none 0 0, false⟩
def T44 : TI := ⟨.int .i64, 1, 8, .int .i64 0, true⟩
def T45 : TI := ⟨.st [(0, 44), (1, 9), (2, 2), (3, 3)], 4, 40, .agg #[.int .i64 0, .string ⟨#[]⟩, .int .i64 0, .int .i64 0], true⟩
def T46 : TI := ⟨.st [(0, 44), (1, 9), (2, 2), (3, 3)], 4, 40, .agg #[.int .i64 0, .string ⟨#[]⟩, .int .i64 0, .int .i64 0], true⟩
def T52 : TI := ⟨.st [(0, 9), (1, 3), (2, 3), (3, 2), (4, 2)], 5, 48, .agg #[.string ⟨#[]⟩, .int .i64 0, .int .i64 0, .int .i64 0, .int .i64 0], true⟩
def T53 : TI := ⟨.st [(0, 9), (1, 3), (2, 3), (3, 2), (4, 2)], 5, 48, .agg #[.string ⟨#[]⟩, .int .i64 0, .int .i64 0, .int .i64 0, .int .i64 0], true⟩
def T54 : TI := ⟨.sli 59, 1, 24, .slice none 0 0, false⟩
def T56 : TI := ⟨.sli 60, 1, 24, .slice none 0 0, false⟩
def T58 : TI := ⟨.st [(0, 3), (1, 3), (2, 2)], 3, 24, .agg #[.int .i64 0, .int .i64 0, .int .i64 0], true⟩
def T59 : TI := ⟨.st [(0, 3), (1, 3), (2, 2)], 3, 24, .agg #[.int .i64 0, .int .i64 0, .int .i64 0], true⟩
def T60 : TI := ⟨.st [(0, 3), (1, 3), (2, 2)], 3, 24, .agg #[.int .i64 0, .int .i64 0, .int .i64 0], true⟩
def T63 : TI := ⟨.map 3 2, 1, 8, .map none, false⟩
def T65 : TI := ⟨.sli 72, 1, 24, .slice none 0 0, false⟩
def T66 : TI := ⟨.sli 72, 1, 24, .slice none 0 0, false⟩
def T69 : TI := ⟨.int .i64, 1, 8, .int .i64 0, true⟩
def T70 : TI := ⟨.sli 75, 1, 24, .slice none 0 0, false⟩
def T71 : TI := ⟨.st [(0, 9), (1, 69), (2, 3), (3, 70), (4, 54)], 5, 80, .agg #[.string ⟨#[]⟩, .int .i64 0, .int .i64 0, .slice none 0 0, .slice none 0 0], false⟩
def T72 : TI := ⟨.st [(0, 9), (1, 69), (2, 3), (3, 70), (4, 54)], 5, 80, .agg #[.string ⟨#[]⟩, .int .i64 0, .int .i64 0, .slice none 0 0, .slice none 0 0], false⟩
def T74 : TI := ⟨.st [(0, 9), (1, 3)], 2, 24, .agg #[.string ⟨#[]⟩, .int .i64 0], true⟩
def T75 : TI := ⟨.st [(0, 9), (1, 3)], 2, 24, .agg #[.string ⟨#[]⟩, .int .i64 0], true⟩
def T76 : TI := ⟨.st [(0, 3), (1, 27)], 2, 16, .agg #[.int .i64 0, .int .i64 0], true⟩
def T77 : TI := ⟨.st [(0, 3), (1, 27)], 2, 16, .agg #[.int .i64 0, .int .i64 0], true⟩
def T79 : TI := ⟨.ptr 81, 1, 8, .pointer none, false⟩
def T80 : TI := ⟨.st [(0, 41), (1, 3)], 2, 32, .agg #[.slice none 0 0, .int .i64 0], false⟩
def T81 : TI := ⟨.st [(0, 41), (1, 3)], 2, 32, .agg #[.slice none 0 0, .int .i64 0], false⟩
def T90 : TI := ⟨.st [(0, 3), (1, 27)], 2, 16, .agg #[.int .i64 0, .int .i64 0], true⟩
def T91 : TI := ⟨.st [(0, 3), (1, 27)], 2, 16, .agg #[.int .i64 0, .int .i64 0], true⟩
def T100 : TI := ⟨.ifc, 1, 16, .nilIface, false⟩
def T103 : TI := ⟨.arr 3 9, 3, 48, .agg #[.string ⟨#[]⟩, .string ⟨#[]⟩, .string ⟨#[]⟩], false⟩
def T111 : TI := ⟨.ptr 72, 1, 8, .pointer none, false⟩
def T120 : TI := ⟨.sli 9, 1, 24, .slice none 0 0, false⟩
def T121 : TI := ⟨.arr 2 3, 2, 16, .agg #[.int .i64 0, .int .i64 0], false⟩
def T127 : TI := ⟨.int .u64, 1, 8, .int .u64 0, true⟩
def T130 : TI := ⟨.int .u64, 1, 8, .int .u64 0, true⟩
def T135 : TI := ⟨.sli 5, 1, 24, .slice none 0 0, false⟩
def T140 : TI := ⟨.map 9 23, 1, 8, .map none, false⟩
def T141 : TI := ⟨.ptr 5, 1, 8, .pointer none, false⟩
def T143 : TI := ⟨.st [(0, 9)], 1, 16, .agg #[.string ⟨#[]⟩], true⟩
def T146 : TI := ⟨.arr 24 5, 24, 24, .agg #[.int .u8 0, .int .u8 0, .int .u8 0, .int .u8 0, .int .u8 0, .int .u8 0, .int .u8 0, .int .u8 0, .int .u8 0, .int .u8 0, .int .u8 0, .int .u8 0, .int .u8 0, .int .u8 0, .int .u8 0, .int .u8 0, .int .u8 0, .int .u8 0, .int .u8 0, .int .u8 0, .int .u8 0, .int .u8 0, .int .u8 0, .int .u8 0], false⟩
def T153 : TI := ⟨.arr 20 127, 20, 160, .agg #[.int .u64 0, .int .u64 0, .int .u64 0, .int .u64 0, .int .u64 0, .int .u64 0, .int .u64 0, .int .u64 0, .int .u64 0, .int .u64 0, .int .u64 0, .int .u64 0, .int .u64 0, .int .u64 0, .int .u64 0, .int .u64 0, .int .u64 0, .int .u64 0, .int .u64 0, .int .u64 0], false⟩
def T154 : TI := ⟨.int .u32, 1, 4, .int .u32 0, true⟩
def T155 : TI := ⟨.arr 65 5, 65, 65, .agg #[.int .u8 0, .int .u8 0, .int .u8 0, .int .u8 0, .int .u8 0, .int .u8 0, .int .u8 0, .int .u8 0, .int .u8 0, .int .u8 0, .int .u8 0, .int .u8 0, .int .u8 0, .int .u8 0, .int .u8 0, .int .u8 0, .int .u8 0, .int .u8 0, .int .u8 0, .int .u8 0, .int .u8 0, .int .u8 0, .int .u8 0, .int .u8 0, .int .u8 0, .int .u8 0, .int .u8 0, .int .u8 0, .int .u8 0, .int .u8 0, .int .u8 0, .int .u8 0, .int .u8 0, .int .u8 0, .int .u8 0, .int .u8 0, .int .u8 0, .int .u8 0, .int .u8 0, .int .u8 0, .int .u8 0, .int .u8 0, .int .u8 0, .int .u8 0, .int .u8 0, .int .u8 0, .int .u8 0, .int .u8 0, .int .u8 0, .int .u8 0, .int .u8 0, .int .u8 0, .int .u8 0, .int .u8 0, .int .u8 0, .int .u8 0, .int .u8 0, .int .u8 0, .int .u8 0, .int .u8 0, .int .u8 0, .int .u8 0, .int .u8 0, .int .u8 0, .int .u8 0], false⟩
def T159 : TI := ⟨.arr 32 5, 32, 32, .agg #[.int .u8 0, .int .u8 0, .int .u8 0, .int .u8 0, .int .u8 0, .int .u8 0, .int .u8 0, .int .u8 0, .int .u8 0, .int .u8 0, .int .u8 0, .int .u8 0, .int .u8 0, .int .u8 0, .int .u8 0, .int .u8 0, .int .u8 0, .int .u8 0, .int .u8 0, .int .u8 0, .int .u8 0, .int .u8 0, .int .u8 0, .int .u8 0, .int .u8 0, .int .u8 0, .int .u8 0, .int .u8 0, .int .u8 0, .int .u8 0, .int .u8 0, .int .u8 0], false⟩
def T160 : TI := ⟨.arr 64 5, 64, 64, .agg #[.int .u8 0, .int .u8 0, .int .u8 0, .int .u8 0, .int .u8 0, .int .u8 0, .int .u8 0, .int .u8 0, .int .u8 0, .int .u8 0, .int .u8 0, .int .u8 0, .int .u8 0, .int .u8 0, .int .u8 0, .int .u8 0, .int .u8 0, .int .u8 0, .int .u8 0, .int .u8 0, .int .u8 0, .int .u8 0, .int .u8 0, .int .u8 0, .int .u8 0, .int .u8 0, .int .u8 0, .int .u8 0, .int .u8 0, .int .u8 0, .int .u8 0, .int .u8 0, .int .u8 0, .int .u8 0, .int .u8 0, .int .u8 0, .int .u8 0, .int .u8 0, .int .u8 0, .int .u8 0, .int .u8 0, .int .u8 0, .int .u8 0, .int .u8 0, .int .u8 0, .int .u8 0, .int .u8 0, .int .u8 0, .int .u8 0, .int .u8 0, .int .u8 0, .int .u8 0, .int .u8 0, .int .u8 0, .int .u8 0, .int .u8 0, .int .u8 0, .int .u8 0, .int .u8 0, .int .u8 0, .int .u8 0, .int .u8 0, .int .u8 0, .int .u8 0], false⟩
set_option maxRecDepth 100000 in
def tl : List (Nat × TI) := [(2, T2), (3, T3), (4, T4), (5, T5), (9, T9), (12, T12), (13, T13), (20, T20), (21, T21), (22, T22), (23, T23), (24, T24), (25, T25), (26, T26), (27, T27), (33, T33), (34, T34), (35, T35), (41, T41), (44, T44), (45, T45), (46, T46), (52, T52), (53, T53), (54, T54), (56, T56), (58, T58), (59, T59), (60, T60), (63, T63), (65, T65), (66, T66), (69, T69), (70, T70), (71, T71), (72, T72), (74, T74), (75, T75), (76, T76), (77, T77), (79, T79), (80, T80), (81, T81), (90, T90), (91, T91), (100, T100), (103, T103), (111, T111), (120, T120), (121, T121), (127, T127), (130, T130), (135, T135), (140, T140), (141, T141), (143, T143), (146, T146), (153, T153), (154, T154), (155, T155), (159, T159), (160, T160)]
set_option maxRecDepth 100000 in
theorem tl_oks : TOKs Go.Proofs.Tryd.prog tl := by
  refine ⟨⟨_, _, Go.Proofs.Tryd.type2, rfl, rfl, rfl, Go.Proofs.Tryd.underlying2, rfl, rfl, rfl⟩, ?_⟩
  refine ⟨⟨_, _, Go.Proofs.Tryd.type3, rfl, rfl, rfl, Go.Proofs.Tryd.underlying3, rfl, rfl, rfl⟩, ?_⟩
  refine ⟨⟨_, _, Go.Proofs.Tryd.type4, rfl, rfl, rfl, Go.Proofs.Tryd.underlying4, rfl, rfl, rfl⟩, ?_⟩
  refine ⟨⟨_, _, Go.Proofs.Tryd.type5, rfl, rfl, rfl, Go.Proofs.Tryd.underlying5, rfl, rfl, rfl⟩, ?_⟩
  refine ⟨⟨_, _, Go.Proofs.Tryd.type9, rfl, rfl, rfl, Go.Proofs.Tryd.underlying9, rfl, rfl, rfl⟩, ?_⟩
  refine ⟨⟨_, _, Go.Proofs.Tryd.type12, rfl, rfl, rfl, Go.Proofs.Tryd.underlying12, rfl, rfl, rfl⟩, ?_⟩
  refine ⟨⟨_, _, Go.Proofs.Tryd.type13, rfl, rfl, rfl, Go.Proofs.Tryd.underlying13, rfl, rfl, rfl⟩, ?_⟩
  refine ⟨⟨_, _, Go.Proofs.Tryd.type20, rfl, rfl, rfl, Go.Proofs.Tryd.underlying20, rfl, rfl, rfl⟩, ?_⟩
  refine ⟨⟨_, _, Go.Proofs.Tryd.type21, rfl, rfl, rfl, Go.Proofs.Tryd.underlying21, rfl, rfl, rfl⟩, ?_⟩
  refine ⟨⟨_, _, Go.Proofs.Tryd.type22, rfl, rfl, rfl, Go.Proofs.Tryd.underlying22, rfl, rfl, rfl⟩, ?_⟩
  refine ⟨⟨_, _, Go.Proofs.Tryd.type23, rfl, rfl, rfl, Go.Proofs.Tryd.underlying23, rfl, rfl, rfl⟩, ?_⟩
  refine ⟨⟨_, _, Go.Proofs.Tryd.type24, rfl, rfl, rfl, Go.Proofs.Tryd.underlying24, rfl, rfl, rfl⟩, ?_⟩
  refine ⟨⟨_, _, Go.Proofs.Tryd.type25, rfl, rfl, rfl, Go.Proofs.Tryd.underlying25, rfl, rfl, rfl⟩, ?_⟩
  refine ⟨⟨_, _, Go.Proofs.Tryd.type26, rfl, rfl, rfl, Go.Proofs.Tryd.underlying26, rfl, rfl, rfl⟩, ?_⟩
  refine ⟨⟨_, _, Go.Proofs.Tryd.type27, rfl, rfl, rfl, Go.Proofs.Tryd.underlying27, rfl, rfl, rfl⟩, ?_⟩
  refine ⟨⟨_, _, Go.Proofs.Tryd.type33, rfl, rfl, rfl, Go.Proofs.Tryd.underlying33, rfl, rfl, rfl⟩, ?_⟩
  refine ⟨⟨_, _, Go.Proofs.Tryd.type34, rfl, rfl, rfl, Go.Proofs.Tryd.underlying34, rfl, rfl, rfl⟩, ?_⟩
  refine ⟨⟨_, _, Go.Proofs.Tryd.type35, rfl, rfl, rfl, Go.Proofs.Tryd.underlying35, rfl, rfl, rfl⟩, ?_⟩
  refine ⟨⟨_, _, Go.Proofs.Tryd.type41, rfl, rfl, rfl, Go.Proofs.Tryd.underlying41, rfl, rfl, rfl⟩, ?_⟩
  refine ⟨⟨_, _, Go.Proofs.Tryd.type44, rfl, rfl, rfl, Go.Proofs.Tryd.underlying44, rfl, rfl, rfl⟩, ?_⟩
  refine ⟨⟨_, _, Go.Proofs.Tryd.type45, rfl, rfl, rfl, Go.Proofs.Tryd.underlying45, rfl, rfl, by kernel_rfl⟩, ?_⟩
  refine ⟨⟨_, _, Go.Proofs.Tryd.type46, rfl, rfl, rfl, Go.Proofs.Tryd.underlying46, rfl, rfl, by kernel_rfl⟩, ?_⟩
  refine ⟨⟨_, _, Go.Proofs.Tryd.type52, rfl, rfl, rfl, Go.Proofs.Tryd.underlying52, rfl, rfl, by kernel_rfl⟩, ?_⟩
  refine ⟨⟨_, _, Go.Proofs.Tryd.type53, rfl, rfl, rfl, Go.Proofs.Tryd.underlying53, rfl, rfl, by kernel_rfl⟩, ?_⟩
  refine ⟨⟨_, _, Go.Proofs.Tryd.type54, rfl, rfl, rfl, Go.Proofs.Tryd.underlying54, rfl, rfl, rfl⟩, ?_⟩
  refine ⟨⟨_, _, Go.Proofs.Tryd.type56, rfl, rfl, rfl, Go.Proofs.Tryd.underlying56, rfl, rfl, rfl⟩, ?_⟩
  refine ⟨⟨_, _, Go.Proofs.Tryd.type58, rfl, rfl, rfl, Go.Proofs.Tryd.underlying58, rfl, rfl, by kernel_rfl⟩, ?_⟩
  refine ⟨⟨_, _, Go.Proofs.Tryd.type59, rfl, rfl, rfl, Go.Proofs.Tryd.underlying59, rfl, rfl, by kernel_rfl⟩, ?_⟩
  refine ⟨⟨_, _, Go.Proofs.Tryd.type60, rfl, rfl, rfl, Go.Proofs.Tryd.underlying60, rfl, rfl, by kernel_rfl⟩, ?_⟩
  refine ⟨⟨_, _, Go.Proofs.Tryd.type63, rfl, rfl, rfl, Go.Proofs.Tryd.underlying63, rfl, rfl, rfl⟩, ?_⟩
  refine ⟨⟨_, _, Go.Proofs.Tryd.type65, rfl, rfl, rfl, Go.Proofs.Tryd.underlying65, rfl, rfl, rfl⟩, ?_⟩
  refine ⟨⟨_, _, Go.Proofs.Tryd.type66, rfl, rfl, rfl, Go.Proofs.Tryd.underlying66, rfl, rfl, rfl⟩, ?_⟩
  refine ⟨⟨_, _, Go.Proofs.Tryd.type69, rfl, rfl, rfl, Go.Proofs.Tryd.underlying69, rfl, rfl, rfl⟩, ?_⟩
  refine ⟨⟨_, _, Go.Proofs.Tryd.type70, rfl, rfl, rfl, Go.Proofs.Tryd.underlying70, rfl, rfl, rfl⟩, ?_⟩
  refine ⟨⟨_, _, Go.Proofs.Tryd.type71, rfl, rfl, rfl, Go.Proofs.Tryd.underlying71, rfl, rfl, rfl⟩, ?_⟩
  refine ⟨⟨_, _, Go.Proofs.Tryd.type72, rfl, rfl, rfl, Go.Proofs.Tryd.underlying72, rfl, rfl, rfl⟩, ?_⟩
  refine ⟨⟨_, _, Go.Proofs.Tryd.type74, rfl, rfl, rfl, Go.Proofs.Tryd.underlying74, rfl, rfl, by kernel_rfl⟩, ?_⟩
  refine ⟨⟨_, _, Go.Proofs.Tryd.type75, rfl, rfl, rfl, Go.Proofs.Tryd.underlying75, rfl, rfl, by kernel_rfl⟩, ?_⟩
  refine ⟨⟨_, _, Go.Proofs.Tryd.type76, rfl, rfl, rfl, Go.Proofs.Tryd.underlying76, rfl, rfl, by kernel_rfl⟩, ?_⟩
  refine ⟨⟨_, _, Go.Proofs.Tryd.type77, rfl, rfl, rfl, Go.Proofs.Tryd.underlying77, rfl, rfl, by kernel_rfl⟩, ?_⟩
  refine ⟨⟨_, _, Go.Proofs.Tryd.type79, rfl, rfl, rfl, Go.Proofs.Tryd.underlying79, rfl, rfl, rfl⟩, ?_⟩
  refine ⟨⟨_, _, Go.Proofs.Tryd.type80, rfl, rfl, rfl, Go.Proofs.Tryd.underlying80, rfl, rfl, rfl⟩, ?_⟩
  refine ⟨⟨_, _, Go.Proofs.Tryd.type81, rfl, rfl, rfl, Go.Proofs.Tryd.underlying81, rfl, rfl, rfl⟩, ?_⟩
  refine ⟨⟨_, _, Go.Proofs.Tryd.type90, rfl, rfl, rfl, Go.Proofs.Tryd.underlying90, rfl, rfl, by kernel_rfl⟩, ?_⟩
  refine ⟨⟨_, _, Go.Proofs.Tryd.type91, rfl, rfl, rfl, Go.Proofs.Tryd.underlying91, rfl, rfl, by kernel_rfl⟩, ?_⟩
  refine ⟨⟨_, _, Go.Proofs.Tryd.type100, rfl, rfl, rfl, Go.Proofs.Tryd.underlying100, rfl, rfl, rfl⟩, ?_⟩
  refine ⟨⟨_, _, Go.Proofs.Tryd.type103, rfl, rfl, rfl, Go.Proofs.Tryd.underlying103, rfl, rfl, rfl⟩, ?_⟩
  refine ⟨⟨_, _, Go.Proofs.Tryd.type111, rfl, rfl, rfl, Go.Proofs.Tryd.underlying111, rfl, rfl, rfl⟩, ?_⟩
  refine ⟨⟨_, _, Go.Proofs.Tryd.type120, rfl, rfl, rfl, Go.Proofs.Tryd.underlying120, rfl, rfl, rfl⟩, ?_⟩
  refine ⟨⟨_, _, Go.Proofs.Tryd.type121, rfl, rfl, rfl, Go.Proofs.Tryd.underlying121, rfl, rfl, rfl⟩, ?_⟩
  refine ⟨⟨_, _, Go.Proofs.Tryd.type127, rfl, rfl, rfl, Go.Proofs.Tryd.underlying127, rfl, rfl, rfl⟩, ?_⟩
  refine ⟨⟨_, _, Go.Proofs.Tryd.type130, rfl, rfl, rfl, Go.Proofs.Tryd.underlying130, rfl, rfl, rfl⟩, ?_⟩
  refine ⟨⟨_, _, Go.Proofs.Tryd.type135, rfl, rfl, rfl, Go.Proofs.Tryd.underlying135, rfl, rfl, rfl⟩, ?_⟩
  refine ⟨⟨_, _, Go.Proofs.Tryd.type140, rfl, rfl, rfl, Go.Proofs.Tryd.underlying140, rfl, rfl, rfl⟩, ?_⟩
  refine ⟨⟨_, _, Go.Proofs.Tryd.type141, rfl, rfl, rfl, Go.Proofs.Tryd.underlying141, rfl, rfl, rfl⟩, ?_⟩
  refine ⟨⟨_, _, Go.Proofs.Tryd.type143, rfl, rfl, rfl, Go.Proofs.Tryd.underlying143, rfl, rfl, by kernel_rfl⟩, ?_⟩
  refine ⟨⟨_, _, Go.Proofs.Tryd.type146, rfl, rfl, rfl, Go.Proofs.Tryd.underlying146, rfl, rfl, rfl⟩, ?_⟩
  refine ⟨⟨_, _, Go.Proofs.Tryd.type153, rfl, rfl, rfl, Go.Proofs.Tryd.underlying153, rfl, rfl, rfl⟩, ?_⟩
  refine ⟨⟨_, _, Go.Proofs.Tryd.type154, rfl, rfl, rfl, Go.Proofs.Tryd.underlying154, rfl, rfl, rfl⟩, ?_⟩
  refine ⟨⟨_, _, Go.Proofs.Tryd.type155, rfl, rfl, rfl, Go.Proofs.Tryd.underlying155, rfl, rfl, rfl⟩, ?_⟩
  refine ⟨⟨_, _, Go.Proofs.Tryd.type159, rfl, rfl, rfl, Go.Proofs.Tryd.underlying159, rfl, rfl, rfl⟩, ?_⟩
  refine ⟨⟨_, _, Go.Proofs.Tryd.type160, rfl, rfl, rfl, Go.Proofs.Tryd.underlying160, rfl, rfl, rfl⟩, ?_⟩
  exact trivial
theorem tl_ok : TOK Go.Proofs.Tryd.prog tl := tl_oks.ok
set_option maxRecDepth 100000 in
theorem tl_zoks : ZOKs tl := by
  refine ⟨rfl, ?_⟩
  refine ⟨rfl, ?_⟩
  refine ⟨rfl, ?_⟩
  refine ⟨rfl, ?_⟩
  refine ⟨rfl, ?_⟩
  refine ⟨rfl, ?_⟩
  refine ⟨rfl, ?_⟩
  refine ⟨rfl, ?_⟩
  refine ⟨rfl, ?_⟩
  refine ⟨rfl, ?_⟩
  refine ⟨rfl, ?_⟩
  refine ⟨rfl, ?_⟩
  refine ⟨rfl, ?_⟩
  refine ⟨rfl, ?_⟩
  refine ⟨rfl, ?_⟩
  refine ⟨rfl, ?_⟩
  refine ⟨rfl, ?_⟩
  refine ⟨rfl, ?_⟩
  refine ⟨rfl, ?_⟩
  refine ⟨rfl, ?_⟩
  refine ⟨rfl, ?_⟩
  refine ⟨rfl, ?_⟩
  refine ⟨rfl, ?_⟩
  refine ⟨rfl, ?_⟩
  refine ⟨rfl, ?_⟩
  refine ⟨rfl, ?_⟩
  refine ⟨rfl, ?_⟩
  refine ⟨rfl, ?_⟩
  refine ⟨rfl, ?_⟩
  refine ⟨rfl, ?_⟩
  refine ⟨rfl, ?_⟩
  refine ⟨rfl, ?_⟩
  refine ⟨rfl, ?_⟩
  refine ⟨rfl, ?_⟩
  refine ⟨rfl, ?_⟩
  refine ⟨rfl, ?_⟩
  refine ⟨rfl, ?_⟩
  refine ⟨rfl, ?_⟩
  refine ⟨rfl, ?_⟩
  refine ⟨rfl, ?_⟩
  refine ⟨rfl, ?_⟩
  refine ⟨rfl, ?_⟩
  refine ⟨rfl, ?_⟩
  refine ⟨rfl, ?_⟩
  refine ⟨rfl, ?_⟩
  refine ⟨rfl, ?_⟩
  refine ⟨rfl, ?_⟩
  refine ⟨rfl, ?_⟩
  refine ⟨rfl, ?_⟩
  refine ⟨rfl, ?_⟩
  refine ⟨rfl, ?_⟩
  refine ⟨rfl, ?_⟩
  refine ⟨rfl, ?_⟩
  refine ⟨rfl, ?_⟩
  refine ⟨rfl, ?_⟩
  refine ⟨rfl, ?_⟩
  refine ⟨rfl, ?_⟩
  refine ⟨rfl, ?_⟩
  refine ⟨rfl, ?_⟩
  refine ⟨rfl, ?_⟩
  refine ⟨rfl, ?_⟩
  refine ⟨rfl, ?_⟩
  exact trivial
theorem tl_zok : ZOK tl := tl_zoks.ok
/-- An environment over this table. -/
def mkE (w : Bool) (own vis : Nat → Bool) : Env := ⟨tl, w, own, vis⟩
section
variable (w : Bool) (own vis : Nat → Bool)
@[push_cast] theorem mkE_wrap : (mkE w own vis).wrap = w := rfl
@[push_cast] theorem mkE_own : (mkE w own vis).own = own := rfl
@[push_cast] theorem mkE_vis : (mkE w own vis).vis = vis := rfl
@[push_cast] theorem ti2 : (mkE w own vis).ti 2 = some T2 := by kernel_rfl
@[push_cast] theorem ti3 : (mkE w own vis).ti 3 = some T3 := by kernel_rfl
@[push_cast] theorem ti4 : (mkE w own vis).ti 4 = some T4 := by kernel_rfl
@[push_cast] theorem ti5 : (mkE w own vis).ti 5 = some T5 := by kernel_rfl
@[push_cast] theorem ti9 : (mkE w own vis).ti 9 = some T9 := by kernel_rfl
@[push_cast] theorem ti12 : (mkE w own vis).ti 12 = some T12 := by kernel_rfl
@[push_cast] theorem ti13 : (mkE w own vis).ti 13 = some T13 := by kernel_rfl
@[push_cast] theorem ti20 : (mkE w own vis).ti 20 = some T20 := by kernel_rfl
@[push_cast] theorem ti21 : (mkE w own vis).ti 21 = some T21 := by kernel_rfl
@[push_cast] theorem ti22 : (mkE w own vis).ti 22 = some T22 := by kernel_rfl
@[push_cast] theorem ti23 : (mkE w own vis).ti 23 = some T23 := by kernel_rfl
@[push_cast] theorem ti24 : (mkE w own vis).ti 24 = some T24 := by kernel_rfl
@[push_cast] theorem ti25 : (mkE w own vis).ti 25 = some T25 := by kernel_rfl
@[push_cast] theorem ti26 : (mkE w own vis).ti 26 = some T26 := by kernel_rfl
@[push_cast] theorem ti27 : (mkE w own vis).ti 27 = some T27 := by kernel_rfl
@[push_cast] theorem ti33 : (mkE w own vis).ti 33 = some T33 := by kernel_rfl
@[push_cast] theorem ti34 : (mkE w own vis).ti 34 = some T34 := by kernel_rfl
@[push_cast] theorem ti35 : (mkE w own vis).ti 35 = some T35 := by kernel_rfl
@[push_cast] theorem ti41 : (mkE w own vis).ti 41 = some T41 := by kernel_rfl
@[push_cast] theorem ti44 : (mkE w own vis).ti 44 = some T44 := by kernel_rfl
@[push_cast] theorem ti45 : (mkE w own vis).ti 45 = some T45 := by kernel_rfl
@[push_cast] theorem ti46 : (mkE w own vis).ti 46 = some T46 := by kernel_rfl
@[push_cast] theorem ti52 : (mkE w own vis).ti 52 = some T52 := by kernel_rfl
@[push_cast] theorem ti53 : (mkE w own vis).ti 53 = some T53 := by kernel_rfl
@[push_cast] theorem ti54 : (mkE w own vis).ti 54 = some T54 := by kernel_rfl
@[push_cast] theorem ti56 : (mkE w own vis).ti 56 = some T56 := by kernel_rfl
@[push_cast] theorem ti58 : (mkE w own vis).ti 58 = some T58 := by kernel_rfl
@[push_cast] theorem ti59 : (mkE w own vis).ti 59 = some T59 := by kernel_rfl
@[push_cast] theorem ti60 : (mkE w own vis).ti 60 = some T60 := by kernel_rfl
@[push_cast] theorem ti63 : (mkE w own vis).ti 63 = some T63 := by kernel_rfl
@[push_cast] theorem ti65 : (mkE w own vis).ti 65 = some T65 := by kernel_rfl
@[push_cast] theorem ti66 : (mkE w own vis).ti 66 = some T66 := by kernel_rfl
@[push_cast] theorem ti69 : (mkE w own vis).ti 69 = some T69 := by kernel_rfl
@[push_cast] theorem ti70 : (mkE w own vis).ti 70 = some T70 := by kernel_rfl
@[push_cast] theorem ti71 : (mkE w own vis).ti 71 = some T71 := by kernel_rfl
@[push_cast] theorem ti72 : (mkE w own vis).ti 72 = some T72 := by kernel_rfl
@[push_cast] theorem ti74 : (mkE w own vis).ti 74 = some T74 := by kernel_rfl
@[push_cast] theorem ti75 : (mkE w own vis).ti 75 = some T75 := by kernel_rfl
@[push_cast] theorem ti76 : (mkE w own vis).ti 76 = some T76 := by kernel_rfl
@[push_cast] theorem ti77 : (mkE w own vis).ti 77 = some T77 := by kernel_rfl
@[push_cast] theorem ti79 : (mkE w own vis).ti 79 = some T79 := by kernel_rfl
@[push_cast] theorem ti80 : (mkE w own vis).ti 80 = some T80 := by kernel_rfl
@[push_cast] theorem ti81 : (mkE w own vis).ti 81 = some T81 := by kernel_rfl
@[push_cast] theorem ti90 : (mkE w own vis).ti 90 = some T90 := by kernel_rfl
@[push_cast] theorem ti91 : (mkE w own vis).ti 91 = some T91 := by kernel_rfl
@[push_cast] theorem ti100 : (mkE w own vis).ti 100 = some T100 := by kernel_rfl
@[push_cast] theorem ti103 : (mkE w own vis).ti 103 = some T103 := by kernel_rfl
@[push_cast] theorem ti111 : (mkE w own vis).ti 111 = some T111 := by kernel_rfl
@[push_cast] theorem ti120 : (mkE w own vis).ti 120 = some T120 := by kernel_rfl
@[push_cast] theorem ti121 : (mkE w own vis).ti 121 = some T121 := by kernel_rfl
@[push_cast] theorem ti127 : (mkE w own vis).ti 127 = some T127 := by kernel_rfl
@[push_cast] theorem ti130 : (mkE w own vis).ti 130 = some T130 := by kernel_rfl
@[push_cast] theorem ti135 : (mkE w own vis).ti 135 = some T135 := by kernel_rfl
@[push_cast] theorem ti140 : (mkE w own vis).ti 140 = some T140 := by kernel_rfl
@[push_cast] theorem ti141 : (mkE w own vis).ti 141 = some T141 := by kernel_rfl
@[push_cast] theorem ti143 : (mkE w own vis).ti 143 = some T143 := by kernel_rfl
@[push_cast] theorem ti146 : (mkE w own vis).ti 146 = some T146 := by kernel_rfl
@[push_cast] theorem ti153 : (mkE w own vis).ti 153 = some T153 := by kernel_rfl
@[push_cast] theorem ti154 : (mkE w own vis).ti 154 = some T154 := by kernel_rfl
@[push_cast] theorem ti155 : (mkE w own vis).ti 155 = some T155 := by kernel_rfl
@[push_cast] theorem ti159 : (mkE w own vis).ti 159 = some T159 := by kernel_rfl
@[push_cast] theorem ti160 : (mkE w own vis).ti 160 = some T160 := by kernel_rfl
end
@[push_cast] theorem T2_size : T2.size = 1 := rfl
@[push_cast] theorem T2_bytes : T2.bytes = 8 := rfl
@[push_cast] theorem T2_agg : T2.agg = false := rfl
@[push_cast] theorem T2_str : T2.str = false := rfl
@[push_cast] theorem T2_cmp : T2.cmp = true := rfl
@[push_cast] theorem T2_desc : T2.desc = .int .i64 := rfl
@[push_cast] theorem T2_cv : cv T2.zero = .d (.int .i64 0) := rfl
@[push_cast] theorem T2_vcs : vcs T2.zero = [.d (.int .i64 0)] := rfl
@[push_cast] theorem T3_size : T3.size = 1 := rfl
@[push_cast] theorem T3_bytes : T3.bytes = 8 := rfl
@[push_cast] theorem T3_agg : T3.agg = false := rfl
@[push_cast] theorem T3_str : T3.str = false := rfl
@[push_cast] theorem T3_cmp : T3.cmp = true := rfl
@[push_cast] theorem T3_desc : T3.desc = .int .i64 := rfl
@[push_cast] theorem T3_cv : cv T3.zero = .d (.int .i64 0) := rfl
@[push_cast] theorem T3_vcs : vcs T3.zero = [.d (.int .i64 0)] := rfl
@[push_cast] theorem T4_size : T4.size = 1 := rfl
@[push_cast] theorem T4_bytes : T4.bytes = 1 := rfl
@[push_cast] theorem T4_agg : T4.agg = false := rfl
@[push_cast] theorem T4_str : T4.str = false := rfl
@[push_cast] theorem T4_cmp : T4.cmp = true := rfl
@[push_cast] theorem T4_desc : T4.desc = .boo := rfl
@[push_cast] theorem T4_cv : cv T4.zero = .d (.bool false) := rfl
@[push_cast] theorem T4_vcs : vcs T4.zero = [.d (.bool false)] := rfl
@[push_cast] theorem T5_size : T5.size = 1 := rfl
@[push_cast] theorem T5_bytes : T5.bytes = 1 := rfl
@[push_cast] theorem T5_agg : T5.agg = false := rfl
@[push_cast] theorem T5_str : T5.str = false := rfl
@[push_cast] theorem T5_cmp : T5.cmp = true := rfl
@[push_cast] theorem T5_desc : T5.desc = .int .u8 := rfl
@[push_cast] theorem T5_cv : cv T5.zero = .d (.int .u8 0) := rfl
@[push_cast] theorem T5_vcs : vcs T5.zero = [.d (.int .u8 0)] := rfl
@[push_cast] theorem T9_size : T9.size = 1 := rfl
@[push_cast] theorem T9_bytes : T9.bytes = 16 := rfl
@[push_cast] theorem T9_agg : T9.agg = false := rfl
@[push_cast] theorem T9_str : T9.str = false := rfl
@[push_cast] theorem T9_cmp : T9.cmp = true := rfl
@[push_cast] theorem T9_desc : T9.desc = .str := rfl
@[push_cast] theorem T9_cv : cv T9.zero = .d (.st []) := rfl
@[push_cast] theorem T9_vcs : vcs T9.zero = [.d (.st [])] := rfl
@[push_cast] theorem T12_size : T12.size = 1 := rfl
@[push_cast] theorem T12_bytes : T12.bytes = 8 := rfl
@[push_cast] theorem T12_agg : T12.agg = false := rfl
@[push_cast] theorem T12_str : T12.str = false := rfl
@[push_cast] theorem T12_cmp : T12.cmp = true := rfl
@[push_cast] theorem T12_desc : T12.desc = .int .u64 := rfl
@[push_cast] theorem T12_cv : cv T12.zero = .d (.int .u64 0) := rfl
@[push_cast] theorem T12_vcs : vcs T12.zero = [.d (.int .u64 0)] := rfl
@[push_cast] theorem T13_size : T13.size = 2 := rfl
@[push_cast] theorem T13_bytes : T13.bytes = 24 := rfl
@[push_cast] theorem T13_agg : T13.agg = true := rfl
@[push_cast] theorem T13_str : T13.str = true := rfl
@[push_cast] theorem T13_cmp : T13.cmp = false := rfl
@[push_cast] theorem T13_fields : T13.fields = [(0, 9), (1, 12)] := rfl
@[push_cast] theorem T13_desc : T13.desc = .st [(0, 9), (1, 12)] := rfl
@[push_cast] theorem T13_cv : cv T13.zero = .d (.ag [.st [], .int .u64 0]) := rfl
@[push_cast] theorem T13_vcs : vcs T13.zero = [.d (.st []), .d (.int .u64 0)] := rfl
@[push_cast] theorem T20_size : T20.size = 1 := rfl
@[push_cast] theorem T20_bytes : T20.bytes = 16 := rfl
@[push_cast] theorem T20_agg : T20.agg = false := rfl
@[push_cast] theorem T20_str : T20.str = false := rfl
@[push_cast] theorem T20_cmp : T20.cmp = false := rfl
@[push_cast] theorem T20_desc : T20.desc = .ifc := rfl
@[push_cast] theorem T20_cv : cv T20.zero = .d (.imm (.nilIface)) := rfl
@[push_cast] theorem T20_vcs : vcs T20.zero = [.d (.imm (.nilIface))] := rfl
@[push_cast] theorem T21_size : T21.size = 1 := rfl
@[push_cast] theorem T21_bytes : T21.bytes = 4 := rfl
@[push_cast] theorem T21_agg : T21.agg = false := rfl
@[push_cast] theorem T21_str : T21.str = false := rfl
@[push_cast] theorem T21_cmp : T21.cmp = true := rfl
@[push_cast] theorem T21_desc : T21.desc = .int .i32 := rfl
@[push_cast] theorem T21_cv : cv T21.zero = .d (.int .i32 0) := rfl
@[push_cast] theorem T21_vcs : vcs T21.zero = [.d (.int .i32 0)] := rfl
@[push_cast] theorem T22_size : T22.size = 1 := rfl
@[push_cast] theorem T22_bytes : T22.bytes = 24 := rfl
@[push_cast] theorem T22_agg : T22.agg = false := rfl
@[push_cast] theorem T22_str : T22.str = false := rfl
@[push_cast] theorem T22_cmp : T22.cmp = false := rfl
@[push_cast] theorem T22_desc : T22.desc = .sli 3 := rfl
@[push_cast] theorem T22_cv : cv T22.zero = .d (.imm (.slice none 0 0)) := rfl
@[push_cast] theorem T22_vcs : vcs T22.zero = [.d (.imm (.slice none 0 0))] := rfl
@[push_cast] theorem T23_size : T23.size = 1 := rfl
@[push_cast] theorem T23_bytes : T23.bytes = 8 := rfl
@[push_cast] theorem T23_agg : T23.agg = false := rfl
@[push_cast] theorem T23_str : T23.str = false := rfl
@[push_cast] theorem T23_cmp : T23.cmp = true := rfl
@[push_cast] theorem T23_desc : T23.desc = .int .i64 := rfl
@[push_cast] theorem T23_cv : cv T23.zero = .d (.int .i64 0) := rfl
@[push_cast] theorem T23_vcs : vcs T23.zero = [.d (.int .i64 0)] := rfl
@[push_cast] theorem T24_size : T24.size = 1 := rfl
@[push_cast] theorem T24_bytes : T24.bytes = 24 := rfl
@[push_cast] theorem T24_agg : T24.agg = false := rfl
@[push_cast] theorem T24_str : T24.str = false := rfl
@[push_cast] theorem T24_cmp : T24.cmp = false := rfl
@[push_cast] theorem T24_desc : T24.desc = .sli 26 := rfl
@[push_cast] theorem T24_cv : cv T24.zero = .d (.imm (.slice none 0 0)) := rfl
@[push_cast] theorem T24_vcs : vcs T24.zero = [.d (.imm (.slice none 0 0))] := rfl
@[push_cast] theorem T25_size : T25.size = 5 := rfl
@[push_cast] theorem T25_bytes : T25.bytes = 64 := rfl
@[push_cast] theorem T25_agg : T25.agg = true := rfl
@[push_cast] theorem T25_str : T25.str = true := rfl
@[push_cast] theorem T25_cmp : T25.cmp = false := rfl
@[push_cast] theorem T25_fields : T25.fields = [(0, 23), (1, 9), (2, 2), (3, 3), (4, 24)] := rfl
@[push_cast] theorem T25_desc : T25.desc = .st [(0, 23), (1, 9), (2, 2), (3, 3), (4, 24)] := rfl
@[push_cast] theorem T25_cv : cv T25.zero = .d (.ag [.int .i64 0, .st [], .int .i64 0, .int .i64 0, .imm (.slice none 0 0)]) := rfl
@[push_cast] theorem T25_vcs : vcs T25.zero = [.d (.int .i64 0), .d (.st []), .d (.int .i64 0), .d (.int .i64 0), .d (.imm (.slice none 0 0))] := rfl
@[push_cast] theorem T26_size : T26.size = 5 := rfl
@[push_cast] theorem T26_bytes : T26.bytes = 64 := rfl
@[push_cast] theorem T26_agg : T26.agg = true := rfl
@[push_cast] theorem T26_str : T26.str = true := rfl
@[push_cast] theorem T26_cmp : T26.cmp = false := rfl
@[push_cast] theorem T26_fields : T26.fields = [(0, 23), (1, 9), (2, 2), (3, 3), (4, 24)] := rfl
@[push_cast] theorem T26_desc : T26.desc = .st [(0, 23), (1, 9), (2, 2), (3, 3), (4, 24)] := rfl
@[push_cast] theorem T26_cv : cv T26.zero = .d (.ag [.int .i64 0, .st [], .int .i64 0, .int .i64 0, .imm (.slice none 0 0)]) := rfl
@[push_cast] theorem T26_vcs : vcs T26.zero = [.d (.int .i64 0), .d (.st []), .d (.int .i64 0), .d (.int .i64 0), .d (.imm (.slice none 0 0))] := rfl
@[push_cast] theorem T27_size : T27.size = 1 := rfl
@[push_cast] theorem T27_bytes : T27.bytes = 8 := rfl
@[push_cast] theorem T27_agg : T27.agg = false := rfl
@[push_cast] theorem T27_str : T27.str = false := rfl
@[push_cast] theorem T27_cmp : T27.cmp = true := rfl
@[push_cast] theorem T27_desc : T27.desc = .int .i64 := rfl
@[push_cast] theorem T27_cv : cv T27.zero = .d (.int .i64 0) := rfl
@[push_cast] theorem T27_vcs : vcs T27.zero = [.d (.int .i64 0)] := rfl
@[push_cast] theorem T33_size : T33.size = 1 := rfl
@[push_cast] theorem T33_bytes : T33.bytes = 24 := rfl
@[push_cast] theorem T33_agg : T33.agg = false := rfl
@[push_cast] theorem T33_str : T33.str = false := rfl
@[push_cast] theorem T33_cmp : T33.cmp = false := rfl
@[push_cast] theorem T33_desc : T33.desc = .sli 35 := rfl
@[push_cast] theorem T33_cv : cv T33.zero = .d (.imm (.slice none 0 0)) := rfl
@[push_cast] theorem T33_vcs : vcs T33.zero = [.d (.imm (.slice none 0 0))] := rfl
@[push_cast] theorem T34_size : T34.size = 5 := rfl
@[push_cast] theorem T34_bytes : T34.bytes = 64 := rfl
@[push_cast] theorem T34_agg : T34.agg = true := rfl
@[push_cast] theorem T34_str : T34.str = true := rfl
@[push_cast] theorem T34_cmp : T34.cmp = false := rfl
@[push_cast] theorem T34_fields : T34.fields = [(0, 3), (1, 9), (2, 2), (3, 3), (4, 33)] := rfl
@[push_cast] theorem T34_desc : T34.desc = .st [(0, 3), (1, 9), (2, 2), (3, 3), (4, 33)] := rfl
@[push_cast] theorem T34_cv : cv T34.zero = .d (.ag [.int .i64 0, .st [], .int .i64 0, .int .i64 0, .imm (.slice none 0 0)]) := rfl
@[push_cast] theorem T34_vcs : vcs T34.zero = [.d (.int .i64 0), .d (.st []), .d (.int .i64 0), .d (.int .i64 0), .d (.imm (.slice none 0 0))] := rfl
@[push_cast] theorem T35_size : T35.size = 5 := rfl
@[push_cast] theorem T35_bytes : T35.bytes = 64 := rfl
@[push_cast] theorem T35_agg : T35.agg = true := rfl
@[push_cast] theorem T35_str : T35.str = true := rfl
@[push_cast] theorem T35_cmp : T35.cmp = false := rfl
@[push_cast] theorem T35_fields : T35.fields = [(0, 3), (1, 9), (2, 2), (3, 3), (4, 33)] := rfl
@[push_cast] theorem T35_desc : T35.desc = .st [(0, 3), (1, 9), (2, 2), (3, 3), (4, 33)] := rfl
@[push_cast] theorem T35_cv : cv T35.zero = .d (.ag [.int .i64 0, .st [], .int .i64 0, .int .i64 0, .imm (.slice none 0 0)]) := rfl
@[push_cast] theorem T35_vcs : vcs T35.zero = [.d (.int .i64 0), .d (.st []), .d (.int .i64 0), .d (.int .i64 0), .d (.imm (.slice none 0 0))] := rfl
@[push_cast] theorem T41_size : T41.size = 1 := rfl
@[push_cast] theorem T41_bytes : T41.bytes = 24 := rfl
@[push_cast] theorem T41_agg : T41.agg = false := rfl
@[push_cast] theorem T41_str : T41.str = false := rfl
@[push_cast] theorem T41_cmp : T41.cmp = false := rfl
@[push_cast] theorem T41_desc : T41.desc = .sli 46 := rfl
@[push_cast] theorem T41_cv : cv T41.zero = .d (.imm (.slice none 0 0)) := rfl
@[push_cast] theorem T41_vcs : vcs T41.zero = [.d (.imm (.slice none 0 0))] := rfl
@[push_cast] theorem T44_size : T44.size = 1 := rfl
@[push_cast] theorem T44_bytes : T44.bytes = 8 := rfl
@[push_cast] theorem T44_agg : T44.agg = false := rfl
@[push_cast] theorem T44_str : T44.str = false := rfl
@[push_cast] theorem T44_cmp : T44.cmp = true := rfl
@[push_cast] theorem T44_desc : T44.desc = .int .i64 := rfl
@[push_cast] theorem T44_cv : cv T44.zero = .d (.int .i64 0) := rfl
@[push_cast] theorem T44_vcs : vcs T44.zero = [.d (.int .i64 0)] := rfl
@[push_cast] theorem T45_size : T45.size = 4 := rfl
@[push_cast] theorem T45_bytes : T45.bytes = 40 := rfl
@[push_cast] theorem T45_agg : T45.agg = true := rfl
@[push_cast] theorem T45_str : T45.str = true := rfl
@[push_cast] theorem T45_cmp : T45.cmp = true := rfl
@[push_cast] theorem T45_fields : T45.fields = [(0, 44), (1, 9), (2, 2), (3, 3)] := rfl
@[push_cast] theorem T45_desc : T45.desc = .st [(0, 44), (1, 9), (2, 2), (3, 3)] := rfl
@[push_cast] theorem T45_cv : cv T45.zero = .d (.ag [.int .i64 0, .st [], .int .i64 0, .int .i64 0]) := rfl
@[push_cast] theorem T45_vcs : vcs T45.zero = [.d (.int .i64 0), .d (.st []), .d (.int .i64 0), .d (.int .i64 0)] := rfl
@[push_cast] theorem T46_size : T46.size = 4 := rfl
@[push_cast] theorem T46_bytes : T46.bytes = 40 := rfl
@[push_cast] theorem T46_agg : T46.agg = true := rfl
@[push_cast] theorem T46_str : T46.str = true := rfl
@[push_cast] theorem T46_cmp : T46.cmp = true := rfl
@[push_cast] theorem T46_fields : T46.fields = [(0, 44), (1, 9), (2, 2), (3, 3)] := rfl
@[push_cast] theorem T46_desc : T46.desc = .st [(0, 44), (1, 9), (2, 2), (3, 3)] := rfl
@[push_cast] theorem T46_cv : cv T46.zero = .d (.ag [.int .i64 0, .st [], .int .i64 0, .int .i64 0]) := rfl
@[push_cast] theorem T46_vcs : vcs T46.zero = [.d (.int .i64 0), .d (.st []), .d (.int .i64 0), .d (.int .i64 0)] := rfl
@[push_cast] theorem T52_size : T52.size = 5 := rfl
@[push_cast] theorem T52_bytes : T52.bytes = 48 := rfl
@[push_cast] theorem T52_agg : T52.agg = true := rfl
@[push_cast] theorem T52_str : T52.str = true := rfl
@[push_cast] theorem T52_cmp : T52.cmp = true := rfl
@[push_cast] theorem T52_fields : T52.fields = [(0, 9), (1, 3), (2, 3), (3, 2), (4, 2)] := rfl
@[push_cast] theorem T52_desc : T52.desc = .st [(0, 9), (1, 3), (2, 3), (3, 2), (4, 2)] := rfl
@[push_cast] theorem T52_cv : cv T52.zero = .d (.ag [.st [], .int .i64 0, .int .i64 0, .int .i64 0, .int .i64 0]) := rfl
@[push_cast] theorem T52_vcs : vcs T52.zero = [.d (.st []), .d (.int .i64 0), .d (.int .i64 0), .d (.int .i64 0), .d (.int .i64 0)] := rfl
@[push_cast] theorem T53_size : T53.size = 5 := rfl
@[push_cast] theorem T53_bytes : T53.bytes = 48 := rfl
@[push_cast] theorem T53_agg : T53.agg = true := rfl
@[push_cast] theorem T53_str : T53.str = true := rfl
@[push_cast] theorem T53_cmp : T53.cmp = true := rfl
@[push_cast] theorem T53_fields : T53.fields = [(0, 9), (1, 3), (2, 3), (3, 2), (4, 2)] := rfl
@[push_cast] theorem T53_desc : T53.desc = .st [(0, 9), (1, 3), (2, 3), (3, 2), (4, 2)] := rfl
@[push_cast] theorem T53_cv : cv T53.zero = .d (.ag [.st [], .int .i64 0, .int .i64 0, .int .i64 0, .int .i64 0]) := rfl
@[push_cast] theorem T53_vcs : vcs T53.zero = [.d (.st []), .d (.int .i64 0), .d (.int .i64 0), .d (.int .i64 0), .d (.int .i64 0)] := rfl
@[push_cast] theorem T54_size : T54.size = 1 := rfl
@[push_cast] theorem T54_bytes : T54.bytes = 24 := rfl
@[push_cast] theorem T54_agg : T54.agg = false := rfl
@[push_cast] theorem T54_str : T54.str = false := rfl
@[push_cast] theorem T54_cmp : T54.cmp = false := rfl
@[push_cast] theorem T54_desc : T54.desc = .sli 59 := rfl
@[push_cast] theorem T54_cv : cv T54.zero = .d (.imm (.slice none 0 0)) := rfl
@[push_cast] theorem T54_vcs : vcs T54.zero = [.d (.imm (.slice none 0 0))] := rfl
@[push_cast] theorem T56_size : T56.size = 1 := rfl
@[push_cast] theorem T56_bytes : T56.bytes = 24 := rfl
@[push_cast] theorem T56_agg : T56.agg = false := rfl
@[push_cast] theorem T56_str : T56.str = false := rfl
@[push_cast] theorem T56_cmp : T56.cmp = false := rfl
@[push_cast] theorem T56_desc : T56.desc = .sli 60 := rfl
@[push_cast] theorem T56_cv : cv T56.zero = .d (.imm (.slice none 0 0)) := rfl
@[push_cast] theorem T56_vcs : vcs T56.zero = [.d (.imm (.slice none 0 0))] := rfl
@[push_cast] theorem T58_size : T58.size = 3 := rfl
@[push_cast] theorem T58_bytes : T58.bytes = 24 := rfl
@[push_cast] theorem T58_agg : T58.agg = true := rfl
@[push_cast] theorem T58_str : T58.str = true := rfl
@[push_cast] theorem T58_cmp : T58.cmp = true := rfl
@[push_cast] theorem T58_fields : T58.fields = [(0, 3), (1, 3), (2, 2)] := rfl
@[push_cast] theorem T58_desc : T58.desc = .st [(0, 3), (1, 3), (2, 2)] := rfl
@[push_cast] theorem T58_cv : cv T58.zero = .d (.ag [.int .i64 0, .int .i64 0, .int .i64 0]) := rfl
@[push_cast] theorem T58_vcs : vcs T58.zero = [.d (.int .i64 0), .d (.int .i64 0), .d (.int .i64 0)] := rfl
@[push_cast] theorem T59_size : T59.size = 3 := rfl
@[push_cast] theorem T59_bytes : T59.bytes = 24 := rfl
@[push_cast] theorem T59_agg : T59.agg = true := rfl
@[push_cast] theorem T59_str : T59.str = true := rfl
@[push_cast] theorem T59_cmp : T59.cmp = true := rfl
@[push_cast] theorem T59_fields : T59.fields = [(0, 3), (1, 3), (2, 2)] := rfl
@[push_cast] theorem T59_desc : T59.desc = .st [(0, 3), (1, 3), (2, 2)] := rfl
@[push_cast] theorem T59_cv : cv T59.zero = .d (.ag [.int .i64 0, .int .i64 0, .int .i64 0]) := rfl
@[push_cast] theorem T59_vcs : vcs T59.zero = [.d (.int .i64 0), .d (.int .i64 0), .d (.int .i64 0)] := rfl
@[push_cast] theorem T60_size : T60.size = 3 := rfl
@[push_cast] theorem T60_bytes : T60.bytes = 24 := rfl
@[push_cast] theorem T60_agg : T60.agg = true := rfl
@[push_cast] theorem T60_str : T60.str = true := rfl
@[push_cast] theorem T60_cmp : T60.cmp = true := rfl
@[push_cast] theorem T60_fields : T60.fields = [(0, 3), (1, 3), (2, 2)] := rfl
@[push_cast] theorem T60_desc : T60.desc = .st [(0, 3), (1, 3), (2, 2)] := rfl
@[push_cast] theorem T60_cv : cv T60.zero = .d (.ag [.int .i64 0, .int .i64 0, .int .i64 0]) := rfl
@[push_cast] theorem T60_vcs : vcs T60.zero = [.d (.int .i64 0), .d (.int .i64 0), .d (.int .i64 0)] := rfl
@[push_cast] theorem T63_size : T63.size = 1 := rfl
@[push_cast] theorem T63_bytes : T63.bytes = 8 := rfl
@[push_cast] theorem T63_agg : T63.agg = false := rfl
@[push_cast] theorem T63_str : T63.str = false := rfl
@[push_cast] theorem T63_cmp : T63.cmp = false := rfl
@[push_cast] theorem T63_desc : T63.desc = .map 3 2 := rfl
@[push_cast] theorem T63_cv : cv T63.zero = .d (.imm (.map none)) := rfl
@[push_cast] theorem T63_vcs : vcs T63.zero = [.d (.imm (.map none))] := rfl
@[push_cast] theorem T65_size : T65.size = 1 := rfl
@[push_cast] theorem T65_bytes : T65.bytes = 24 := rfl
@[push_cast] theorem T65_agg : T65.agg = false := rfl
@[push_cast] theorem T65_str : T65.str = false := rfl
@[push_cast] theorem T65_cmp : T65.cmp = false := rfl
@[push_cast] theorem T65_desc : T65.desc = .sli 72 := rfl
@[push_cast] theorem T65_cv : cv T65.zero = .d (.imm (.slice none 0 0)) := rfl
@[push_cast] theorem T65_vcs : vcs T65.zero = [.d (.imm (.slice none 0 0))] := rfl
@[push_cast] theorem T66_size : T66.size = 1 := rfl
@[push_cast] theorem T66_bytes : T66.bytes = 24 := rfl
@[push_cast] theorem T66_agg : T66.agg = false := rfl
@[push_cast] theorem T66_str : T66.str = false := rfl
@[push_cast] theorem T66_cmp : T66.cmp = false := rfl
@[push_cast] theorem T66_desc : T66.desc = .sli 72 := rfl
@[push_cast] theorem T66_cv : cv T66.zero = .d (.imm (.slice none 0 0)) := rfl
@[push_cast] theorem T66_vcs : vcs T66.zero = [.d (.imm (.slice none 0 0))] := rfl
@[push_cast] theorem T69_size : T69.size = 1 := rfl
@[push_cast] theorem T69_bytes : T69.bytes = 8 := rfl
@[push_cast] theorem T69_agg : T69.agg = false := rfl
@[push_cast] theorem T69_str : T69.str = false := rfl
@[push_cast] theorem T69_cmp : T69.cmp = true := rfl
@[push_cast] theorem T69_desc : T69.desc = .int .i64 := rfl
@[push_cast] theorem T69_cv : cv T69.zero = .d (.int .i64 0) := rfl
@[push_cast] theorem T69_vcs : vcs T69.zero = [.d (.int .i64 0)] := rfl
@[push_cast] theorem T70_size : T70.size = 1 := rfl
@[push_cast] theorem T70_bytes : T70.bytes = 24 := rfl
@[push_cast] theorem T70_agg : T70.agg = false := rfl
@[push_cast] theorem T70_str : T70.str = false := rfl
@[push_cast] theorem T70_cmp : T70.cmp = false := rfl
@[push_cast] theorem T70_desc : T70.desc = .sli 75 := rfl
@[push_cast] theorem T70_cv : cv T70.zero = .d (.imm (.slice none 0 0)) := rfl
@[push_cast] theorem T70_vcs : vcs T70.zero = [.d (.imm (.slice none 0 0))] := rfl
@[push_cast] theorem T71_size : T71.size = 5 := rfl
@[push_cast] theorem T71_bytes : T71.bytes = 80 := rfl
@[push_cast] theorem T71_agg : T71.agg = true := rfl
@[push_cast] theorem T71_str : T71.str = true := rfl
@[push_cast] theorem T71_cmp : T71.cmp = false := rfl
@[push_cast] theorem T71_fields : T71.fields = [(0, 9), (1, 69), (2, 3), (3, 70), (4, 54)] := rfl
@[push_cast] theorem T71_desc : T71.desc = .st [(0, 9), (1, 69), (2, 3), (3, 70), (4, 54)] := rfl
@[push_cast] theorem T71_cv : cv T71.zero = .d (.ag [.st [], .int .i64 0, .int .i64 0, .imm (.slice none 0 0), .imm (.slice none 0 0)]) := rfl
@[push_cast] theorem T71_vcs : vcs T71.zero = [.d (.st []), .d (.int .i64 0), .d (.int .i64 0), .d (.imm (.slice none 0 0)), .d (.imm (.slice none 0 0))] := rfl
@[push_cast] theorem T72_size : T72.size = 5 := rfl
@[push_cast] theorem T72_bytes : T72.bytes = 80 := rfl
@[push_cast] theorem T72_agg : T72.agg = true := rfl
@[push_cast] theorem T72_str : T72.str = true := rfl
@[push_cast] theorem T72_cmp : T72.cmp = false := rfl
@[push_cast] theorem T72_fields : T72.fields = [(0, 9), (1, 69), (2, 3), (3, 70), (4, 54)] := rfl
@[push_cast] theorem T72_desc : T72.desc = .st [(0, 9), (1, 69), (2, 3), (3, 70), (4, 54)] := rfl
@[push_cast] theorem T72_cv : cv T72.zero = .d (.ag [.st [], .int .i64 0, .int .i64 0, .imm (.slice none 0 0), .imm (.slice none 0 0)]) := rfl
@[push_cast] theorem T72_vcs : vcs T72.zero = [.d (.st []), .d (.int .i64 0), .d (.int .i64 0), .d (.imm (.slice none 0 0)), .d (.imm (.slice none 0 0))] := rfl
@[push_cast] theorem T74_size : T74.size = 2 := rfl
@[push_cast] theorem T74_bytes : T74.bytes = 24 := rfl
@[push_cast] theorem T74_agg : T74.agg = true := rfl
@[push_cast] theorem T74_str : T74.str = true := rfl
@[push_cast] theorem T74_cmp : T74.cmp = true := rfl
@[push_cast] theorem T74_fields : T74.fields = [(0, 9), (1, 3)] := rfl
@[push_cast] theorem T74_desc : T74.desc = .st [(0, 9), (1, 3)] := rfl
@[push_cast] theorem T74_cv : cv T74.zero = .d (.ag [.st [], .int .i64 0]) := rfl
@[push_cast] theorem T74_vcs : vcs T74.zero = [.d (.st []), .d (.int .i64 0)] := rfl
@[push_cast] theorem T75_size : T75.size = 2 := rfl
@[push_cast] theorem T75_bytes : T75.bytes = 24 := rfl
@[push_cast] theorem T75_agg : T75.agg = true := rfl
@[push_cast] theorem T75_str : T75.str = true := rfl
@[push_cast] theorem T75_cmp : T75.cmp = true := rfl
@[push_cast] theorem T75_fields : T75.fields = [(0, 9), (1, 3)] := rfl
@[push_cast] theorem T75_desc : T75.desc = .st [(0, 9), (1, 3)] := rfl
@[push_cast] theorem T75_cv : cv T75.zero = .d (.ag [.st [], .int .i64 0]) := rfl
@[push_cast] theorem T75_vcs : vcs T75.zero = [.d (.st []), .d (.int .i64 0)] := rfl
@[push_cast] theorem T76_size : T76.size = 2 := rfl
@[push_cast] theorem T76_bytes : T76.bytes = 16 := rfl
@[push_cast] theorem T76_agg : T76.agg = true := rfl
@[push_cast] theorem T76_str : T76.str = true := rfl
@[push_cast] theorem T76_cmp : T76.cmp = true := rfl
@[push_cast] theorem T76_fields : T76.fields = [(0, 3), (1, 27)] := rfl
@[push_cast] theorem T76_desc : T76.desc = .st [(0, 3), (1, 27)] := rfl
@[push_cast] theorem T76_cv : cv T76.zero = .d (.ag [.int .i64 0, .int .i64 0]) := rfl
@[push_cast] theorem T76_vcs : vcs T76.zero = [.d (.int .i64 0), .d (.int .i64 0)] := rfl
@[push_cast] theorem T77_size : T77.size = 2 := rfl
@[push_cast] theorem T77_bytes : T77.bytes = 16 := rfl
@[push_cast] theorem T77_agg : T77.agg = true := rfl
@[push_cast] theorem T77_str : T77.str = true := rfl
@[push_cast] theorem T77_cmp : T77.cmp = true := rfl
@[push_cast] theorem T77_fields : T77.fields = [(0, 3), (1, 27)] := rfl
@[push_cast] theorem T77_desc : T77.desc = .st [(0, 3), (1, 27)] := rfl
@[push_cast] theorem T77_cv : cv T77.zero = .d (.ag [.int .i64 0, .int .i64 0]) := rfl
@[push_cast] theorem T77_vcs : vcs T77.zero = [.d (.int .i64 0), .d (.int .i64 0)] := rfl
@[push_cast] theorem T79_size : T79.size = 1 := rfl
@[push_cast] theorem T79_bytes : T79.bytes = 8 := rfl
@[push_cast] theorem T79_agg : T79.agg = false := rfl
@[push_cast] theorem T79_str : T79.str = false := rfl
@[push_cast] theorem T79_cmp : T79.cmp = false := rfl
@[push_cast] theorem T79_desc : T79.desc = .ptr 81 := rfl
@[push_cast] theorem T79_cv : cv T79.zero = .d (.imm (.pointer none)) := rfl
@[push_cast] theorem T79_vcs : vcs T79.zero = [.d (.imm (.pointer none))] := rfl
@[push_cast] theorem T80_size : T80.size = 2 := rfl
@[push_cast] theorem T80_bytes : T80.bytes = 32 := rfl
@[push_cast] theorem T80_agg : T80.agg = true := rfl
@[push_cast] theorem T80_str : T80.str = true := rfl
@[push_cast] theorem T80_cmp : T80.cmp = false := rfl
@[push_cast] theorem T80_fields : T80.fields = [(0, 41), (1, 3)] := rfl
@[push_cast] theorem T80_desc : T80.desc = .st [(0, 41), (1, 3)] := rfl
@[push_cast] theorem T80_cv : cv T80.zero = .d (.ag [.imm (.slice none 0 0), .int .i64 0]) := rfl
@[push_cast] theorem T80_vcs : vcs T80.zero = [.d (.imm (.slice none 0 0)), .d (.int .i64 0)] := rfl
@[push_cast] theorem T81_size : T81.size = 2 := rfl
@[push_cast] theorem T81_bytes : T81.bytes = 32 := rfl
@[push_cast] theorem T81_agg : T81.agg = true := rfl
@[push_cast] theorem T81_str : T81.str = true := rfl
@[push_cast] theorem T81_cmp : T81.cmp = false := rfl
@[push_cast] theorem T81_fields : T81.fields = [(0, 41), (1, 3)] := rfl
@[push_cast] theorem T81_desc : T81.desc = .st [(0, 41), (1, 3)] := rfl
@[push_cast] theorem T81_cv : cv T81.zero = .d (.ag [.imm (.slice none 0 0), .int .i64 0]) := rfl
@[push_cast] theorem T81_vcs : vcs T81.zero = [.d (.imm (.slice none 0 0)), .d (.int .i64 0)] := rfl
@[push_cast] theorem T90_size : T90.size = 2 := rfl
@[push_cast] theorem T90_bytes : T90.bytes = 16 := rfl
@[push_cast] theorem T90_agg : T90.agg = true := rfl
@[push_cast] theorem T90_str : T90.str = true := rfl
@[push_cast] theorem T90_cmp : T90.cmp = true := rfl
@[push_cast] theorem T90_fields : T90.fields = [(0, 3), (1, 27)] := rfl
@[push_cast] theorem T90_desc : T90.desc = .st [(0, 3), (1, 27)] := rfl
@[push_cast] theorem T90_cv : cv T90.zero = .d (.ag [.int .i64 0, .int .i64 0]) := rfl
@[push_cast] theorem T90_vcs : vcs T90.zero = [.d (.int .i64 0), .d (.int .i64 0)] := rfl
@[push_cast] theorem T91_size : T91.size = 2 := rfl
@[push_cast] theorem T91_bytes : T91.bytes = 16 := rfl
@[push_cast] theorem T91_agg : T91.agg = true := rfl
@[push_cast] theorem T91_str : T91.str = true := rfl
@[push_cast] theorem T91_cmp : T91.cmp = true := rfl
@[push_cast] theorem T91_fields : T91.fields = [(0, 3), (1, 27)] := rfl
@[push_cast] theorem T91_desc : T91.desc = .st [(0, 3), (1, 27)] := rfl
@[push_cast] theorem T91_cv : cv T91.zero = .d (.ag [.int .i64 0, .int .i64 0]) := rfl
@[push_cast] theorem T91_vcs : vcs T91.zero = [.d (.int .i64 0), .d (.int .i64 0)] := rfl
@[push_cast] theorem T100_size : T100.size = 1 := rfl
@[push_cast] theorem T100_bytes : T100.bytes = 16 := rfl
@[push_cast] theorem T100_agg : T100.agg = false := rfl
@[push_cast] theorem T100_str : T100.str = false := rfl
@[push_cast] theorem T100_cmp : T100.cmp = false := rfl
@[push_cast] theorem T100_desc : T100.desc = .ifc := rfl
@[push_cast] theorem T100_cv : cv T100.zero = .d (.imm (.nilIface)) := rfl
@[push_cast] theorem T100_vcs : vcs T100.zero = [.d (.imm (.nilIface))] := rfl
@[push_cast] theorem T103_size : T103.size = 3 := rfl
@[push_cast] theorem T103_bytes : T103.bytes = 48 := rfl
@[push_cast] theorem T103_agg : T103.agg = true := rfl
@[push_cast] theorem T103_str : T103.str = false := rfl
@[push_cast] theorem T103_cmp : T103.cmp = false := rfl
@[push_cast] theorem T103_desc : T103.desc = .arr 3 9 := rfl
@[push_cast] theorem T103_cv : cv T103.zero = .d (.ag [.st [], .st [], .st []]) := rfl
@[push_cast] theorem T103_vcs : vcs T103.zero = [.d (.st []), .d (.st []), .d (.st [])] := rfl
@[push_cast] theorem T111_size : T111.size = 1 := rfl
@[push_cast] theorem T111_bytes : T111.bytes = 8 := rfl
@[push_cast] theorem T111_agg : T111.agg = false := rfl
@[push_cast] theorem T111_str : T111.str = false := rfl
@[push_cast] theorem T111_cmp : T111.cmp = false := rfl
@[push_cast] theorem T111_desc : T111.desc = .ptr 72 := rfl
@[push_cast] theorem T111_cv : cv T111.zero = .d (.imm (.pointer none)) := rfl
@[push_cast] theorem T111_vcs : vcs T111.zero = [.d (.imm (.pointer none))] := rfl
@[push_cast] theorem T120_size : T120.size = 1 := rfl
@[push_cast] theorem T120_bytes : T120.bytes = 24 := rfl
@[push_cast] theorem T120_agg : T120.agg = false := rfl
@[push_cast] theorem T120_str : T120.str = false := rfl
@[push_cast] theorem T120_cmp : T120.cmp = false := rfl
@[push_cast] theorem T120_desc : T120.desc = .sli 9 := rfl
@[push_cast] theorem T120_cv : cv T120.zero = .d (.imm (.slice none 0 0)) := rfl
@[push_cast] theorem T120_vcs : vcs T120.zero = [.d (.imm (.slice none 0 0))] := rfl
@[push_cast] theorem T121_size : T121.size = 2 := rfl
@[push_cast] theorem T121_bytes : T121.bytes = 16 := rfl
@[push_cast] theorem T121_agg : T121.agg = true := rfl
@[push_cast] theorem T121_str : T121.str = false := rfl
@[push_cast] theorem T121_cmp : T121.cmp = false := rfl
@[push_cast] theorem T121_desc : T121.desc = .arr 2 3 := rfl
@[push_cast] theorem T121_cv : cv T121.zero = .d (.ag [.int .i64 0, .int .i64 0]) := rfl
@[push_cast] theorem T121_vcs : vcs T121.zero = [.d (.int .i64 0), .d (.int .i64 0)] := rfl
@[push_cast] theorem T127_size : T127.size = 1 := rfl
@[push_cast] theorem T127_bytes : T127.bytes = 8 := rfl
@[push_cast] theorem T127_agg : T127.agg = false := rfl
@[push_cast] theorem T127_str : T127.str = false := rfl
@[push_cast] theorem T127_cmp : T127.cmp = true := rfl
@[push_cast] theorem T127_desc : T127.desc = .int .u64 := rfl
@[push_cast] theorem T127_cv : cv T127.zero = .d (.int .u64 0) := rfl
@[push_cast] theorem T127_vcs : vcs T127.zero = [.d (.int .u64 0)] := rfl
@[push_cast] theorem T130_size : T130.size = 1 := rfl
@[push_cast] theorem T130_bytes : T130.bytes = 8 := rfl
@[push_cast] theorem T130_agg : T130.agg = false := rfl
@[push_cast] theorem T130_str : T130.str = false := rfl
@[push_cast] theorem T130_cmp : T130.cmp = true := rfl
@[push_cast] theorem T130_desc : T130.desc = .int .u64 := rfl
@[push_cast] theorem T130_cv : cv T130.zero = .d (.int .u64 0) := rfl
@[push_cast] theorem T130_vcs : vcs T130.zero = [.d (.int .u64 0)] := rfl
@[push_cast] theorem T135_size : T135.size = 1 := rfl
@[push_cast] theorem T135_bytes : T135.bytes = 24 := rfl
@[push_cast] theorem T135_agg : T135.agg = false := rfl
@[push_cast] theorem T135_str : T135.str = false := rfl
@[push_cast] theorem T135_cmp : T135.cmp = false := rfl
@[push_cast] theorem T135_desc : T135.desc = .sli 5 := rfl
@[push_cast] theorem T135_cv : cv T135.zero = .d (.imm (.slice none 0 0)) := rfl
@[push_cast] theorem T135_vcs : vcs T135.zero = [.d (.imm (.slice none 0 0))] := rfl
@[push_cast] theorem T140_size : T140.size = 1 := rfl
@[push_cast] theorem T140_bytes : T140.bytes = 8 := rfl
@[push_cast] theorem T140_agg : T140.agg = false := rfl
@[push_cast] theorem T140_str : T140.str = false := rfl
@[push_cast] theorem T140_cmp : T140.cmp = false := rfl
@[push_cast] theorem T140_desc : T140.desc = .map 9 23 := rfl
@[push_cast] theorem T140_cv : cv T140.zero = .d (.imm (.map none)) := rfl
@[push_cast] theorem T140_vcs : vcs T140.zero = [.d (.imm (.map none))] := rfl
@[push_cast] theorem T141_size : T141.size = 1 := rfl
@[push_cast] theorem T141_bytes : T141.bytes = 8 := rfl
@[push_cast] theorem T141_agg : T141.agg = false := rfl
@[push_cast] theorem T141_str : T141.str = false := rfl
@[push_cast] theorem T141_cmp : T141.cmp = false := rfl
@[push_cast] theorem T141_desc : T141.desc = .ptr 5 := rfl
@[push_cast] theorem T141_cv : cv T141.zero = .d (.imm (.pointer none)) := rfl
@[push_cast] theorem T141_vcs : vcs T141.zero = [.d (.imm (.pointer none))] := rfl
@[push_cast] theorem T143_size : T143.size = 1 := rfl
@[push_cast] theorem T143_bytes : T143.bytes = 16 := rfl
@[push_cast] theorem T143_agg : T143.agg = true := rfl
@[push_cast] theorem T143_str : T143.str = true := rfl
@[push_cast] theorem T143_cmp : T143.cmp = true := rfl
@[push_cast] theorem T143_fields : T143.fields = [(0, 9)] := rfl
@[push_cast] theorem T143_desc : T143.desc = .st [(0, 9)] := rfl
@[push_cast] theorem T143_cv : cv T143.zero = .d (.ag [.st []]) := rfl
@[push_cast] theorem T143_vcs : vcs T143.zero = [.d (.st [])] := rfl
@[push_cast] theorem T146_size : T146.size = 24 := rfl
@[push_cast] theorem T146_bytes : T146.bytes = 24 := rfl
@[push_cast] theorem T146_agg : T146.agg = true := rfl
@[push_cast] theorem T146_str : T146.str = false := rfl
@[push_cast] theorem T146_cmp : T146.cmp = false := rfl
@[push_cast] theorem T146_desc : T146.desc = .arr 24 5 := rfl
@[push_cast] theorem T146_cv : cv T146.zero = .d (.ag [.int .u8 0, .int .u8 0, .int .u8 0, .int .u8 0, .int .u8 0, .int .u8 0, .int .u8 0, .int .u8 0, .int .u8 0, .int .u8 0, .int .u8 0, .int .u8 0, .int .u8 0, .int .u8 0, .int .u8 0, .int .u8 0, .int .u8 0, .int .u8 0, .int .u8 0, .int .u8 0, .int .u8 0, .int .u8 0, .int .u8 0, .int .u8 0]) := rfl
@[push_cast] theorem T146_vcs : vcs T146.zero = [.d (.int .u8 0), .d (.int .u8 0), .d (.int .u8 0), .d (.int .u8 0), .d (.int .u8 0), .d (.int .u8 0), .d (.int .u8 0), .d (.int .u8 0), .d (.int .u8 0), .d (.int .u8 0), .d (.int .u8 0), .d (.int .u8 0), .d (.int .u8 0), .d (.int .u8 0), .d (.int .u8 0), .d (.int .u8 0), .d (.int .u8 0), .d (.int .u8 0), .d (.int .u8 0), .d (.int .u8 0), .d (.int .u8 0), .d (.int .u8 0), .d (.int .u8 0), .d (.int .u8 0)] := rfl
@[push_cast] theorem T153_size : T153.size = 20 := rfl
@[push_cast] theorem T153_bytes : T153.bytes = 160 := rfl
@[push_cast] theorem T153_agg : T153.agg = true := rfl
@[push_cast] theorem T153_str : T153.str = false := rfl
@[push_cast] theorem T153_cmp : T153.cmp = false := rfl
@[push_cast] theorem T153_desc : T153.desc = .arr 20 127 := rfl
@[push_cast] theorem T153_cv : cv T153.zero = .d (.ag [.int .u64 0, .int .u64 0, .int .u64 0, .int .u64 0, .int .u64 0, .int .u64 0, .int .u64 0, .int .u64 0, .int .u64 0, .int .u64 0, .int .u64 0, .int .u64 0, .int .u64 0, .int .u64 0, .int .u64 0, .int .u64 0, .int .u64 0, .int .u64 0, .int .u64 0, .int .u64 0]) := rfl
@[push_cast] theorem T153_vcs : vcs T153.zero = [.d (.int .u64 0), .d (.int .u64 0), .d (.int .u64 0), .d (.int .u64 0), .d (.int .u64 0), .d (.int .u64 0), .d (.int .u64 0), .d (.int .u64 0), .d (.int .u64 0), .d (.int .u64 0), .d (.int .u64 0), .d (.int .u64 0), .d (.int .u64 0), .d (.int .u64 0), .d (.int .u64 0), .d (.int .u64 0), .d (.int .u64 0), .d (.int .u64 0), .d (.int .u64 0), .d (.int .u64 0)] := rfl
@[push_cast] theorem T154_size : T154.size = 1 := rfl
@[push_cast] theorem T154_bytes : T154.bytes = 4 := rfl
@[push_cast] theorem T154_agg : T154.agg = false := rfl
@[push_cast] theorem T154_str : T154.str = false := rfl
@[push_cast] theorem T154_cmp : T154.cmp = true := rfl
@[push_cast] theorem T154_desc : T154.desc = .int .u32 := rfl
@[push_cast] theorem T154_cv : cv T154.zero = .d (.int .u32 0) := rfl
@[push_cast] theorem T154_vcs : vcs T154.zero = [.d (.int .u32 0)] := rfl
@[push_cast] theorem T155_size : T155.size = 65 := rfl
@[push_cast] theorem T155_bytes : T155.bytes = 65 := rfl
@[push_cast] theorem T155_agg : T155.agg = true := rfl
@[push_cast] theorem T155_str : T155.str = false := rfl
@[push_cast] theorem T155_cmp : T155.cmp = false := rfl
@[push_cast] theorem T155_desc : T155.desc = .arr 65 5 := rfl
@[push_cast] theorem T155_cv : cv T155.zero = .d (.ag [.int .u8 0, .int .u8 0, .int .u8 0, .int .u8 0, .int .u8 0, .int .u8 0, .int .u8 0, .int .u8 0, .int .u8 0, .int .u8 0, .int .u8 0, .int .u8 0, .int .u8 0, .int .u8 0, .int .u8 0, .int .u8 0, .int .u8 0, .int .u8 0, .int .u8 0, .int .u8 0, .int .u8 0, .int .u8 0, .int .u8 0, .int .u8 0, .int .u8 0, .int .u8 0, .int .u8 0, .int .u8 0, .int .u8 0, .int .u8 0, .int .u8 0, .int .u8 0, .int .u8 0, .int .u8 0, .int .u8 0, .int .u8 0, .int .u8 0, .int .u8 0, .int .u8 0, .int .u8 0, .int .u8 0, .int .u8 0, .int .u8 0, .int .u8 0, .int .u8 0, .int .u8 0, .int .u8 0, .int .u8 0, .int .u8 0, .int .u8 0, .int .u8 0, .int .u8 0, .int .u8 0, .int .u8 0, .int .u8 0, .int .u8 0, .int .u8 0, .int .u8 0, .int .u8 0, .int .u8 0, .int .u8 0, .int .u8 0, .int .u8 0, .int .u8 0, .int .u8 0]) := rfl
@[push_cast] theorem T155_vcs : vcs T155.zero = [.d (.int .u8 0), .d (.int .u8 0), .d (.int .u8 0), .d (.int .u8 0), .d (.int .u8 0), .d (.int .u8 0), .d (.int .u8 0), .d (.int .u8 0), .d (.int .u8 0), .d (.int .u8 0), .d (.int .u8 0), .d (.int .u8 0), .d (.int .u8 0), .d (.int .u8 0), .d (.int .u8 0), .d (.int .u8 0), .d (.int .u8 0), .d (.int .u8 0), .d (.int .u8 0), .d (.int .u8 0), .d (.int .u8 0), .d (.int .u8 0), .d (.int .u8 0), .d (.int .u8 0), .d (.int .u8 0), .d (.int .u8 0), .d (.int .u8 0), .d (.int .u8 0), .d (.int .u8 0), .d (.int .u8 0), .d (.int .u8 0), .d (.int .u8 0), .d (.int .u8 0), .d (.int .u8 0), .d (.int .u8 0), .d (.int .u8 0), .d (.int .u8 0), .d (.int .u8 0), .d (.int .u8 0), .d (.int .u8 0), .d (.int .u8 0), .d (.int .u8 0), .d (.int .u8 0), .d (.int .u8 0), .d (.int .u8 0), .d (.int .u8 0), .d (.int .u8 0), .d (.int .u8 0), .d (.int .u8 0), .d (.int .u8 0), .d (.int .u8 0), .d (.int .u8 0), .d (.int .u8 0), .d (.int .u8 0), .d (.int .u8 0), .d (.int .u8 0), .d (.int .u8 0), .d (.int .u8 0), .d (.int .u8 0), .d (.int .u8 0), .d (.int .u8 0), .d (.int .u8 0), .d (.int .u8 0), .d (.int .u8 0), .d (.int .u8 0)] := rfl
@[push_cast] theorem T159_size : T159.size = 32 := rfl
@[push_cast] theorem T159_bytes : T159.bytes = 32 := rfl
@[push_cast] theorem T159_agg : T159.agg = true := rfl
@[push_cast] theorem T159_str : T159.str = false := rfl
@[push_cast] theorem T159_cmp : T159.cmp = false := rfl
@[push_cast] theorem T159_desc : T159.desc = .arr 32 5 := rfl
@[push_cast] theorem T159_cv : cv T159.zero = .d (.ag [.int .u8 0, .int .u8 0, .int .u8 0, .int .u8 0, .int .u8 0, .int .u8 0, .int .u8 0, .int .u8 0, .int .u8 0, .int .u8 0, .int .u8 0, .int .u8 0, .int .u8 0, .int .u8 0, .int .u8 0, .int .u8 0, .int .u8 0, .int .u8 0, .int .u8 0, .int .u8 0, .int .u8 0, .int .u8 0, .int .u8 0, .int .u8 0, .int .u8 0, .int .u8 0, .int .u8 0, .int .u8 0, .int .u8 0, .int .u8 0, .int .u8 0, .int .u8 0]) := rfl
@[push_cast] theorem T159_vcs : vcs T159.zero = [.d (.int .u8 0), .d (.int .u8 0), .d (.int .u8 0), .d (.int .u8 0), .d (.int .u8 0), .d (.int .u8 0), .d (.int .u8 0), .d (.int .u8 0), .d (.int .u8 0), .d (.int .u8 0), .d (.int .u8 0), .d (.int .u8 0), .d (.int .u8 0), .d (.int .u8 0), .d (.int .u8 0), .d (.int .u8 0), .d (.int .u8 0), .d (.int .u8 0), .d (.int .u8 0), .d (.int .u8 0), .d (.int .u8 0), .d (.int .u8 0), .d (.int .u8 0), .d (.int .u8 0), .d (.int .u8 0), .d (.int .u8 0), .d (.int .u8 0), .d (.int .u8 0), .d (.int .u8 0), .d (.int .u8 0), .d (.int .u8 0), .d (.int .u8 0)] := rfl
@[push_cast] theorem T160_size : T160.size = 64 := rfl
@[push_cast] theorem T160_bytes : T160.bytes = 64 := rfl
@[push_cast] theorem T160_agg : T160.agg = true := rfl
@[push_cast] theorem T160_str : T160.str = false := rfl
@[push_cast] theorem T160_cmp : T160.cmp = false := rfl
@[push_cast] theorem T160_desc : T160.desc = .arr 64 5 := rfl
@[push_cast] theorem T160_cv : cv T160.zero = .d (.ag [.int .u8 0, .int .u8 0, .int .u8 0, .int .u8 0, .int .u8 0, .int .u8 0, .int .u8 0, .int .u8 0, .int .u8 0, .int .u8 0, .int .u8 0, .int .u8 0, .int .u8 0, .int .u8 0, .int .u8 0, .int .u8 0, .int .u8 0, .int .u8 0, .int .u8 0, .int .u8 0, .int .u8 0, .int .u8 0, .int .u8 0, .int .u8 0, .int .u8 0, .int .u8 0, .int .u8 0, .int .u8 0, .int .u8 0, .int .u8 0, .int .u8 0, .int .u8 0, .int .u8 0, .int .u8 0, .int .u8 0, .int .u8 0, .int .u8 0, .int .u8 0, .int .u8 0, .int .u8 0, .int .u8 0, .int .u8 0, .int .u8 0, .int .u8 0, .int .u8 0, .int .u8 0, .int .u8 0, .int .u8 0, .int .u8 0, .int .u8 0, .int .u8 0, .int .u8 0, .int .u8 0, .int .u8 0, .int .u8 0, .int .u8 0, .int .u8 0, .int .u8 0, .int .u8 0, .int .u8 0, .int .u8 0, .int .u8 0, .int .u8 0, .int .u8 0]) := rfl
@[push_cast] theorem T160_vcs : vcs T160.zero = [.d (.int .u8 0), .d (.int .u8 0), .d (.int .u8 0), .d (.int .u8 0), .d (.int .u8 0), .d (.int .u8 0), .d (.int .u8 0), .d (.int .u8 0), .d (.int .u8 0), .d (.int .u8 0), .d (.int .u8 0), .d (.int .u8 0), .d (.int .u8 0), .d (.int .u8 0), .d (.int .u8 0), .d (.int .u8 0), .d (.int .u8 0), .d (.int .u8 0), .d (.int .u8 0), .d (.int .u8 0), .d (.int .u8 0), .d (.int .u8 0), .d (.int .u8 0), .d (.int .u8 0), .d (.int .u8 0), .d (.int .u8 0), .d (.int .u8 0), .d (.int .u8 0), .d (.int .u8 0), .d (.int .u8 0), .d (.int .u8 0), .d (.int .u8 0), .d (.int .u8 0), .d (.int .u8 0), .d (.int .u8 0), .d (.int .u8 0), .d (.int .u8 0), .d (.int .u8 0), .d (.int .u8 0), .d (.int .u8 0), .d (.int .u8 0), .d (.int .u8 0), .d (.int .u8 0), .d (.int .u8 0), .d (.int .u8 0), .d (.int .u8 0), .d (.int .u8 0), .d (.int .u8 0), .d (.int .u8 0), .d (.int .u8 0), .d (.int .u8 0), .d (.int .u8 0), .d (.int .u8 0), .d (.int .u8 0), .d (.int .u8 0), .d (.int .u8 0), .d (.int .u8 0), .d (.int .u8 0), .d (.int .u8 0), .d (.int .u8 0), .d (.int .u8 0), .d (.int .u8 0), .d (.int .u8 0), .d (.int .u8 0)] := rfl
end Lx
