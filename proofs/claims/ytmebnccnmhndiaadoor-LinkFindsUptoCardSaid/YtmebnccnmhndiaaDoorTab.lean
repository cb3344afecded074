/-
  THE TYPES OF THE TRANSLATION, written by a program (gentab.py).
-/
import Derived.Test.YtmebnccnmhndiaaDoorFn
import Derived.Test.YtmebnccnmhndiaaDoorProg
import Derived.KernelRfl
set_option linter.unusedSimpArgs false
namespace Lx
open Go
open Go.Proofs (Tryd.prog)
def T2 : TI := ⟨.int .i64, 1, 8, .int .i64 0, true⟩
def T3 : TI := ⟨.int .i64, 1, 8, .int .i64 0, true⟩
def T4 : TI := ⟨.boo, 1, 1, .bool false, true⟩
def T5 : TI := ⟨.int .u8, 1, 1, .int .u8 0, true⟩
def T9 : TI := ⟨.str, 1, 16, .string ⟨#[]⟩, true⟩
def T12 : TI := ⟨.int .u64, 1, 8, .int .u64 0, true⟩
def T13 : TI := ⟨.st [(0, 9), (1, 12)], 2, 24, .agg #[.string ⟨#[]⟩, .int .u64 0], false⟩
def T20 : TI := ⟨.ifc, 1, 16, .nilIface, false⟩
def T21 : TI := ⟨.int .i32, 1, 4, .int .i32 0, true⟩
def T22 : TI := ⟨.sli 9, 1, 24, .slice none 0 0, false⟩
def T23 : TI := ⟨.sli 28, 1, 24, .slice none 0 0, false⟩
def T24 : TI := ⟨.st [(0, 23), (1, 3), (2, 3)], 3, 40, .agg #[.slice none 0 0, .int .i64 0, .int .i64 0], false⟩
def T25 : TI := ⟨.st [(0, 23), (1, 3), (2, 3)], 3, 40, .agg #[.slice none 0 0, .int .i64 0, .int .i64 0], false⟩
def T26 : TI := ⟨.sli 48, 1, 24, .slice none 0 0, false⟩
def T27 : TI := ⟨.st [(0, 9), (1, 22), (2, 26)], 3, 64, .agg #[.string ⟨#[]⟩, .slice none 0 0, .slice none 0 0], false⟩
def T28 : TI := ⟨.st [(0, 9), (1, 22), (2, 26)], 3, 64, .agg #[.string ⟨#[]⟩, .slice none 0 0, .slice none 0 0], false⟩
def T33 : TI := ⟨.int .i64, 1, 8, .int .i64 0, true⟩
def T34 : TI := ⟨.sli 36, 1, 24, .slice none 0 0, false⟩
def T35 : TI := ⟨.st [(0, 33), (1, 9), (2, 2), (3, 3), (4, 34)], 5, 64, .agg #[.int .i64 0, .string ⟨#[]⟩, .int .i64 0, .int .i64 0, .slice none 0 0], false⟩
def T36 : TI := ⟨.st [(0, 33), (1, 9), (2, 2), (3, 3), (4, 34)], 5, 64, .agg #[.int .i64 0, .string ⟨#[]⟩, .int .i64 0, .int .i64 0, .slice none 0 0], false⟩
def T37 : TI := ⟨.int .i64, 1, 8, .int .i64 0, true⟩
def T42 : TI := ⟨.map 9 3, 1, 8, .map none, false⟩
def T43 : TI := ⟨.int .i64, 1, 8, .int .i64 0, true⟩
def T44 : TI := ⟨.st [(0, 9), (1, 2)], 2, 24, .agg #[.string ⟨#[]⟩, .int .i64 0], true⟩
def T45 : TI := ⟨.st [(0, 9), (1, 2)], 2, 24, .agg #[.string ⟨#[]⟩, .int .i64 0], true⟩
def T46 : TI := ⟨.sli 45, 1, 24, .slice none 0 0, false⟩
def T47 : TI := ⟨.st [(0, 43), (1, 3), (2, 9), (3, 9), (4, 45), (6, 45), (8, 46), (9, 3), (10, 4)], 11, 136, .agg #[.int .i64 0, .int .i64 0, .string ⟨#[]⟩, .string ⟨#[]⟩, .string ⟨#[]⟩, .int .i64 0, .string ⟨#[]⟩, .int .i64 0, .slice none 0 0, .int .i64 0, .bool false], false⟩
def T48 : TI := ⟨.st [(0, 43), (1, 3), (2, 9), (3, 9), (4, 45), (6, 45), (8, 46), (9, 3), (10, 4)], 11, 136, .agg #[.int .i64 0, .int .i64 0, .string ⟨#[]⟩, .string ⟨#[]⟩, .string ⟨#[]⟩, .int .i64 0, .string ⟨#[]⟩, .int .i64 0, .slice none 0 0, .int .i64 0, .bool false], false⟩
def T57 : TI := ⟨.sli 68, 1, 24, .slice none 0 0, false⟩
def T60 : TI := ⟨.st [(0, 3), (1, 37)], 2, 16, .agg #[.int .i64 0, .int .i64 0], true⟩
def T61 : TI := ⟨.st [(0, 3), (1, 37)], 2, 16, .agg #[.int .i64 0, .int .i64 0], true⟩
def T63 : TI := ⟨.ptr 65, 1, 8, .pointer none, false⟩
def T64 : TI := ⟨.st [(0, 57), (1, 3)], 2, 32, .agg #[.slice none 0 0, .int .i64 0], false⟩
def T65 : TI := ⟨.st [(0, 57), (1, 3)], 2, 32, .agg #[.slice none 0 0, .int .i64 0], false⟩
def T66 : TI := ⟨.int .i64, 1, 8, .int .i64 0, true⟩
def T67 : TI := ⟨.st [(0, 66), (1, 9), (2, 2), (3, 3)], 4, 40, .agg #[.int .i64 0, .string ⟨#[]⟩, .int .i64 0, .int .i64 0], true⟩
def T68 : TI := ⟨.st [(0, 66), (1, 9), (2, 2), (3, 3)], 4, 40, .agg #[.int .i64 0, .string ⟨#[]⟩, .int .i64 0, .int .i64 0], true⟩
def T74 : TI := ⟨.sli 34, 1, 24, .slice none 0 0, false⟩
def T76 : TI := ⟨.ptr 78, 1, 8, .pointer none, false⟩
def T77 : TI := ⟨.st [(0, 26)], 1, 24, .agg #[.slice none 0 0], false⟩
def T78 : TI := ⟨.st [(0, 26)], 1, 24, .agg #[.slice none 0 0], false⟩
def T90 : TI := ⟨.ifc, 1, 16, .nilIface, false⟩
def T93 : TI := ⟨.arr 3 9, 3, 48, .agg #[.string ⟨#[]⟩, .string ⟨#[]⟩, .string ⟨#[]⟩], false⟩
def T108 : TI := ⟨.int .u64, 1, 8, .int .u64 0, true⟩
def T111 : TI := ⟨.int .u64, 1, 8, .int .u64 0, true⟩
def T116 : TI := ⟨.sli 5, 1, 24, .slice none 0 0, false⟩
def T121 : TI := ⟨.map 9 33, 1, 8, .map none, false⟩
def T122 : TI := ⟨.ptr 5, 1, 8, .pointer none, false⟩
def T124 : TI := ⟨.st [(0, 9)], 1, 16, .agg #[.string ⟨#[]⟩], true⟩
def T127 : TI := ⟨.arr 24 5, 24, 24, .agg #[.int .u8 0, .int .u8 0, .int .u8 0, .int .u8 0, .int .u8 0, .int .u8 0, .int .u8 0, .int .u8 0, .int .u8 0, .int .u8 0, .int .u8 0, .int .u8 0, .int .u8 0, .int .u8 0, .int .u8 0, .int .u8 0, .int .u8 0, .int .u8 0, .int .u8 0, .int .u8 0, .int .u8 0, .int .u8 0, .int .u8 0, .int .u8 0], false⟩
def T134 : TI := ⟨.arr 20 108, 20, 160, .agg #[.int .u64 0, .int .u64 0, .int .u64 0, .int .u64 0, .int .u64 0, .int .u64 0, .int .u64 0, .int .u64 0, .int .u64 0, .int .u64 0, .int .u64 0, .int .u64 0, .int .u64 0, .int .u64 0, .int .u64 0, .int .u64 0, .int .u64 0, .int .u64 0, .int .u64 0, .int .u64 0], false⟩
def T135 : TI := ⟨.int .u32, 1, 4, .int .u32 0, true⟩
def T136 : TI := ⟨.arr 65 5, 65, 65, .agg #[.int .u8 0, .int .u8 0, .int .u8 0, .int .u8 0, .int .u8 0, .int .u8 0, .int .u8 0, .int .u8 0, .int .u8 0, .int .u8 0, .int .u8 0, .int .u8 0, .int .u8 0, .int .u8 0, .int .u8 0, .int .u8 0, .int .u8 0, .int .u8 0, .int .u8 0, .int .u8 0, .int .u8 0, .int .u8 0, .int .u8 0, .int .u8 0, .int .u8 0, .int .u8 0, .int .u8 0, .int .u8 0, .int .u8 0, .int .u8 0, .int .u8 0, .int .u8 0, .int .u8 0, .int .u8 0, .int .u8 0, .int .u8 0, .int .u8 0, .int .u8 0, .int .u8 0, .int .u8 0, .int .u8 0, .int .u8 0, .int .u8 0, .int .u8 0, .int .u8 0, .int .u8 0, .int .u8 0, .int .u8 0, .int .u8 0, .int .u8 0, .int .u8 0, .int .u8 0, .int .u8 0, .int .u8 0, .int .u8 0, .int .u8 0, .int .u8 0, .int .u8 0, .int .u8 0, .int .u8 0, .int .u8 0, .int .u8 0, .int .u8 0, .int .u8 0, .int .u8 0], false⟩
def T140 : TI := ⟨.arr 32 5, 32, 32, .agg #[.int .u8 0, .int .u8 0, .int .u8 0, .int .u8 0, .int .u8 0, .int .u8 0, .int .u8 0, .int .u8 0, .int .u8 0, .int .u8 0, .int .u8 0, .int .u8 0, .int .u8 0, .int .u8 0, .int .u8 0, .int .u8 0, .int .u8 0, .int .u8 0, .int .u8 0, .int .u8 0, .int .u8 0, .int .u8 0, .int .u8 0, .int .u8 0, .int .u8 0, .int .u8 0, .int .u8 0, .int .u8 0, .int .u8 0, .int .u8 0, .int .u8 0, .int .u8 0], false⟩
def T141 : TI := ⟨.arr 64 5, 64, 64, .agg #[.int .u8 0, .int .u8 0, .int .u8 0, .int .u8 0, .int .u8 0, .int .u8 0, .int .u8 0, .int .u8 0, .int .u8 0, .int .u8 0, .int .u8 0, .int .u8 0, .int .u8 0, .int .u8 0, .int .u8 0, .int .u8 0, .int .u8 0, .int .u8 0, .int .u8 0, .int .u8 0, .int .u8 0, .int .u8 0, .int .u8 0, .int .u8 0, .int .u8 0, .int .u8 0, .int .u8 0, .int .u8 0, .int .u8 0, .int .u8 0, .int .u8 0, .int .u8 0, .int .u8 0, .int .u8 0, .int .u8 0, .int .u8 0, .int .u8 0, .int .u8 0, .int .u8 0, .int .u8 0, .int .u8 0, .int .u8 0, .int .u8 0, .int .u8 0, .int .u8 0, .int .u8 0, .int .u8 0, .int .u8 0, .int .u8 0, .int .u8 0, .int .u8 0, .int .u8 0, .int .u8 0, .int .u8 0, .int .u8 0, .int .u8 0, .int .u8 0, .int .u8 0, .int .u8 0, .int .u8 0, .int .u8 0, .int .u8 0, .int .u8 0, .int .u8 0], false⟩
set_option maxRecDepth 100000 in
def tl : List (Nat × TI) := [(2, T2), (3, T3), (4, T4), (5, T5), (9, T9), (12, T12), (13, T13), (20, T20), (21, T21), (22, T22), (23, T23), (24, T24), (25, T25), (26, T26), (27, T27), (28, T28), (33, T33), (34, T34), (35, T35), (36, T36), (37, T37), (42, T42), (43, T43), (44, T44), (45, T45), (46, T46), (47, T47), (48, T48), (57, T57), (60, T60), (61, T61), (63, T63), (64, T64), (65, T65), (66, T66), (67, T67), (68, T68), (74, T74), (76, T76), (77, T77), (78, T78), (90, T90), (93, T93), (108, T108), (111, T111), (116, T116), (121, T121), (122, T122), (124, T124), (127, T127), (134, T134), (135, T135), (136, T136), (140, T140), (141, T141)]
set_option maxRecDepth 100000 in
theorem tl_oks : TOKs Go.Proofs.Tryd.prog tl := by
  refine ⟨⟨_, _, Go.Proofs.Tryd.type2, rfl, rfl, rfl, Go.Proofs.Tryd.underlying2, rfl, rfl, rfl⟩, ?_⟩
  refine ⟨⟨_, _, Go.Proofs.Tryd.type3, rfl, rfl, rfl, Go.Proofs.Tryd.underlying3, rfl, rfl, rfl⟩, ?_⟩
  refine ⟨⟨_, _, Go.Proofs.Tryd.type4, rfl, rfl, rfl, Go.Proofs.Tryd.underlying4, rfl, rfl, rfl⟩, ?_⟩
  refine ⟨⟨_, _, Go.Proofs.Tryd.type5, rfl, rfl, rfl, Go.Proofs.Tryd.underlying5, rfl, rfl, rfl⟩, ?_⟩
  refine ⟨⟨_, _, Go.Proofs.Tryd.type9, rfl, rfl, rfl, Go.Proofs.Tryd.underlying9, rfl, rfl, rfl⟩, ?_⟩
  refine ⟨⟨_, _, Go.Proofs.Tryd.type12, rfl, rfl, rfl, Go.Proofs.Tryd.underlying12, rfl, rfl, rfl⟩, ?_⟩
  refine ⟨⟨_, _, Go.Proofs.Tryd.type13, rfl, rfl, rfl, Go.Proofs.Tryd.underlying13, rfl, rfl, rfl⟩, ?_⟩
  refine ⟨⟨_, _, Go.Proofs.Tryd.type20, rfl, rfl, rfl, Go.Proofs.Tryd.underlying20, rfl, rfl, rfl⟩, ?_⟩
  refine ⟨⟨_, _, Go.Proofs.Tryd.type21, rfl, rfl, rfl, Go.Proofs.Tryd.underlying21, rfl, rfl, rfl⟩, ?_⟩
  refine ⟨⟨_, _, Go.Proofs.Tryd.type22, rfl, rfl, rfl, Go.Proofs.Tryd.underlying22, rfl, rfl, rfl⟩, ?_⟩
  refine ⟨⟨_, _, Go.Proofs.Tryd.type23, rfl, rfl, rfl, Go.Proofs.Tryd.underlying23, rfl, rfl, rfl⟩, ?_⟩
  refine ⟨⟨_, _, Go.Proofs.Tryd.type24, rfl, rfl, rfl, Go.Proofs.Tryd.underlying24, rfl, rfl, rfl⟩, ?_⟩
  refine ⟨⟨_, _, Go.Proofs.Tryd.type25, rfl, rfl, rfl, Go.Proofs.Tryd.underlying25, rfl, rfl, rfl⟩, ?_⟩
  refine ⟨⟨_, _, Go.Proofs.Tryd.type26, rfl, rfl, rfl, Go.Proofs.Tryd.underlying26, rfl, rfl, rfl⟩, ?_⟩
  refine ⟨⟨_, _, Go.Proofs.Tryd.type27, rfl, rfl, rfl, Go.Proofs.Tryd.underlying27, rfl, rfl, rfl⟩, ?_⟩
  refine ⟨⟨_, _, Go.Proofs.Tryd.type28, rfl, rfl, rfl, Go.Proofs.Tryd.underlying28, rfl, rfl, rfl⟩, ?_⟩
  refine ⟨⟨_, _, Go.Proofs.Tryd.type33, rfl, rfl, rfl, Go.Proofs.Tryd.underlying33, rfl, rfl, rfl⟩, ?_⟩
  refine ⟨⟨_, _, Go.Proofs.Tryd.type34, rfl, rfl, rfl, Go.Proofs.Tryd.underlying34, rfl, rfl, rfl⟩, ?_⟩
  refine ⟨⟨_, _, Go.Proofs.Tryd.type35, rfl, rfl, rfl, Go.Proofs.Tryd.underlying35, rfl, rfl, rfl⟩, ?_⟩
  refine ⟨⟨_, _, Go.Proofs.Tryd.type36, rfl, rfl, rfl, Go.Proofs.Tryd.underlying36, rfl, rfl, rfl⟩, ?_⟩
  refine ⟨⟨_, _, Go.Proofs.Tryd.type37, rfl, rfl, rfl, Go.Proofs.Tryd.underlying37, rfl, rfl, rfl⟩, ?_⟩
  refine ⟨⟨_, _, Go.Proofs.Tryd.type42, rfl, rfl, rfl, Go.Proofs.Tryd.underlying42, rfl, rfl, rfl⟩, ?_⟩
  refine ⟨⟨_, _, Go.Proofs.Tryd.type43, rfl, rfl, rfl, Go.Proofs.Tryd.underlying43, rfl, rfl, rfl⟩, ?_⟩
  refine ⟨⟨_, _, Go.Proofs.Tryd.type44, rfl, rfl, rfl, Go.Proofs.Tryd.underlying44, rfl, rfl, by kernel_rfl⟩, ?_⟩
  refine ⟨⟨_, _, Go.Proofs.Tryd.type45, rfl, rfl, rfl, Go.Proofs.Tryd.underlying45, rfl, rfl, by kernel_rfl⟩, ?_⟩
  refine ⟨⟨_, _, Go.Proofs.Tryd.type46, rfl, rfl, rfl, Go.Proofs.Tryd.underlying46, rfl, rfl, rfl⟩, ?_⟩
  refine ⟨⟨_, _, Go.Proofs.Tryd.type47, rfl, rfl, rfl, Go.Proofs.Tryd.underlying47, rfl, rfl, rfl⟩, ?_⟩
  refine ⟨⟨_, _, Go.Proofs.Tryd.type48, rfl, rfl, rfl, Go.Proofs.Tryd.underlying48, rfl, rfl, rfl⟩, ?_⟩
  refine ⟨⟨_, _, Go.Proofs.Tryd.type57, rfl, rfl, rfl, Go.Proofs.Tryd.underlying57, rfl, rfl, rfl⟩, ?_⟩
  refine ⟨⟨_, _, Go.Proofs.Tryd.type60, rfl, rfl, rfl, Go.Proofs.Tryd.underlying60, rfl, rfl, by kernel_rfl⟩, ?_⟩
  refine ⟨⟨_, _, Go.Proofs.Tryd.type61, rfl, rfl, rfl, Go.Proofs.Tryd.underlying61, rfl, rfl, by kernel_rfl⟩, ?_⟩
  refine ⟨⟨_, _, Go.Proofs.Tryd.type63, rfl, rfl, rfl, Go.Proofs.Tryd.underlying63, rfl, rfl, rfl⟩, ?_⟩
  refine ⟨⟨_, _, Go.Proofs.Tryd.type64, rfl, rfl, rfl, Go.Proofs.Tryd.underlying64, rfl, rfl, rfl⟩, ?_⟩
  refine ⟨⟨_, _, Go.Proofs.Tryd.type65, rfl, rfl, rfl, Go.Proofs.Tryd.underlying65, rfl, rfl, rfl⟩, ?_⟩
  refine ⟨⟨_, _, Go.Proofs.Tryd.type66, rfl, rfl, rfl, Go.Proofs.Tryd.underlying66, rfl, rfl, rfl⟩, ?_⟩
  refine ⟨⟨_, _, Go.Proofs.Tryd.type67, rfl, rfl, rfl, Go.Proofs.Tryd.underlying67, rfl, rfl, by kernel_rfl⟩, ?_⟩
  refine ⟨⟨_, _, Go.Proofs.Tryd.type68, rfl, rfl, rfl, Go.Proofs.Tryd.underlying68, rfl, rfl, by kernel_rfl⟩, ?_⟩
  refine ⟨⟨_, _, Go.Proofs.Tryd.type74, rfl, rfl, rfl, Go.Proofs.Tryd.underlying74, rfl, rfl, rfl⟩, ?_⟩
  refine ⟨⟨_, _, Go.Proofs.Tryd.type76, rfl, rfl, rfl, Go.Proofs.Tryd.underlying76, rfl, rfl, rfl⟩, ?_⟩
  refine ⟨⟨_, _, Go.Proofs.Tryd.type77, rfl, rfl, rfl, Go.Proofs.Tryd.underlying77, rfl, rfl, rfl⟩, ?_⟩
  refine ⟨⟨_, _, Go.Proofs.Tryd.type78, rfl, rfl, rfl, Go.Proofs.Tryd.underlying78, rfl, rfl, rfl⟩, ?_⟩
  refine ⟨⟨_, _, Go.Proofs.Tryd.type90, rfl, rfl, rfl, Go.Proofs.Tryd.underlying90, rfl, rfl, rfl⟩, ?_⟩
  refine ⟨⟨_, _, Go.Proofs.Tryd.type93, rfl, rfl, rfl, Go.Proofs.Tryd.underlying93, rfl, rfl, rfl⟩, ?_⟩
  refine ⟨⟨_, _, Go.Proofs.Tryd.type108, rfl, rfl, rfl, Go.Proofs.Tryd.underlying108, rfl, rfl, rfl⟩, ?_⟩
  refine ⟨⟨_, _, Go.Proofs.Tryd.type111, rfl, rfl, rfl, Go.Proofs.Tryd.underlying111, rfl, rfl, rfl⟩, ?_⟩
  refine ⟨⟨_, _, Go.Proofs.Tryd.type116, rfl, rfl, rfl, Go.Proofs.Tryd.underlying116, rfl, rfl, rfl⟩, ?_⟩
  refine ⟨⟨_, _, Go.Proofs.Tryd.type121, rfl, rfl, rfl, Go.Proofs.Tryd.underlying121, rfl, rfl, rfl⟩, ?_⟩
  refine ⟨⟨_, _, Go.Proofs.Tryd.type122, rfl, rfl, rfl, Go.Proofs.Tryd.underlying122, rfl, rfl, rfl⟩, ?_⟩
  refine ⟨⟨_, _, Go.Proofs.Tryd.type124, rfl, rfl, rfl, Go.Proofs.Tryd.underlying124, rfl, rfl, by kernel_rfl⟩, ?_⟩
  refine ⟨⟨_, _, Go.Proofs.Tryd.type127, rfl, rfl, rfl, Go.Proofs.Tryd.underlying127, rfl, rfl, rfl⟩, ?_⟩
  refine ⟨⟨_, _, Go.Proofs.Tryd.type134, rfl, rfl, rfl, Go.Proofs.Tryd.underlying134, rfl, rfl, rfl⟩, ?_⟩
  refine ⟨⟨_, _, Go.Proofs.Tryd.type135, rfl, rfl, rfl, Go.Proofs.Tryd.underlying135, rfl, rfl, rfl⟩, ?_⟩
  refine ⟨⟨_, _, Go.Proofs.Tryd.type136, rfl, rfl, rfl, Go.Proofs.Tryd.underlying136, rfl, rfl, rfl⟩, ?_⟩
  refine ⟨⟨_, _, Go.Proofs.Tryd.type140, rfl, rfl, rfl, Go.Proofs.Tryd.underlying140, rfl, rfl, rfl⟩, ?_⟩
  refine ⟨⟨_, _, Go.Proofs.Tryd.type141, rfl, rfl, rfl, Go.Proofs.Tryd.underlying141, rfl, rfl, rfl⟩, ?_⟩
  exact trivial
theorem tl_ok : TOK Go.Proofs.Tryd.prog tl := tl_oks.ok
set_option maxRecDepth 100000 in
theorem tl_zoks : ZOKs tl := by
  refine ⟨rfl, ?_⟩
  refine ⟨rfl, ?_⟩
  refine ⟨rfl, ?_⟩
  refine ⟨rfl, ?_⟩
  refine ⟨rfl, ?_⟩
  refine ⟨rfl, ?_⟩
  refine ⟨rfl, ?_⟩
  refine ⟨rfl, ?_⟩
  refine ⟨rfl, ?_⟩
  refine ⟨rfl, ?_⟩
  refine ⟨rfl, ?_⟩
  refine ⟨rfl, ?_⟩
  refine ⟨rfl, ?_⟩
  refine ⟨rfl, ?_⟩
  refine ⟨rfl, ?_⟩
  refine ⟨rfl, ?_⟩
  refine ⟨rfl, ?_⟩
  refine ⟨rfl, ?_⟩
  refine ⟨rfl, ?_⟩
  refine ⟨rfl, ?_⟩
  refine ⟨rfl, ?_⟩
  refine ⟨rfl, ?_⟩
  refine ⟨rfl, ?_⟩
  refine ⟨rfl, ?_⟩
  refine ⟨rfl, ?_⟩
  refine ⟨rfl, ?_⟩
  refine ⟨rfl, ?_⟩
  refine ⟨rfl, ?_⟩
  refine ⟨rfl, ?_⟩
  refine ⟨rfl, ?_⟩
  refine ⟨rfl, ?_⟩
  refine ⟨rfl, ?_⟩
  refine ⟨rfl, ?_⟩
  refine ⟨rfl, ?_⟩
  refine ⟨rfl, ?_⟩
  refine ⟨rfl, ?_⟩
  refine ⟨rfl, ?_⟩
  refine ⟨rfl, ?_⟩
  refine ⟨rfl, ?_⟩
  refine ⟨rfl, ?_⟩
  refine ⟨rfl, ?_⟩
  refine ⟨rfl, ?_⟩
  refine ⟨rfl, ?_⟩
  refine ⟨rfl, ?_⟩
  refine ⟨rfl, ?_⟩
  refine ⟨rfl, ?_⟩
  refine ⟨rfl, ?_⟩
  refine ⟨rfl, ?_⟩
  refine ⟨rfl, ?_⟩
  refine ⟨rfl, ?_⟩
  refine ⟨rfl, ?_⟩
  refine ⟨rfl, ?_⟩
  refine ⟨rfl, ?_⟩
  refine ⟨rfl, ?_⟩
  refine ⟨rfl, ?_⟩
  exact trivial
theorem tl_zok : ZOK tl := tl_zoks.ok
/-- An environment over this table. -/
def mkE (w : Bool) (own vis : Nat → Bool) : Env := ⟨tl, w, own, vis⟩
section
variable (w : Bool) (own vis : Nat → Bool)
@[push_cast] theorem mkE_wrap : (mkE w own vis).wrap = w := rfl
@[push_cast] theorem mkE_own : (mkE w own vis).own = own := rfl
@[push_cast] theorem mkE_vis : (mkE w own vis).vis = vis := rfl
@[push_cast] theorem ti2 : (mkE w own vis).ti 2 = some T2 := by kernel_rfl
@[push_cast] theorem ti3 : (mkE w own vis).ti 3 = some T3 := by kernel_rfl
@[push_cast] theorem ti4 : (mkE w own vis).ti 4 = some T4 := by kernel_rfl
@[push_cast] theorem ti5 : (mkE w own vis).ti 5 = some T5 := by kernel_rfl
@[push_cast] theorem ti9 : (mkE w own vis).ti 9 = some T9 := by kernel_rfl
@[push_cast] theorem ti12 : (mkE w own vis).ti 12 = some T12 := by kernel_rfl
@[push_cast] theorem ti13 : (mkE w own vis).ti 13 = some T13 := by kernel_rfl
@[push_cast] theorem ti20 : (mkE w own vis).ti 20 = some T20 := by kernel_rfl
@[push_cast] theorem ti21 : (mkE w own vis).ti 21 = some T21 := by kernel_rfl
@[push_cast] theorem ti22 : (mkE w own vis).ti 22 = some T22 := by kernel_rfl
@[push_cast] theorem ti23 : (mkE w own vis).ti 23 = some T23 := by kernel_rfl
@[push_cast] theorem ti24 : (mkE w own vis).ti 24 = some T24 := by kernel_rfl
@[push_cast] theorem ti25 : (mkE w own vis).ti 25 = some T25 := by kernel_rfl
@[push_cast] theorem ti26 : (mkE w own vis).ti 26 = some T26 := by kernel_rfl
@[push_cast] theorem ti27 : (mkE w own vis).ti 27 = some T27 := by kernel_rfl
@[push_cast] theorem ti28 : (mkE w own vis).ti 28 = some T28 := by kernel_rfl
@[push_cast] theorem ti33 : (mkE w own vis).ti 33 = some T33 := by kernel_rfl
@[push_cast] theorem ti34 : (mkE w own vis).ti 34 = some T34 := by kernel_rfl
@[push_cast] theorem ti35 : (mkE w own vis).ti 35 = some T35 := by kernel_rfl
@[push_cast] theorem ti36 : (mkE w own vis).ti 36 = some T36 := by kernel_rfl
@[push_cast] theorem ti37 : (mkE w own vis).ti 37 = some T37 := by kernel_rfl
@[push_cast] theorem ti42 : (mkE w own vis).ti 42 = some T42 := by kernel_rfl
@[push_cast] theorem ti43 : (mkE w own vis).ti 43 = some T43 := by kernel_rfl
@[push_cast] theorem ti44 : (mkE w own vis).ti 44 = some T44 := by kernel_rfl
@[push_cast] theorem ti45 : (mkE w own vis).ti 45 = some T45 := by kernel_rfl
@[push_cast] theorem ti46 : (mkE w own vis).ti 46 = some T46 := by kernel_rfl
@[push_cast] theorem ti47 : (mkE w own vis).ti 47 = some T47 := by kernel_rfl
@[push_cast] theorem ti48 : (mkE w own vis).ti 48 = some T48 := by kernel_rfl
@[push_cast] theorem ti57 : (mkE w own vis).ti 57 = some T57 := by kernel_rfl
@[push_cast] theorem ti60 : (mkE w own vis).ti 60 = some T60 := by kernel_rfl
@[push_cast] theorem ti61 : (mkE w own vis).ti 61 = some T61 := by kernel_rfl
@[push_cast] theorem ti63 : (mkE w own vis).ti 63 = some T63 := by kernel_rfl
@[push_cast] theorem ti64 : (mkE w own vis).ti 64 = some T64 := by kernel_rfl
@[push_cast] theorem ti65 : (mkE w own vis).ti 65 = some T65 := by kernel_rfl
@[push_cast] theorem ti66 : (mkE w own vis).ti 66 = some T66 := by kernel_rfl
@[push_cast] theorem ti67 : (mkE w own vis).ti 67 = some T67 := by kernel_rfl
@[push_cast] theorem ti68 : (mkE w own vis).ti 68 = some T68 := by kernel_rfl
@[push_cast] theorem ti74 : (mkE w own vis).ti 74 = some T74 := by kernel_rfl
@[push_cast] theorem ti76 : (mkE w own vis).ti 76 = some T76 := by kernel_rfl
@[push_cast] theorem ti77 : (mkE w own vis).ti 77 = some T77 := by kernel_rfl
@[push_cast] theorem ti78 : (mkE w own vis).ti 78 = some T78 := by kernel_rfl
@[push_cast] theorem ti90 : (mkE w own vis).ti 90 = some T90 := by kernel_rfl
@[push_cast] theorem ti93 : (mkE w own vis).ti 93 = some T93 := by kernel_rfl
@[push_cast] theorem ti108 : (mkE w own vis).ti 108 = some T108 := by kernel_rfl
@[push_cast] theorem ti111 : (mkE w own vis).ti 111 = some T111 := by kernel_rfl
@[push_cast] theorem ti116 : (mkE w own vis).ti 116 = some T116 := by kernel_rfl
@[push_cast] theorem ti121 : (mkE w own vis).ti 121 = some T121 := by kernel_rfl
@[push_cast] theorem ti122 : (mkE w own vis).ti 122 = some T122 := by kernel_rfl
@[push_cast] theorem ti124 : (mkE w own vis).ti 124 = some T124 := by kernel_rfl
@[push_cast] theorem ti127 : (mkE w own vis).ti 127 = some T127 := by kernel_rfl
@[push_cast] theorem ti134 : (mkE w own vis).ti 134 = some T134 := by kernel_rfl
@[push_cast] theorem ti135 : (mkE w own vis).ti 135 = some T135 := by kernel_rfl
@[push_cast] theorem ti136 : (mkE w own vis).ti 136 = some T136 := by kernel_rfl
@[push_cast] theorem ti140 : (mkE w own vis).ti 140 = some T140 := by kernel_rfl
@[push_cast] theorem ti141 : (mkE w own vis).ti 141 = some T141 := by kernel_rfl
end
@[push_cast] theorem T2_size : T2.size = 1 := rfl
@[push_cast] theorem T2_bytes : T2.bytes = 8 := rfl
@[push_cast] theorem T2_agg : T2.agg = false := rfl
@[push_cast] theorem T2_str : T2.str = false := rfl
@[push_cast] theorem T2_cmp : T2.cmp = true := rfl
@[push_cast] theorem T2_desc : T2.desc = .int .i64 := rfl
@[push_cast] theorem T2_cv : cv T2.zero = .d (.int .i64 0) := rfl
@[push_cast] theorem T2_vcs : vcs T2.zero = [.d (.int .i64 0)] := rfl
@[push_cast] theorem T3_size : T3.size = 1 := rfl
@[push_cast] theorem T3_bytes : T3.bytes = 8 := rfl
@[push_cast] theorem T3_agg : T3.agg = false := rfl
@[push_cast] theorem T3_str : T3.str = false := rfl
@[push_cast] theorem T3_cmp : T3.cmp = true := rfl
@[push_cast] theorem T3_desc : T3.desc = .int .i64 := rfl
@[push_cast] theorem T3_cv : cv T3.zero = .d (.int .i64 0) := rfl
@[push_cast] theorem T3_vcs : vcs T3.zero = [.d (.int .i64 0)] := rfl
@[push_cast] theorem T4_size : T4.size = 1 := rfl
@[push_cast] theorem T4_bytes : T4.bytes = 1 := rfl
@[push_cast] theorem T4_agg : T4.agg = false := rfl
@[push_cast] theorem T4_str : T4.str = false := rfl
@[push_cast] theorem T4_cmp : T4.cmp = true := rfl
@[push_cast] theorem T4_desc : T4.desc = .boo := rfl
@[push_cast] theorem T4_cv : cv T4.zero = .d (.bool false) := rfl
@[push_cast] theorem T4_vcs : vcs T4.zero = [.d (.bool false)] := rfl
@[push_cast] theorem T5_size : T5.size = 1 := rfl
@[push_cast] theorem T5_bytes : T5.bytes = 1 := rfl
@[push_cast] theorem T5_agg : T5.agg = false := rfl
@[push_cast] theorem T5_str : T5.str = false := rfl
@[push_cast] theorem T5_cmp : T5.cmp = true := rfl
@[push_cast] theorem T5_desc : T5.desc = .int .u8 := rfl
@[push_cast] theorem T5_cv : cv T5.zero = .d (.int .u8 0) := rfl
@[push_cast] theorem T5_vcs : vcs T5.zero = [.d (.int .u8 0)] := rfl
@[push_cast] theorem T9_size : T9.size = 1 := rfl
@[push_cast] theorem T9_bytes : T9.bytes = 16 := rfl
@[push_cast] theorem T9_agg : T9.agg = false := rfl
@[push_cast] theorem T9_str : T9.str = false := rfl
@[push_cast] theorem T9_cmp : T9.cmp = true := rfl
@[push_cast] theorem T9_desc : T9.desc = .str := rfl
@[push_cast] theorem T9_cv : cv T9.zero = .d (.st []) := rfl
@[push_cast] theorem T9_vcs : vcs T9.zero = [.d (.st [])] := rfl
@[push_cast] theorem T12_size : T12.size = 1 := rfl
@[push_cast] theorem T12_bytes : T12.bytes = 8 := rfl
@[push_cast] theorem T12_agg : T12.agg = false := rfl
@[push_cast] theorem T12_str : T12.str = false := rfl
@[push_cast] theorem T12_cmp : T12.cmp = true := rfl
@[push_cast] theorem T12_desc : T12.desc = .int .u64 := rfl
@[push_cast] theorem T12_cv : cv T12.zero = .d (.int .u64 0) := rfl
@[push_cast] theorem T12_vcs : vcs T12.zero = [.d (.int .u64 0)] := rfl
@[push_cast] theorem T13_size : T13.size = 2 := rfl
@[push_cast] theorem T13_bytes : T13.bytes = 24 := rfl
@[push_cast] theorem T13_agg : T13.agg = true := rfl
@[push_cast] theorem T13_str : T13.str = true := rfl
@[push_cast] theorem T13_cmp : T13.cmp = false := rfl
@[push_cast] theorem T13_fields : T13.fields = [(0, 9), (1, 12)] := rfl
@[push_cast] theorem T13_desc : T13.desc = .st [(0, 9), (1, 12)] := rfl
@[push_cast] theorem T13_cv : cv T13.zero = .d (.ag [.st [], .int .u64 0]) := rfl
@[push_cast] theorem T13_vcs : vcs T13.zero = [.d (.st []), .d (.int .u64 0)] := rfl
@[push_cast] theorem T20_size : T20.size = 1 := rfl
@[push_cast] theorem T20_bytes : T20.bytes = 16 := rfl
@[push_cast] theorem T20_agg : T20.agg = false := rfl
@[push_cast] theorem T20_str : T20.str = false := rfl
@[push_cast] theorem T20_cmp : T20.cmp = false := rfl
@[push_cast] theorem T20_desc : T20.desc = .ifc := rfl
@[push_cast] theorem T20_cv : cv T20.zero = .d (.imm (.nilIface)) := rfl
@[push_cast] theorem T20_vcs : vcs T20.zero = [.d (.imm (.nilIface))] := rfl
@[push_cast] theorem T21_size : T21.size = 1 := rfl
@[push_cast] theorem T21_bytes : T21.bytes = 4 := rfl
@[push_cast] theorem T21_agg : T21.agg = false := rfl
@[push_cast] theorem T21_str : T21.str = false := rfl
@[push_cast] theorem T21_cmp : T21.cmp = true := rfl
@[push_cast] theorem T21_desc : T21.desc = .int .i32 := rfl
@[push_cast] theorem T21_cv : cv T21.zero = .d (.int .i32 0) := rfl
@[push_cast] theorem T21_vcs : vcs T21.zero = [.d (.int .i32 0)] := rfl
@[push_cast] theorem T22_size : T22.size = 1 := rfl
@[push_cast] theorem T22_bytes : T22.bytes = 24 := rfl
@[push_cast] theorem T22_agg : T22.agg = false := rfl
@[push_cast] theorem T22_str : T22.str = false := rfl
@[push_cast] theorem T22_cmp : T22.cmp = false := rfl
@[push_cast] theorem T22_desc : T22.desc = .sli 9 := rfl
@[push_cast] theorem T22_cv : cv T22.zero = .d (.imm (.slice none 0 0)) := rfl
@[push_cast] theorem T22_vcs : vcs T22.zero = [.d (.imm (.slice none 0 0))] := rfl
@[push_cast] theorem T23_size : T23.size = 1 := rfl
@[push_cast] theorem T23_bytes : T23.bytes = 24 := rfl
@[push_cast] theorem T23_agg : T23.agg = false := rfl
@[push_cast] theorem T23_str : T23.str = false := rfl
@[push_cast] theorem T23_cmp : T23.cmp = false := rfl
@[push_cast] theorem T23_desc : T23.desc = .sli 28 := rfl
@[push_cast] theorem T23_cv : cv T23.zero = .d (.imm (.slice none 0 0)) := rfl
@[push_cast] theorem T23_vcs : vcs T23.zero = [.d (.imm (.slice none 0 0))] := rfl
@[push_cast] theorem T24_size : T24.size = 3 := rfl
@[push_cast] theorem T24_bytes : T24.bytes = 40 := rfl
@[push_cast] theorem T24_agg : T24.agg = true := rfl
@[push_cast] theorem T24_str : T24.str = true := rfl
@[push_cast] theorem T24_cmp : T24.cmp = false := rfl
@[push_cast] theorem T24_fields : T24.fields = [(0, 23), (1, 3), (2, 3)] := rfl
@[push_cast] theorem T24_desc : T24.desc = .st [(0, 23), (1, 3), (2, 3)] := rfl
@[push_cast] theorem T24_cv : cv T24.zero = .d (.ag [.imm (.slice none 0 0), .int .i64 0, .int .i64 0]) := rfl
@[push_cast] theorem T24_vcs : vcs T24.zero = [.d (.imm (.slice none 0 0)), .d (.int .i64 0), .d (.int .i64 0)] := rfl
@[push_cast] theorem T25_size : T25.size = 3 := rfl
@[push_cast] theorem T25_bytes : T25.bytes = 40 := rfl
@[push_cast] theorem T25_agg : T25.agg = true := rfl
@[push_cast] theorem T25_str : T25.str = true := rfl
@[push_cast] theorem T25_cmp : T25.cmp = false := rfl
@[push_cast] theorem T25_fields : T25.fields = [(0, 23), (1, 3), (2, 3)] := rfl
@[push_cast] theorem T25_desc : T25.desc = .st [(0, 23), (1, 3), (2, 3)] := rfl
@[push_cast] theorem T25_cv : cv T25.zero = .d (.ag [.imm (.slice none 0 0), .int .i64 0, .int .i64 0]) := rfl
@[push_cast] theorem T25_vcs : vcs T25.zero = [.d (.imm (.slice none 0 0)), .d (.int .i64 0), .d (.int .i64 0)] := rfl
@[push_cast] theorem T26_size : T26.size = 1 := rfl
@[push_cast] theorem T26_bytes : T26.bytes = 24 := rfl
@[push_cast] theorem T26_agg : T26.agg = false := rfl
@[push_cast] theorem T26_str : T26.str = false := rfl
@[push_cast] theorem T26_cmp : T26.cmp = false := rfl
@[push_cast] theorem T26_desc : T26.desc = .sli 48 := rfl
@[push_cast] theorem T26_cv : cv T26.zero = .d (.imm (.slice none 0 0)) := rfl
@[push_cast] theorem T26_vcs : vcs T26.zero = [.d (.imm (.slice none 0 0))] := rfl
@[push_cast] theorem T27_size : T27.size = 3 := rfl
@[push_cast] theorem T27_bytes : T27.bytes = 64 := rfl
@[push_cast] theorem T27_agg : T27.agg = true := rfl
@[push_cast] theorem T27_str : T27.str = true := rfl
@[push_cast] theorem T27_cmp : T27.cmp = false := rfl
@[push_cast] theorem T27_fields : T27.fields = [(0, 9), (1, 22), (2, 26)] := rfl
@[push_cast] theorem T27_desc : T27.desc = .st [(0, 9), (1, 22), (2, 26)] := rfl
@[push_cast] theorem T27_cv : cv T27.zero = .d (.ag [.st [], .imm (.slice none 0 0), .imm (.slice none 0 0)]) := rfl
@[push_cast] theorem T27_vcs : vcs T27.zero = [.d (.st []), .d (.imm (.slice none 0 0)), .d (.imm (.slice none 0 0))] := rfl
@[push_cast] theorem T28_size : T28.size = 3 := rfl
@[push_cast] theorem T28_bytes : T28.bytes = 64 := rfl
@[push_cast] theorem T28_agg : T28.agg = true := rfl
@[push_cast] theorem T28_str : T28.str = true := rfl
@[push_cast] theorem T28_cmp : T28.cmp = false := rfl
@[push_cast] theorem T28_fields : T28.fields = [(0, 9), (1, 22), (2, 26)] := rfl
@[push_cast] theorem T28_desc : T28.desc = .st [(0, 9), (1, 22), (2, 26)] := rfl
@[push_cast] theorem T28_cv : cv T28.zero = .d (.ag [.st [], .imm (.slice none 0 0), .imm (.slice none 0 0)]) := rfl
@[push_cast] theorem T28_vcs : vcs T28.zero = [.d (.st []), .d (.imm (.slice none 0 0)), .d (.imm (.slice none 0 0))] := rfl
@[push_cast] theorem T33_size : T33.size = 1 := rfl
@[push_cast] theorem T33_bytes : T33.bytes = 8 := rfl
@[push_cast] theorem T33_agg : T33.agg = false := rfl
@[push_cast] theorem T33_str : T33.str = false := rfl
@[push_cast] theorem T33_cmp : T33.cmp = true := rfl
@[push_cast] theorem T33_desc : T33.desc = .int .i64 := rfl
@[push_cast] theorem T33_cv : cv T33.zero = .d (.int .i64 0) := rfl
@[push_cast] theorem T33_vcs : vcs T33.zero = [.d (.int .i64 0)] := rfl
@[push_cast] theorem T34_size : T34.size = 1 := rfl
@[push_cast] theorem T34_bytes : T34.bytes = 24 := rfl
@[push_cast] theorem T34_agg : T34.agg = false := rfl
@[push_cast] theorem T34_str : T34.str = false := rfl
@[push_cast] theorem T34_cmp : T34.cmp = false := rfl
@[push_cast] theorem T34_desc : T34.desc = .sli 36 := rfl
@[push_cast] theorem T34_cv : cv T34.zero = .d (.imm (.slice none 0 0)) := rfl
@[push_cast] theorem T34_vcs : vcs T34.zero = [.d (.imm (.slice none 0 0))] := rfl
@[push_cast] theorem T35_size : T35.size = 5 := rfl
@[push_cast] theorem T35_bytes : T35.bytes = 64 := rfl
@[push_cast] theorem T35_agg : T35.agg = true := rfl
@[push_cast] theorem T35_str : T35.str = true := rfl
@[push_cast] theorem T35_cmp : T35.cmp = false := rfl
@[push_cast] theorem T35_fields : T35.fields = [(0, 33), (1, 9), (2, 2), (3, 3), (4, 34)] := rfl
@[push_cast] theorem T35_desc : T35.desc = .st [(0, 33), (1, 9), (2, 2), (3, 3), (4, 34)] := rfl
@[push_cast] theorem T35_cv : cv T35.zero = .d (.ag [.int .i64 0, .st [], .int .i64 0, .int .i64 0, .imm (.slice none 0 0)]) := rfl
@[push_cast] theorem T35_vcs : vcs T35.zero = [.d (.int .i64 0), .d (.st []), .d (.int .i64 0), .d (.int .i64 0), .d (.imm (.slice none 0 0))] := rfl
@[push_cast] theorem T36_size : T36.size = 5 := rfl
@[push_cast] theorem T36_bytes : T36.bytes = 64 := rfl
@[push_cast] theorem T36_agg : T36.agg = true := rfl
@[push_cast] theorem T36_str : T36.str = true := rfl
@[push_cast] theorem T36_cmp : T36.cmp = false := rfl
@[push_cast] theorem T36_fields : T36.fields = [(0, 33), (1, 9), (2, 2), (3, 3), (4, 34)] := rfl
@[push_cast] theorem T36_desc : T36.desc = .st [(0, 33), (1, 9), (2, 2), (3, 3), (4, 34)] := rfl
@[push_cast] theorem T36_cv : cv T36.zero = .d (.ag [.int .i64 0, .st [], .int .i64 0, .int .i64 0, .imm (.slice none 0 0)]) := rfl
@[push_cast] theorem T36_vcs : vcs T36.zero = [.d (.int .i64 0), .d (.st []), .d (.int .i64 0), .d (.int .i64 0), .d (.imm (.slice none 0 0))] := rfl
@[push_cast] theorem T37_size : T37.size = 1 := rfl
@[push_cast] theorem T37_bytes : T37.bytes = 8 := rfl
@[push_cast] theorem T37_agg : T37.agg = false := rfl
@[push_cast] theorem T37_str : T37.str = false := rfl
@[push_cast] theorem T37_cmp : T37.cmp = true := rfl
@[push_cast] theorem T37_desc : T37.desc = .int .i64 := rfl
@[push_cast] theorem T37_cv : cv T37.zero = .d (.int .i64 0) := rfl
@[push_cast] theorem T37_vcs : vcs T37.zero = [.d (.int .i64 0)] := rfl
@[push_cast] theorem T42_size : T42.size = 1 := rfl
@[push_cast] theorem T42_bytes : T42.bytes = 8 := rfl
@[push_cast] theorem T42_agg : T42.agg = false := rfl
@[push_cast] theorem T42_str : T42.str = false := rfl
@[push_cast] theorem T42_cmp : T42.cmp = false := rfl
@[push_cast] theorem T42_desc : T42.desc = .map 9 3 := rfl
@[push_cast] theorem T42_cv : cv T42.zero = .d (.imm (.map none)) := rfl
@[push_cast] theorem T42_vcs : vcs T42.zero = [.d (.imm (.map none))] := rfl
@[push_cast] theorem T43_size : T43.size = 1 := rfl
@[push_cast] theorem T43_bytes : T43.bytes = 8 := rfl
@[push_cast] theorem T43_agg : T43.agg = false := rfl
@[push_cast] theorem T43_str : T43.str = false := rfl
@[push_cast] theorem T43_cmp : T43.cmp = true := rfl
@[push_cast] theorem T43_desc : T43.desc = .int .i64 := rfl
@[push_cast] theorem T43_cv : cv T43.zero = .d (.int .i64 0) := rfl
@[push_cast] theorem T43_vcs : vcs T43.zero = [.d (.int .i64 0)] := rfl
@[push_cast] theorem T44_size : T44.size = 2 := rfl
@[push_cast] theorem T44_bytes : T44.bytes = 24 := rfl
@[push_cast] theorem T44_agg : T44.agg = true := rfl
@[push_cast] theorem T44_str : T44.str = true := rfl
@[push_cast] theorem T44_cmp : T44.cmp = true := rfl
@[push_cast] theorem T44_fields : T44.fields = [(0, 9), (1, 2)] := rfl
@[push_cast] theorem T44_desc : T44.desc = .st [(0, 9), (1, 2)] := rfl
@[push_cast] theorem T44_cv : cv T44.zero = .d (.ag [.st [], .int .i64 0]) := rfl
@[push_cast] theorem T44_vcs : vcs T44.zero = [.d (.st []), .d (.int .i64 0)] := rfl
@[push_cast] theorem T45_size : T45.size = 2 := rfl
@[push_cast] theorem T45_bytes : T45.bytes = 24 := rfl
@[push_cast] theorem T45_agg : T45.agg = true := rfl
@[push_cast] theorem T45_str : T45.str = true := rfl
@[push_cast] theorem T45_cmp : T45.cmp = true := rfl
@[push_cast] theorem T45_fields : T45.fields = [(0, 9), (1, 2)] := rfl
@[push_cast] theorem T45_desc : T45.desc = .st [(0, 9), (1, 2)] := rfl
@[push_cast] theorem T45_cv : cv T45.zero = .d (.ag [.st [], .int .i64 0]) := rfl
@[push_cast] theorem T45_vcs : vcs T45.zero = [.d (.st []), .d (.int .i64 0)] := rfl
@[push_cast] theorem T46_size : T46.size = 1 := rfl
@[push_cast] theorem T46_bytes : T46.bytes = 24 := rfl
@[push_cast] theorem T46_agg : T46.agg = false := rfl
@[push_cast] theorem T46_str : T46.str = false := rfl
@[push_cast] theorem T46_cmp : T46.cmp = false := rfl
@[push_cast] theorem T46_desc : T46.desc = .sli 45 := rfl
@[push_cast] theorem T46_cv : cv T46.zero = .d (.imm (.slice none 0 0)) := rfl
@[push_cast] theorem T46_vcs : vcs T46.zero = [.d (.imm (.slice none 0 0))] := rfl
@[push_cast] theorem T47_size : T47.size = 11 := rfl
@[push_cast] theorem T47_bytes : T47.bytes = 136 := rfl
@[push_cast] theorem T47_agg : T47.agg = true := rfl
@[push_cast] theorem T47_str : T47.str = true := rfl
@[push_cast] theorem T47_cmp : T47.cmp = false := rfl
@[push_cast] theorem T47_fields : T47.fields = [(0, 43), (1, 3), (2, 9), (3, 9), (4, 45), (6, 45), (8, 46), (9, 3), (10, 4)] := rfl
@[push_cast] theorem T47_desc : T47.desc = .st [(0, 43), (1, 3), (2, 9), (3, 9), (4, 45), (6, 45), (8, 46), (9, 3), (10, 4)] := rfl
@[push_cast] theorem T47_cv : cv T47.zero = .d (.ag [.int .i64 0, .int .i64 0, .st [], .st [], .st [], .int .i64 0, .st [], .int .i64 0, .imm (.slice none 0 0), .int .i64 0, .bool false]) := rfl
@[push_cast] theorem T47_vcs : vcs T47.zero = [.d (.int .i64 0), .d (.int .i64 0), .d (.st []), .d (.st []), .d (.st []), .d (.int .i64 0), .d (.st []), .d (.int .i64 0), .d (.imm (.slice none 0 0)), .d (.int .i64 0), .d (.bool false)] := rfl
@[push_cast] theorem T48_size : T48.size = 11 := rfl
@[push_cast] theorem T48_bytes : T48.bytes = 136 := rfl
@[push_cast] theorem T48_agg : T48.agg = true := rfl
@[push_cast] theorem T48_str : T48.str = true := rfl
@[push_cast] theorem T48_cmp : T48.cmp = false := rfl
@[push_cast] theorem T48_fields : T48.fields = [(0, 43), (1, 3), (2, 9), (3, 9), (4, 45), (6, 45), (8, 46), (9, 3), (10, 4)] := rfl
@[push_cast] theorem T48_desc : T48.desc = .st [(0, 43), (1, 3), (2, 9), (3, 9), (4, 45), (6, 45), (8, 46), (9, 3), (10, 4)] := rfl
@[push_cast] theorem T48_cv : cv T48.zero = .d (.ag [.int .i64 0, .int .i64 0, .st [], .st [], .st [], .int .i64 0, .st [], .int .i64 0, .imm (.slice none 0 0), .int .i64 0, .bool false]) := rfl
@[push_cast] theorem T48_vcs : vcs T48.zero = [.d (.int .i64 0), .d (.int .i64 0), .d (.st []), .d (.st []), .d (.st []), .d (.int .i64 0), .d (.st []), .d (.int .i64 0), .d (.imm (.slice none 0 0)), .d (.int .i64 0), .d (.bool false)] := rfl
@[push_cast] theorem T57_size : T57.size = 1 := rfl
@[push_cast] theorem T57_bytes : T57.bytes = 24 := rfl
@[push_cast] theorem T57_agg : T57.agg = false := rfl
@[push_cast] theorem T57_str : T57.str = false := rfl
@[push_cast] theorem T57_cmp : T57.cmp = false := rfl
@[push_cast] theorem T57_desc : T57.desc = .sli 68 := rfl
@[push_cast] theorem T57_cv : cv T57.zero = .d (.imm (.slice none 0 0)) := rfl
@[push_cast] theorem T57_vcs : vcs T57.zero = [.d (.imm (.slice none 0 0))] := rfl
@[push_cast] theorem T60_size : T60.size = 2 := rfl
@[push_cast] theorem T60_bytes : T60.bytes = 16 := rfl
@[push_cast] theorem T60_agg : T60.agg = true := rfl
@[push_cast] theorem T60_str : T60.str = true := rfl
@[push_cast] theorem T60_cmp : T60.cmp = true := rfl
@[push_cast] theorem T60_fields : T60.fields = [(0, 3), (1, 37)] := rfl
@[push_cast] theorem T60_desc : T60.desc = .st [(0, 3), (1, 37)] := rfl
@[push_cast] theorem T60_cv : cv T60.zero = .d (.ag [.int .i64 0, .int .i64 0]) := rfl
@[push_cast] theorem T60_vcs : vcs T60.zero = [.d (.int .i64 0), .d (.int .i64 0)] := rfl
@[push_cast] theorem T61_size : T61.size = 2 := rfl
@[push_cast] theorem T61_bytes : T61.bytes = 16 := rfl
@[push_cast] theorem T61_agg : T61.agg = true := rfl
@[push_cast] theorem T61_str : T61.str = true := rfl
@[push_cast] theorem T61_cmp : T61.cmp = true := rfl
@[push_cast] theorem T61_fields : T61.fields = [(0, 3), (1, 37)] := rfl
@[push_cast] theorem T61_desc : T61.desc = .st [(0, 3), (1, 37)] := rfl
@[push_cast] theorem T61_cv : cv T61.zero = .d (.ag [.int .i64 0, .int .i64 0]) := rfl
@[push_cast] theorem T61_vcs : vcs T61.zero = [.d (.int .i64 0), .d (.int .i64 0)] := rfl
@[push_cast] theorem T63_size : T63.size = 1 := rfl
@[push_cast] theorem T63_bytes : T63.bytes = 8 := rfl
@[push_cast] theorem T63_agg : T63.agg = false := rfl
@[push_cast] theorem T63_str : T63.str = false := rfl
@[push_cast] theorem T63_cmp : T63.cmp = false := rfl
@[push_cast] theorem T63_desc : T63.desc = .ptr 65 := rfl
@[push_cast] theorem T63_cv : cv T63.zero = .d (.imm (.pointer none)) := rfl
@[push_cast] theorem T63_vcs : vcs T63.zero = [.d (.imm (.pointer none))] := rfl
@[push_cast] theorem T64_size : T64.size = 2 := rfl
@[push_cast] theorem T64_bytes : T64.bytes = 32 := rfl
@[push_cast] theorem T64_agg : T64.agg = true := rfl
@[push_cast] theorem T64_str : T64.str = true := rfl
@[push_cast] theorem T64_cmp : T64.cmp = false := rfl
@[push_cast] theorem T64_fields : T64.fields = [(0, 57), (1, 3)] := rfl
@[push_cast] theorem T64_desc : T64.desc = .st [(0, 57), (1, 3)] := rfl
@[push_cast] theorem T64_cv : cv T64.zero = .d (.ag [.imm (.slice none 0 0), .int .i64 0]) := rfl
@[push_cast] theorem T64_vcs : vcs T64.zero = [.d (.imm (.slice none 0 0)), .d (.int .i64 0)] := rfl
@[push_cast] theorem T65_size : T65.size = 2 := rfl
@[push_cast] theorem T65_bytes : T65.bytes = 32 := rfl
@[push_cast] theorem T65_agg : T65.agg = true := rfl
@[push_cast] theorem T65_str : T65.str = true := rfl
@[push_cast] theorem T65_cmp : T65.cmp = false := rfl
@[push_cast] theorem T65_fields : T65.fields = [(0, 57), (1, 3)] := rfl
@[push_cast] theorem T65_desc : T65.desc = .st [(0, 57), (1, 3)] := rfl
@[push_cast] theorem T65_cv : cv T65.zero = .d (.ag [.imm (.slice none 0 0), .int .i64 0]) := rfl
@[push_cast] theorem T65_vcs : vcs T65.zero = [.d (.imm (.slice none 0 0)), .d (.int .i64 0)] := rfl
@[push_cast] theorem T66_size : T66.size = 1 := rfl
@[push_cast] theorem T66_bytes : T66.bytes = 8 := rfl
@[push_cast] theorem T66_agg : T66.agg = false := rfl
@[push_cast] theorem T66_str : T66.str = false := rfl
@[push_cast] theorem T66_cmp : T66.cmp = true := rfl
@[push_cast] theorem T66_desc : T66.desc = .int .i64 := rfl
@[push_cast] theorem T66_cv : cv T66.zero = .d (.int .i64 0) := rfl
@[push_cast] theorem T66_vcs : vcs T66.zero = [.d (.int .i64 0)] := rfl
@[push_cast] theorem T67_size : T67.size = 4 := rfl
@[push_cast] theorem T67_bytes : T67.bytes = 40 := rfl
@[push_cast] theorem T67_agg : T67.agg = true := rfl
@[push_cast] theorem T67_str : T67.str = true := rfl
@[push_cast] theorem T67_cmp : T67.cmp = true := rfl
@[push_cast] theorem T67_fields : T67.fields = [(0, 66), (1, 9), (2, 2), (3, 3)] := rfl
@[push_cast] theorem T67_desc : T67.desc = .st [(0, 66), (1, 9), (2, 2), (3, 3)] := rfl
@[push_cast] theorem T67_cv : cv T67.zero = .d (.ag [.int .i64 0, .st [], .int .i64 0, .int .i64 0]) := rfl
@[push_cast] theorem T67_vcs : vcs T67.zero = [.d (.int .i64 0), .d (.st []), .d (.int .i64 0), .d (.int .i64 0)] := rfl
@[push_cast] theorem T68_size : T68.size = 4 := rfl
@[push_cast] theorem T68_bytes : T68.bytes = 40 := rfl
@[push_cast] theorem T68_agg : T68.agg = true := rfl
@[push_cast] theorem T68_str : T68.str = true := rfl
@[push_cast] theorem T68_cmp : T68.cmp = true := rfl
@[push_cast] theorem T68_fields : T68.fields = [(0, 66), (1, 9), (2, 2), (3, 3)] := rfl
@[push_cast] theorem T68_desc : T68.desc = .st [(0, 66), (1, 9), (2, 2), (3, 3)] := rfl
@[push_cast] theorem T68_cv : cv T68.zero = .d (.ag [.int .i64 0, .st [], .int .i64 0, .int .i64 0]) := rfl
@[push_cast] theorem T68_vcs : vcs T68.zero = [.d (.int .i64 0), .d (.st []), .d (.int .i64 0), .d (.int .i64 0)] := rfl
@[push_cast] theorem T74_size : T74.size = 1 := rfl
@[push_cast] theorem T74_bytes : T74.bytes = 24 := rfl
@[push_cast] theorem T74_agg : T74.agg = false := rfl
@[push_cast] theorem T74_str : T74.str = false := rfl
@[push_cast] theorem T74_cmp : T74.cmp = false := rfl
@[push_cast] theorem T74_desc : T74.desc = .sli 34 := rfl
@[push_cast] theorem T74_cv : cv T74.zero = .d (.imm (.slice none 0 0)) := rfl
@[push_cast] theorem T74_vcs : vcs T74.zero = [.d (.imm (.slice none 0 0))] := rfl
@[push_cast] theorem T76_size : T76.size = 1 := rfl
@[push_cast] theorem T76_bytes : T76.bytes = 8 := rfl
@[push_cast] theorem T76_agg : T76.agg = false := rfl
@[push_cast] theorem T76_str : T76.str = false := rfl
@[push_cast] theorem T76_cmp : T76.cmp = false := rfl
@[push_cast] theorem T76_desc : T76.desc = .ptr 78 := rfl
@[push_cast] theorem T76_cv : cv T76.zero = .d (.imm (.pointer none)) := rfl
@[push_cast] theorem T76_vcs : vcs T76.zero = [.d (.imm (.pointer none))] := rfl
@[push_cast] theorem T77_size : T77.size = 1 := rfl
@[push_cast] theorem T77_bytes : T77.bytes = 24 := rfl
@[push_cast] theorem T77_agg : T77.agg = true := rfl
@[push_cast] theorem T77_str : T77.str = true := rfl
@[push_cast] theorem T77_cmp : T77.cmp = false := rfl
@[push_cast] theorem T77_fields : T77.fields = [(0, 26)] := rfl
@[push_cast] theorem T77_desc : T77.desc = .st [(0, 26)] := rfl
@[push_cast] theorem T77_cv : cv T77.zero = .d (.ag [.imm (.slice none 0 0)]) := rfl
@[push_cast] theorem T77_vcs : vcs T77.zero = [.d (.imm (.slice none 0 0))] := rfl
@[push_cast] theorem T78_size : T78.size = 1 := rfl
@[push_cast] theorem T78_bytes : T78.bytes = 24 := rfl
@[push_cast] theorem T78_agg : T78.agg = true := rfl
@[push_cast] theorem T78_str : T78.str = true := rfl
@[push_cast] theorem T78_cmp : T78.cmp = false := rfl
@[push_cast] theorem T78_fields : T78.fields = [(0, 26)] := rfl
@[push_cast] theorem T78_desc : T78.desc = .st [(0, 26)] := rfl
@[push_cast] theorem T78_cv : cv T78.zero = .d (.ag [.imm (.slice none 0 0)]) := rfl
@[push_cast] theorem T78_vcs : vcs T78.zero = [.d (.imm (.slice none 0 0))] := rfl
@[push_cast] theorem T90_size : T90.size = 1 := rfl
@[push_cast] theorem T90_bytes : T90.bytes = 16 := rfl
@[push_cast] theorem T90_agg : T90.agg = false := rfl
@[push_cast] theorem T90_str : T90.str = false := rfl
@[push_cast] theorem T90_cmp : T90.cmp = false := rfl
@[push_cast] theorem T90_desc : T90.desc = .ifc := rfl
@[push_cast] theorem T90_cv : cv T90.zero = .d (.imm (.nilIface)) := rfl
@[push_cast] theorem T90_vcs : vcs T90.zero = [.d (.imm (.nilIface))] := rfl
@[push_cast] theorem T93_size : T93.size = 3 := rfl
@[push_cast] theorem T93_bytes : T93.bytes = 48 := rfl
@[push_cast] theorem T93_agg : T93.agg = true := rfl
@[push_cast] theorem T93_str : T93.str = false := rfl
@[push_cast] theorem T93_cmp : T93.cmp = false := rfl
@[push_cast] theorem T93_desc : T93.desc = .arr 3 9 := rfl
@[push_cast] theorem T93_cv : cv T93.zero = .d (.ag [.st [], .st [], .st []]) := rfl
@[push_cast] theorem T93_vcs : vcs T93.zero = [.d (.st []), .d (.st []), .d (.st [])] := rfl
@[push_cast] theorem T108_size : T108.size = 1 := rfl
@[push_cast] theorem T108_bytes : T108.bytes = 8 := rfl
@[push_cast] theorem T108_agg : T108.agg = false := rfl
@[push_cast] theorem T108_str : T108.str = false := rfl
@[push_cast] theorem T108_cmp : T108.cmp = true := rfl
@[push_cast] theorem T108_desc : T108.desc = .int .u64 := rfl
@[push_cast] theorem T108_cv : cv T108.zero = .d (.int .u64 0) := rfl
@[push_cast] theorem T108_vcs : vcs T108.zero = [.d (.int .u64 0)] := rfl
@[push_cast] theorem T111_size : T111.size = 1 := rfl
@[push_cast] theorem T111_bytes : T111.bytes = 8 := rfl
@[push_cast] theorem T111_agg : T111.agg = false := rfl
@[push_cast] theorem T111_str : T111.str = false := rfl
@[push_cast] theorem T111_cmp : T111.cmp = true := rfl
@[push_cast] theorem T111_desc : T111.desc = .int .u64 := rfl
@[push_cast] theorem T111_cv : cv T111.zero = .d (.int .u64 0) := rfl
@[push_cast] theorem T111_vcs : vcs T111.zero = [.d (.int .u64 0)] := rfl
@[push_cast] theorem T116_size : T116.size = 1 := rfl
@[push_cast] theorem T116_bytes : T116.bytes = 24 := rfl
@[push_cast] theorem T116_agg : T116.agg = false := rfl
@[push_cast] theorem T116_str : T116.str = false := rfl
@[push_cast] theorem T116_cmp : T116.cmp = false := rfl
@[push_cast] theorem T116_desc : T116.desc = .sli 5 := rfl
@[push_cast] theorem T116_cv : cv T116.zero = .d (.imm (.slice none 0 0)) := rfl
@[push_cast] theorem T116_vcs : vcs T116.zero = [.d (.imm (.slice none 0 0))] := rfl
@[push_cast] theorem T121_size : T121.size = 1 := rfl
@[push_cast] theorem T121_bytes : T121.bytes = 8 := rfl
@[push_cast] theorem T121_agg : T121.agg = false := rfl
@[push_cast] theorem T121_str : T121.str = false := rfl
@[push_cast] theorem T121_cmp : T121.cmp = false := rfl
@[push_cast] theorem T121_desc : T121.desc = .map 9 33 := rfl
@[push_cast] theorem T121_cv : cv T121.zero = .d (.imm (.map none)) := rfl
@[push_cast] theorem T121_vcs : vcs T121.zero = [.d (.imm (.map none))] := rfl
@[push_cast] theorem T122_size : T122.size = 1 := rfl
@[push_cast] theorem T122_bytes : T122.bytes = 8 := rfl
@[push_cast] theorem T122_agg : T122.agg = false := rfl
@[push_cast] theorem T122_str : T122.str = false := rfl
@[push_cast] theorem T122_cmp : T122.cmp = false := rfl
@[push_cast] theorem T122_desc : T122.desc = .ptr 5 := rfl
@[push_cast] theorem T122_cv : cv T122.zero = .d (.imm (.pointer none)) := rfl
@[push_cast] theorem T122_vcs : vcs T122.zero = [.d (.imm (.pointer none))] := rfl
@[push_cast] theorem T124_size : T124.size = 1 := rfl
@[push_cast] theorem T124_bytes : T124.bytes = 16 := rfl
@[push_cast] theorem T124_agg : T124.agg = true := rfl
@[push_cast] theorem T124_str : T124.str = true := rfl
@[push_cast] theorem T124_cmp : T124.cmp = true := rfl
@[push_cast] theorem T124_fields : T124.fields = [(0, 9)] := rfl
@[push_cast] theorem T124_desc : T124.desc = .st [(0, 9)] := rfl
@[push_cast] theorem T124_cv : cv T124.zero = .d (.ag [.st []]) := rfl
@[push_cast] theorem T124_vcs : vcs T124.zero = [.d (.st [])] := rfl
@[push_cast] theorem T127_size : T127.size = 24 := rfl
@[push_cast] theorem T127_bytes : T127.bytes = 24 := rfl
@[push_cast] theorem T127_agg : T127.agg = true := rfl
@[push_cast] theorem T127_str : T127.str = false := rfl
@[push_cast] theorem T127_cmp : T127.cmp = false := rfl
@[push_cast] theorem T127_desc : T127.desc = .arr 24 5 := rfl
@[push_cast] theorem T127_cv : cv T127.zero = .d (.ag [.int .u8 0, .int .u8 0, .int .u8 0, .int .u8 0, .int .u8 0, .int .u8 0, .int .u8 0, .int .u8 0, .int .u8 0, .int .u8 0, .int .u8 0, .int .u8 0, .int .u8 0, .int .u8 0, .int .u8 0, .int .u8 0, .int .u8 0, .int .u8 0, .int .u8 0, .int .u8 0, .int .u8 0, .int .u8 0, .int .u8 0, .int .u8 0]) := rfl
@[push_cast] theorem T127_vcs : vcs T127.zero = [.d (.int .u8 0), .d (.int .u8 0), .d (.int .u8 0), .d (.int .u8 0), .d (.int .u8 0), .d (.int .u8 0), .d (.int .u8 0), .d (.int .u8 0), .d (.int .u8 0), .d (.int .u8 0), .d (.int .u8 0), .d (.int .u8 0), .d (.int .u8 0), .d (.int .u8 0), .d (.int .u8 0), .d (.int .u8 0), .d (.int .u8 0), .d (.int .u8 0), .d (.int .u8 0), .d (.int .u8 0), .d (.int .u8 0), .d (.int .u8 0), .d (.int .u8 0), .d (.int .u8 0)] := rfl
@[push_cast] theorem T134_size : T134.size = 20 := rfl
@[push_cast] theorem T134_bytes : T134.bytes = 160 := rfl
@[push_cast] theorem T134_agg : T134.agg = true := rfl
@[push_cast] theorem T134_str : T134.str = false := rfl
@[push_cast] theorem T134_cmp : T134.cmp = false := rfl
@[push_cast] theorem T134_desc : T134.desc = .arr 20 108 := rfl
@[push_cast] theorem T134_cv : cv T134.zero = .d (.ag [.int .u64 0, .int .u64 0, .int .u64 0, .int .u64 0, .int .u64 0, .int .u64 0, .int .u64 0, .int .u64 0, .int .u64 0, .int .u64 0, .int .u64 0, .int .u64 0, .int .u64 0, .int .u64 0, .int .u64 0, .int .u64 0, .int .u64 0, .int .u64 0, .int .u64 0, .int .u64 0]) := rfl
@[push_cast] theorem T134_vcs : vcs T134.zero = [.d (.int .u64 0), .d (.int .u64 0), .d (.int .u64 0), .d (.int .u64 0), .d (.int .u64 0), .d (.int .u64 0), .d (.int .u64 0), .d (.int .u64 0), .d (.int .u64 0), .d (.int .u64 0), .d (.int .u64 0), .d (.int .u64 0), .d (.int .u64 0), .d (.int .u64 0), .d (.int .u64 0), .d (.int .u64 0), .d (.int .u64 0), .d (.int .u64 0), .d (.int .u64 0), .d (.int .u64 0)] := rfl
@[push_cast] theorem T135_size : T135.size = 1 := rfl
@[push_cast] theorem T135_bytes : T135.bytes = 4 := rfl
@[push_cast] theorem T135_agg : T135.agg = false := rfl
@[push_cast] theorem T135_str : T135.str = false := rfl
@[push_cast] theorem T135_cmp : T135.cmp = true := rfl
@[push_cast] theorem T135_desc : T135.desc = .int .u32 := rfl
@[push_cast] theorem T135_cv : cv T135.zero = .d (.int .u32 0) := rfl
@[push_cast] theorem T135_vcs : vcs T135.zero = [.d (.int .u32 0)] := rfl
@[push_cast] theorem T136_size : T136.size = 65 := rfl
@[push_cast] theorem T136_bytes : T136.bytes = 65 := rfl
@[push_cast] theorem T136_agg : T136.agg = true := rfl
@[push_cast] theorem T136_str : T136.str = false := rfl
@[push_cast] theorem T136_cmp : T136.cmp = false := rfl
@[push_cast] theorem T136_desc : T136.desc = .arr 65 5 := rfl
@[push_cast] theorem T136_cv : cv T136.zero = .d (.ag [.int .u8 0, .int .u8 0, .int .u8 0, .int .u8 0, .int .u8 0, .int .u8 0, .int .u8 0, .int .u8 0, .int .u8 0, .int .u8 0, .int .u8 0, .int .u8 0, .int .u8 0, .int .u8 0, .int .u8 0, .int .u8 0, .int .u8 0, .int .u8 0, .int .u8 0, .int .u8 0, .int .u8 0, .int .u8 0, .int .u8 0, .int .u8 0, .int .u8 0, .int .u8 0, .int .u8 0, .int .u8 0, .int .u8 0, .int .u8 0, .int .u8 0, .int .u8 0, .int .u8 0, .int .u8 0, .int .u8 0, .int .u8 0, .int .u8 0, .int .u8 0, .int .u8 0, .int .u8 0, .int .u8 0, .int .u8 0, .int .u8 0, .int .u8 0, .int .u8 0, .int .u8 0, .int .u8 0, .int .u8 0, .int .u8 0, .int .u8 0, .int .u8 0, .int .u8 0, .int .u8 0, .int .u8 0, .int .u8 0, .int .u8 0, .int .u8 0, .int .u8 0, .int .u8 0, .int .u8 0, .int .u8 0, .int .u8 0, .int .u8 0, .int .u8 0, .int .u8 0]) := rfl
@[push_cast] theorem T136_vcs : vcs T136.zero = [.d (.int .u8 0), .d (.int .u8 0), .d (.int .u8 0), .d (.int .u8 0), .d (.int .u8 0), .d (.int .u8 0), .d (.int .u8 0), .d (.int .u8 0), .d (.int .u8 0), .d (.int .u8 0), .d (.int .u8 0), .d (.int .u8 0), .d (.int .u8 0), .d (.int .u8 0), .d (.int .u8 0), .d (.int .u8 0), .d (.int .u8 0), .d (.int .u8 0), .d (.int .u8 0), .d (.int .u8 0), .d (.int .u8 0), .d (.int .u8 0), .d (.int .u8 0), .d (.int .u8 0), .d (.int .u8 0), .d (.int .u8 0), .d (.int .u8 0), .d (.int .u8 0), .d (.int .u8 0), .d (.int .u8 0), .d (.int .u8 0), .d (.int .u8 0), .d (.int .u8 0), .d (.int .u8 0), .d (.int .u8 0), .d (.int .u8 0), .d (.int .u8 0), .d (.int .u8 0), .d (.int .u8 0), .d (.int .u8 0), .d (.int .u8 0), .d (.int .u8 0), .d (.int .u8 0), .d (.int .u8 0), .d (.int .u8 0), .d (.int .u8 0), .d (.int .u8 0), .d (.int .u8 0), .d (.int .u8 0), .d (.int .u8 0), .d (.int .u8 0), .d (.int .u8 0), .d (.int .u8 0), .d (.int .u8 0), .d (.int .u8 0), .d (.int .u8 0), .d (.int .u8 0), .d (.int .u8 0), .d (.int .u8 0), .d (.int .u8 0), .d (.int .u8 0), .d (.int .u8 0), .d (.int .u8 0), .d (.int .u8 0), .d (.int .u8 0)] := rfl
@[push_cast] theorem T140_size : T140.size = 32 := rfl
@[push_cast] theorem T140_bytes : T140.bytes = 32 := rfl
@[push_cast] theorem T140_agg : T140.agg = true := rfl
@[push_cast] theorem T140_str : T140.str = false := rfl
@[push_cast] theorem T140_cmp : T140.cmp = false := rfl
@[push_cast] theorem T140_desc : T140.desc = .arr 32 5 := rfl
@[push_cast] theorem T140_cv : cv T140.zero = .d (.ag [.int .u8 0, .int .u8 0, .int .u8 0, .int .u8 0, .int .u8 0, .int .u8 0, .int .u8 0, .int .u8 0, .int .u8 0, .int .u8 0, .int .u8 0, .int .u8 0, .int .u8 0, .int .u8 0, .int .u8 0, .int .u8 0, .int .u8 0, .int .u8 0, .int .u8 0, .int .u8 0, .int .u8 0, .int .u8 0, .int .u8 0, .int .u8 0, .int .u8 0, .int .u8 0, .int .u8 0, .int .u8 0, .int .u8 0, .int .u8 0, .int .u8 0, .int .u8 0]) := rfl
@[push_cast] theorem T140_vcs : vcs T140.zero = [.d (.int .u8 0), .d (.int .u8 0), .d (.int .u8 0), .d (.int .u8 0), .d (.int .u8 0), .d (.int .u8 0), .d (.int .u8 0), .d (.int .u8 0), .d (.int .u8 0), .d (.int .u8 0), .d (.int .u8 0), .d (.int .u8 0), .d (.int .u8 0), .d (.int .u8 0), .d (.int .u8 0), .d (.int .u8 0), .d (.int .u8 0), .d (.int .u8 0), .d (.int .u8 0), .d (.int .u8 0), .d (.int .u8 0), .d (.int .u8 0), .d (.int .u8 0), .d (.int .u8 0), .d (.int .u8 0), .d (.int .u8 0), .d (.int .u8 0), .d (.int .u8 0), .d (.int .u8 0), .d (.int .u8 0), .d (.int .u8 0), .d (.int .u8 0)] := rfl
@[push_cast] theorem T141_size : T141.size = 64 := rfl
@[push_cast] theorem T141_bytes : T141.bytes = 64 := rfl
@[push_cast] theorem T141_agg : T141.agg = true := rfl
@[push_cast] theorem T141_str : T141.str = false := rfl
@[push_cast] theorem T141_cmp : T141.cmp = false := rfl
@[push_cast] theorem T141_desc : T141.desc = .arr 64 5 := rfl
@[push_cast] theorem T141_cv : cv T141.zero = .d (.ag [.int .u8 0, .int .u8 0, .int .u8 0, .int .u8 0, .int .u8 0, .int .u8 0, .int .u8 0, .int .u8 0, .int .u8 0, .int .u8 0, .int .u8 0, .int .u8 0, .int .u8 0, .int .u8 0, .int .u8 0, .int .u8 0, .int .u8 0, .int .u8 0, .int .u8 0, .int .u8 0, .int .u8 0, .int .u8 0, .int .u8 0, .int .u8 0, .int .u8 0, .int .u8 0, .int .u8 0, .int .u8 0, .int .u8 0, .int .u8 0, .int .u8 0, .int .u8 0, .int .u8 0, .int .u8 0, .int .u8 0, .int .u8 0, .int .u8 0, .int .u8 0, .int .u8 0, .int .u8 0, .int .u8 0, .int .u8 0, .int .u8 0, .int .u8 0, .int .u8 0, .int .u8 0, .int .u8 0, .int .u8 0, .int .u8 0, .int .u8 0, .int .u8 0, .int .u8 0, .int .u8 0, .int .u8 0, .int .u8 0, .int .u8 0, .int .u8 0, .int .u8 0, .int .u8 0, .int .u8 0, .int .u8 0, .int .u8 0, .int .u8 0, .int .u8 0]) := rfl
@[push_cast] theorem T141_vcs : vcs T141.zero = [.d (.int .u8 0), .d (.int .u8 0), .d (.int .u8 0), .d (.int .u8 0), .d (.int .u8 0), .d (.int .u8 0), .d (.int .u8 0), .d (.int .u8 0), .d (.int .u8 0), .d (.int .u8 0), .d (.int .u8 0), .d (.int .u8 0), .d (.int .u8 0), .d (.int .u8 0), .d (.int .u8 0), .d (.int .u8 0), .d (.int .u8 0), .d (.int .u8 0), .d (.int .u8 0), .d (.int .u8 0), .d (.int .u8 0), .d (.int .u8 0), .d (.int .u8 0), .d (.int .u8 0), .d (.int .u8 0), .d (.int .u8 0), .d (.int .u8 0), .d (.int .u8 0), .d (.int .u8 0), .d (.int .u8 0), .d (.int .u8 0), .d (.int .u8 0), .d (.int .u8 0), .d (.int .u8 0), .d (.int .u8 0), .d (.int .u8 0), .d (.int .u8 0), .d (.int .u8 0), .d (.int .u8 0), .d (.int .u8 0), .d (.int .u8 0), .d (.int .u8 0), .d (.int .u8 0), .d (.int .u8 0), .d (.int .u8 0), .d (.int .u8 0), .d (.int .u8 0), .d (.int .u8 0), .d (.int .u8 0), .d (.int .u8 0), .d (.int .u8 0), .d (.int .u8 0), .d (.int .u8 0), .d (.int .u8 0), .d (.int .u8 0), .d (.int .u8 0), .d (.int .u8 0), .d (.int .u8 0), .d (.int .u8 0), .d (.int .u8 0), .d (.int .u8 0), .d (.int .u8 0), .d (.int .u8 0), .d (.int .u8 0)] := rfl
end Lx
