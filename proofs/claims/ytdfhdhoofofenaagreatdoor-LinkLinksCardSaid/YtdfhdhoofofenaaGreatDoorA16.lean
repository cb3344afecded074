import Derived.Test.YtdfhdhoofofenaaGreatDoorA15
import Derived.Test.YtdfhdhoofofenaaGreatDoorProg
import Derived.KernelRfl
set_option linter.unusedSimpArgs false
namespace Lx
open Go
open Go.Proofs (Tryz.prog)
def T2 : TI := ⟨.int .i64, 1, 8, .int .i64 0, true⟩
def T3 : TI := ⟨.int .i64, 1, 8, .int .i64 0, true⟩
def T4 : TI := ⟨.boo, 1, 1, .bool false, true⟩
def T5 : TI := ⟨.int .u8, 1, 1, .int .u8 0, true⟩
def T9 : TI := ⟨.str, 1, 16, .string ⟨#[]⟩, true⟩
def T21 : TI := ⟨.int .i32, 1, 4, .int .i32 0, true⟩
def T22 : TI := ⟨.int .i64, 1, 8, .int .i64 0, true⟩
def T23 : TI := ⟨.sli 25, 1, 24, .slice none 0 0, false⟩
def T25 : TI := ⟨.st [(0, 22), (1, 9), (2, 2), (3, 3), (4, 23)], 5, 64, .agg #[.int .i64 0, .string ⟨#[]⟩, .int .i64 0, .int .i64 0, .slice none 0 0], false⟩
def T26 : TI := ⟨.int .i64, 1, 8, .int .i64 0, true⟩
def T30 : TI := ⟨.sli 49, 1, 24, .slice none 0 0, false⟩
def T32 : TI := ⟨.st [(0, 30), (1, 3), (2, 3)], 3, 40, .agg #[.slice none 0 0, .int .i64 0, .int .i64 0], false⟩
def T35 : TI := ⟨.sli 37, 1, 24, .slice none 0 0, false⟩
def T37 : TI := ⟨.st [(0, 3), (1, 9), (2, 2), (3, 3), (4, 35)], 5, 64, .agg #[.int .i64 0, .string ⟨#[]⟩, .int .i64 0, .int .i64 0, .slice none 0 0], false⟩
def T40 : TI := ⟨.sli 52, 1, 24, .slice none 0 0, false⟩
def T42 : TI := ⟨.st [(0, 40), (1, 3), (2, 3)], 3, 40, .agg #[.slice none 0 0, .int .i64 0, .int .i64 0], false⟩
def T46 : TI := ⟨.sli 9, 1, 24, .slice none 0 0, false⟩
def T47 : TI := ⟨.sli 81, 1, 24, .slice none 0 0, false⟩
def T49 : TI := ⟨.st [(0, 9), (1, 46), (2, 47)], 3, 64, .agg #[.string ⟨#[]⟩, .slice none 0 0, .slice none 0 0], false⟩
def T50 : TI := ⟨.sli 100, 1, 24, .slice none 0 0, false⟩
def T52 : TI := ⟨.st [(0, 9), (1, 46), (2, 50)], 3, 64, .agg #[.string ⟨#[]⟩, .slice none 0 0, .slice none 0 0], false⟩
def T54 : TI := ⟨.sli 65, 1, 24, .slice none 0 0, false⟩
def T58 : TI := ⟨.st [(0, 3), (1, 26)], 2, 16, .agg #[.int .i64 0, .int .i64 0], true⟩
def T60 : TI := ⟨.ptr 62, 1, 8, .pointer none, false⟩
def T62 : TI := ⟨.st [(0, 54), (1, 3)], 2, 32, .agg #[.slice none 0 0, .int .i64 0], false⟩
def T63 : TI := ⟨.int .i64, 1, 8, .int .i64 0, true⟩
def T65 : TI := ⟨.st [(0, 63), (1, 9), (2, 2), (3, 3)], 4, 40, .agg #[.int .i64 0, .string ⟨#[]⟩, .int .i64 0, .int .i64 0], true⟩
def T72 : TI := ⟨.sli 23, 1, 24, .slice none 0 0, false⟩
def T76 : TI := ⟨.int .i64, 1, 8, .int .i64 0, true⟩
def T78 : TI := ⟨.st [(0, 9), (1, 2)], 2, 24, .agg #[.string ⟨#[]⟩, .int .i64 0], true⟩
def T79 : TI := ⟨.sli 78, 1, 24, .slice none 0 0, false⟩
def T81 : TI := ⟨.st [(0, 76), (1, 3), (2, 9), (3, 9), (4, 78), (6, 78), (8, 79), (9, 3), (10, 4)], 11, 136, .agg #[.int .i64 0, .int .i64 0, .string ⟨#[]⟩, .string ⟨#[]⟩, .string ⟨#[]⟩, .int .i64 0, .string ⟨#[]⟩, .int .i64 0, .slice none 0 0, .int .i64 0, .bool false], false⟩
def T83 : TI := ⟨.sli 90, 1, 24, .slice none 0 0, false⟩
def T86 : TI := ⟨.ptr 88, 1, 8, .pointer none, false⟩
def T88 : TI := ⟨.st [(0, 83), (1, 3), (2, 3), (3, 3), (4, 3)], 5, 56, .agg #[.slice none 0 0, .int .i64 0, .int .i64 0, .int .i64 0, .int .i64 0], false⟩
def T90 : TI := ⟨.st [(0, 3), (1, 9), (2, 2), (3, 3)], 4, 40, .agg #[.int .i64 0, .string ⟨#[]⟩, .int .i64 0, .int .i64 0], true⟩
def T97 : TI := ⟨.st [(0, 9), (1, 2)], 2, 24, .agg #[.string ⟨#[]⟩, .int .i64 0], true⟩
def T98 : TI := ⟨.sli 97, 1, 24, .slice none 0 0, false⟩
def T100 : TI := ⟨.st [(0, 3), (1, 3), (2, 9), (3, 9), (4, 97), (6, 97), (8, 98), (9, 3), (10, 4)], 11, 136, .agg #[.int .i64 0, .int .i64 0, .string ⟨#[]⟩, .string ⟨#[]⟩, .string ⟨#[]⟩, .int .i64 0, .string ⟨#[]⟩, .int .i64 0, .slice none 0 0, .int .i64 0, .bool false], false⟩
def T112 : TI := ⟨.ptr 114, 1, 8, .pointer none, false⟩
def T114 : TI := ⟨.st [(0, 47)], 1, 24, .agg #[.slice none 0 0], false⟩
def T124 : TI := ⟨.ifc, 1, 16, .nilIface, false⟩
def T150 : TI := ⟨.int .u64, 1, 8, .int .u64 0, true⟩
def T153 : TI := ⟨.int .u64, 1, 8, .int .u64 0, true⟩
def T159 : TI := ⟨.sli 5, 1, 24, .slice none 0 0, false⟩
def T164 : TI := ⟨.map 9 22, 1, 8, .map none, false⟩
def T165 : TI := ⟨.ptr 5, 1, 8, .pointer none, false⟩
def T127 : TI := ⟨.arr 3 9, 3, 48, .agg #[.string ⟨#[]⟩, .string ⟨#[]⟩, .string ⟨#[]⟩], false⟩
set_option maxRecDepth 100000 in
def tl : List (Nat × TI) := [(2, T2), (3, T3), (4, T4), (5, T5), (9, T9), (21, T21), (22, T22), (23, T23), (25, T25), (26, T26), (30, T30), (32, T32), (35, T35), (37, T37), (40, T40), (42, T42), (46, T46), (47, T47), (49, T49), (50, T50), (52, T52), (54, T54), (58, T58), (60, T60), (62, T62), (63, T63), (65, T65), (72, T72), (76, T76), (78, T78), (79, T79), (81, T81), (83, T83), (86, T86), (88, T88), (90, T90), (97, T97), (98, T98), (100, T100), (112, T112), (114, T114), (124, T124), (150, T150), (153, T153), (159, T159), (164, T164), (165, T165), (127, T127)]
set_option maxRecDepth 100000 in
theorem tl_oks : TOKs Go.Proofs.Tryz.prog tl := by
 refine ⟨⟨_, _, Go.Proofs.Tryz.type2, rfl, rfl, rfl, Go.Proofs.Tryz.underlying2, rfl, rfl, rfl⟩, ?_⟩
 refine ⟨⟨_, _, Go.Proofs.Tryz.type3, rfl, rfl, rfl, Go.Proofs.Tryz.underlying3, rfl, rfl, rfl⟩, ?_⟩
 refine ⟨⟨_, _, Go.Proofs.Tryz.type4, rfl, rfl, rfl, Go.Proofs.Tryz.underlying4, rfl, rfl, rfl⟩, ?_⟩
 refine ⟨⟨_, _, Go.Proofs.Tryz.type5, rfl, rfl, rfl, Go.Proofs.Tryz.underlying5, rfl, rfl, rfl⟩, ?_⟩
 refine ⟨⟨_, _, Go.Proofs.Tryz.type9, rfl, rfl, rfl, Go.Proofs.Tryz.underlying9, rfl, rfl, rfl⟩, ?_⟩
 refine ⟨⟨_, _, Go.Proofs.Tryz.type21, rfl, rfl, rfl, Go.Proofs.Tryz.underlying21, rfl, rfl, rfl⟩, ?_⟩
 refine ⟨⟨_, _, Go.Proofs.Tryz.type22, rfl, rfl, rfl, Go.Proofs.Tryz.underlying22, rfl, rfl, rfl⟩, ?_⟩
 refine ⟨⟨_, _, Go.Proofs.Tryz.type23, rfl, rfl, rfl, Go.Proofs.Tryz.underlying23, rfl, rfl, rfl⟩, ?_⟩
 refine ⟨⟨_, _, Go.Proofs.Tryz.type25, rfl, rfl, rfl, Go.Proofs.Tryz.underlying25, rfl, rfl, rfl⟩, ?_⟩
 refine ⟨⟨_, _, Go.Proofs.Tryz.type26, rfl, rfl, rfl, Go.Proofs.Tryz.underlying26, rfl, rfl, rfl⟩, ?_⟩
 refine ⟨⟨_, _, Go.Proofs.Tryz.type30, rfl, rfl, rfl, Go.Proofs.Tryz.underlying30, rfl, rfl, rfl⟩, ?_⟩
 refine ⟨⟨_, _, Go.Proofs.Tryz.type32, rfl, rfl, rfl, Go.Proofs.Tryz.underlying32, rfl, rfl, rfl⟩, ?_⟩
 refine ⟨⟨_, _, Go.Proofs.Tryz.type35, rfl, rfl, rfl, Go.Proofs.Tryz.underlying35, rfl, rfl, rfl⟩, ?_⟩
 refine ⟨⟨_, _, Go.Proofs.Tryz.type37, rfl, rfl, rfl, Go.Proofs.Tryz.underlying37, rfl, rfl, rfl⟩, ?_⟩
 refine ⟨⟨_, _, Go.Proofs.Tryz.type40, rfl, rfl, rfl, Go.Proofs.Tryz.underlying40, rfl, rfl, rfl⟩, ?_⟩
 refine ⟨⟨_, _, Go.Proofs.Tryz.type42, rfl, rfl, rfl, Go.Proofs.Tryz.underlying42, rfl, rfl, rfl⟩, ?_⟩
 refine ⟨⟨_, _, Go.Proofs.Tryz.type46, rfl, rfl, rfl, Go.Proofs.Tryz.underlying46, rfl, rfl, rfl⟩, ?_⟩
 refine ⟨⟨_, _, Go.Proofs.Tryz.type47, rfl, rfl, rfl, Go.Proofs.Tryz.underlying47, rfl, rfl, rfl⟩, ?_⟩
 refine ⟨⟨_, _, Go.Proofs.Tryz.type49, rfl, rfl, rfl, Go.Proofs.Tryz.underlying49, rfl, rfl, rfl⟩, ?_⟩
 refine ⟨⟨_, _, Go.Proofs.Tryz.type50, rfl, rfl, rfl, Go.Proofs.Tryz.underlying50, rfl, rfl, rfl⟩, ?_⟩
 refine ⟨⟨_, _, Go.Proofs.Tryz.type52, rfl, rfl, rfl, Go.Proofs.Tryz.underlying52, rfl, rfl, rfl⟩, ?_⟩
 refine ⟨⟨_, _, Go.Proofs.Tryz.type54, rfl, rfl, rfl, Go.Proofs.Tryz.underlying54, rfl, rfl, rfl⟩, ?_⟩
 refine ⟨⟨_, _, Go.Proofs.Tryz.type58, rfl, rfl, rfl, Go.Proofs.Tryz.underlying58, rfl, rfl, by kernel_rfl⟩, ?_⟩
 refine ⟨⟨_, _, Go.Proofs.Tryz.type60, rfl, rfl, rfl, Go.Proofs.Tryz.underlying60, rfl, rfl, rfl⟩, ?_⟩
 refine ⟨⟨_, _, Go.Proofs.Tryz.type62, rfl, rfl, rfl, Go.Proofs.Tryz.underlying62, rfl, rfl, rfl⟩, ?_⟩
 refine ⟨⟨_, _, Go.Proofs.Tryz.type63, rfl, rfl, rfl, Go.Proofs.Tryz.underlying63, rfl, rfl, rfl⟩, ?_⟩
 refine ⟨⟨_, _, Go.Proofs.Tryz.type65, rfl, rfl, rfl, Go.Proofs.Tryz.underlying65, rfl, rfl, by kernel_rfl⟩, ?_⟩
 refine ⟨⟨_, _, Go.Proofs.Tryz.type72, rfl, rfl, rfl, Go.Proofs.Tryz.underlying72, rfl, rfl, rfl⟩, ?_⟩
 refine ⟨⟨_, _, Go.Proofs.Tryz.type76, rfl, rfl, rfl, Go.Proofs.Tryz.underlying76, rfl, rfl, rfl⟩, ?_⟩
 refine ⟨⟨_, _, Go.Proofs.Tryz.type78, rfl, rfl, rfl, Go.Proofs.Tryz.underlying78, rfl, rfl, by kernel_rfl⟩, ?_⟩
 refine ⟨⟨_, _, Go.Proofs.Tryz.type79, rfl, rfl, rfl, Go.Proofs.Tryz.underlying79, rfl, rfl, rfl⟩, ?_⟩
 refine ⟨⟨_, _, Go.Proofs.Tryz.type81, rfl, rfl, rfl, Go.Proofs.Tryz.underlying81, rfl, rfl, rfl⟩, ?_⟩
 refine ⟨⟨_, _, Go.Proofs.Tryz.type83, rfl, rfl, rfl, Go.Proofs.Tryz.underlying83, rfl, rfl, rfl⟩, ?_⟩
 refine ⟨⟨_, _, Go.Proofs.Tryz.type86, rfl, rfl, rfl, Go.Proofs.Tryz.underlying86, rfl, rfl, rfl⟩, ?_⟩
 refine ⟨⟨_, _, Go.Proofs.Tryz.type88, rfl, rfl, rfl, Go.Proofs.Tryz.underlying88, rfl, rfl, rfl⟩, ?_⟩
 refine ⟨⟨_, _, Go.Proofs.Tryz.type90, rfl, rfl, rfl, Go.Proofs.Tryz.underlying90, rfl, rfl, by kernel_rfl⟩, ?_⟩
 refine ⟨⟨_, _, Go.Proofs.Tryz.type97, rfl, rfl, rfl, Go.Proofs.Tryz.underlying97, rfl, rfl, by kernel_rfl⟩, ?_⟩
 refine ⟨⟨_, _, Go.Proofs.Tryz.type98, rfl, rfl, rfl, Go.Proofs.Tryz.underlying98, rfl, rfl, rfl⟩, ?_⟩
 refine ⟨⟨_, _, Go.Proofs.Tryz.type100, rfl, rfl, rfl, Go.Proofs.Tryz.underlying100, rfl, rfl, rfl⟩, ?_⟩
 refine ⟨⟨_, _, Go.Proofs.Tryz.type112, rfl, rfl, rfl, Go.Proofs.Tryz.underlying112, rfl, rfl, rfl⟩, ?_⟩
 refine ⟨⟨_, _, Go.Proofs.Tryz.type114, rfl, rfl, rfl, Go.Proofs.Tryz.underlying114, rfl, rfl, rfl⟩, ?_⟩
 refine ⟨⟨_, _, Go.Proofs.Tryz.type124, rfl, rfl, rfl, Go.Proofs.Tryz.underlying124, rfl, rfl, rfl⟩, ?_⟩
 refine ⟨⟨_, _, Go.Proofs.Tryz.type150, rfl, rfl, rfl, Go.Proofs.Tryz.underlying150, rfl, rfl, rfl⟩, ?_⟩
 refine ⟨⟨_, _, Go.Proofs.Tryz.type153, rfl, rfl, rfl, Go.Proofs.Tryz.underlying153, rfl, rfl, rfl⟩, ?_⟩
 refine ⟨⟨_, _, Go.Proofs.Tryz.type159, rfl, rfl, rfl, Go.Proofs.Tryz.underlying159, rfl, rfl, rfl⟩, ?_⟩
 refine ⟨⟨_, _, Go.Proofs.Tryz.type164, rfl, rfl, rfl, Go.Proofs.Tryz.underlying164, rfl, rfl, rfl⟩, ?_⟩
 refine ⟨⟨_, _, Go.Proofs.Tryz.type165, rfl, rfl, rfl, Go.Proofs.Tryz.underlying165, rfl, rfl, rfl⟩, ?_⟩
 refine ⟨⟨_, _, Go.Proofs.Tryz.type127, rfl, rfl, rfl, Go.Proofs.Tryz.underlying127, rfl, rfl, rfl⟩, ?_⟩
 exact trivial
theorem qzt : TOK Go.Proofs.Tryz.prog tl := tl_oks.ok
set_option maxRecDepth 100000 in
theorem tl_zoks : ZOKs tl := by
 refine ⟨rfl, ?_⟩
 refine ⟨rfl, ?_⟩
 refine ⟨rfl, ?_⟩
 refine ⟨rfl, ?_⟩
 refine ⟨rfl, ?_⟩
 refine ⟨rfl, ?_⟩
 refine ⟨rfl, ?_⟩
 refine ⟨rfl, ?_⟩
 refine ⟨rfl, ?_⟩
 refine ⟨rfl, ?_⟩
 refine ⟨rfl, ?_⟩
 refine ⟨rfl, ?_⟩
 refine ⟨rfl, ?_⟩
 refine ⟨rfl, ?_⟩
 refine ⟨rfl, ?_⟩
 refine ⟨rfl, ?_⟩
 refine ⟨rfl, ?_⟩
 refine ⟨rfl, ?_⟩
 refine ⟨rfl, ?_⟩
 refine ⟨rfl, ?_⟩
 refine ⟨rfl, ?_⟩
 refine ⟨rfl, ?_⟩
 refine ⟨rfl, ?_⟩
 refine ⟨rfl, ?_⟩
 refine ⟨rfl, ?_⟩
 refine ⟨rfl, ?_⟩
 refine ⟨rfl, ?_⟩
 refine ⟨rfl, ?_⟩
 refine ⟨rfl, ?_⟩
 refine ⟨rfl, ?_⟩
 refine ⟨rfl, ?_⟩
 refine ⟨rfl, ?_⟩
 refine ⟨rfl, ?_⟩
 refine ⟨rfl, ?_⟩
 refine ⟨rfl, ?_⟩
 refine ⟨rfl, ?_⟩
 refine ⟨rfl, ?_⟩
 refine ⟨rfl, ?_⟩
 refine ⟨rfl, ?_⟩
 refine ⟨rfl, ?_⟩
 refine ⟨rfl, ?_⟩
 refine ⟨rfl, ?_⟩
 refine ⟨rfl, ?_⟩
 refine ⟨rfl, ?_⟩
 refine ⟨rfl, ?_⟩
 refine ⟨rfl, ?_⟩
 refine ⟨rfl, ?_⟩
 refine ⟨rfl, ?_⟩
 exact trivial
theorem qzm : ZOK tl := tl_zoks.ok
def mkE (w : Bool) (own vis : Nat → Bool) : Env := ⟨tl, w, own, vis⟩
section
variable (w : Bool) (own vis : Nat → Bool)
@[push_cast] theorem mkE_wrap : (mkE w own vis).wrap = w := rfl
@[push_cast] theorem mkE_own : (mkE w own vis).own = own := rfl
@[push_cast] theorem mkE_vis : (mkE w own vis).vis = vis := rfl
@[push_cast] theorem ti2 : (mkE w own vis).ti 2 = some T2 := by kernel_rfl
@[push_cast] theorem ti3 : (mkE w own vis).ti 3 = some T3 := by kernel_rfl
@[push_cast] theorem ti4 : (mkE w own vis).ti 4 = some T4 := by kernel_rfl
@[push_cast] theorem ti5 : (mkE w own vis).ti 5 = some T5 := by kernel_rfl
@[push_cast] theorem ti9 : (mkE w own vis).ti 9 = some T9 := by kernel_rfl
@[push_cast] theorem ti21 : (mkE w own vis).ti 21 = some T21 := by kernel_rfl
@[push_cast] theorem ti22 : (mkE w own vis).ti 22 = some T22 := by kernel_rfl
@[push_cast] theorem ti23 : (mkE w own vis).ti 23 = some T23 := by kernel_rfl
@[push_cast] theorem ti25 : (mkE w own vis).ti 25 = some T25 := by kernel_rfl
@[push_cast] theorem ti26 : (mkE w own vis).ti 26 = some T26 := by kernel_rfl
@[push_cast] theorem ti30 : (mkE w own vis).ti 30 = some T30 := by kernel_rfl
@[push_cast] theorem ti32 : (mkE w own vis).ti 32 = some T32 := by kernel_rfl
@[push_cast] theorem ti35 : (mkE w own vis).ti 35 = some T35 := by kernel_rfl
@[push_cast] theorem ti37 : (mkE w own vis).ti 37 = some T37 := by kernel_rfl
@[push_cast] theorem ti40 : (mkE w own vis).ti 40 = some T40 := by kernel_rfl
@[push_cast] theorem ti42 : (mkE w own vis).ti 42 = some T42 := by kernel_rfl
@[push_cast] theorem ti46 : (mkE w own vis).ti 46 = some T46 := by kernel_rfl
@[push_cast] theorem ti47 : (mkE w own vis).ti 47 = some T47 := by kernel_rfl
@[push_cast] theorem ti49 : (mkE w own vis).ti 49 = some T49 := by kernel_rfl
@[push_cast] theorem ti50 : (mkE w own vis).ti 50 = some T50 := by kernel_rfl
@[push_cast] theorem ti52 : (mkE w own vis).ti 52 = some T52 := by kernel_rfl
@[push_cast] theorem ti54 : (mkE w own vis).ti 54 = some T54 := by kernel_rfl
@[push_cast] theorem ti58 : (mkE w own vis).ti 58 = some T58 := by kernel_rfl
@[push_cast] theorem ti60 : (mkE w own vis).ti 60 = some T60 := by kernel_rfl
@[push_cast] theorem ti62 : (mkE w own vis).ti 62 = some T62 := by kernel_rfl
@[push_cast] theorem ti63 : (mkE w own vis).ti 63 = some T63 := by kernel_rfl
@[push_cast] theorem ti65 : (mkE w own vis).ti 65 = some T65 := by kernel_rfl
@[push_cast] theorem ti72 : (mkE w own vis).ti 72 = some T72 := by kernel_rfl
@[push_cast] theorem ti76 : (mkE w own vis).ti 76 = some T76 := by kernel_rfl
@[push_cast] theorem ti78 : (mkE w own vis).ti 78 = some T78 := by kernel_rfl
@[push_cast] theorem ti79 : (mkE w own vis).ti 79 = some T79 := by kernel_rfl
@[push_cast] theorem ti81 : (mkE w own vis).ti 81 = some T81 := by kernel_rfl
@[push_cast] theorem ti83 : (mkE w own vis).ti 83 = some T83 := by kernel_rfl
@[push_cast] theorem ti86 : (mkE w own vis).ti 86 = some T86 := by kernel_rfl
@[push_cast] theorem ti88 : (mkE w own vis).ti 88 = some T88 := by kernel_rfl
@[push_cast] theorem ti90 : (mkE w own vis).ti 90 = some T90 := by kernel_rfl
@[push_cast] theorem ti97 : (mkE w own vis).ti 97 = some T97 := by kernel_rfl
@[push_cast] theorem ti98 : (mkE w own vis).ti 98 = some T98 := by kernel_rfl
@[push_cast] theorem ti100 : (mkE w own vis).ti 100 = some T100 := by kernel_rfl
@[push_cast] theorem ti112 : (mkE w own vis).ti 112 = some T112 := by kernel_rfl
@[push_cast] theorem ti114 : (mkE w own vis).ti 114 = some T114 := by kernel_rfl
@[push_cast] theorem ti124 : (mkE w own vis).ti 124 = some T124 := by kernel_rfl
@[push_cast] theorem ti150 : (mkE w own vis).ti 150 = some T150 := by kernel_rfl
@[push_cast] theorem ti153 : (mkE w own vis).ti 153 = some T153 := by kernel_rfl
@[push_cast] theorem ti159 : (mkE w own vis).ti 159 = some T159 := by kernel_rfl
@[push_cast] theorem ti164 : (mkE w own vis).ti 164 = some T164 := by kernel_rfl
@[push_cast] theorem ti165 : (mkE w own vis).ti 165 = some T165 := by kernel_rfl
@[push_cast] theorem ti127 : (mkE w own vis).ti 127 = some T127 := by kernel_rfl
end
@[push_cast] theorem T127_size : T127.size = 3 := rfl
@[push_cast] theorem T127_bytes : T127.bytes = 48 := rfl
@[push_cast] theorem T127_agg : T127.agg = true := rfl
@[push_cast] theorem T127_str : T127.str = false := rfl
@[push_cast] theorem T127_cmp : T127.cmp = false := rfl
@[push_cast] theorem T127_desc : T127.desc = .arr 3 9 := rfl
@[push_cast] theorem T127_cv : cv T127.zero = .d (.ag [.st [], .st [], .st []]) := rfl
@[push_cast] theorem T127_vcs : vcs T127.zero = [.d (.st []), .d (.st []), .d (.st [])] := rfl
@[push_cast] theorem T2_size : T2.size = 1 := rfl
@[push_cast] theorem T2_bytes : T2.bytes = 8 := rfl
@[push_cast] theorem T2_agg : T2.agg = false := rfl
@[push_cast] theorem T2_str : T2.str = false := rfl
@[push_cast] theorem T2_cmp : T2.cmp = true := rfl
@[push_cast] theorem T2_desc : T2.desc = .int .i64 := rfl
@[push_cast] theorem T2_cv : cv T2.zero = .d (.int .i64 0) := rfl
@[push_cast] theorem T2_vcs : vcs T2.zero = [.d (.int .i64 0)] := rfl
@[push_cast] theorem T3_size : T3.size = 1 := rfl
@[push_cast] theorem T3_bytes : T3.bytes = 8 := rfl
@[push_cast] theorem T3_agg : T3.agg = false := rfl
@[push_cast] theorem T3_str : T3.str = false := rfl
@[push_cast] theorem T3_cmp : T3.cmp = true := rfl
@[push_cast] theorem T3_desc : T3.desc = .int .i64 := rfl
@[push_cast] theorem T3_cv : cv T3.zero = .d (.int .i64 0) := rfl
@[push_cast] theorem T3_vcs : vcs T3.zero = [.d (.int .i64 0)] := rfl
@[push_cast] theorem T4_size : T4.size = 1 := rfl
@[push_cast] theorem T4_bytes : T4.bytes = 1 := rfl
@[push_cast] theorem T4_agg : T4.agg = false := rfl
@[push_cast] theorem T4_str : T4.str = false := rfl
@[push_cast] theorem T4_cmp : T4.cmp = true := rfl
@[push_cast] theorem T4_desc : T4.desc = .boo := rfl
@[push_cast] theorem T4_cv : cv T4.zero = .d (.bool false) := rfl
@[push_cast] theorem T4_vcs : vcs T4.zero = [.d (.bool false)] := rfl
@[push_cast] theorem T5_size : T5.size = 1 := rfl
@[push_cast] theorem T5_bytes : T5.bytes = 1 := rfl
@[push_cast] theorem T5_agg : T5.agg = false := rfl
@[push_cast] theorem T5_str : T5.str = false := rfl
@[push_cast] theorem T5_cmp : T5.cmp = true := rfl
@[push_cast] theorem T5_desc : T5.desc = .int .u8 := rfl
@[push_cast] theorem T5_cv : cv T5.zero = .d (.int .u8 0) := rfl
@[push_cast] theorem T5_vcs : vcs T5.zero = [.d (.int .u8 0)] := rfl
@[push_cast] theorem T9_size : T9.size = 1 := rfl
@[push_cast] theorem T9_bytes : T9.bytes = 16 := rfl
@[push_cast] theorem T9_agg : T9.agg = false := rfl
@[push_cast] theorem T9_str : T9.str = false := rfl
@[push_cast] theorem T9_cmp : T9.cmp = true := rfl
@[push_cast] theorem T9_desc : T9.desc = .str := rfl
@[push_cast] theorem T9_cv : cv T9.zero = .d (.st []) := rfl
@[push_cast] theorem T9_vcs : vcs T9.zero = [.d (.st [])] := rfl
@[push_cast] theorem T21_size : T21.size = 1 := rfl
@[push_cast] theorem T21_bytes : T21.bytes = 4 := rfl
@[push_cast] theorem T21_agg : T21.agg = false := rfl
@[push_cast] theorem T21_str : T21.str = false := rfl
@[push_cast] theorem T21_cmp : T21.cmp = true := rfl
@[push_cast] theorem T21_desc : T21.desc = .int .i32 := rfl
@[push_cast] theorem T21_cv : cv T21.zero = .d (.int .i32 0) := rfl
@[push_cast] theorem T21_vcs : vcs T21.zero = [.d (.int .i32 0)] := rfl
@[push_cast] theorem T22_size : T22.size = 1 := rfl
@[push_cast] theorem T22_bytes : T22.bytes = 8 := rfl
@[push_cast] theorem T22_agg : T22.agg = false := rfl
@[push_cast] theorem T22_str : T22.str = false := rfl
@[push_cast] theorem T22_cmp : T22.cmp = true := rfl
@[push_cast] theorem T22_desc : T22.desc = .int .i64 := rfl
@[push_cast] theorem T22_cv : cv T22.zero = .d (.int .i64 0) := rfl
@[push_cast] theorem T22_vcs : vcs T22.zero = [.d (.int .i64 0)] := rfl
@[push_cast] theorem T23_size : T23.size = 1 := rfl
@[push_cast] theorem T23_bytes : T23.bytes = 24 := rfl
@[push_cast] theorem T23_agg : T23.agg = false := rfl
@[push_cast] theorem T23_str : T23.str = false := rfl
@[push_cast] theorem T23_cmp : T23.cmp = false := rfl
@[push_cast] theorem T23_desc : T23.desc = .sli 25 := rfl
@[push_cast] theorem T23_cv : cv T23.zero = .d (.imm (.slice none 0 0)) := rfl
@[push_cast] theorem T23_vcs : vcs T23.zero = [.d (.imm (.slice none 0 0))] := rfl
@[push_cast] theorem T25_size : T25.size = 5 := rfl
@[push_cast] theorem T25_bytes : T25.bytes = 64 := rfl
@[push_cast] theorem T25_agg : T25.agg = true := rfl
@[push_cast] theorem T25_str : T25.str = true := rfl
@[push_cast] theorem T25_cmp : T25.cmp = false := rfl
@[push_cast] theorem T25_fields : T25.fields = [(0, 22), (1, 9), (2, 2), (3, 3), (4, 23)] := rfl
@[push_cast] theorem T25_desc : T25.desc = .st [(0, 22), (1, 9), (2, 2), (3, 3), (4, 23)] := rfl
@[push_cast] theorem T25_cv : cv T25.zero = .d (.ag [.int .i64 0, .st [], .int .i64 0, .int .i64 0, .imm (.slice none 0 0)]) := rfl
@[push_cast] theorem T25_vcs : vcs T25.zero = [.d (.int .i64 0), .d (.st []), .d (.int .i64 0), .d (.int .i64 0), .d (.imm (.slice none 0 0))] := rfl
@[push_cast] theorem T26_size : T26.size = 1 := rfl
@[push_cast] theorem T26_bytes : T26.bytes = 8 := rfl
@[push_cast] theorem T26_agg : T26.agg = false := rfl
@[push_cast] theorem T26_str : T26.str = false := rfl
@[push_cast] theorem T26_cmp : T26.cmp = true := rfl
@[push_cast] theorem T26_desc : T26.desc = .int .i64 := rfl
@[push_cast] theorem T26_cv : cv T26.zero = .d (.int .i64 0) := rfl
@[push_cast] theorem T26_vcs : vcs T26.zero = [.d (.int .i64 0)] := rfl
@[push_cast] theorem T30_size : T30.size = 1 := rfl
@[push_cast] theorem T30_bytes : T30.bytes = 24 := rfl
@[push_cast] theorem T30_agg : T30.agg = false := rfl
@[push_cast] theorem T30_str : T30.str = false := rfl
@[push_cast] theorem T30_cmp : T30.cmp = false := rfl
@[push_cast] theorem T30_desc : T30.desc = .sli 49 := rfl
@[push_cast] theorem T30_cv : cv T30.zero = .d (.imm (.slice none 0 0)) := rfl
@[push_cast] theorem T30_vcs : vcs T30.zero = [.d (.imm (.slice none 0 0))] := rfl
@[push_cast] theorem T32_size : T32.size = 3 := rfl
@[push_cast] theorem T32_bytes : T32.bytes = 40 := rfl
@[push_cast] theorem T32_agg : T32.agg = true := rfl
@[push_cast] theorem T32_str : T32.str = true := rfl
@[push_cast] theorem T32_cmp : T32.cmp = false := rfl
@[push_cast] theorem T32_fields : T32.fields = [(0, 30), (1, 3), (2, 3)] := rfl
@[push_cast] theorem T32_desc : T32.desc = .st [(0, 30), (1, 3), (2, 3)] := rfl
@[push_cast] theorem T32_cv : cv T32.zero = .d (.ag [.imm (.slice none 0 0), .int .i64 0, .int .i64 0]) := rfl
@[push_cast] theorem T32_vcs : vcs T32.zero = [.d (.imm (.slice none 0 0)), .d (.int .i64 0), .d (.int .i64 0)] := rfl
@[push_cast] theorem T35_size : T35.size = 1 := rfl
@[push_cast] theorem T35_bytes : T35.bytes = 24 := rfl
@[push_cast] theorem T35_agg : T35.agg = false := rfl
@[push_cast] theorem T35_str : T35.str = false := rfl
@[push_cast] theorem T35_cmp : T35.cmp = false := rfl
@[push_cast] theorem T35_desc : T35.desc = .sli 37 := rfl
@[push_cast] theorem T35_cv : cv T35.zero = .d (.imm (.slice none 0 0)) := rfl
@[push_cast] theorem T35_vcs : vcs T35.zero = [.d (.imm (.slice none 0 0))] := rfl
@[push_cast] theorem T37_size : T37.size = 5 := rfl
@[push_cast] theorem T37_bytes : T37.bytes = 64 := rfl
@[push_cast] theorem T37_agg : T37.agg = true := rfl
@[push_cast] theorem T37_str : T37.str = true := rfl
@[push_cast] theorem T37_cmp : T37.cmp = false := rfl
@[push_cast] theorem T37_fields : T37.fields = [(0, 3), (1, 9), (2, 2), (3, 3), (4, 35)] := rfl
@[push_cast] theorem T37_desc : T37.desc = .st [(0, 3), (1, 9), (2, 2), (3, 3), (4, 35)] := rfl
@[push_cast] theorem T37_cv : cv T37.zero = .d (.ag [.int .i64 0, .st [], .int .i64 0, .int .i64 0, .imm (.slice none 0 0)]) := rfl
@[push_cast] theorem T37_vcs : vcs T37.zero = [.d (.int .i64 0), .d (.st []), .d (.int .i64 0), .d (.int .i64 0), .d (.imm (.slice none 0 0))] := rfl
@[push_cast] theorem T40_size : T40.size = 1 := rfl
@[push_cast] theorem T40_bytes : T40.bytes = 24 := rfl
@[push_cast] theorem T40_agg : T40.agg = false := rfl
@[push_cast] theorem T40_str : T40.str = false := rfl
@[push_cast] theorem T40_cmp : T40.cmp = false := rfl
@[push_cast] theorem T40_desc : T40.desc = .sli 52 := rfl
@[push_cast] theorem T40_cv : cv T40.zero = .d (.imm (.slice none 0 0)) := rfl
@[push_cast] theorem T40_vcs : vcs T40.zero = [.d (.imm (.slice none 0 0))] := rfl
@[push_cast] theorem T42_size : T42.size = 3 := rfl
@[push_cast] theorem T42_bytes : T42.bytes = 40 := rfl
@[push_cast] theorem T42_agg : T42.agg = true := rfl
@[push_cast] theorem T42_str : T42.str = true := rfl
@[push_cast] theorem T42_cmp : T42.cmp = false := rfl
@[push_cast] theorem T42_fields : T42.fields = [(0, 40), (1, 3), (2, 3)] := rfl
@[push_cast] theorem T42_desc : T42.desc = .st [(0, 40), (1, 3), (2, 3)] := rfl
@[push_cast] theorem T42_cv : cv T42.zero = .d (.ag [.imm (.slice none 0 0), .int .i64 0, .int .i64 0]) := rfl
@[push_cast] theorem T42_vcs : vcs T42.zero = [.d (.imm (.slice none 0 0)), .d (.int .i64 0), .d (.int .i64 0)] := rfl
@[push_cast] theorem T46_size : T46.size = 1 := rfl
@[push_cast] theorem T46_bytes : T46.bytes = 24 := rfl
@[push_cast] theorem T46_agg : T46.agg = false := rfl
@[push_cast] theorem T46_str : T46.str = false := rfl
@[push_cast] theorem T46_cmp : T46.cmp = false := rfl
@[push_cast] theorem T46_desc : T46.desc = .sli 9 := rfl
@[push_cast] theorem T46_cv : cv T46.zero = .d (.imm (.slice none 0 0)) := rfl
@[push_cast] theorem T46_vcs : vcs T46.zero = [.d (.imm (.slice none 0 0))] := rfl
@[push_cast] theorem T47_size : T47.size = 1 := rfl
@[push_cast] theorem T47_bytes : T47.bytes = 24 := rfl
@[push_cast] theorem T47_agg : T47.agg = false := rfl
@[push_cast] theorem T47_str : T47.str = false := rfl
@[push_cast] theorem T47_cmp : T47.cmp = false := rfl
@[push_cast] theorem T47_desc : T47.desc = .sli 81 := rfl
@[push_cast] theorem T47_cv : cv T47.zero = .d (.imm (.slice none 0 0)) := rfl
@[push_cast] theorem T47_vcs : vcs T47.zero = [.d (.imm (.slice none 0 0))] := rfl
@[push_cast] theorem T49_size : T49.size = 3 := rfl
@[push_cast] theorem T49_bytes : T49.bytes = 64 := rfl
@[push_cast] theorem T49_agg : T49.agg = true := rfl
@[push_cast] theorem T49_str : T49.str = true := rfl
@[push_cast] theorem T49_cmp : T49.cmp = false := rfl
@[push_cast] theorem T49_fields : T49.fields = [(0, 9), (1, 46), (2, 47)] := rfl
@[push_cast] theorem T49_desc : T49.desc = .st [(0, 9), (1, 46), (2, 47)] := rfl
@[push_cast] theorem T49_cv : cv T49.zero = .d (.ag [.st [], .imm (.slice none 0 0), .imm (.slice none 0 0)]) := rfl
@[push_cast] theorem T49_vcs : vcs T49.zero = [.d (.st []), .d (.imm (.slice none 0 0)), .d (.imm (.slice none 0 0))] := rfl
@[push_cast] theorem T50_size : T50.size = 1 := rfl
@[push_cast] theorem T50_bytes : T50.bytes = 24 := rfl
@[push_cast] theorem T50_agg : T50.agg = false := rfl
@[push_cast] theorem T50_str : T50.str = false := rfl
@[push_cast] theorem T50_cmp : T50.cmp = false := rfl
@[push_cast] theorem T50_desc : T50.desc = .sli 100 := rfl
@[push_cast] theorem T50_cv : cv T50.zero = .d (.imm (.slice none 0 0)) := rfl
@[push_cast] theorem T50_vcs : vcs T50.zero = [.d (.imm (.slice none 0 0))] := rfl
@[push_cast] theorem T52_size : T52.size = 3 := rfl
@[push_cast] theorem T52_bytes : T52.bytes = 64 := rfl
@[push_cast] theorem T52_agg : T52.agg = true := rfl
@[push_cast] theorem T52_str : T52.str = true := rfl
@[push_cast] theorem T52_cmp : T52.cmp = false := rfl
@[push_cast] theorem T52_fields : T52.fields = [(0, 9), (1, 46), (2, 50)] := rfl
@[push_cast] theorem T52_desc : T52.desc = .st [(0, 9), (1, 46), (2, 50)] := rfl
@[push_cast] theorem T52_cv : cv T52.zero = .d (.ag [.st [], .imm (.slice none 0 0), .imm (.slice none 0 0)]) := rfl
@[push_cast] theorem T52_vcs : vcs T52.zero = [.d (.st []), .d (.imm (.slice none 0 0)), .d (.imm (.slice none 0 0))] := rfl
@[push_cast] theorem T54_size : T54.size = 1 := rfl
@[push_cast] theorem T54_bytes : T54.bytes = 24 := rfl
@[push_cast] theorem T54_agg : T54.agg = false := rfl
@[push_cast] theorem T54_str : T54.str = false := rfl
@[push_cast] theorem T54_cmp : T54.cmp = false := rfl
@[push_cast] theorem T54_desc : T54.desc = .sli 65 := rfl
@[push_cast] theorem T54_cv : cv T54.zero = .d (.imm (.slice none 0 0)) := rfl
@[push_cast] theorem T54_vcs : vcs T54.zero = [.d (.imm (.slice none 0 0))] := rfl
@[push_cast] theorem T58_size : T58.size = 2 := rfl
@[push_cast] theorem T58_bytes : T58.bytes = 16 := rfl
@[push_cast] theorem T58_agg : T58.agg = true := rfl
@[push_cast] theorem T58_str : T58.str = true := rfl
@[push_cast] theorem T58_cmp : T58.cmp = true := rfl
@[push_cast] theorem T58_fields : T58.fields = [(0, 3), (1, 26)] := rfl
@[push_cast] theorem T58_desc : T58.desc = .st [(0, 3), (1, 26)] := rfl
@[push_cast] theorem T58_cv : cv T58.zero = .d (.ag [.int .i64 0, .int .i64 0]) := rfl
@[push_cast] theorem T58_vcs : vcs T58.zero = [.d (.int .i64 0), .d (.int .i64 0)] := rfl
@[push_cast] theorem T60_size : T60.size = 1 := rfl
@[push_cast] theorem T60_bytes : T60.bytes = 8 := rfl
@[push_cast] theorem T60_agg : T60.agg = false := rfl
@[push_cast] theorem T60_str : T60.str = false := rfl
@[push_cast] theorem T60_cmp : T60.cmp = false := rfl
@[push_cast] theorem T60_desc : T60.desc = .ptr 62 := rfl
@[push_cast] theorem T60_cv : cv T60.zero = .d (.imm (.pointer none)) := rfl
@[push_cast] theorem T60_vcs : vcs T60.zero = [.d (.imm (.pointer none))] := rfl
@[push_cast] theorem T62_size : T62.size = 2 := rfl
@[push_cast] theorem T62_bytes : T62.bytes = 32 := rfl
@[push_cast] theorem T62_agg : T62.agg = true := rfl
@[push_cast] theorem T62_str : T62.str = true := rfl
@[push_cast] theorem T62_cmp : T62.cmp = false := rfl
@[push_cast] theorem T62_fields : T62.fields = [(0, 54), (1, 3)] := rfl
@[push_cast] theorem T62_desc : T62.desc = .st [(0, 54), (1, 3)] := rfl
@[push_cast] theorem T62_cv : cv T62.zero = .d (.ag [.imm (.slice none 0 0), .int .i64 0]) := rfl
@[push_cast] theorem T62_vcs : vcs T62.zero = [.d (.imm (.slice none 0 0)), .d (.int .i64 0)] := rfl
@[push_cast] theorem T63_size : T63.size = 1 := rfl
@[push_cast] theorem T63_bytes : T63.bytes = 8 := rfl
@[push_cast] theorem T63_agg : T63.agg = false := rfl
@[push_cast] theorem T63_str : T63.str = false := rfl
@[push_cast] theorem T63_cmp : T63.cmp = true := rfl
@[push_cast] theorem T63_desc : T63.desc = .int .i64 := rfl
@[push_cast] theorem T63_cv : cv T63.zero = .d (.int .i64 0) := rfl
@[push_cast] theorem T63_vcs : vcs T63.zero = [.d (.int .i64 0)] := rfl
@[push_cast] theorem T65_size : T65.size = 4 := rfl
@[push_cast] theorem T65_bytes : T65.bytes = 40 := rfl
@[push_cast] theorem T65_agg : T65.agg = true := rfl
@[push_cast] theorem T65_str : T65.str = true := rfl
@[push_cast] theorem T65_cmp : T65.cmp = true := rfl
@[push_cast] theorem T65_fields : T65.fields = [(0, 63), (1, 9), (2, 2), (3, 3)] := rfl
@[push_cast] theorem T65_desc : T65.desc = .st [(0, 63), (1, 9), (2, 2), (3, 3)] := rfl
@[push_cast] theorem T65_cv : cv T65.zero = .d (.ag [.int .i64 0, .st [], .int .i64 0, .int .i64 0]) := rfl
@[push_cast] theorem T65_vcs : vcs T65.zero = [.d (.int .i64 0), .d (.st []), .d (.int .i64 0), .d (.int .i64 0)] := rfl
@[push_cast] theorem T72_size : T72.size = 1 := rfl
@[push_cast] theorem T72_bytes : T72.bytes = 24 := rfl
@[push_cast] theorem T72_agg : T72.agg = false := rfl
@[push_cast] theorem T72_str : T72.str = false := rfl
@[push_cast] theorem T72_cmp : T72.cmp = false := rfl
@[push_cast] theorem T72_desc : T72.desc = .sli 23 := rfl
@[push_cast] theorem T72_cv : cv T72.zero = .d (.imm (.slice none 0 0)) := rfl
@[push_cast] theorem T72_vcs : vcs T72.zero = [.d (.imm (.slice none 0 0))] := rfl
@[push_cast] theorem T76_size : T76.size = 1 := rfl
@[push_cast] theorem T76_bytes : T76.bytes = 8 := rfl
@[push_cast] theorem T76_agg : T76.agg = false := rfl
@[push_cast] theorem T76_str : T76.str = false := rfl
@[push_cast] theorem T76_cmp : T76.cmp = true := rfl
@[push_cast] theorem T76_desc : T76.desc = .int .i64 := rfl
@[push_cast] theorem T76_cv : cv T76.zero = .d (.int .i64 0) := rfl
@[push_cast] theorem T76_vcs : vcs T76.zero = [.d (.int .i64 0)] := rfl
@[push_cast] theorem T78_size : T78.size = 2 := rfl
@[push_cast] theorem T78_bytes : T78.bytes = 24 := rfl
@[push_cast] theorem T78_agg : T78.agg = true := rfl
@[push_cast] theorem T78_str : T78.str = true := rfl
@[push_cast] theorem T78_cmp : T78.cmp = true := rfl
@[push_cast] theorem T78_fields : T78.fields = [(0, 9), (1, 2)] := rfl
@[push_cast] theorem T78_desc : T78.desc = .st [(0, 9), (1, 2)] := rfl
@[push_cast] theorem T78_cv : cv T78.zero = .d (.ag [.st [], .int .i64 0]) := rfl
@[push_cast] theorem T78_vcs : vcs T78.zero = [.d (.st []), .d (.int .i64 0)] := rfl
@[push_cast] theorem T79_size : T79.size = 1 := rfl
@[push_cast] theorem T79_bytes : T79.bytes = 24 := rfl
@[push_cast] theorem T79_agg : T79.agg = false := rfl
@[push_cast] theorem T79_str : T79.str = false := rfl
@[push_cast] theorem T79_cmp : T79.cmp = false := rfl
@[push_cast] theorem T79_desc : T79.desc = .sli 78 := rfl
@[push_cast] theorem T79_cv : cv T79.zero = .d (.imm (.slice none 0 0)) := rfl
@[push_cast] theorem T79_vcs : vcs T79.zero = [.d (.imm (.slice none 0 0))] := rfl
@[push_cast] theorem T81_size : T81.size = 11 := rfl
@[push_cast] theorem T81_bytes : T81.bytes = 136 := rfl
@[push_cast] theorem T81_agg : T81.agg = true := rfl
@[push_cast] theorem T81_str : T81.str = true := rfl
@[push_cast] theorem T81_cmp : T81.cmp = false := rfl
@[push_cast] theorem T81_fields : T81.fields = [(0, 76), (1, 3), (2, 9), (3, 9), (4, 78), (6, 78), (8, 79), (9, 3), (10, 4)] := rfl
@[push_cast] theorem T81_desc : T81.desc = .st [(0, 76), (1, 3), (2, 9), (3, 9), (4, 78), (6, 78), (8, 79), (9, 3), (10, 4)] := rfl
@[push_cast] theorem T81_cv : cv T81.zero = .d (.ag [.int .i64 0, .int .i64 0, .st [], .st [], .st [], .int .i64 0, .st [], .int .i64 0, .imm (.slice none 0 0), .int .i64 0, .bool false]) := rfl
@[push_cast] theorem T81_vcs : vcs T81.zero = [.d (.int .i64 0), .d (.int .i64 0), .d (.st []), .d (.st []), .d (.st []), .d (.int .i64 0), .d (.st []), .d (.int .i64 0), .d (.imm (.slice none 0 0)), .d (.int .i64 0), .d (.bool false)] := rfl
@[push_cast] theorem T83_size : T83.size = 1 := rfl
@[push_cast] theorem T83_bytes : T83.bytes = 24 := rfl
@[push_cast] theorem T83_agg : T83.agg = false := rfl
@[push_cast] theorem T83_str : T83.str = false := rfl
@[push_cast] theorem T83_cmp : T83.cmp = false := rfl
@[push_cast] theorem T83_desc : T83.desc = .sli 90 := rfl
@[push_cast] theorem T83_cv : cv T83.zero = .d (.imm (.slice none 0 0)) := rfl
@[push_cast] theorem T83_vcs : vcs T83.zero = [.d (.imm (.slice none 0 0))] := rfl
@[push_cast] theorem T86_size : T86.size = 1 := rfl
@[push_cast] theorem T86_bytes : T86.bytes = 8 := rfl
@[push_cast] theorem T86_agg : T86.agg = false := rfl
@[push_cast] theorem T86_str : T86.str = false := rfl
@[push_cast] theorem T86_cmp : T86.cmp = false := rfl
@[push_cast] theorem T86_desc : T86.desc = .ptr 88 := rfl
@[push_cast] theorem T86_cv : cv T86.zero = .d (.imm (.pointer none)) := rfl
@[push_cast] theorem T86_vcs : vcs T86.zero = [.d (.imm (.pointer none))] := rfl
@[push_cast] theorem T88_size : T88.size = 5 := rfl
@[push_cast] theorem T88_bytes : T88.bytes = 56 := rfl
@[push_cast] theorem T88_agg : T88.agg = true := rfl
@[push_cast] theorem T88_str : T88.str = true := rfl
@[push_cast] theorem T88_cmp : T88.cmp = false := rfl
@[push_cast] theorem T88_fields : T88.fields = [(0, 83), (1, 3), (2, 3), (3, 3), (4, 3)] := rfl
@[push_cast] theorem T88_desc : T88.desc = .st [(0, 83), (1, 3), (2, 3), (3, 3), (4, 3)] := rfl
@[push_cast] theorem T88_cv : cv T88.zero = .d (.ag [.imm (.slice none 0 0), .int .i64 0, .int .i64 0, .int .i64 0, .int .i64 0]) := rfl
@[push_cast] theorem T88_vcs : vcs T88.zero = [.d (.imm (.slice none 0 0)), .d (.int .i64 0), .d (.int .i64 0), .d (.int .i64 0), .d (.int .i64 0)] := rfl
@[push_cast] theorem T90_size : T90.size = 4 := rfl
@[push_cast] theorem T90_bytes : T90.bytes = 40 := rfl
@[push_cast] theorem T90_agg : T90.agg = true := rfl
@[push_cast] theorem T90_str : T90.str = true := rfl
@[push_cast] theorem T90_cmp : T90.cmp = true := rfl
@[push_cast] theorem T90_fields : T90.fields = [(0, 3), (1, 9), (2, 2), (3, 3)] := rfl
@[push_cast] theorem T90_desc : T90.desc = .st [(0, 3), (1, 9), (2, 2), (3, 3)] := rfl
@[push_cast] theorem T90_cv : cv T90.zero = .d (.ag [.int .i64 0, .st [], .int .i64 0, .int .i64 0]) := rfl
@[push_cast] theorem T90_vcs : vcs T90.zero = [.d (.int .i64 0), .d (.st []), .d (.int .i64 0), .d (.int .i64 0)] := rfl
@[push_cast] theorem T97_size : T97.size = 2 := rfl
@[push_cast] theorem T97_bytes : T97.bytes = 24 := rfl
@[push_cast] theorem T97_agg : T97.agg = true := rfl
@[push_cast] theorem T97_str : T97.str = true := rfl
@[push_cast] theorem T97_cmp : T97.cmp = true := rfl
@[push_cast] theorem T97_fields : T97.fields = [(0, 9), (1, 2)] := rfl
@[push_cast] theorem T97_desc : T97.desc = .st [(0, 9), (1, 2)] := rfl
@[push_cast] theorem T97_cv : cv T97.zero = .d (.ag [.st [], .int .i64 0]) := rfl
@[push_cast] theorem T97_vcs : vcs T97.zero = [.d (.st []), .d (.int .i64 0)] := rfl
@[push_cast] theorem T98_size : T98.size = 1 := rfl
@[push_cast] theorem T98_bytes : T98.bytes = 24 := rfl
@[push_cast] theorem T98_agg : T98.agg = false := rfl
@[push_cast] theorem T98_str : T98.str = false := rfl
@[push_cast] theorem T98_cmp : T98.cmp = false := rfl
@[push_cast] theorem T98_desc : T98.desc = .sli 97 := rfl
@[push_cast] theorem T98_cv : cv T98.zero = .d (.imm (.slice none 0 0)) := rfl
@[push_cast] theorem T98_vcs : vcs T98.zero = [.d (.imm (.slice none 0 0))] := rfl
@[push_cast] theorem T100_size : T100.size = 11 := rfl
@[push_cast] theorem T100_bytes : T100.bytes = 136 := rfl
@[push_cast] theorem T100_agg : T100.agg = true := rfl
@[push_cast] theorem T100_str : T100.str = true := rfl
@[push_cast] theorem T100_cmp : T100.cmp = false := rfl
@[push_cast] theorem T100_fields : T100.fields = [(0, 3), (1, 3), (2, 9), (3, 9), (4, 97), (6, 97), (8, 98), (9, 3), (10, 4)] := rfl
@[push_cast] theorem T100_desc : T100.desc = .st [(0, 3), (1, 3), (2, 9), (3, 9), (4, 97), (6, 97), (8, 98), (9, 3), (10, 4)] := rfl
@[push_cast] theorem T100_cv : cv T100.zero = .d (.ag [.int .i64 0, .int .i64 0, .st [], .st [], .st [], .int .i64 0, .st [], .int .i64 0, .imm (.slice none 0 0), .int .i64 0, .bool false]) := rfl
@[push_cast] theorem T100_vcs : vcs T100.zero = [.d (.int .i64 0), .d (.int .i64 0), .d (.st []), .d (.st []), .d (.st []), .d (.int .i64 0), .d (.st []), .d (.int .i64 0), .d (.imm (.slice none 0 0)), .d (.int .i64 0), .d (.bool false)] := rfl
@[push_cast] theorem T112_size : T112.size = 1 := rfl
@[push_cast] theorem T112_bytes : T112.bytes = 8 := rfl
@[push_cast] theorem T112_agg : T112.agg = false := rfl
@[push_cast] theorem T112_str : T112.str = false := rfl
@[push_cast] theorem T112_cmp : T112.cmp = false := rfl
@[push_cast] theorem T112_desc : T112.desc = .ptr 114 := rfl
@[push_cast] theorem T112_cv : cv T112.zero = .d (.imm (.pointer none)) := rfl
@[push_cast] theorem T112_vcs : vcs T112.zero = [.d (.imm (.pointer none))] := rfl
@[push_cast] theorem T114_size : T114.size = 1 := rfl
@[push_cast] theorem T114_bytes : T114.bytes = 24 := rfl
@[push_cast] theorem T114_agg : T114.agg = true := rfl
@[push_cast] theorem T114_str : T114.str = true := rfl
@[push_cast] theorem T114_cmp : T114.cmp = false := rfl
@[push_cast] theorem T114_fields : T114.fields = [(0, 47)] := rfl
@[push_cast] theorem T114_desc : T114.desc = .st [(0, 47)] := rfl
@[push_cast] theorem T114_cv : cv T114.zero = .d (.ag [.imm (.slice none 0 0)]) := rfl
@[push_cast] theorem T114_vcs : vcs T114.zero = [.d (.imm (.slice none 0 0))] := rfl
@[push_cast] theorem T124_size : T124.size = 1 := rfl
@[push_cast] theorem T124_bytes : T124.bytes = 16 := rfl
@[push_cast] theorem T124_agg : T124.agg = false := rfl
@[push_cast] theorem T124_str : T124.str = false := rfl
@[push_cast] theorem T124_cmp : T124.cmp = false := rfl
@[push_cast] theorem T124_desc : T124.desc = .ifc := rfl
@[push_cast] theorem T124_cv : cv T124.zero = .d (.imm (.nilIface)) := rfl
@[push_cast] theorem T124_vcs : vcs T124.zero = [.d (.imm (.nilIface))] := rfl
@[push_cast] theorem T150_size : T150.size = 1 := rfl
@[push_cast] theorem T150_bytes : T150.bytes = 8 := rfl
@[push_cast] theorem T150_agg : T150.agg = false := rfl
@[push_cast] theorem T150_str : T150.str = false := rfl
@[push_cast] theorem T150_cmp : T150.cmp = true := rfl
@[push_cast] theorem T150_desc : T150.desc = .int .u64 := rfl
@[push_cast] theorem T150_cv : cv T150.zero = .d (.int .u64 0) := rfl
@[push_cast] theorem T150_vcs : vcs T150.zero = [.d (.int .u64 0)] := rfl
@[push_cast] theorem T153_size : T153.size = 1 := rfl
@[push_cast] theorem T153_bytes : T153.bytes = 8 := rfl
@[push_cast] theorem T153_agg : T153.agg = false := rfl
@[push_cast] theorem T153_str : T153.str = false := rfl
@[push_cast] theorem T153_cmp : T153.cmp = true := rfl
@[push_cast] theorem T153_desc : T153.desc = .int .u64 := rfl
@[push_cast] theorem T153_cv : cv T153.zero = .d (.int .u64 0) := rfl
@[push_cast] theorem T153_vcs : vcs T153.zero = [.d (.int .u64 0)] := rfl
@[push_cast] theorem T159_size : T159.size = 1 := rfl
@[push_cast] theorem T159_bytes : T159.bytes = 24 := rfl
@[push_cast] theorem T159_agg : T159.agg = false := rfl
@[push_cast] theorem T159_str : T159.str = false := rfl
@[push_cast] theorem T159_cmp : T159.cmp = false := rfl
@[push_cast] theorem T159_desc : T159.desc = .sli 5 := rfl
@[push_cast] theorem T159_cv : cv T159.zero = .d (.imm (.slice none 0 0)) := rfl
@[push_cast] theorem T159_vcs : vcs T159.zero = [.d (.imm (.slice none 0 0))] := rfl
@[push_cast] theorem T164_size : T164.size = 1 := rfl
@[push_cast] theorem T164_bytes : T164.bytes = 8 := rfl
@[push_cast] theorem T164_agg : T164.agg = false := rfl
@[push_cast] theorem T164_str : T164.str = false := rfl
@[push_cast] theorem T164_cmp : T164.cmp = false := rfl
@[push_cast] theorem T164_desc : T164.desc = .map 9 22 := rfl
@[push_cast] theorem T164_cv : cv T164.zero = .d (.imm (.map none)) := rfl
@[push_cast] theorem T164_vcs : vcs T164.zero = [.d (.imm (.map none))] := rfl
@[push_cast] theorem T165_size : T165.size = 1 := rfl
@[push_cast] theorem T165_bytes : T165.bytes = 8 := rfl
@[push_cast] theorem T165_agg : T165.agg = false := rfl
@[push_cast] theorem T165_str : T165.str = false := rfl
@[push_cast] theorem T165_cmp : T165.cmp = false := rfl
@[push_cast] theorem T165_desc : T165.desc = .ptr 5 := rfl
@[push_cast] theorem T165_cv : cv T165.zero = .d (.imm (.pointer none)) := rfl
@[push_cast] theorem T165_vcs : vcs T165.zero = [.d (.imm (.pointer none))] := rfl
end Lx
