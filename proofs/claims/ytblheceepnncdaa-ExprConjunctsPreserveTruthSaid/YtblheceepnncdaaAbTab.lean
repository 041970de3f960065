/- The types of the seat, and that this table fits the program. Made by wip/gen_tab.py. -/
import Derived.Test.YtblheceepnncdaaAbC
import Derived.Test.YtblheceepnncdaaProg
import Derived.KernelRfl
namespace Go.Ab
open Go.Proofs
noncomputable def ti1 : TInfo := ⟨Try.t1.desc, 1, 8, .nilFunc, []⟩
noncomputable def ti2 : TInfo := ⟨Try.t2.desc, 1, 8, .int .i64 0, []⟩
noncomputable def ti3 : TInfo := ⟨Try.t3.desc, 1, 8, .int .i64 0, []⟩
noncomputable def ti4 : TInfo := ⟨Try.t4.desc, 1, 1, .bool false, []⟩
noncomputable def ti5 : TInfo := ⟨Try.t5.desc, 1, 1, .int .u8 0, []⟩
noncomputable def ti9 : TInfo := ⟨Try.t9.desc, 1, 16, .string ⟨#[]⟩, []⟩
noncomputable def ti20 : TInfo := ⟨Try.t20.desc, 1, 16, .nilIface, []⟩
noncomputable def ti21 : TInfo := ⟨Try.t21.desc, 1, 4, .int .i32 0, []⟩
noncomputable def ti22 : TInfo := ⟨Try.t22.desc, 3, 32, .agg #[.int .i64 0, .int .i64 0, .string ⟨#[]⟩], [(3, 0), (3, 1), (9, 2)]⟩
noncomputable def ti23 : TInfo := ⟨Try.t22.desc, 3, 32, .agg #[.int .i64 0, .int .i64 0, .string ⟨#[]⟩], [(3, 0), (3, 1), (9, 2)]⟩
noncomputable def ti24 : TInfo := ⟨Try.t24.desc, 1, 8, .nilFunc, []⟩
noncomputable def ti25 : TInfo := ⟨Try.t25.desc, 1, 8, .nilFunc, []⟩
noncomputable def ti26 : TInfo := ⟨Try.t26.desc, 1, 8, .nilFunc, []⟩
noncomputable def ti27 : TInfo := ⟨Try.t27.desc, 1, 24, .slice none 0 0, []⟩
noncomputable def ti28 : TInfo := ⟨Try.t28.desc, 1, 24, .slice none 0 0, []⟩
noncomputable def ti29 : TInfo := ⟨Try.t28.desc, 1, 24, .slice none 0 0, []⟩
noncomputable def ti30 : TInfo := ⟨Try.t30.desc, 1, 24, .slice none 0 0, []⟩
noncomputable def ti31 : TInfo := ⟨Try.t31.desc, 5, 120, .agg #[.slice none 0 0, .slice none 0 0, .slice none 0 0, .slice none 0 0, .slice none 0 0], []⟩
noncomputable def ti32 : TInfo := ⟨Try.t31.desc, 5, 120, .agg #[.slice none 0 0, .slice none 0 0, .slice none 0 0, .slice none 0 0, .slice none 0 0], []⟩
noncomputable def ti33 : TInfo := ⟨Try.t33.desc, 1, 24, .slice none 0 0, []⟩
noncomputable def ti34 : TInfo := ⟨Try.t34.desc, 7, 88, .agg #[.int .i64 0, .string ⟨#[]⟩, .int .i64 0, .int .i64 0, .int .i64 0, .string ⟨#[]⟩, .slice none 0 0], []⟩
noncomputable def ti35 : TInfo := ⟨Try.t34.desc, 7, 88, .agg #[.int .i64 0, .string ⟨#[]⟩, .int .i64 0, .int .i64 0, .int .i64 0, .string ⟨#[]⟩, .slice none 0 0], []⟩
noncomputable def ti36 : TInfo := ⟨Try.t36.desc, 1, 8, .nilFunc, []⟩
noncomputable def ti37 : TInfo := ⟨Try.t37.desc, 1, 24, .slice none 0 0, []⟩
noncomputable def ti38 : TInfo := ⟨Try.t38.desc, 1, 8, .nilFunc, []⟩
noncomputable def ti40 : TInfo := ⟨Try.t40.desc, 1, 8, .nilFunc, []⟩
noncomputable def ti41 : TInfo := ⟨Try.t41.desc, 1, 8, .nilFunc, []⟩
noncomputable def ti42 : TInfo := ⟨Try.t42.desc, 1, 8, .nilFunc, []⟩
noncomputable def ti43 : TInfo := ⟨Try.t43.desc, 1, 8, .nilFunc, []⟩
noncomputable def ti44 : TInfo := ⟨Try.t44.desc, 1, 8, .nilFunc, []⟩
noncomputable def ti45 : TInfo := ⟨Try.t45.desc, 3, 32, .agg #[.string ⟨#[]⟩, .int .i64 0, .bool false], [(9, 0), (3, 1), (4, 2)]⟩
noncomputable def ti46 : TInfo := ⟨Try.t45.desc, 3, 32, .agg #[.string ⟨#[]⟩, .int .i64 0, .bool false], [(9, 0), (3, 1), (4, 2)]⟩
noncomputable def ti47 : TInfo := ⟨Try.t47.desc, 1, 8, .nilFunc, []⟩
noncomputable def ti48 : TInfo := ⟨Try.t48.desc, 1, 8, .nilFunc, []⟩
noncomputable def ti49 : TInfo := ⟨Try.t49.desc, 1, 8, .nilFunc, []⟩
noncomputable def ti50 : TInfo := ⟨Try.t50.desc, 1, 8, .nilFunc, []⟩
noncomputable def ti51 : TInfo := ⟨Try.t51.desc, 1, 8, .nilFunc, []⟩
noncomputable def ti52 : TInfo := ⟨Try.t3.desc, 1, 8, .int .i64 0, []⟩
noncomputable def ti54 : TInfo := ⟨Try.t54.desc, 1, 8, .nilFunc, []⟩
noncomputable def ti55 : TInfo := ⟨Try.t55.desc, 1, 8, .nilFunc, []⟩
noncomputable def ti56 : TInfo := ⟨Try.t56.desc, 1, 8, .nilFunc, []⟩
noncomputable def ti57 : TInfo := ⟨Try.t57.desc, 1, 8, .nilFunc, []⟩
noncomputable def ti58 : TInfo := ⟨Try.t58.desc, 1, 8, .nilFunc, []⟩
noncomputable def ti59 : TInfo := ⟨Try.t59.desc, 1, 8, .nilFunc, []⟩
noncomputable def ti60 : TInfo := ⟨Try.t60.desc, 1, 8, .nilFunc, []⟩
noncomputable def ti61 : TInfo := ⟨Try.t61.desc, 1, 8, .nilFunc, []⟩
noncomputable def ti62 : TInfo := ⟨Try.t62.desc, 1, 8, .nilFunc, []⟩
noncomputable def ti63 : TInfo := ⟨Try.t63.desc, 1, 8, .nilFunc, []⟩
noncomputable def ti64 : TInfo := ⟨Try.t64.desc, 1, 24, .slice none 0 0, []⟩
noncomputable def ti65 : TInfo := ⟨Try.t65.desc, 1, 8, .nilFunc, []⟩
noncomputable def ti66 : TInfo := ⟨Try.t66.desc, 1, 8, .nilFunc, []⟩
noncomputable def ti67 : TInfo := ⟨Try.t67.desc, 1, 8, .nilFunc, []⟩
noncomputable def ti68 : TInfo := ⟨Try.t68.desc, 1, 24, .slice none 0 0, []⟩
noncomputable def ti69 : TInfo := ⟨Try.t69.desc, 1, 8, .nilFunc, []⟩
noncomputable def ti70 : TInfo := ⟨Try.t70.desc, 1, 24, .slice none 0 0, []⟩
noncomputable def ti71 : TInfo := ⟨Try.t71.desc, 1, 8, .nilFunc, []⟩
noncomputable def ti72 : TInfo := ⟨Try.t72.desc, 1, 8, .nilFunc, []⟩
noncomputable def ti74 : TInfo := ⟨Try.t74.desc, 1, 8, .nilFunc, []⟩
noncomputable def ti75 : TInfo := ⟨Try.t75.desc, 1, 24, .slice none 0 0, []⟩
noncomputable def ti77 : TInfo := ⟨Try.t77.desc, 1, 8, .nilFunc, []⟩
noncomputable def ti78 : TInfo := ⟨Try.t78.desc, 1, 8, .nilFunc, []⟩
noncomputable def ti79 : TInfo := ⟨Try.t79.desc, 1, 8, .nilFunc, []⟩
noncomputable def ti80 : TInfo := ⟨Try.t80.desc, 1, 8, .nilFunc, []⟩
noncomputable def ti81 : TInfo := ⟨Try.t81.desc, 1, 8, .nilFunc, []⟩
noncomputable def ti83 : TInfo := ⟨Try.t83.desc, 1, 8, .nilFunc, []⟩
noncomputable def ti84 : TInfo := ⟨Try.t84.desc, 1, 8, .nilFunc, []⟩
noncomputable def ti85 : TInfo := ⟨Try.t85.desc, 1, 8, .nilFunc, []⟩
noncomputable def ti86 : TInfo := ⟨Try.t86.desc, 1, 8, .nilFunc, []⟩
noncomputable def ti87 : TInfo := ⟨Try.t87.desc, 1, 8, .nilFunc, []⟩
noncomputable def ti88 : TInfo := ⟨Try.t88.desc, 1, 8, .nilFunc, []⟩
noncomputable def ti89 : TInfo := ⟨Try.t89.desc, 1, 8, .nilFunc, []⟩
noncomputable def ti90 : TInfo := ⟨Try.t90.desc, 1, 8, .nilFunc, []⟩
noncomputable def ti91 : TInfo := ⟨Try.t91.desc, 1, 8, .nilFunc, []⟩
noncomputable def ti92 : TInfo := ⟨Try.t92.desc, 1, 8, .nilFunc, []⟩
noncomputable def ti93 : TInfo := ⟨Try.t93.desc, 1, 8, .nilFunc, []⟩
noncomputable def ti99 : TInfo := ⟨Try.t99.desc, 1, 8, .nilFunc, []⟩
noncomputable def ti100 : TInfo := ⟨Try.t100.desc, 1, 4, .int .u32 0, []⟩
noncomputable def ti104 : TInfo := ⟨Try.t104.desc, 1, 8, .pointer none, []⟩
theorem ti1_ok : ti1.Ok Try.prog 1 := ⟨⟨Try.t1, by kernel_rfl, rfl, rfl, rfl⟩, Try.underlying1, fun h => absurd rfl h⟩
theorem ti2_ok : ti2.Ok Try.prog 2 := ⟨⟨Try.t2, by kernel_rfl, rfl, rfl, rfl⟩, Try.underlying2, fun h => absurd rfl h⟩
theorem ti3_ok : ti3.Ok Try.prog 3 := ⟨⟨Try.t3, by kernel_rfl, rfl, rfl, rfl⟩, Try.underlying3, fun h => absurd rfl h⟩
theorem ti4_ok : ti4.Ok Try.prog 4 := ⟨⟨Try.t4, by kernel_rfl, rfl, rfl, rfl⟩, Try.underlying4, fun h => absurd rfl h⟩
theorem ti5_ok : ti5.Ok Try.prog 5 := ⟨⟨Try.t5, by kernel_rfl, rfl, rfl, rfl⟩, Try.underlying5, fun h => absurd rfl h⟩
theorem ti9_ok : ti9.Ok Try.prog 9 := ⟨⟨Try.t9, by kernel_rfl, rfl, rfl, rfl⟩, Try.underlying9, fun h => absurd rfl h⟩
theorem ti20_ok : ti20.Ok Try.prog 20 := ⟨⟨Try.t20, by kernel_rfl, rfl, rfl, rfl⟩, Try.underlying20, fun h => absurd rfl h⟩
theorem ti21_ok : ti21.Ok Try.prog 21 := ⟨⟨Try.t21, by kernel_rfl, rfl, rfl, rfl⟩, Try.underlying21, fun h => absurd rfl h⟩
theorem ti22_ok : ti22.Ok Try.prog 22 := ⟨⟨Try.t22, by kernel_rfl, rfl, rfl, rfl⟩, Try.underlying22, fun _ => ⟨Try.stoodInHeld22, Try.eqGuardType22, by simp [fieldsMeet, Program.fieldsOf, Try.underlying22, ti22], by kernel_rfl⟩⟩
theorem ti23_ok : ti23.Ok Try.prog 23 := ⟨⟨Try.t23, by kernel_rfl, rfl, rfl, rfl⟩, Try.underlying23, fun _ => ⟨Try.stoodInHeld23, Try.eqGuardType23, by simp [fieldsMeet, Program.fieldsOf, Try.underlying23, ti23], by kernel_rfl⟩⟩
theorem ti24_ok : ti24.Ok Try.prog 24 := ⟨⟨Try.t24, by kernel_rfl, rfl, rfl, rfl⟩, Try.underlying24, fun h => absurd rfl h⟩
theorem ti25_ok : ti25.Ok Try.prog 25 := ⟨⟨Try.t25, by kernel_rfl, rfl, rfl, rfl⟩, Try.underlying25, fun h => absurd rfl h⟩
theorem ti26_ok : ti26.Ok Try.prog 26 := ⟨⟨Try.t26, by kernel_rfl, rfl, rfl, rfl⟩, Try.underlying26, fun h => absurd rfl h⟩
theorem ti27_ok : ti27.Ok Try.prog 27 := ⟨⟨Try.t27, by kernel_rfl, rfl, rfl, rfl⟩, Try.underlying27, fun h => absurd rfl h⟩
theorem ti28_ok : ti28.Ok Try.prog 28 := ⟨⟨Try.t28, by kernel_rfl, rfl, rfl, rfl⟩, Try.underlying28, fun h => absurd rfl h⟩
theorem ti29_ok : ti29.Ok Try.prog 29 := ⟨⟨Try.t29, by kernel_rfl, rfl, rfl, rfl⟩, Try.underlying29, fun h => absurd rfl h⟩
theorem ti30_ok : ti30.Ok Try.prog 30 := ⟨⟨Try.t30, by kernel_rfl, rfl, rfl, rfl⟩, Try.underlying30, fun h => absurd rfl h⟩
theorem ti31_ok : ti31.Ok Try.prog 31 := ⟨⟨Try.t31, by kernel_rfl, rfl, rfl, rfl⟩, Try.underlying31, fun h => absurd rfl h⟩
theorem ti32_ok : ti32.Ok Try.prog 32 := ⟨⟨Try.t32, by kernel_rfl, rfl, rfl, rfl⟩, Try.underlying32, fun h => absurd rfl h⟩
theorem ti33_ok : ti33.Ok Try.prog 33 := ⟨⟨Try.t33, by kernel_rfl, rfl, rfl, rfl⟩, Try.underlying33, fun h => absurd rfl h⟩
theorem ti34_ok : ti34.Ok Try.prog 34 := ⟨⟨Try.t34, by kernel_rfl, rfl, rfl, rfl⟩, Try.underlying34, fun h => absurd rfl h⟩
theorem ti35_ok : ti35.Ok Try.prog 35 := ⟨⟨Try.t35, by kernel_rfl, rfl, rfl, rfl⟩, Try.underlying35, fun h => absurd rfl h⟩
theorem ti36_ok : ti36.Ok Try.prog 36 := ⟨⟨Try.t36, by kernel_rfl, rfl, rfl, rfl⟩, Try.underlying36, fun h => absurd rfl h⟩
theorem ti37_ok : ti37.Ok Try.prog 37 := ⟨⟨Try.t37, by kernel_rfl, rfl, rfl, rfl⟩, Try.underlying37, fun h => absurd rfl h⟩
theorem ti38_ok : ti38.Ok Try.prog 38 := ⟨⟨Try.t38, by kernel_rfl, rfl, rfl, rfl⟩, Try.underlying38, fun h => absurd rfl h⟩
theorem ti40_ok : ti40.Ok Try.prog 40 := ⟨⟨Try.t40, by kernel_rfl, rfl, rfl, rfl⟩, Try.underlying40, fun h => absurd rfl h⟩
theorem ti41_ok : ti41.Ok Try.prog 41 := ⟨⟨Try.t41, by kernel_rfl, rfl, rfl, rfl⟩, Try.underlying41, fun h => absurd rfl h⟩
theorem ti42_ok : ti42.Ok Try.prog 42 := ⟨⟨Try.t42, by kernel_rfl, rfl, rfl, rfl⟩, Try.underlying42, fun h => absurd rfl h⟩
theorem ti43_ok : ti43.Ok Try.prog 43 := ⟨⟨Try.t43, by kernel_rfl, rfl, rfl, rfl⟩, Try.underlying43, fun h => absurd rfl h⟩
theorem ti44_ok : ti44.Ok Try.prog 44 := ⟨⟨Try.t44, by kernel_rfl, rfl, rfl, rfl⟩, Try.underlying44, fun h => absurd rfl h⟩
theorem ti45_ok : ti45.Ok Try.prog 45 := ⟨⟨Try.t45, by kernel_rfl, rfl, rfl, rfl⟩, Try.underlying45, fun _ => ⟨Try.stoodInHeld45, Try.eqGuardType45, by simp [fieldsMeet, Program.fieldsOf, Try.underlying45, ti45], by kernel_rfl⟩⟩
theorem ti46_ok : ti46.Ok Try.prog 46 := ⟨⟨Try.t46, by kernel_rfl, rfl, rfl, rfl⟩, Try.underlying46, fun _ => ⟨Try.stoodInHeld46, Try.eqGuardType46, by simp [fieldsMeet, Program.fieldsOf, Try.underlying46, ti46], by kernel_rfl⟩⟩
theorem ti47_ok : ti47.Ok Try.prog 47 := ⟨⟨Try.t47, by kernel_rfl, rfl, rfl, rfl⟩, Try.underlying47, fun h => absurd rfl h⟩
theorem ti48_ok : ti48.Ok Try.prog 48 := ⟨⟨Try.t48, by kernel_rfl, rfl, rfl, rfl⟩, Try.underlying48, fun h => absurd rfl h⟩
theorem ti49_ok : ti49.Ok Try.prog 49 := ⟨⟨Try.t49, by kernel_rfl, rfl, rfl, rfl⟩, Try.underlying49, fun h => absurd rfl h⟩
theorem ti50_ok : ti50.Ok Try.prog 50 := ⟨⟨Try.t50, by kernel_rfl, rfl, rfl, rfl⟩, Try.underlying50, fun h => absurd rfl h⟩
theorem ti51_ok : ti51.Ok Try.prog 51 := ⟨⟨Try.t51, by kernel_rfl, rfl, rfl, rfl⟩, Try.underlying51, fun h => absurd rfl h⟩
theorem ti52_ok : ti52.Ok Try.prog 52 := ⟨⟨Try.t52, by kernel_rfl, rfl, rfl, rfl⟩, Try.underlying52, fun h => absurd rfl h⟩
theorem ti54_ok : ti54.Ok Try.prog 54 := ⟨⟨Try.t54, by kernel_rfl, rfl, rfl, rfl⟩, Try.underlying54, fun h => absurd rfl h⟩
theorem ti55_ok : ti55.Ok Try.prog 55 := ⟨⟨Try.t55, by kernel_rfl, rfl, rfl, rfl⟩, Try.underlying55, fun h => absurd rfl h⟩
theorem ti56_ok : ti56.Ok Try.prog 56 := ⟨⟨Try.t56, by kernel_rfl, rfl, rfl, rfl⟩, Try.underlying56, fun h => absurd rfl h⟩
theorem ti57_ok : ti57.Ok Try.prog 57 := ⟨⟨Try.t57, by kernel_rfl, rfl, rfl, rfl⟩, Try.underlying57, fun h => absurd rfl h⟩
theorem ti58_ok : ti58.Ok Try.prog 58 := ⟨⟨Try.t58, by kernel_rfl, rfl, rfl, rfl⟩, Try.underlying58, fun h => absurd rfl h⟩
theorem ti59_ok : ti59.Ok Try.prog 59 := ⟨⟨Try.t59, by kernel_rfl, rfl, rfl, rfl⟩, Try.underlying59, fun h => absurd rfl h⟩
theorem ti60_ok : ti60.Ok Try.prog 60 := ⟨⟨Try.t60, by kernel_rfl, rfl, rfl, rfl⟩, Try.underlying60, fun h => absurd rfl h⟩
theorem ti61_ok : ti61.Ok Try.prog 61 := ⟨⟨Try.t61, by kernel_rfl, rfl, rfl, rfl⟩, Try.underlying61, fun h => absurd rfl h⟩
theorem ti62_ok : ti62.Ok Try.prog 62 := ⟨⟨Try.t62, by kernel_rfl, rfl, rfl, rfl⟩, Try.underlying62, fun h => absurd rfl h⟩
theorem ti63_ok : ti63.Ok Try.prog 63 := ⟨⟨Try.t63, by kernel_rfl, rfl, rfl, rfl⟩, Try.underlying63, fun h => absurd rfl h⟩
theorem ti64_ok : ti64.Ok Try.prog 64 := ⟨⟨Try.t64, by kernel_rfl, rfl, rfl, rfl⟩, Try.underlying64, fun h => absurd rfl h⟩
theorem ti65_ok : ti65.Ok Try.prog 65 := ⟨⟨Try.t65, by kernel_rfl, rfl, rfl, rfl⟩, Try.underlying65, fun h => absurd rfl h⟩
theorem ti66_ok : ti66.Ok Try.prog 66 := ⟨⟨Try.t66, by kernel_rfl, rfl, rfl, rfl⟩, Try.underlying66, fun h => absurd rfl h⟩
theorem ti67_ok : ti67.Ok Try.prog 67 := ⟨⟨Try.t67, by kernel_rfl, rfl, rfl, rfl⟩, Try.underlying67, fun h => absurd rfl h⟩
theorem ti68_ok : ti68.Ok Try.prog 68 := ⟨⟨Try.t68, by kernel_rfl, rfl, rfl, rfl⟩, Try.underlying68, fun h => absurd rfl h⟩
theorem ti69_ok : ti69.Ok Try.prog 69 := ⟨⟨Try.t69, by kernel_rfl, rfl, rfl, rfl⟩, Try.underlying69, fun h => absurd rfl h⟩
theorem ti70_ok : ti70.Ok Try.prog 70 := ⟨⟨Try.t70, by kernel_rfl, rfl, rfl, rfl⟩, Try.underlying70, fun h => absurd rfl h⟩
theorem ti71_ok : ti71.Ok Try.prog 71 := ⟨⟨Try.t71, by kernel_rfl, rfl, rfl, rfl⟩, Try.underlying71, fun h => absurd rfl h⟩
theorem ti72_ok : ti72.Ok Try.prog 72 := ⟨⟨Try.t72, by kernel_rfl, rfl, rfl, rfl⟩, Try.underlying72, fun h => absurd rfl h⟩
theorem ti74_ok : ti74.Ok Try.prog 74 := ⟨⟨Try.t74, by kernel_rfl, rfl, rfl, rfl⟩, Try.underlying74, fun h => absurd rfl h⟩
theorem ti75_ok : ti75.Ok Try.prog 75 := ⟨⟨Try.t75, by kernel_rfl, rfl, rfl, rfl⟩, Try.underlying75, fun h => absurd rfl h⟩
theorem ti77_ok : ti77.Ok Try.prog 77 := ⟨⟨Try.t77, by kernel_rfl, rfl, rfl, rfl⟩, Try.underlying77, fun h => absurd rfl h⟩
theorem ti78_ok : ti78.Ok Try.prog 78 := ⟨⟨Try.t78, by kernel_rfl, rfl, rfl, rfl⟩, Try.underlying78, fun h => absurd rfl h⟩
theorem ti79_ok : ti79.Ok Try.prog 79 := ⟨⟨Try.t79, by kernel_rfl, rfl, rfl, rfl⟩, Try.underlying79, fun h => absurd rfl h⟩
theorem ti80_ok : ti80.Ok Try.prog 80 := ⟨⟨Try.t80, by kernel_rfl, rfl, rfl, rfl⟩, Try.underlying80, fun h => absurd rfl h⟩
theorem ti81_ok : ti81.Ok Try.prog 81 := ⟨⟨Try.t81, by kernel_rfl, rfl, rfl, rfl⟩, Try.underlying81, fun h => absurd rfl h⟩
theorem ti83_ok : ti83.Ok Try.prog 83 := ⟨⟨Try.t83, by kernel_rfl, rfl, rfl, rfl⟩, Try.underlying83, fun h => absurd rfl h⟩
theorem ti84_ok : ti84.Ok Try.prog 84 := ⟨⟨Try.t84, by kernel_rfl, rfl, rfl, rfl⟩, Try.underlying84, fun h => absurd rfl h⟩
theorem ti85_ok : ti85.Ok Try.prog 85 := ⟨⟨Try.t85, by kernel_rfl, rfl, rfl, rfl⟩, Try.underlying85, fun h => absurd rfl h⟩
theorem ti86_ok : ti86.Ok Try.prog 86 := ⟨⟨Try.t86, by kernel_rfl, rfl, rfl, rfl⟩, Try.underlying86, fun h => absurd rfl h⟩
theorem ti87_ok : ti87.Ok Try.prog 87 := ⟨⟨Try.t87, by kernel_rfl, rfl, rfl, rfl⟩, Try.underlying87, fun h => absurd rfl h⟩
theorem ti88_ok : ti88.Ok Try.prog 88 := ⟨⟨Try.t88, by kernel_rfl, rfl, rfl, rfl⟩, Try.underlying88, fun h => absurd rfl h⟩
theorem ti89_ok : ti89.Ok Try.prog 89 := ⟨⟨Try.t89, by kernel_rfl, rfl, rfl, rfl⟩, Try.underlying89, fun h => absurd rfl h⟩
theorem ti90_ok : ti90.Ok Try.prog 90 := ⟨⟨Try.t90, by kernel_rfl, rfl, rfl, rfl⟩, Try.underlying90, fun h => absurd rfl h⟩
theorem ti91_ok : ti91.Ok Try.prog 91 := ⟨⟨Try.t91, by kernel_rfl, rfl, rfl, rfl⟩, Try.underlying91, fun h => absurd rfl h⟩
theorem ti92_ok : ti92.Ok Try.prog 92 := ⟨⟨Try.t92, by kernel_rfl, rfl, rfl, rfl⟩, Try.underlying92, fun h => absurd rfl h⟩
theorem ti93_ok : ti93.Ok Try.prog 93 := ⟨⟨Try.t93, by kernel_rfl, rfl, rfl, rfl⟩, Try.underlying93, fun h => absurd rfl h⟩
theorem ti99_ok : ti99.Ok Try.prog 99 := ⟨⟨Try.t99, by kernel_rfl, rfl, rfl, rfl⟩, Try.underlying99, fun h => absurd rfl h⟩
theorem ti100_ok : ti100.Ok Try.prog 100 := ⟨⟨Try.t100, by kernel_rfl, rfl, rfl, rfl⟩, Try.underlying100, fun h => absurd rfl h⟩
theorem ti104_ok : ti104.Ok Try.prog 104 := ⟨⟨Try.t104, by kernel_rfl, rfl, rfl, rfl⟩, Try.underlying104, fun h => absurd rfl h⟩
noncomputable def tt : TT := (.node 55 ti55 (.node 33 ti33 (.node 23 ti23 (.node 5 ti5 (.node 3 ti3 (.node 2 ti2 (.node 1 ti1 .leaf .leaf) .leaf) (.node 4 ti4 .leaf .leaf)) (.node 21 ti21 (.node 20 ti20 (.node 9 ti9 .leaf .leaf) .leaf) (.node 22 ti22 .leaf .leaf))) (.node 28 ti28 (.node 26 ti26 (.node 25 ti25 (.node 24 ti24 .leaf .leaf) .leaf) (.node 27 ti27 .leaf .leaf)) (.node 31 ti31 (.node 30 ti30 (.node 29 ti29 .leaf .leaf) .leaf) (.node 32 ti32 .leaf .leaf)))) (.node 44 ti44 (.node 38 ti38 (.node 36 ti36 (.node 35 ti35 (.node 34 ti34 .leaf .leaf) .leaf) (.node 37 ti37 .leaf .leaf)) (.node 42 ti42 (.node 41 ti41 (.node 40 ti40 .leaf .leaf) .leaf) (.node 43 ti43 .leaf .leaf))) (.node 49 ti49 (.node 47 ti47 (.node 46 ti46 (.node 45 ti45 .leaf .leaf) .leaf) (.node 48 ti48 .leaf .leaf)) (.node 52 ti52 (.node 51 ti51 (.node 50 ti50 .leaf .leaf) .leaf) (.node 54 ti54 .leaf .leaf))))) (.node 77 ti77 (.node 65 ti65 (.node 60 ti60 (.node 58 ti58 (.node 57 ti57 (.node 56 ti56 .leaf .leaf) .leaf) (.node 59 ti59 .leaf .leaf)) (.node 63 ti63 (.node 62 ti62 (.node 61 ti61 .leaf .leaf) .leaf) (.node 64 ti64 .leaf .leaf))) (.node 70 ti70 (.node 68 ti68 (.node 67 ti67 (.node 66 ti66 .leaf .leaf) .leaf) (.node 69 ti69 .leaf .leaf)) (.node 74 ti74 (.node 72 ti72 (.node 71 ti71 .leaf .leaf) .leaf) (.node 75 ti75 .leaf .leaf)))) (.node 88 ti88 (.node 83 ti83 (.node 80 ti80 (.node 79 ti79 (.node 78 ti78 .leaf .leaf) .leaf) (.node 81 ti81 .leaf .leaf)) (.node 86 ti86 (.node 85 ti85 (.node 84 ti84 .leaf .leaf) .leaf) (.node 87 ti87 .leaf .leaf))) (.node 93 ti93 (.node 91 ti91 (.node 90 ti90 (.node 89 ti89 .leaf .leaf) .leaf) (.node 92 ti92 .leaf .leaf)) (.node 100 ti100 (.node 99 ti99 .leaf .leaf) (.node 104 ti104 .leaf .leaf))))))
theorem tt_ok : tt.Ok Try.prog := ⟨ti55_ok, ⟨ti33_ok, ⟨ti23_ok, ⟨ti5_ok, ⟨ti3_ok, ⟨ti2_ok, ⟨ti1_ok, trivial, trivial⟩, trivial⟩, ⟨ti4_ok, trivial, trivial⟩⟩, ⟨ti21_ok, ⟨ti20_ok, ⟨ti9_ok, trivial, trivial⟩, trivial⟩, ⟨ti22_ok, trivial, trivial⟩⟩⟩, ⟨ti28_ok, ⟨ti26_ok, ⟨ti25_ok, ⟨ti24_ok, trivial, trivial⟩, trivial⟩, ⟨ti27_ok, trivial, trivial⟩⟩, ⟨ti31_ok, ⟨ti30_ok, ⟨ti29_ok, trivial, trivial⟩, trivial⟩, ⟨ti32_ok, trivial, trivial⟩⟩⟩⟩, ⟨ti44_ok, ⟨ti38_ok, ⟨ti36_ok, ⟨ti35_ok, ⟨ti34_ok, trivial, trivial⟩, trivial⟩, ⟨ti37_ok, trivial, trivial⟩⟩, ⟨ti42_ok, ⟨ti41_ok, ⟨ti40_ok, trivial, trivial⟩, trivial⟩, ⟨ti43_ok, trivial, trivial⟩⟩⟩, ⟨ti49_ok, ⟨ti47_ok, ⟨ti46_ok, ⟨ti45_ok, trivial, trivial⟩, trivial⟩, ⟨ti48_ok, trivial, trivial⟩⟩, ⟨ti52_ok, ⟨ti51_ok, ⟨ti50_ok, trivial, trivial⟩, trivial⟩, ⟨ti54_ok, trivial, trivial⟩⟩⟩⟩⟩, ⟨ti77_ok, ⟨ti65_ok, ⟨ti60_ok, ⟨ti58_ok, ⟨ti57_ok, ⟨ti56_ok, trivial, trivial⟩, trivial⟩, ⟨ti59_ok, trivial, trivial⟩⟩, ⟨ti63_ok, ⟨ti62_ok, ⟨ti61_ok, trivial, trivial⟩, trivial⟩, ⟨ti64_ok, trivial, trivial⟩⟩⟩, ⟨ti70_ok, ⟨ti68_ok, ⟨ti67_ok, ⟨ti66_ok, trivial, trivial⟩, trivial⟩, ⟨ti69_ok, trivial, trivial⟩⟩, ⟨ti74_ok, ⟨ti72_ok, ⟨ti71_ok, trivial, trivial⟩, trivial⟩, ⟨ti75_ok, trivial, trivial⟩⟩⟩⟩, ⟨ti88_ok, ⟨ti83_ok, ⟨ti80_ok, ⟨ti79_ok, ⟨ti78_ok, trivial, trivial⟩, trivial⟩, ⟨ti81_ok, trivial, trivial⟩⟩, ⟨ti86_ok, ⟨ti85_ok, ⟨ti84_ok, trivial, trivial⟩, trivial⟩, ⟨ti87_ok, trivial, trivial⟩⟩⟩, ⟨ti93_ok, ⟨ti91_ok, ⟨ti90_ok, ⟨ti89_ok, trivial, trivial⟩, trivial⟩, ⟨ti92_ok, trivial, trivial⟩⟩, ⟨ti100_ok, ⟨ti99_ok, trivial, trivial⟩, ⟨ti104_ok, trivial, trivial⟩⟩⟩⟩⟩⟩
end Go.Ab
