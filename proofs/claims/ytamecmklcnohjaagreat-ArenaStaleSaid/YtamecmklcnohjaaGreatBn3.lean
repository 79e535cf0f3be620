import Derived.Test.YtamecmklcnohjaaGreatProg
import Derived.Test.YtamecmklcnohjaaGreatBn2
import Derived.KernelRfl
import Derived.Test.YtamecmklcnohjaaGreatBn1
/- What the laws share: a separation logic over the model, and what the program's functions do, by it. Part 3 of 15: SepT SepS SepN. -/
namespace Go.Proofs.YtamecmklcnohjaaGreat.Sep
open Go.Proofs
theorem tu0 : TU Tryz.prog 0 Tryz.t0.desc := ⟨Tryz.underlying0⟩
theorem ti0 : TI Tryz.prog 0 (Tryz.t0.zero.getD undef) 1 0 := ⟨Tryz.t0, (by kernel_rfl), rfl, rfl, rfl⟩
theorem tu1 : TU Tryz.prog 1 Tryz.t1.desc := ⟨Tryz.underlying1⟩
theorem ti1 : TI Tryz.prog 1 (Tryz.t1.zero.getD undef) 1 8 := ⟨Tryz.t1, (by kernel_rfl), rfl, rfl, rfl⟩
theorem tu2 : TU Tryz.prog 2 Tryz.t2.desc := ⟨Tryz.underlying2⟩
theorem tk2 : TK Tryz.prog 2 (fun n : Int => Value.int .i64 n) := tk_int (h := ⟨Tryz.underlying2⟩)
theorem ti2 : TI Tryz.prog 2 (Tryz.t2.zero.getD undef) 1 8 := ⟨Tryz.t2, (by kernel_rfl), rfl, rfl, rfl⟩
theorem tu3 : TU Tryz.prog 3 Tryz.t3.desc := ⟨Tryz.underlying3⟩
theorem tk3 : TK Tryz.prog 3 (fun n : Int => Value.int .i64 n) := tk_int (h := ⟨Tryz.underlying3⟩)
theorem ti3 : TI Tryz.prog 3 (Tryz.t3.zero.getD undef) 1 8 := ⟨Tryz.t3, (by kernel_rfl), rfl, rfl, rfl⟩
theorem tu4 : TU Tryz.prog 4 Tryz.t4.desc := ⟨Tryz.underlying4⟩
theorem ti4 : TI Tryz.prog 4 (Tryz.t4.zero.getD undef) 1 1 := ⟨Tryz.t4, (by kernel_rfl), rfl, rfl, rfl⟩
theorem tu5 : TU Tryz.prog 5 Tryz.t5.desc := ⟨Tryz.underlying5⟩
theorem tk5 : TK Tryz.prog 5 (fun n : Int => Value.int .u8 n) := tk_int (h := ⟨Tryz.underlying5⟩)
theorem ti5 : TI Tryz.prog 5 (Tryz.t5.zero.getD undef) 1 1 := ⟨Tryz.t5, (by kernel_rfl), rfl, rfl, rfl⟩
theorem tu6 : TU Tryz.prog 6 Tryz.t5.desc := ⟨Tryz.underlying6⟩
theorem tk6 : TK Tryz.prog 6 (fun n : Int => Value.int .u8 n) := tk_int (h := ⟨Tryz.underlying6⟩)
theorem ti6 : TI Tryz.prog 6 (Tryz.t6.zero.getD undef) 1 1 := ⟨Tryz.t6, (by kernel_rfl), rfl, rfl, rfl⟩
theorem tu7 : TU Tryz.prog 7 Tryz.t7.desc := ⟨Tryz.underlying7⟩
theorem ti7 : TI Tryz.prog 7 (Tryz.t7.zero.getD undef) 4 24 := ⟨Tryz.t7, (by kernel_rfl), rfl, rfl, rfl⟩
theorem tu8 : TU Tryz.prog 8 Tryz.t7.desc := ⟨Tryz.underlying8⟩
theorem ti8 : TI Tryz.prog 8 (Tryz.t8.zero.getD undef) 4 24 := ⟨Tryz.t8, (by kernel_rfl), rfl, rfl, rfl⟩
theorem tu9 : TU Tryz.prog 9 Tryz.t9.desc := ⟨Tryz.underlying9⟩
theorem ti9 : TI Tryz.prog 9 (Tryz.t9.zero.getD undef) 1 16 := ⟨Tryz.t9, (by kernel_rfl), rfl, rfl, rfl⟩
theorem tu10 : TU Tryz.prog 10 Tryz.t9.desc := ⟨Tryz.underlying10⟩
theorem ti10 : TI Tryz.prog 10 (Tryz.t10.zero.getD undef) 1 16 := ⟨Tryz.t10, (by kernel_rfl), rfl, rfl, rfl⟩
theorem tu11 : TU Tryz.prog 11 Tryz.t9.desc := ⟨Tryz.underlying11⟩
theorem ti11 : TI Tryz.prog 11 (Tryz.t11.zero.getD undef) 1 16 := ⟨Tryz.t11, (by kernel_rfl), rfl, rfl, rfl⟩
theorem tu12 : TU Tryz.prog 12 Tryz.t12.desc := ⟨Tryz.underlying12⟩
theorem tk12 : TK Tryz.prog 12 (fun n : Int => Value.int .u64 n) := tk_int (h := ⟨Tryz.underlying12⟩)
theorem ti12 : TI Tryz.prog 12 (Tryz.t12.zero.getD undef) 1 8 := ⟨Tryz.t12, (by kernel_rfl), rfl, rfl, rfl⟩
theorem tu13 : TU Tryz.prog 13 Tryz.t13.desc := ⟨Tryz.underlying13⟩
theorem ti13 : TI Tryz.prog 13 (Tryz.t13.zero.getD undef) 2 24 := ⟨Tryz.t13, (by kernel_rfl), rfl, rfl, rfl⟩
theorem tu14 : TU Tryz.prog 14 Tryz.t13.desc := ⟨Tryz.underlying14⟩
theorem ti14 : TI Tryz.prog 14 (Tryz.t14.zero.getD undef) 2 24 := ⟨Tryz.t14, (by kernel_rfl), rfl, rfl, rfl⟩
theorem tu15 : TU Tryz.prog 15 Tryz.t15.desc := ⟨Tryz.underlying15⟩
theorem ti15 : TI Tryz.prog 15 (Tryz.t15.zero.getD undef) 1 8 := ⟨Tryz.t15, (by kernel_rfl), rfl, rfl, rfl⟩
theorem tu16 : TU Tryz.prog 16 Tryz.t16.desc := ⟨Tryz.underlying16⟩
theorem ti16 : TI Tryz.prog 16 (Tryz.t16.zero.getD undef) 1 8 := ⟨Tryz.t16, (by kernel_rfl), rfl, rfl, rfl⟩
theorem tu17 : TU Tryz.prog 17 Tryz.t17.desc := ⟨Tryz.underlying17⟩
theorem ti17 : TI Tryz.prog 17 (Tryz.t17.zero.getD undef) 1 8 := ⟨Tryz.t17, (by kernel_rfl), rfl, rfl, rfl⟩
theorem tu18 : TU Tryz.prog 18 Tryz.t18.desc := ⟨Tryz.underlying18⟩
theorem ti18 : TI Tryz.prog 18 (Tryz.t18.zero.getD undef) 1 8 := ⟨Tryz.t18, (by kernel_rfl), rfl, rfl, rfl⟩
theorem tu19 : TU Tryz.prog 19 Tryz.t18.desc := ⟨Tryz.underlying19⟩
theorem ti19 : TI Tryz.prog 19 (Tryz.t19.zero.getD undef) 1 8 := ⟨Tryz.t19, (by kernel_rfl), rfl, rfl, rfl⟩
theorem tu20 : TU Tryz.prog 20 Tryz.t20.desc := ⟨Tryz.underlying20⟩
theorem ti20 : TI Tryz.prog 20 (Tryz.t20.zero.getD undef) 1 16 := ⟨Tryz.t20, (by kernel_rfl), rfl, rfl, rfl⟩
theorem tu21 : TU Tryz.prog 21 Tryz.t21.desc := ⟨Tryz.underlying21⟩
theorem tk21 : TK Tryz.prog 21 (fun n : Int => Value.int .i32 n) := tk_int (h := ⟨Tryz.underlying21⟩)
theorem ti21 : TI Tryz.prog 21 (Tryz.t21.zero.getD undef) 1 4 := ⟨Tryz.t21, (by kernel_rfl), rfl, rfl, rfl⟩
theorem tu22 : TU Tryz.prog 22 Tryz.t22.desc := ⟨Tryz.underlying22⟩
theorem tk22 : TK Tryz.prog 22 (fun n : Int => Value.int .u16 n) := tk_int (h := ⟨Tryz.underlying22⟩)
theorem ti22 : TI Tryz.prog 22 (Tryz.t22.zero.getD undef) 1 2 := ⟨Tryz.t22, (by kernel_rfl), rfl, rfl, rfl⟩
theorem tu23 : TU Tryz.prog 23 Tryz.t23.desc := ⟨Tryz.underlying23⟩
theorem ti23 : TI Tryz.prog 23 (Tryz.t23.zero.getD undef) 1 24 := ⟨Tryz.t23, (by kernel_rfl), rfl, rfl, rfl⟩
theorem tu24 : TU Tryz.prog 24 Tryz.t24.desc := ⟨Tryz.underlying24⟩
theorem ti24 : TI Tryz.prog 24 (Tryz.t24.zero.getD undef) 1 8 := ⟨Tryz.t24, (by kernel_rfl), rfl, rfl, rfl⟩
theorem tu25 : TU Tryz.prog 25 Tryz.t25.desc := ⟨Tryz.underlying25⟩
theorem ti25 : TI Tryz.prog 25 (Tryz.t25.zero.getD undef) 1 8 := ⟨Tryz.t25, (by kernel_rfl), rfl, rfl, rfl⟩
theorem tu26 : TU Tryz.prog 26 Tryz.t26.desc := ⟨Tryz.underlying26⟩
theorem ti26 : TI Tryz.prog 26 (Tryz.t26.zero.getD undef) 1 8 := ⟨Tryz.t26, (by kernel_rfl), rfl, rfl, rfl⟩
theorem tu27 : TU Tryz.prog 27 Tryz.t27.desc := ⟨Tryz.underlying27⟩
theorem ti27 : TI Tryz.prog 27 (Tryz.t27.zero.getD undef) 1 8 := ⟨Tryz.t27, (by kernel_rfl), rfl, rfl, rfl⟩
theorem tu28 : TU Tryz.prog 28 Tryz.t28.desc := ⟨Tryz.underlying28⟩
theorem ti28 : TI Tryz.prog 28 (Tryz.t28.zero.getD undef) 1 8 := ⟨Tryz.t28, (by kernel_rfl), rfl, rfl, rfl⟩
theorem tu29 : TU Tryz.prog 29 Tryz.t29.desc := ⟨Tryz.underlying29⟩
theorem ti29 : TI Tryz.prog 29 (Tryz.t29.zero.getD undef) 1 24 := ⟨Tryz.t29, (by kernel_rfl), rfl, rfl, rfl⟩
theorem tu30 : TU Tryz.prog 30 Tryz.t30.desc := ⟨Tryz.underlying30⟩
theorem ti30 : TI Tryz.prog 30 (Tryz.t30.zero.getD undef) 1 8 := ⟨Tryz.t30, (by kernel_rfl), rfl, rfl, rfl⟩
theorem tu31 : TU Tryz.prog 31 Tryz.t31.desc := ⟨Tryz.underlying31⟩
theorem ti31 : TI Tryz.prog 31 (Tryz.t31.zero.getD undef) 1 8 := ⟨Tryz.t31, (by kernel_rfl), rfl, rfl, rfl⟩
theorem tu32 : TU Tryz.prog 32 Tryz.t32.desc := ⟨Tryz.underlying32⟩
theorem tk32 : TK Tryz.prog 32 (fun n : Int => Value.int .u64 n) := tk_int (h := ⟨Tryz.underlying32⟩)
theorem ti32 : TI Tryz.prog 32 (Tryz.t32.zero.getD undef) 1 8 := ⟨Tryz.t32, (by kernel_rfl), rfl, rfl, rfl⟩
theorem tu33 : TU Tryz.prog 33 Tryz.t33.desc := ⟨Tryz.underlying33⟩
theorem ti33 : TI Tryz.prog 33 (Tryz.t33.zero.getD undef) 1 8 := ⟨Tryz.t33, (by kernel_rfl), rfl, rfl, rfl⟩
theorem tu34 : TU Tryz.prog 34 Tryz.t34.desc := ⟨Tryz.underlying34⟩
theorem ti34 : TI Tryz.prog 34 (Tryz.t34.zero.getD undef) 1 24 := ⟨Tryz.t34, (by kernel_rfl), rfl, rfl, rfl⟩
theorem tu35 : TU Tryz.prog 35 Tryz.t35.desc := ⟨Tryz.underlying35⟩
theorem ti35 : TI Tryz.prog 35 (Tryz.t35.zero.getD undef) 5 40 := ⟨Tryz.t35, (by kernel_rfl), rfl, rfl, rfl⟩
theorem tu36 : TU Tryz.prog 36 Tryz.t35.desc := ⟨Tryz.underlying36⟩
theorem ti36 : TI Tryz.prog 36 (Tryz.t36.zero.getD undef) 5 40 := ⟨Tryz.t36, (by kernel_rfl), rfl, rfl, rfl⟩
theorem tu37 : TU Tryz.prog 37 Tryz.t37.desc := ⟨Tryz.underlying37⟩
theorem ti37 : TI Tryz.prog 37 (Tryz.t37.zero.getD undef) 10 72 := ⟨Tryz.t37, (by kernel_rfl), rfl, rfl, rfl⟩
theorem tu38 : TU Tryz.prog 38 Tryz.t37.desc := ⟨Tryz.underlying38⟩
theorem ti38 : TI Tryz.prog 38 (Tryz.t38.zero.getD undef) 10 72 := ⟨Tryz.t38, (by kernel_rfl), rfl, rfl, rfl⟩
theorem tu39 : TU Tryz.prog 39 Tryz.t3.desc := ⟨Tryz.underlying39⟩
theorem tk39 : TK Tryz.prog 39 (fun n : Int => Value.int .i64 n) := tk_int (h := ⟨Tryz.underlying39⟩)
theorem ti39 : TI Tryz.prog 39 (Tryz.t39.zero.getD undef) 1 8 := ⟨Tryz.t39, (by kernel_rfl), rfl, rfl, rfl⟩
theorem tu40 : TU Tryz.prog 40 Tryz.t40.desc := ⟨Tryz.underlying40⟩
theorem ti40 : TI Tryz.prog 40 (Tryz.t40.zero.getD undef) 1 0 := ⟨Tryz.t40, (by kernel_rfl), rfl, rfl, rfl⟩
theorem tu41 : TU Tryz.prog 41 Tryz.t41.desc := ⟨Tryz.underlying41⟩
theorem ti41 : TI Tryz.prog 41 (Tryz.t41.zero.getD undef) 1 8 := ⟨Tryz.t41, (by kernel_rfl), rfl, rfl, rfl⟩
theorem tu42 : TU Tryz.prog 42 Tryz.t42.desc := ⟨Tryz.underlying42⟩
theorem ti42 : TI Tryz.prog 42 (Tryz.t42.zero.getD undef) 1 8 := ⟨Tryz.t42, (by kernel_rfl), rfl, rfl, rfl⟩
theorem tu43 : TU Tryz.prog 43 Tryz.t43.desc := ⟨Tryz.underlying43⟩
theorem ti43 : TI Tryz.prog 43 (Tryz.t43.zero.getD undef) 1 24 := ⟨Tryz.t43, (by kernel_rfl), rfl, rfl, rfl⟩
theorem tu44 : TU Tryz.prog 44 Tryz.t44.desc := ⟨Tryz.underlying44⟩
theorem ti44 : TI Tryz.prog 44 (Tryz.t44.zero.getD undef) 1 8 := ⟨Tryz.t44, (by kernel_rfl), rfl, rfl, rfl⟩
theorem tu45 : TU Tryz.prog 45 Tryz.t45.desc := ⟨Tryz.underlying45⟩
theorem ti45 : TI Tryz.prog 45 (Tryz.t45.zero.getD undef) 1 8 := ⟨Tryz.t45, (by kernel_rfl), rfl, rfl, rfl⟩
theorem tu46 : TU Tryz.prog 46 Tryz.t46.desc := ⟨Tryz.underlying46⟩
theorem ti46 : TI Tryz.prog 46 (Tryz.t46.zero.getD undef) 1 8 := ⟨Tryz.t46, (by kernel_rfl), rfl, rfl, rfl⟩
theorem tu47 : TU Tryz.prog 47 Tryz.t47.desc := ⟨Tryz.underlying47⟩
theorem ti47 : TI Tryz.prog 47 (Tryz.t47.zero.getD undef) 1 8 := ⟨Tryz.t47, (by kernel_rfl), rfl, rfl, rfl⟩
theorem tu48 : TU Tryz.prog 48 Tryz.t48.desc := ⟨Tryz.underlying48⟩
theorem ti48 : TI Tryz.prog 48 (Tryz.t48.zero.getD undef) 1 0 := ⟨Tryz.t48, (by kernel_rfl), rfl, rfl, rfl⟩
theorem tu49 : TU Tryz.prog 49 Tryz.t49.desc := ⟨Tryz.underlying49⟩
theorem ti49 : TI Tryz.prog 49 (Tryz.t49.zero.getD undef) 1 8 := ⟨Tryz.t49, (by kernel_rfl), rfl, rfl, rfl⟩
theorem tu50 : TU Tryz.prog 50 Tryz.t50.desc := ⟨Tryz.underlying50⟩
theorem ti50 : TI Tryz.prog 50 (Tryz.t50.zero.getD undef) 8 64 := ⟨Tryz.t50, (by kernel_rfl), rfl, rfl, rfl⟩
theorem tu51 : TU Tryz.prog 51 Tryz.t50.desc := ⟨Tryz.underlying51⟩
theorem ti51 : TI Tryz.prog 51 (Tryz.t51.zero.getD undef) 8 64 := ⟨Tryz.t51, (by kernel_rfl), rfl, rfl, rfl⟩
theorem tu52 : TU Tryz.prog 52 Tryz.t52.desc := ⟨Tryz.underlying52⟩
theorem ti52 : TI Tryz.prog 52 (Tryz.t52.zero.getD undef) 1 8 := ⟨Tryz.t52, (by kernel_rfl), rfl, rfl, rfl⟩
theorem tu53 : TU Tryz.prog 53 Tryz.t53.desc := ⟨Tryz.underlying53⟩
theorem ti53 : TI Tryz.prog 53 (Tryz.t53.zero.getD undef) 1 0 := ⟨Tryz.t53, (by kernel_rfl), rfl, rfl, rfl⟩
theorem tu54 : TU Tryz.prog 54 Tryz.t54.desc := ⟨Tryz.underlying54⟩
theorem ti54 : TI Tryz.prog 54 (Tryz.t54.zero.getD undef) 1 8 := ⟨Tryz.t54, (by kernel_rfl), rfl, rfl, rfl⟩
theorem tu55 : TU Tryz.prog 55 Tryz.t55.desc := ⟨Tryz.underlying55⟩
theorem ti55 : TI Tryz.prog 55 (Tryz.t55.zero.getD undef) 1 8 := ⟨Tryz.t55, (by kernel_rfl), rfl, rfl, rfl⟩
theorem tu56 : TU Tryz.prog 56 Tryz.t56.desc := ⟨Tryz.underlying56⟩
theorem ti56 : TI Tryz.prog 56 (Tryz.t56.zero.getD undef) 1 24 := ⟨Tryz.t56, (by kernel_rfl), rfl, rfl, rfl⟩
theorem tu57 : TU Tryz.prog 57 Tryz.t57.desc := ⟨Tryz.underlying57⟩
theorem ti57 : TI Tryz.prog 57 (Tryz.t57.zero.getD undef) 1 8 := ⟨Tryz.t57, (by kernel_rfl), rfl, rfl, rfl⟩
theorem tu58 : TU Tryz.prog 58 Tryz.t58.desc := ⟨Tryz.underlying58⟩
theorem ti58 : TI Tryz.prog 58 (Tryz.t58.zero.getD undef) 1 8 := ⟨Tryz.t58, (by kernel_rfl), rfl, rfl, rfl⟩
theorem tu59 : TU Tryz.prog 59 Tryz.t59.desc := ⟨Tryz.underlying59⟩
theorem ti59 : TI Tryz.prog 59 (Tryz.t59.zero.getD undef) 1 24 := ⟨Tryz.t59, (by kernel_rfl), rfl, rfl, rfl⟩
theorem tu60 : TU Tryz.prog 60 Tryz.t60.desc := ⟨Tryz.underlying60⟩
theorem ti60 : TI Tryz.prog 60 (Tryz.t60.zero.getD undef) 1 24 := ⟨Tryz.t60, (by kernel_rfl), rfl, rfl, rfl⟩
theorem tu61 : TU Tryz.prog 61 Tryz.t61.desc := ⟨Tryz.underlying61⟩
theorem ti61 : TI Tryz.prog 61 (Tryz.t61.zero.getD undef) 1 8 := ⟨Tryz.t61, (by kernel_rfl), rfl, rfl, rfl⟩
theorem tu62 : TU Tryz.prog 62 Tryz.t62.desc := ⟨Tryz.underlying62⟩
theorem ti62 : TI Tryz.prog 62 (Tryz.t62.zero.getD undef) 1 8 := ⟨Tryz.t62, (by kernel_rfl), rfl, rfl, rfl⟩
theorem tu63 : TU Tryz.prog 63 Tryz.t63.desc := ⟨Tryz.underlying63⟩
theorem ti63 : TI Tryz.prog 63 (Tryz.t63.zero.getD undef) 1 8 := ⟨Tryz.t63, (by kernel_rfl), rfl, rfl, rfl⟩
theorem tu64 : TU Tryz.prog 64 Tryz.t64.desc := ⟨Tryz.underlying64⟩
theorem ti64 : TI Tryz.prog 64 (Tryz.t64.zero.getD undef) 1 0 := ⟨Tryz.t64, (by kernel_rfl), rfl, rfl, rfl⟩
theorem tu65 : TU Tryz.prog 65 Tryz.t65.desc := ⟨Tryz.underlying65⟩
theorem ti65 : TI Tryz.prog 65 (Tryz.t65.zero.getD undef) 1 8 := ⟨Tryz.t65, (by kernel_rfl), rfl, rfl, rfl⟩
theorem tu66 : TU Tryz.prog 66 Tryz.t66.desc := ⟨Tryz.underlying66⟩
theorem ti66 : TI Tryz.prog 66 (Tryz.t66.zero.getD undef) 1 8 := ⟨Tryz.t66, (by kernel_rfl), rfl, rfl, rfl⟩
theorem tu67 : TU Tryz.prog 67 Tryz.t67.desc := ⟨Tryz.underlying67⟩
theorem ti67 : TI Tryz.prog 67 (Tryz.t67.zero.getD undef) 1 24 := ⟨Tryz.t67, (by kernel_rfl), rfl, rfl, rfl⟩
theorem tu68 : TU Tryz.prog 68 Tryz.t68.desc := ⟨Tryz.underlying68⟩
theorem ti68 : TI Tryz.prog 68 (Tryz.t68.zero.getD undef) 1 8 := ⟨Tryz.t68, (by kernel_rfl), rfl, rfl, rfl⟩
theorem tu69 : TU Tryz.prog 69 Tryz.t69.desc := ⟨Tryz.underlying69⟩
theorem ti69 : TI Tryz.prog 69 (Tryz.t69.zero.getD undef) 1 24 := ⟨Tryz.t69, (by kernel_rfl), rfl, rfl, rfl⟩
theorem tu70 : TU Tryz.prog 70 Tryz.t70.desc := ⟨Tryz.underlying70⟩
theorem ti70 : TI Tryz.prog 70 (Tryz.t70.zero.getD undef) 1 8 := ⟨Tryz.t70, (by kernel_rfl), rfl, rfl, rfl⟩
theorem tu71 : TU Tryz.prog 71 Tryz.t71.desc := ⟨Tryz.underlying71⟩
theorem ti71 : TI Tryz.prog 71 (Tryz.t71.zero.getD undef) 1 24 := ⟨Tryz.t71, (by kernel_rfl), rfl, rfl, rfl⟩
theorem tu72 : TU Tryz.prog 72 Tryz.t72.desc := ⟨Tryz.underlying72⟩
theorem ti72 : TI Tryz.prog 72 (Tryz.t72.zero.getD undef) 6 56 := ⟨Tryz.t72, (by kernel_rfl), rfl, rfl, rfl⟩
theorem tu73 : TU Tryz.prog 73 Tryz.t72.desc := ⟨Tryz.underlying73⟩
theorem ti73 : TI Tryz.prog 73 (Tryz.t73.zero.getD undef) 6 56 := ⟨Tryz.t73, (by kernel_rfl), rfl, rfl, rfl⟩
theorem tu74 : TU Tryz.prog 74 Tryz.t74.desc := ⟨Tryz.underlying74⟩
theorem ti74 : TI Tryz.prog 74 (Tryz.t74.zero.getD undef) 1 8 := ⟨Tryz.t74, (by kernel_rfl), rfl, rfl, rfl⟩
theorem tu75 : TU Tryz.prog 75 Tryz.t75.desc := ⟨Tryz.underlying75⟩
theorem ti75 : TI Tryz.prog 75 (Tryz.t75.zero.getD undef) 1 0 := ⟨Tryz.t75, (by kernel_rfl), rfl, rfl, rfl⟩
theorem tu76 : TU Tryz.prog 76 Tryz.t76.desc := ⟨Tryz.underlying76⟩
theorem ti76 : TI Tryz.prog 76 (Tryz.t76.zero.getD undef) 1 8 := ⟨Tryz.t76, (by kernel_rfl), rfl, rfl, rfl⟩
theorem tu77 : TU Tryz.prog 77 Tryz.t77.desc := ⟨Tryz.underlying77⟩
theorem ti77 : TI Tryz.prog 77 (Tryz.t77.zero.getD undef) 1 0 := ⟨Tryz.t77, (by kernel_rfl), rfl, rfl, rfl⟩
theorem tu78 : TU Tryz.prog 78 Tryz.t78.desc := ⟨Tryz.underlying78⟩
theorem ti78 : TI Tryz.prog 78 (Tryz.t78.zero.getD undef) 1 8 := ⟨Tryz.t78, (by kernel_rfl), rfl, rfl, rfl⟩
theorem tu79 : TU Tryz.prog 79 Tryz.t79.desc := ⟨Tryz.underlying79⟩
theorem ti79 : TI Tryz.prog 79 (Tryz.t79.zero.getD undef) 1 0 := ⟨Tryz.t79, (by kernel_rfl), rfl, rfl, rfl⟩
theorem tu80 : TU Tryz.prog 80 Tryz.t80.desc := ⟨Tryz.underlying80⟩
theorem ti80 : TI Tryz.prog 80 (Tryz.t80.zero.getD undef) 1 8 := ⟨Tryz.t80, (by kernel_rfl), rfl, rfl, rfl⟩
theorem tu81 : TU Tryz.prog 81 Tryz.t81.desc := ⟨Tryz.underlying81⟩
theorem ti81 : TI Tryz.prog 81 (Tryz.t81.zero.getD undef) 1 8 := ⟨Tryz.t81, (by kernel_rfl), rfl, rfl, rfl⟩
theorem tu82 : TU Tryz.prog 82 Tryz.t82.desc := ⟨Tryz.underlying82⟩
theorem ti82 : TI Tryz.prog 82 (Tryz.t82.zero.getD undef) 1 8 := ⟨Tryz.t82, (by kernel_rfl), rfl, rfl, rfl⟩
theorem tu83 : TU Tryz.prog 83 Tryz.t83.desc := ⟨Tryz.underlying83⟩
theorem ti83 : TI Tryz.prog 83 (Tryz.t83.zero.getD undef) 1 8 := ⟨Tryz.t83, (by kernel_rfl), rfl, rfl, rfl⟩
theorem tu84 : TU Tryz.prog 84 Tryz.t84.desc := ⟨Tryz.underlying84⟩
theorem ti84 : TI Tryz.prog 84 (Tryz.t84.zero.getD undef) 1 8 := ⟨Tryz.t84, (by kernel_rfl), rfl, rfl, rfl⟩
theorem tu85 : TU Tryz.prog 85 Tryz.t85.desc := ⟨Tryz.underlying85⟩
theorem ti85 : TI Tryz.prog 85 (Tryz.t85.zero.getD undef) 1 8 := ⟨Tryz.t85, (by kernel_rfl), rfl, rfl, rfl⟩
theorem tu86 : TU Tryz.prog 86 Tryz.t86.desc := ⟨Tryz.underlying86⟩
theorem ti86 : TI Tryz.prog 86 (Tryz.t86.zero.getD undef) 1 8 := ⟨Tryz.t86, (by kernel_rfl), rfl, rfl, rfl⟩
theorem tu87 : TU Tryz.prog 87 Tryz.t87.desc := ⟨Tryz.underlying87⟩
theorem ti87 : TI Tryz.prog 87 (Tryz.t87.zero.getD undef) 1 8 := ⟨Tryz.t87, (by kernel_rfl), rfl, rfl, rfl⟩
theorem tu88 : TU Tryz.prog 88 Tryz.t88.desc := ⟨Tryz.underlying88⟩
theorem ti88 : TI Tryz.prog 88 (Tryz.t88.zero.getD undef) 1 8 := ⟨Tryz.t88, (by kernel_rfl), rfl, rfl, rfl⟩
theorem tu89 : TU Tryz.prog 89 Tryz.t89.desc := ⟨Tryz.underlying89⟩
theorem ti89 : TI Tryz.prog 89 (Tryz.t89.zero.getD undef) 1 8 := ⟨Tryz.t89, (by kernel_rfl), rfl, rfl, rfl⟩
theorem tu90 : TU Tryz.prog 90 Tryz.t90.desc := ⟨Tryz.underlying90⟩
theorem ti90 : TI Tryz.prog 90 (Tryz.t90.zero.getD undef) 1 24 := ⟨Tryz.t90, (by kernel_rfl), rfl, rfl, rfl⟩
theorem tu91 : TU Tryz.prog 91 Tryz.t91.desc := ⟨Tryz.underlying91⟩
theorem ti91 : TI Tryz.prog 91 (Tryz.t91.zero.getD undef) 1 8 := ⟨Tryz.t91, (by kernel_rfl), rfl, rfl, rfl⟩
theorem tu92 : TU Tryz.prog 92 Tryz.t92.desc := ⟨Tryz.underlying92⟩
theorem ti92 : TI Tryz.prog 92 (Tryz.t92.zero.getD undef) 1 8 := ⟨Tryz.t92, (by kernel_rfl), rfl, rfl, rfl⟩
theorem tu93 : TU Tryz.prog 93 Tryz.t93.desc := ⟨Tryz.underlying93⟩
theorem ti93 : TI Tryz.prog 93 (Tryz.t93.zero.getD undef) 1 24 := ⟨Tryz.t93, (by kernel_rfl), rfl, rfl, rfl⟩
theorem tu94 : TU Tryz.prog 94 Tryz.t94.desc := ⟨Tryz.underlying94⟩
theorem tk94 : TK Tryz.prog 94 (fun n : Int => Value.int .u32 n) := tk_int (h := ⟨Tryz.underlying94⟩)
theorem ti94 : TI Tryz.prog 94 (Tryz.t94.zero.getD undef) 1 4 := ⟨Tryz.t94, (by kernel_rfl), rfl, rfl, rfl⟩
theorem tu95 : TU Tryz.prog 95 Tryz.t95.desc := ⟨Tryz.underlying95⟩
theorem ti95 : TI Tryz.prog 95 (Tryz.t95.zero.getD undef) 1 8 := ⟨Tryz.t95, (by kernel_rfl), rfl, rfl, rfl⟩
theorem tu96 : TU Tryz.prog 96 Tryz.t96.desc := ⟨Tryz.underlying96⟩
theorem ti96 : TI Tryz.prog 96 (Tryz.t96.zero.getD undef) 2 16 := ⟨Tryz.t96, (by kernel_rfl), rfl, rfl, rfl⟩
theorem tu97 : TU Tryz.prog 97 Tryz.t96.desc := ⟨Tryz.underlying97⟩
theorem ti97 : TI Tryz.prog 97 (Tryz.t97.zero.getD undef) 2 16 := ⟨Tryz.t97, (by kernel_rfl), rfl, rfl, rfl⟩
theorem tu98 : TU Tryz.prog 98 Tryz.t98.desc := ⟨Tryz.underlying98⟩
theorem ti98 : TI Tryz.prog 98 (Tryz.t98.zero.getD undef) 1 8 := ⟨Tryz.t98, (by kernel_rfl), rfl, rfl, rfl⟩
theorem tu99 : TU Tryz.prog 99 Tryz.t99.desc := ⟨Tryz.underlying99⟩
theorem ti99 : TI Tryz.prog 99 (Tryz.t99.zero.getD undef) 1 8 := ⟨Tryz.t99, (by kernel_rfl), rfl, rfl, rfl⟩
theorem tu100 : TU Tryz.prog 100 Tryz.t100.desc := ⟨Tryz.underlying100⟩
theorem ti100 : TI Tryz.prog 100 (Tryz.t100.zero.getD undef) 1 8 := ⟨Tryz.t100, (by kernel_rfl), rfl, rfl, rfl⟩
theorem tu101 : TU Tryz.prog 101 Tryz.t101.desc := ⟨Tryz.underlying101⟩
theorem ti101 : TI Tryz.prog 101 (Tryz.t101.zero.getD undef) 1 8 := ⟨Tryz.t101, (by kernel_rfl), rfl, rfl, rfl⟩
theorem tu102 : TU Tryz.prog 102 Tryz.t102.desc := ⟨Tryz.underlying102⟩
theorem ti102 : TI Tryz.prog 102 (Tryz.t102.zero.getD undef) 1 8 := ⟨Tryz.t102, (by kernel_rfl), rfl, rfl, rfl⟩
theorem tu103 : TU Tryz.prog 103 Tryz.t103.desc := ⟨Tryz.underlying103⟩
theorem ti103 : TI Tryz.prog 103 (Tryz.t103.zero.getD undef) 1 8 := ⟨Tryz.t103, (by kernel_rfl), rfl, rfl, rfl⟩
theorem tu104 : TU Tryz.prog 104 Tryz.t104.desc := ⟨Tryz.underlying104⟩
theorem ti104 : TI Tryz.prog 104 (Tryz.t104.zero.getD undef) 3 24 := ⟨Tryz.t104, (by kernel_rfl), rfl, rfl, rfl⟩
theorem tu105 : TU Tryz.prog 105 Tryz.t104.desc := ⟨Tryz.underlying105⟩
theorem ti105 : TI Tryz.prog 105 (Tryz.t105.zero.getD undef) 3 24 := ⟨Tryz.t105, (by kernel_rfl), rfl, rfl, rfl⟩
theorem tu106 : TU Tryz.prog 106 Tryz.t106.desc := ⟨Tryz.underlying106⟩
theorem ti106 : TI Tryz.prog 106 (Tryz.t106.zero.getD undef) 1 8 := ⟨Tryz.t106, (by kernel_rfl), rfl, rfl, rfl⟩
theorem tu107 : TU Tryz.prog 107 Tryz.t107.desc := ⟨Tryz.underlying107⟩
theorem ti107 : TI Tryz.prog 107 (Tryz.t107.zero.getD undef) 3 24 := ⟨Tryz.t107, (by kernel_rfl), rfl, rfl, rfl⟩
theorem tu108 : TU Tryz.prog 108 Tryz.t107.desc := ⟨Tryz.underlying108⟩
theorem ti108 : TI Tryz.prog 108 (Tryz.t108.zero.getD undef) 3 24 := ⟨Tryz.t108, (by kernel_rfl), rfl, rfl, rfl⟩
theorem tu109 : TU Tryz.prog 109 Tryz.t109.desc := ⟨Tryz.underlying109⟩
theorem ti109 : TI Tryz.prog 109 (Tryz.t109.zero.getD undef) 2 16 := ⟨Tryz.t109, (by kernel_rfl), rfl, rfl, rfl⟩
theorem tu110 : TU Tryz.prog 110 Tryz.t109.desc := ⟨Tryz.underlying110⟩
theorem ti110 : TI Tryz.prog 110 (Tryz.t110.zero.getD undef) 2 16 := ⟨Tryz.t110, (by kernel_rfl), rfl, rfl, rfl⟩
theorem tu111 : TU Tryz.prog 111 Tryz.t111.desc := ⟨Tryz.underlying111⟩
theorem ti111 : TI Tryz.prog 111 (Tryz.t111.zero.getD undef) 1 8 := ⟨Tryz.t111, (by kernel_rfl), rfl, rfl, rfl⟩
theorem tu112 : TU Tryz.prog 112 Tryz.t112.desc := ⟨Tryz.underlying112⟩
theorem ti112 : TI Tryz.prog 112 (Tryz.t112.zero.getD undef) 2 16 := ⟨Tryz.t112, (by kernel_rfl), rfl, rfl, rfl⟩
theorem tu113 : TU Tryz.prog 113 Tryz.t113.desc := ⟨Tryz.underlying113⟩
theorem ti113 : TI Tryz.prog 113 (Tryz.t113.zero.getD undef) 1 24 := ⟨Tryz.t113, (by kernel_rfl), rfl, rfl, rfl⟩
theorem tu114 : TU Tryz.prog 114 Tryz.t114.desc := ⟨Tryz.underlying114⟩
theorem ti114 : TI Tryz.prog 114 (Tryz.t114.zero.getD undef) 6 64 := ⟨Tryz.t114, (by kernel_rfl), rfl, rfl, rfl⟩
theorem tu115 : TU Tryz.prog 115 Tryz.t114.desc := ⟨Tryz.underlying115⟩
theorem ti115 : TI Tryz.prog 115 (Tryz.t115.zero.getD undef) 6 64 := ⟨Tryz.t115, (by kernel_rfl), rfl, rfl, rfl⟩
theorem tu116 : TU Tryz.prog 116 Tryz.t116.desc := ⟨Tryz.underlying116⟩
theorem ti116 : TI Tryz.prog 116 (Tryz.t116.zero.getD undef) 1 8 := ⟨Tryz.t116, (by kernel_rfl), rfl, rfl, rfl⟩
theorem tu117 : TU Tryz.prog 117 Tryz.t117.desc := ⟨Tryz.underlying117⟩
theorem ti117 : TI Tryz.prog 117 (Tryz.t117.zero.getD undef) 1 8 := ⟨Tryz.t117, (by kernel_rfl), rfl, rfl, rfl⟩
theorem tu118 : TU Tryz.prog 118 Tryz.t118.desc := ⟨Tryz.underlying118⟩
theorem ti118 : TI Tryz.prog 118 (Tryz.t118.zero.getD undef) 1 8 := ⟨Tryz.t118, (by kernel_rfl), rfl, rfl, rfl⟩
theorem tu119 : TU Tryz.prog 119 Tryz.t119.desc := ⟨Tryz.underlying119⟩
theorem ti119 : TI Tryz.prog 119 (Tryz.t119.zero.getD undef) 1 24 := ⟨Tryz.t119, (by kernel_rfl), rfl, rfl, rfl⟩
theorem tu120 : TU Tryz.prog 120 Tryz.t120.desc := ⟨Tryz.underlying120⟩
theorem ti120 : TI Tryz.prog 120 (Tryz.t120.zero.getD undef) 4 64 := ⟨Tryz.t120, (by kernel_rfl), rfl, rfl, rfl⟩
theorem tu121 : TU Tryz.prog 121 Tryz.t120.desc := ⟨Tryz.underlying121⟩
theorem ti121 : TI Tryz.prog 121 (Tryz.t121.zero.getD undef) 4 64 := ⟨Tryz.t121, (by kernel_rfl), rfl, rfl, rfl⟩
theorem tu122 : TU Tryz.prog 122 Tryz.t122.desc := ⟨Tryz.underlying122⟩
theorem ti122 : TI Tryz.prog 122 (Tryz.t122.zero.getD undef) 1 8 := ⟨Tryz.t122, (by kernel_rfl), rfl, rfl, rfl⟩
theorem tu123 : TU Tryz.prog 123 Tryz.t123.desc := ⟨Tryz.underlying123⟩
theorem ti123 : TI Tryz.prog 123 (Tryz.t123.zero.getD undef) 1 8 := ⟨Tryz.t123, (by kernel_rfl), rfl, rfl, rfl⟩
theorem tu124 : TU Tryz.prog 124 Tryz.t124.desc := ⟨Tryz.underlying124⟩
theorem ti124 : TI Tryz.prog 124 (Tryz.t124.zero.getD undef) 1 8 := ⟨Tryz.t124, (by kernel_rfl), rfl, rfl, rfl⟩
theorem tu125 : TU Tryz.prog 125 Tryz.t125.desc := ⟨Tryz.underlying125⟩
theorem ti125 : TI Tryz.prog 125 (Tryz.t125.zero.getD undef) 2 16 := ⟨Tryz.t125, (by kernel_rfl), rfl, rfl, rfl⟩
theorem tu126 : TU Tryz.prog 126 Tryz.t125.desc := ⟨Tryz.underlying126⟩
theorem ti126 : TI Tryz.prog 126 (Tryz.t126.zero.getD undef) 2 16 := ⟨Tryz.t126, (by kernel_rfl), rfl, rfl, rfl⟩
theorem tu127 : TU Tryz.prog 127 Tryz.t127.desc := ⟨Tryz.underlying127⟩
theorem ti127 : TI Tryz.prog 127 (Tryz.t127.zero.getD undef) 3 24 := ⟨Tryz.t127, (by kernel_rfl), rfl, rfl, rfl⟩
theorem tu128 : TU Tryz.prog 128 Tryz.t127.desc := ⟨Tryz.underlying128⟩
theorem ti128 : TI Tryz.prog 128 (Tryz.t128.zero.getD undef) 3 24 := ⟨Tryz.t128, (by kernel_rfl), rfl, rfl, rfl⟩
theorem tu129 : TU Tryz.prog 129 Tryz.t129.desc := ⟨Tryz.underlying129⟩
theorem ti129 : TI Tryz.prog 129 (Tryz.t129.zero.getD undef) 1 8 := ⟨Tryz.t129, (by kernel_rfl), rfl, rfl, rfl⟩
theorem tu130 : TU Tryz.prog 130 Tryz.t130.desc := ⟨Tryz.underlying130⟩
theorem ti130 : TI Tryz.prog 130 (Tryz.t130.zero.getD undef) 1 8 := ⟨Tryz.t130, (by kernel_rfl), rfl, rfl, rfl⟩
theorem tu131 : TU Tryz.prog 131 Tryz.t131.desc := ⟨Tryz.underlying131⟩
theorem ti131 : TI Tryz.prog 131 (Tryz.t131.zero.getD undef) 1 0 := ⟨Tryz.t131, (by kernel_rfl), rfl, rfl, rfl⟩
theorem tu132 : TU Tryz.prog 132 Tryz.t132.desc := ⟨Tryz.underlying132⟩
theorem ti132 : TI Tryz.prog 132 (Tryz.t132.zero.getD undef) 1 8 := ⟨Tryz.t132, (by kernel_rfl), rfl, rfl, rfl⟩
theorem tu133 : TU Tryz.prog 133 Tryz.t133.desc := ⟨Tryz.underlying133⟩
theorem ti133 : TI Tryz.prog 133 (Tryz.t133.zero.getD undef) 1 0 := ⟨Tryz.t133, (by kernel_rfl), rfl, rfl, rfl⟩
theorem tu134 : TU Tryz.prog 134 Tryz.t134.desc := ⟨Tryz.underlying134⟩
theorem ti134 : TI Tryz.prog 134 (Tryz.t134.zero.getD undef) 1 8 := ⟨Tryz.t134, (by kernel_rfl), rfl, rfl, rfl⟩
theorem tu135 : TU Tryz.prog 135 Tryz.t135.desc := ⟨Tryz.underlying135⟩
theorem ti135 : TI Tryz.prog 135 (Tryz.t135.zero.getD undef) 1 8 := ⟨Tryz.t135, (by kernel_rfl), rfl, rfl, rfl⟩
theorem tu136 : TU Tryz.prog 136 Tryz.t136.desc := ⟨Tryz.underlying136⟩
theorem ti136 : TI Tryz.prog 136 (Tryz.t136.zero.getD undef) 1 8 := ⟨Tryz.t136, (by kernel_rfl), rfl, rfl, rfl⟩
theorem tu137 : TU Tryz.prog 137 Tryz.t137.desc := ⟨Tryz.underlying137⟩
theorem ti137 : TI Tryz.prog 137 (Tryz.t137.zero.getD undef) 1 8 := ⟨Tryz.t137, (by kernel_rfl), rfl, rfl, rfl⟩
theorem tu138 : TU Tryz.prog 138 Tryz.t138.desc := ⟨Tryz.underlying138⟩
theorem ti138 : TI Tryz.prog 138 (Tryz.t138.zero.getD undef) 1 0 := ⟨Tryz.t138, (by kernel_rfl), rfl, rfl, rfl⟩
theorem tu139 : TU Tryz.prog 139 Tryz.t139.desc := ⟨Tryz.underlying139⟩
theorem ti139 : TI Tryz.prog 139 (Tryz.t139.zero.getD undef) 1 8 := ⟨Tryz.t139, (by kernel_rfl), rfl, rfl, rfl⟩
theorem tu140 : TU Tryz.prog 140 Tryz.t140.desc := ⟨Tryz.underlying140⟩
theorem ti140 : TI Tryz.prog 140 (Tryz.t140.zero.getD undef) 1 8 := ⟨Tryz.t140, (by kernel_rfl), rfl, rfl, rfl⟩
theorem tu141 : TU Tryz.prog 141 Tryz.t141.desc := ⟨Tryz.underlying141⟩
theorem ti141 : TI Tryz.prog 141 (Tryz.t141.zero.getD undef) 1 8 := ⟨Tryz.t141, (by kernel_rfl), rfl, rfl, rfl⟩
theorem tu142 : TU Tryz.prog 142 Tryz.t142.desc := ⟨Tryz.underlying142⟩
theorem ti142 : TI Tryz.prog 142 (Tryz.t142.zero.getD undef) 1 0 := ⟨Tryz.t142, (by kernel_rfl), rfl, rfl, rfl⟩
theorem tu143 : TU Tryz.prog 143 Tryz.t143.desc := ⟨Tryz.underlying143⟩
theorem ti143 : TI Tryz.prog 143 (Tryz.t143.zero.getD undef) 1 8 := ⟨Tryz.t143, (by kernel_rfl), rfl, rfl, rfl⟩
theorem tu144 : TU Tryz.prog 144 Tryz.t144.desc := ⟨Tryz.underlying144⟩
theorem ti144 : TI Tryz.prog 144 (Tryz.t144.zero.getD undef) 4 32 := ⟨Tryz.t144, (by kernel_rfl), rfl, rfl, rfl⟩
theorem tu145 : TU Tryz.prog 145 Tryz.t144.desc := ⟨Tryz.underlying145⟩
theorem ti145 : TI Tryz.prog 145 (Tryz.t145.zero.getD undef) 4 32 := ⟨Tryz.t145, (by kernel_rfl), rfl, rfl, rfl⟩
theorem tu146 : TU Tryz.prog 146 Tryz.t146.desc := ⟨Tryz.underlying146⟩
theorem ti146 : TI Tryz.prog 146 (Tryz.t146.zero.getD undef) 1 8 := ⟨Tryz.t146, (by kernel_rfl), rfl, rfl, rfl⟩
theorem tu147 : TU Tryz.prog 147 Tryz.t147.desc := ⟨Tryz.underlying147⟩
theorem ti147 : TI Tryz.prog 147 (Tryz.t147.zero.getD undef) 1 8 := ⟨Tryz.t147, (by kernel_rfl), rfl, rfl, rfl⟩
theorem tu148 : TU Tryz.prog 148 Tryz.t148.desc := ⟨Tryz.underlying148⟩
theorem ti148 : TI Tryz.prog 148 (Tryz.t148.zero.getD undef) 1 8 := ⟨Tryz.t148, (by kernel_rfl), rfl, rfl, rfl⟩
theorem tu149 : TU Tryz.prog 149 Tryz.t149.desc := ⟨Tryz.underlying149⟩
theorem ti149 : TI Tryz.prog 149 (Tryz.t149.zero.getD undef) 1 8 := ⟨Tryz.t149, (by kernel_rfl), rfl, rfl, rfl⟩
theorem tu150 : TU Tryz.prog 150 Tryz.t150.desc := ⟨Tryz.underlying150⟩
theorem tk150 : TK Tryz.prog 150 (fun n : Int => Value.int .u64 n) := tk_int (h := ⟨Tryz.underlying150⟩)
theorem ti150 : TI Tryz.prog 150 (Tryz.t150.zero.getD undef) 1 8 := ⟨Tryz.t150, (by kernel_rfl), rfl, rfl, rfl⟩
theorem tu151 : TU Tryz.prog 151 Tryz.t151.desc := ⟨Tryz.underlying151⟩
theorem ti151 : TI Tryz.prog 151 (Tryz.t151.zero.getD undef) 1 8 := ⟨Tryz.t151, (by kernel_rfl), rfl, rfl, rfl⟩
theorem tu152 : TU Tryz.prog 152 Tryz.t152.desc := ⟨Tryz.underlying152⟩
theorem ti152 : TI Tryz.prog 152 (Tryz.t152.zero.getD undef) 1 8 := ⟨Tryz.t152, (by kernel_rfl), rfl, rfl, rfl⟩
theorem tu153 : TU Tryz.prog 153 Tryz.t153.desc := ⟨Tryz.underlying153⟩
theorem ti153 : TI Tryz.prog 153 (Tryz.t153.zero.getD undef) 1 8 := ⟨Tryz.t153, (by kernel_rfl), rfl, rfl, rfl⟩
theorem tu154 : TU Tryz.prog 154 Tryz.t154.desc := ⟨Tryz.underlying154⟩
theorem ti154 : TI Tryz.prog 154 (Tryz.t154.zero.getD undef) 1 8 := ⟨Tryz.t154, (by kernel_rfl), rfl, rfl, rfl⟩
theorem tu155 : TU Tryz.prog 155 Tryz.t155.desc := ⟨Tryz.underlying155⟩
theorem ti155 : TI Tryz.prog 155 (Tryz.t155.zero.getD undef) 3 24 := ⟨Tryz.t155, (by kernel_rfl), rfl, rfl, rfl⟩
theorem tu156 : TU Tryz.prog 156 Tryz.t155.desc := ⟨Tryz.underlying156⟩
theorem ti156 : TI Tryz.prog 156 (Tryz.t156.zero.getD undef) 3 24 := ⟨Tryz.t156, (by kernel_rfl), rfl, rfl, rfl⟩
theorem tu157 : TU Tryz.prog 157 Tryz.t157.desc := ⟨Tryz.underlying157⟩
theorem ti157 : TI Tryz.prog 157 (Tryz.t157.zero.getD undef) 1 8 := ⟨Tryz.t157, (by kernel_rfl), rfl, rfl, rfl⟩
theorem tu158 : TU Tryz.prog 158 Tryz.t158.desc := ⟨Tryz.underlying158⟩
theorem ti158 : TI Tryz.prog 158 (Tryz.t158.zero.getD undef) 1 8 := ⟨Tryz.t158, (by kernel_rfl), rfl, rfl, rfl⟩
theorem tu159 : TU Tryz.prog 159 Tryz.t159.desc := ⟨Tryz.underlying159⟩
theorem ti159 : TI Tryz.prog 159 (Tryz.t159.zero.getD undef) 7 56 := ⟨Tryz.t159, (by kernel_rfl), rfl, rfl, rfl⟩
theorem tu160 : TU Tryz.prog 160 Tryz.t159.desc := ⟨Tryz.underlying160⟩
theorem ti160 : TI Tryz.prog 160 (Tryz.t160.zero.getD undef) 7 56 := ⟨Tryz.t160, (by kernel_rfl), rfl, rfl, rfl⟩
theorem tu161 : TU Tryz.prog 161 Tryz.t161.desc := ⟨Tryz.underlying161⟩
theorem ti161 : TI Tryz.prog 161 (Tryz.t161.zero.getD undef) 1 8 := ⟨Tryz.t161, (by kernel_rfl), rfl, rfl, rfl⟩
theorem tu162 : TU Tryz.prog 162 Tryz.t162.desc := ⟨Tryz.underlying162⟩
theorem ti162 : TI Tryz.prog 162 (Tryz.t162.zero.getD undef) 1 8 := ⟨Tryz.t162, (by kernel_rfl), rfl, rfl, rfl⟩
theorem tu163 : TU Tryz.prog 163 Tryz.t163.desc := ⟨Tryz.underlying163⟩
theorem ti163 : TI Tryz.prog 163 (Tryz.t163.zero.getD undef) 1 8 := ⟨Tryz.t163, (by kernel_rfl), rfl, rfl, rfl⟩
theorem tu164 : TU Tryz.prog 164 Tryz.t164.desc := ⟨Tryz.underlying164⟩
theorem ti164 : TI Tryz.prog 164 (Tryz.t164.zero.getD undef) 1 8 := ⟨Tryz.t164, (by kernel_rfl), rfl, rfl, rfl⟩
theorem tu165 : TU Tryz.prog 165 Tryz.t165.desc := ⟨Tryz.underlying165⟩
theorem ti165 : TI Tryz.prog 165 (Tryz.t165.zero.getD undef) 6 48 := ⟨Tryz.t165, (by kernel_rfl), rfl, rfl, rfl⟩
theorem tu166 : TU Tryz.prog 166 Tryz.t165.desc := ⟨Tryz.underlying166⟩
theorem ti166 : TI Tryz.prog 166 (Tryz.t166.zero.getD undef) 6 48 := ⟨Tryz.t166, (by kernel_rfl), rfl, rfl, rfl⟩
theorem tu167 : TU Tryz.prog 167 Tryz.t167.desc := ⟨Tryz.underlying167⟩
theorem ti167 : TI Tryz.prog 167 (Tryz.t167.zero.getD undef) 1 0 := ⟨Tryz.t167, (by kernel_rfl), rfl, rfl, rfl⟩
theorem tu168 : TU Tryz.prog 168 Tryz.t168.desc := ⟨Tryz.underlying168⟩
theorem ti168 : TI Tryz.prog 168 (Tryz.t168.zero.getD undef) 1 8 := ⟨Tryz.t168, (by kernel_rfl), rfl, rfl, rfl⟩
theorem tu169 : TU Tryz.prog 169 Tryz.t169.desc := ⟨Tryz.underlying169⟩
theorem ti169 : TI Tryz.prog 169 (Tryz.t169.zero.getD undef) 1 8 := ⟨Tryz.t169, (by kernel_rfl), rfl, rfl, rfl⟩
theorem tu170 : TU Tryz.prog 170 Tryz.t170.desc := ⟨Tryz.underlying170⟩
theorem ti170 : TI Tryz.prog 170 (Tryz.t170.zero.getD undef) 1 8 := ⟨Tryz.t170, (by kernel_rfl), rfl, rfl, rfl⟩
theorem tu171 : TU Tryz.prog 171 Tryz.t171.desc := ⟨Tryz.underlying171⟩
theorem ti171 : TI Tryz.prog 171 (Tryz.t171.zero.getD undef) 1 8 := ⟨Tryz.t171, (by kernel_rfl), rfl, rfl, rfl⟩
theorem tu172 : TU Tryz.prog 172 Tryz.t172.desc := ⟨Tryz.underlying172⟩
theorem ti172 : TI Tryz.prog 172 (Tryz.t172.zero.getD undef) 1 8 := ⟨Tryz.t172, (by kernel_rfl), rfl, rfl, rfl⟩
theorem tu173 : TU Tryz.prog 173 Tryz.t173.desc := ⟨Tryz.underlying173⟩
theorem ti173 : TI Tryz.prog 173 (Tryz.t173.zero.getD undef) 1 8 := ⟨Tryz.t173, (by kernel_rfl), rfl, rfl, rfl⟩
theorem tu174 : TU Tryz.prog 174 Tryz.t174.desc := ⟨Tryz.underlying174⟩
theorem ti174 : TI Tryz.prog 174 (Tryz.t174.zero.getD undef) 1 8 := ⟨Tryz.t174, (by kernel_rfl), rfl, rfl, rfl⟩
theorem tu175 : TU Tryz.prog 175 Tryz.t175.desc := ⟨Tryz.underlying175⟩
theorem ti175 : TI Tryz.prog 175 (Tryz.t175.zero.getD undef) 1 8 := ⟨Tryz.t175, (by kernel_rfl), rfl, rfl, rfl⟩
theorem tu176 : TU Tryz.prog 176 Tryz.t176.desc := ⟨Tryz.underlying176⟩
theorem ti176 : TI Tryz.prog 176 (Tryz.t176.zero.getD undef) 1 8 := ⟨Tryz.t176, (by kernel_rfl), rfl, rfl, rfl⟩
theorem tu177 : TU Tryz.prog 177 Tryz.t177.desc := ⟨Tryz.underlying177⟩
theorem ti177 : TI Tryz.prog 177 (Tryz.t177.zero.getD undef) 1 0 := ⟨Tryz.t177, (by kernel_rfl), rfl, rfl, rfl⟩
theorem tu178 : TU Tryz.prog 178 Tryz.t178.desc := ⟨Tryz.underlying178⟩
theorem ti178 : TI Tryz.prog 178 (Tryz.t178.zero.getD undef) 1 8 := ⟨Tryz.t178, (by kernel_rfl), rfl, rfl, rfl⟩
theorem tu179 : TU Tryz.prog 179 Tryz.t179.desc := ⟨Tryz.underlying179⟩
theorem ti179 : TI Tryz.prog 179 (Tryz.t179.zero.getD undef) 1 8 := ⟨Tryz.t179, (by kernel_rfl), rfl, rfl, rfl⟩
theorem tu180 : TU Tryz.prog 180 Tryz.t180.desc := ⟨Tryz.underlying180⟩
theorem ti180 : TI Tryz.prog 180 (Tryz.t180.zero.getD undef) 1 8 := ⟨Tryz.t180, (by kernel_rfl), rfl, rfl, rfl⟩
theorem tu181 : TU Tryz.prog 181 Tryz.t181.desc := ⟨Tryz.underlying181⟩
theorem ti181 : TI Tryz.prog 181 (Tryz.t181.zero.getD undef) 1 8 := ⟨Tryz.t181, (by kernel_rfl), rfl, rfl, rfl⟩
theorem tu182 : TU Tryz.prog 182 Tryz.t182.desc := ⟨Tryz.underlying182⟩
theorem ti182 : TI Tryz.prog 182 (Tryz.t182.zero.getD undef) 1 0 := ⟨Tryz.t182, (by kernel_rfl), rfl, rfl, rfl⟩
theorem tu183 : TU Tryz.prog 183 Tryz.t183.desc := ⟨Tryz.underlying183⟩
theorem ti183 : TI Tryz.prog 183 (Tryz.t183.zero.getD undef) 1 8 := ⟨Tryz.t183, (by kernel_rfl), rfl, rfl, rfl⟩
theorem tu184 : TU Tryz.prog 184 Tryz.t184.desc := ⟨Tryz.underlying184⟩
theorem ti184 : TI Tryz.prog 184 (Tryz.t184.zero.getD undef) 1 8 := ⟨Tryz.t184, (by kernel_rfl), rfl, rfl, rfl⟩
theorem tu185 : TU Tryz.prog 185 Tryz.t185.desc := ⟨Tryz.underlying185⟩
theorem ti185 : TI Tryz.prog 185 (Tryz.t185.zero.getD undef) 1 8 := ⟨Tryz.t185, (by kernel_rfl), rfl, rfl, rfl⟩
theorem tu186 : TU Tryz.prog 186 Tryz.t186.desc := ⟨Tryz.underlying186⟩
theorem ti186 : TI Tryz.prog 186 (Tryz.t186.zero.getD undef) 1 8 := ⟨Tryz.t186, (by kernel_rfl), rfl, rfl, rfl⟩
theorem tu187 : TU Tryz.prog 187 Tryz.t187.desc := ⟨Tryz.underlying187⟩
theorem ti187 : TI Tryz.prog 187 (Tryz.t187.zero.getD undef) 3 24 := ⟨Tryz.t187, (by kernel_rfl), rfl, rfl, rfl⟩
theorem tu188 : TU Tryz.prog 188 Tryz.t187.desc := ⟨Tryz.underlying188⟩
theorem ti188 : TI Tryz.prog 188 (Tryz.t188.zero.getD undef) 3 24 := ⟨Tryz.t188, (by kernel_rfl), rfl, rfl, rfl⟩
theorem tu189 : TU Tryz.prog 189 Tryz.t189.desc := ⟨Tryz.underlying189⟩
theorem ti189 : TI Tryz.prog 189 (Tryz.t189.zero.getD undef) 1 0 := ⟨Tryz.t189, (by kernel_rfl), rfl, rfl, rfl⟩
theorem tu190 : TU Tryz.prog 190 Tryz.t190.desc := ⟨Tryz.underlying190⟩
theorem ti190 : TI Tryz.prog 190 (Tryz.t190.zero.getD undef) 1 8 := ⟨Tryz.t190, (by kernel_rfl), rfl, rfl, rfl⟩
theorem tu191 : TU Tryz.prog 191 Tryz.t191.desc := ⟨Tryz.underlying191⟩
theorem ti191 : TI Tryz.prog 191 (Tryz.t191.zero.getD undef) 3 40 := ⟨Tryz.t191, (by kernel_rfl), rfl, rfl, rfl⟩
theorem tu192 : TU Tryz.prog 192 Tryz.t191.desc := ⟨Tryz.underlying192⟩
theorem ti192 : TI Tryz.prog 192 (Tryz.t192.zero.getD undef) 3 40 := ⟨Tryz.t192, (by kernel_rfl), rfl, rfl, rfl⟩
theorem tu193 : TU Tryz.prog 193 Tryz.t193.desc := ⟨Tryz.underlying193⟩
theorem ti193 : TI Tryz.prog 193 (Tryz.t193.zero.getD undef) 4 32 := ⟨Tryz.t193, (by kernel_rfl), rfl, rfl, rfl⟩
theorem tu194 : TU Tryz.prog 194 Tryz.t194.desc := ⟨Tryz.underlying194⟩
theorem ti194 : TI Tryz.prog 194 (Tryz.t194.zero.getD undef) 5 40 := ⟨Tryz.t194, (by kernel_rfl), rfl, rfl, rfl⟩
theorem tu195 : TU Tryz.prog 195 Tryz.t194.desc := ⟨Tryz.underlying195⟩
theorem ti195 : TI Tryz.prog 195 (Tryz.t195.zero.getD undef) 5 40 := ⟨Tryz.t195, (by kernel_rfl), rfl, rfl, rfl⟩
theorem tu196 : TU Tryz.prog 196 Tryz.t196.desc := ⟨Tryz.underlying196⟩
theorem ti196 : TI Tryz.prog 196 (Tryz.t196.zero.getD undef) 35 280 := ⟨Tryz.t196, (by kernel_rfl), rfl, rfl, rfl⟩
theorem tu197 : TU Tryz.prog 197 Tryz.t197.desc := ⟨Tryz.underlying197⟩
theorem ti197 : TI Tryz.prog 197 (Tryz.t197.zero.getD undef) 35 280 := ⟨Tryz.t197, (by kernel_rfl), rfl, rfl, rfl⟩
theorem tu198 : TU Tryz.prog 198 Tryz.t197.desc := ⟨Tryz.underlying198⟩
theorem ti198 : TI Tryz.prog 198 (Tryz.t198.zero.getD undef) 35 280 := ⟨Tryz.t198, (by kernel_rfl), rfl, rfl, rfl⟩
theorem tu199 : TU Tryz.prog 199 Tryz.t199.desc := ⟨Tryz.underlying199⟩
theorem ti199 : TI Tryz.prog 199 (Tryz.t199.zero.getD undef) 4 48 := ⟨Tryz.t199, (by kernel_rfl), rfl, rfl, rfl⟩
theorem tu200 : TU Tryz.prog 200 Tryz.t199.desc := ⟨Tryz.underlying200⟩
theorem ti200 : TI Tryz.prog 200 (Tryz.t200.zero.getD undef) 4 48 := ⟨Tryz.t200, (by kernel_rfl), rfl, rfl, rfl⟩
theorem tu201 : TU Tryz.prog 201 Tryz.t201.desc := ⟨Tryz.underlying201⟩
theorem ti201 : TI Tryz.prog 201 (Tryz.t201.zero.getD undef) 1 0 := ⟨Tryz.t201, (by kernel_rfl), rfl, rfl, rfl⟩
theorem tu202 : TU Tryz.prog 202 Tryz.t202.desc := ⟨Tryz.underlying202⟩
theorem ti202 : TI Tryz.prog 202 (Tryz.t202.zero.getD undef) 1 8 := ⟨Tryz.t202, (by kernel_rfl), rfl, rfl, rfl⟩
theorem tu203 : TU Tryz.prog 203 Tryz.t203.desc := ⟨Tryz.underlying203⟩
theorem ti203 : TI Tryz.prog 203 (Tryz.t203.zero.getD undef) 1 8 := ⟨Tryz.t203, (by kernel_rfl), rfl, rfl, rfl⟩
theorem tu204 : TU Tryz.prog 204 Tryz.t204.desc := ⟨Tryz.underlying204⟩
theorem ti204 : TI Tryz.prog 204 (Tryz.t204.zero.getD undef) 1 8 := ⟨Tryz.t204, (by kernel_rfl), rfl, rfl, rfl⟩
theorem tu205 : TU Tryz.prog 205 Tryz.t205.desc := ⟨Tryz.underlying205⟩
theorem ti205 : TI Tryz.prog 205 (Tryz.t205.zero.getD undef) 1 8 := ⟨Tryz.t205, (by kernel_rfl), rfl, rfl, rfl⟩
theorem tu206 : TU Tryz.prog 206 Tryz.t206.desc := ⟨Tryz.underlying206⟩
theorem ti206 : TI Tryz.prog 206 (Tryz.t206.zero.getD undef) 1 8 := ⟨Tryz.t206, (by kernel_rfl), rfl, rfl, rfl⟩
theorem tu207 : TU Tryz.prog 207 Tryz.t207.desc := ⟨Tryz.underlying207⟩
theorem ti207 : TI Tryz.prog 207 (Tryz.t207.zero.getD undef) 2 4 := ⟨Tryz.t207, (by kernel_rfl), rfl, rfl, rfl⟩
theorem tu208 : TU Tryz.prog 208 Tryz.t207.desc := ⟨Tryz.underlying208⟩
theorem ti208 : TI Tryz.prog 208 (Tryz.t208.zero.getD undef) 2 4 := ⟨Tryz.t208, (by kernel_rfl), rfl, rfl, rfl⟩
theorem tu209 : TU Tryz.prog 209 Tryz.t209.desc := ⟨Tryz.underlying209⟩
theorem ti209 : TI Tryz.prog 209 (Tryz.t209.zero.getD undef) 1 8 := ⟨Tryz.t209, (by kernel_rfl), rfl, rfl, rfl⟩
theorem tu210 : TU Tryz.prog 210 Tryz.t210.desc := ⟨Tryz.underlying210⟩
theorem ti210 : TI Tryz.prog 210 (Tryz.t210.zero.getD undef) 1 8 := ⟨Tryz.t210, (by kernel_rfl), rfl, rfl, rfl⟩
theorem tu211 : TU Tryz.prog 211 Tryz.t211.desc := ⟨Tryz.underlying211⟩
theorem ti211 : TI Tryz.prog 211 (Tryz.t211.zero.getD undef) 1 0 := ⟨Tryz.t211, (by kernel_rfl), rfl, rfl, rfl⟩
theorem tu212 : TU Tryz.prog 212 Tryz.t212.desc := ⟨Tryz.underlying212⟩
theorem ti212 : TI Tryz.prog 212 (Tryz.t212.zero.getD undef) 1 8 := ⟨Tryz.t212, (by kernel_rfl), rfl, rfl, rfl⟩
theorem tu213 : TU Tryz.prog 213 Tryz.t213.desc := ⟨Tryz.underlying213⟩
theorem ti213 : TI Tryz.prog 213 (Tryz.t213.zero.getD undef) 1 0 := ⟨Tryz.t213, (by kernel_rfl), rfl, rfl, rfl⟩
theorem tu214 : TU Tryz.prog 214 Tryz.t214.desc := ⟨Tryz.underlying214⟩
theorem ti214 : TI Tryz.prog 214 (Tryz.t214.zero.getD undef) 1 8 := ⟨Tryz.t214, (by kernel_rfl), rfl, rfl, rfl⟩
theorem tu215 : TU Tryz.prog 215 Tryz.t215.desc := ⟨Tryz.underlying215⟩
theorem ti215 : TI Tryz.prog 215 (Tryz.t215.zero.getD undef) 1 8 := ⟨Tryz.t215, (by kernel_rfl), rfl, rfl, rfl⟩
theorem tu216 : TU Tryz.prog 216 Tryz.t216.desc := ⟨Tryz.underlying216⟩
theorem ti216 : TI Tryz.prog 216 (Tryz.t216.zero.getD undef) 1 8 := ⟨Tryz.t216, (by kernel_rfl), rfl, rfl, rfl⟩
theorem tu217 : TU Tryz.prog 217 Tryz.t217.desc := ⟨Tryz.underlying217⟩
theorem ti217 : TI Tryz.prog 217 (Tryz.t217.zero.getD undef) 1 0 := ⟨Tryz.t217, (by kernel_rfl), rfl, rfl, rfl⟩
theorem tu218 : TU Tryz.prog 218 Tryz.t218.desc := ⟨Tryz.underlying218⟩
theorem ti218 : TI Tryz.prog 218 (Tryz.t218.zero.getD undef) 1 8 := ⟨Tryz.t218, (by kernel_rfl), rfl, rfl, rfl⟩
theorem tu219 : TU Tryz.prog 219 Tryz.t219.desc := ⟨Tryz.underlying219⟩
theorem ti219 : TI Tryz.prog 219 (Tryz.t219.zero.getD undef) 1 8 := ⟨Tryz.t219, (by kernel_rfl), rfl, rfl, rfl⟩
theorem tu220 : TU Tryz.prog 220 Tryz.t220.desc := ⟨Tryz.underlying220⟩
theorem ti220 : TI Tryz.prog 220 (Tryz.t220.zero.getD undef) 1 8 := ⟨Tryz.t220, (by kernel_rfl), rfl, rfl, rfl⟩
theorem tu221 : TU Tryz.prog 221 Tryz.t221.desc := ⟨Tryz.underlying221⟩
theorem ti221 : TI Tryz.prog 221 (Tryz.t221.zero.getD undef) 1 8 := ⟨Tryz.t221, (by kernel_rfl), rfl, rfl, rfl⟩
theorem tu222 : TU Tryz.prog 222 Tryz.t222.desc := ⟨Tryz.underlying222⟩
theorem ti222 : TI Tryz.prog 222 (Tryz.t222.zero.getD undef) 1 24 := ⟨Tryz.t222, (by kernel_rfl), rfl, rfl, rfl⟩
theorem tu223 : TU Tryz.prog 223 Tryz.t223.desc := ⟨Tryz.underlying223⟩
theorem ti223 : TI Tryz.prog 223 (Tryz.t223.zero.getD undef) 3 56 := ⟨Tryz.t223, (by kernel_rfl), rfl, rfl, rfl⟩
theorem tu224 : TU Tryz.prog 224 Tryz.t223.desc := ⟨Tryz.underlying224⟩
theorem ti224 : TI Tryz.prog 224 (Tryz.t224.zero.getD undef) 3 56 := ⟨Tryz.t224, (by kernel_rfl), rfl, rfl, rfl⟩
theorem tu225 : TU Tryz.prog 225 Tryz.t225.desc := ⟨Tryz.underlying225⟩
theorem ti225 : TI Tryz.prog 225 (Tryz.t225.zero.getD undef) 1 24 := ⟨Tryz.t225, (by kernel_rfl), rfl, rfl, rfl⟩
theorem tu226 : TU Tryz.prog 226 Tryz.t226.desc := ⟨Tryz.underlying226⟩
theorem ti226 : TI Tryz.prog 226 (Tryz.t226.zero.getD undef) 3 56 := ⟨Tryz.t226, (by kernel_rfl), rfl, rfl, rfl⟩
theorem tu227 : TU Tryz.prog 227 Tryz.t226.desc := ⟨Tryz.underlying227⟩
theorem ti227 : TI Tryz.prog 227 (Tryz.t227.zero.getD undef) 3 56 := ⟨Tryz.t227, (by kernel_rfl), rfl, rfl, rfl⟩
theorem tu228 : TU Tryz.prog 228 Tryz.t228.desc := ⟨Tryz.underlying228⟩
theorem ti228 : TI Tryz.prog 228 (Tryz.t228.zero.getD undef) 1 24 := ⟨Tryz.t228, (by kernel_rfl), rfl, rfl, rfl⟩
theorem tu229 : TU Tryz.prog 229 Tryz.t229.desc := ⟨Tryz.underlying229⟩
theorem ti229 : TI Tryz.prog 229 (Tryz.t229.zero.getD undef) 3 56 := ⟨Tryz.t229, (by kernel_rfl), rfl, rfl, rfl⟩
theorem tu230 : TU Tryz.prog 230 Tryz.t229.desc := ⟨Tryz.underlying230⟩
theorem ti230 : TI Tryz.prog 230 (Tryz.t230.zero.getD undef) 3 56 := ⟨Tryz.t230, (by kernel_rfl), rfl, rfl, rfl⟩
theorem tu231 : TU Tryz.prog 231 Tryz.t231.desc := ⟨Tryz.underlying231⟩
theorem ti231 : TI Tryz.prog 231 (Tryz.t231.zero.getD undef) 1 8 := ⟨Tryz.t231, (by kernel_rfl), rfl, rfl, rfl⟩
theorem tu232 : TU Tryz.prog 232 Tryz.t232.desc := ⟨Tryz.underlying232⟩
theorem ti232 : TI Tryz.prog 232 (Tryz.t232.zero.getD undef) 2 32 := ⟨Tryz.t232, (by kernel_rfl), rfl, rfl, rfl⟩
theorem tu233 : TU Tryz.prog 233 Tryz.t232.desc := ⟨Tryz.underlying233⟩
theorem ti233 : TI Tryz.prog 233 (Tryz.t233.zero.getD undef) 2 32 := ⟨Tryz.t233, (by kernel_rfl), rfl, rfl, rfl⟩
theorem tu234 : TU Tryz.prog 234 Tryz.t234.desc := ⟨Tryz.underlying234⟩
theorem ti234 : TI Tryz.prog 234 (Tryz.t234.zero.getD undef) 1 8 := ⟨Tryz.t234, (by kernel_rfl), rfl, rfl, rfl⟩
theorem tu235 : TU Tryz.prog 235 Tryz.t235.desc := ⟨Tryz.underlying235⟩
theorem ti235 : TI Tryz.prog 235 (Tryz.t235.zero.getD undef) 1 8 := ⟨Tryz.t235, (by kernel_rfl), rfl, rfl, rfl⟩
theorem tu236 : TU Tryz.prog 236 Tryz.t235.desc := ⟨Tryz.underlying236⟩
theorem ti236 : TI Tryz.prog 236 (Tryz.t236.zero.getD undef) 1 8 := ⟨Tryz.t236, (by kernel_rfl), rfl, rfl, rfl⟩
theorem tu237 : TU Tryz.prog 237 Tryz.t237.desc := ⟨Tryz.underlying237⟩
theorem ti237 : TI Tryz.prog 237 (Tryz.t237.zero.getD undef) 1 8 := ⟨Tryz.t237, (by kernel_rfl), rfl, rfl, rfl⟩
theorem tu238 : TU Tryz.prog 238 Tryz.t238.desc := ⟨Tryz.underlying238⟩
theorem ti238 : TI Tryz.prog 238 (Tryz.t238.zero.getD undef) 1 8 := ⟨Tryz.t238, (by kernel_rfl), rfl, rfl, rfl⟩
theorem tu239 : TU Tryz.prog 239 Tryz.t239.desc := ⟨Tryz.underlying239⟩
theorem ti239 : TI Tryz.prog 239 (Tryz.t239.zero.getD undef) 2 16 := ⟨Tryz.t239, (by kernel_rfl), rfl, rfl, rfl⟩
theorem tu240 : TU Tryz.prog 240 Tryz.t239.desc := ⟨Tryz.underlying240⟩
theorem ti240 : TI Tryz.prog 240 (Tryz.t240.zero.getD undef) 2 16 := ⟨Tryz.t240, (by kernel_rfl), rfl, rfl, rfl⟩
theorem tu241 : TU Tryz.prog 241 Tryz.t241.desc := ⟨Tryz.underlying241⟩
theorem ti241 : TI Tryz.prog 241 (Tryz.t241.zero.getD undef) 1 8 := ⟨Tryz.t241, (by kernel_rfl), rfl, rfl, rfl⟩
theorem tu242 : TU Tryz.prog 242 Tryz.t242.desc := ⟨Tryz.underlying242⟩
theorem ti242 : TI Tryz.prog 242 (Tryz.t242.zero.getD undef) 3 24 := ⟨Tryz.t242, (by kernel_rfl), rfl, rfl, rfl⟩
theorem tu243 : TU Tryz.prog 243 Tryz.t242.desc := ⟨Tryz.underlying243⟩
theorem ti243 : TI Tryz.prog 243 (Tryz.t243.zero.getD undef) 3 24 := ⟨Tryz.t243, (by kernel_rfl), rfl, rfl, rfl⟩
theorem tu244 : TU Tryz.prog 244 Tryz.t244.desc := ⟨Tryz.underlying244⟩
theorem ti244 : TI Tryz.prog 244 (Tryz.t244.zero.getD undef) 1 8 := ⟨Tryz.t244, (by kernel_rfl), rfl, rfl, rfl⟩
theorem tu245 : TU Tryz.prog 245 Tryz.t245.desc := ⟨Tryz.underlying245⟩
theorem ti245 : TI Tryz.prog 245 (Tryz.t245.zero.getD undef) 1 8 := ⟨Tryz.t245, (by kernel_rfl), rfl, rfl, rfl⟩
theorem tu246 : TU Tryz.prog 246 Tryz.t246.desc := ⟨Tryz.underlying246⟩
theorem ti246 : TI Tryz.prog 246 (Tryz.t246.zero.getD undef) 1 8 := ⟨Tryz.t246, (by kernel_rfl), rfl, rfl, rfl⟩
theorem tu247 : TU Tryz.prog 247 Tryz.t247.desc := ⟨Tryz.underlying247⟩
theorem ti247 : TI Tryz.prog 247 (Tryz.t247.zero.getD undef) 1 8 := ⟨Tryz.t247, (by kernel_rfl), rfl, rfl, rfl⟩
theorem tu248 : TU Tryz.prog 248 Tryz.t248.desc := ⟨Tryz.underlying248⟩
theorem ti248 : TI Tryz.prog 248 (Tryz.t248.zero.getD undef) 2 16 := ⟨Tryz.t248, (by kernel_rfl), rfl, rfl, rfl⟩
theorem tu249 : TU Tryz.prog 249 Tryz.t248.desc := ⟨Tryz.underlying249⟩
theorem ti249 : TI Tryz.prog 249 (Tryz.t249.zero.getD undef) 2 16 := ⟨Tryz.t249, (by kernel_rfl), rfl, rfl, rfl⟩
theorem tu250 : TU Tryz.prog 250 Tryz.t250.desc := ⟨Tryz.underlying250⟩
theorem ti250 : TI Tryz.prog 250 (Tryz.t250.zero.getD undef) 5 40 := ⟨Tryz.t250, (by kernel_rfl), rfl, rfl, rfl⟩
theorem tu251 : TU Tryz.prog 251 Tryz.t250.desc := ⟨Tryz.underlying251⟩
theorem ti251 : TI Tryz.prog 251 (Tryz.t251.zero.getD undef) 5 40 := ⟨Tryz.t251, (by kernel_rfl), rfl, rfl, rfl⟩
theorem tu252 : TU Tryz.prog 252 Tryz.t252.desc := ⟨Tryz.underlying252⟩
theorem ti252 : TI Tryz.prog 252 (Tryz.t252.zero.getD undef) 1 8 := ⟨Tryz.t252, (by kernel_rfl), rfl, rfl, rfl⟩
theorem tu253 : TU Tryz.prog 253 Tryz.t253.desc := ⟨Tryz.underlying253⟩
theorem ti253 : TI Tryz.prog 253 (Tryz.t253.zero.getD undef) 1 0 := ⟨Tryz.t253, (by kernel_rfl), rfl, rfl, rfl⟩
theorem tu254 : TU Tryz.prog 254 Tryz.t254.desc := ⟨Tryz.underlying254⟩
theorem ti254 : TI Tryz.prog 254 (Tryz.t254.zero.getD undef) 1 8 := ⟨Tryz.t254, (by kernel_rfl), rfl, rfl, rfl⟩
theorem tu255 : TU Tryz.prog 255 Tryz.t255.desc := ⟨Tryz.underlying255⟩
theorem ti255 : TI Tryz.prog 255 (Tryz.t255.zero.getD undef) 1 8 := ⟨Tryz.t255, (by kernel_rfl), rfl, rfl, rfl⟩
theorem tu256 : TU Tryz.prog 256 Tryz.t256.desc := ⟨Tryz.underlying256⟩
theorem ti256 : TI Tryz.prog 256 (Tryz.t256.zero.getD undef) 9 72 := ⟨Tryz.t256, (by kernel_rfl), rfl, rfl, rfl⟩
theorem tu257 : TU Tryz.prog 257 Tryz.t256.desc := ⟨Tryz.underlying257⟩
theorem ti257 : TI Tryz.prog 257 (Tryz.t257.zero.getD undef) 9 72 := ⟨Tryz.t257, (by kernel_rfl), rfl, rfl, rfl⟩
theorem tu258 : TU Tryz.prog 258 Tryz.t258.desc := ⟨Tryz.underlying258⟩
theorem ti258 : TI Tryz.prog 258 (Tryz.t258.zero.getD undef) 1 8 := ⟨Tryz.t258, (by kernel_rfl), rfl, rfl, rfl⟩
theorem tu259 : TU Tryz.prog 259 Tryz.t259.desc := ⟨Tryz.underlying259⟩
theorem ti259 : TI Tryz.prog 259 (Tryz.t259.zero.getD undef) 1 8 := ⟨Tryz.t259, (by kernel_rfl), rfl, rfl, rfl⟩
theorem tu260 : TU Tryz.prog 260 Tryz.t260.desc := ⟨Tryz.underlying260⟩
theorem ti260 : TI Tryz.prog 260 (Tryz.t260.zero.getD undef) 1 8 := ⟨Tryz.t260, (by kernel_rfl), rfl, rfl, rfl⟩
theorem tu261 : TU Tryz.prog 261 Tryz.t261.desc := ⟨Tryz.underlying261⟩
theorem ti261 : TI Tryz.prog 261 (Tryz.t261.zero.getD undef) 1 8 := ⟨Tryz.t261, (by kernel_rfl), rfl, rfl, rfl⟩
theorem tu262 : TU Tryz.prog 262 Tryz.t262.desc := ⟨Tryz.underlying262⟩
theorem ti262 : TI Tryz.prog 262 (Tryz.t262.zero.getD undef) 1 8 := ⟨Tryz.t262, (by kernel_rfl), rfl, rfl, rfl⟩
theorem tu263 : TU Tryz.prog 263 Tryz.t263.desc := ⟨Tryz.underlying263⟩
theorem ti263 : TI Tryz.prog 263 (Tryz.t263.zero.getD undef) 1 0 := ⟨Tryz.t263, (by kernel_rfl), rfl, rfl, rfl⟩
theorem tu264 : TU Tryz.prog 264 Tryz.t264.desc := ⟨Tryz.underlying264⟩
theorem ti264 : TI Tryz.prog 264 (Tryz.t264.zero.getD undef) 1 8 := ⟨Tryz.t264, (by kernel_rfl), rfl, rfl, rfl⟩
theorem tu265 : TU Tryz.prog 265 Tryz.t265.desc := ⟨Tryz.underlying265⟩
theorem ti265 : TI Tryz.prog 265 (Tryz.t265.zero.getD undef) 1 8 := ⟨Tryz.t265, (by kernel_rfl), rfl, rfl, rfl⟩
theorem tu266 : TU Tryz.prog 266 Tryz.t266.desc := ⟨Tryz.underlying266⟩
theorem ti266 : TI Tryz.prog 266 (Tryz.t266.zero.getD undef) 4 32 := ⟨Tryz.t266, (by kernel_rfl), rfl, rfl, rfl⟩
theorem tu267 : TU Tryz.prog 267 Tryz.t266.desc := ⟨Tryz.underlying267⟩
theorem ti267 : TI Tryz.prog 267 (Tryz.t267.zero.getD undef) 4 32 := ⟨Tryz.t267, (by kernel_rfl), rfl, rfl, rfl⟩
theorem tu268 : TU Tryz.prog 268 Tryz.t268.desc := ⟨Tryz.underlying268⟩
theorem ti268 : TI Tryz.prog 268 (Tryz.t268.zero.getD undef) 1 0 := ⟨Tryz.t268, (by kernel_rfl), rfl, rfl, rfl⟩
theorem tu269 : TU Tryz.prog 269 Tryz.t269.desc := ⟨Tryz.underlying269⟩
theorem ti269 : TI Tryz.prog 269 (Tryz.t269.zero.getD undef) 1 8 := ⟨Tryz.t269, (by kernel_rfl), rfl, rfl, rfl⟩
theorem tu270 : TU Tryz.prog 270 Tryz.t270.desc := ⟨Tryz.underlying270⟩
theorem ti270 : TI Tryz.prog 270 (Tryz.t270.zero.getD undef) 1 8 := ⟨Tryz.t270, (by kernel_rfl), rfl, rfl, rfl⟩
theorem tu271 : TU Tryz.prog 271 Tryz.t271.desc := ⟨Tryz.underlying271⟩
theorem ti271 : TI Tryz.prog 271 (Tryz.t271.zero.getD undef) 1 8 := ⟨Tryz.t271, (by kernel_rfl), rfl, rfl, rfl⟩
theorem tu272 : TU Tryz.prog 272 Tryz.t272.desc := ⟨Tryz.underlying272⟩
theorem ti272 : TI Tryz.prog 272 (Tryz.t272.zero.getD undef) 1 0 := ⟨Tryz.t272, (by kernel_rfl), rfl, rfl, rfl⟩
theorem tu273 : TU Tryz.prog 273 Tryz.t273.desc := ⟨Tryz.underlying273⟩
theorem ti273 : TI Tryz.prog 273 (Tryz.t273.zero.getD undef) 1 8 := ⟨Tryz.t273, (by kernel_rfl), rfl, rfl, rfl⟩
theorem tu274 : TU Tryz.prog 274 Tryz.t274.desc := ⟨Tryz.underlying274⟩
theorem ti274 : TI Tryz.prog 274 (Tryz.t274.zero.getD undef) 1 8 := ⟨Tryz.t274, (by kernel_rfl), rfl, rfl, rfl⟩
theorem tu275 : TU Tryz.prog 275 Tryz.t275.desc := ⟨Tryz.underlying275⟩
theorem ti275 : TI Tryz.prog 275 (Tryz.t275.zero.getD undef) 1 8 := ⟨Tryz.t275, (by kernel_rfl), rfl, rfl, rfl⟩
theorem tu276 : TU Tryz.prog 276 Tryz.t276.desc := ⟨Tryz.underlying276⟩
theorem ti276 : TI Tryz.prog 276 (Tryz.t276.zero.getD undef) 1 0 := ⟨Tryz.t276, (by kernel_rfl), rfl, rfl, rfl⟩
theorem tu277 : TU Tryz.prog 277 Tryz.t277.desc := ⟨Tryz.underlying277⟩
theorem ti277 : TI Tryz.prog 277 (Tryz.t277.zero.getD undef) 1 8 := ⟨Tryz.t277, (by kernel_rfl), rfl, rfl, rfl⟩
theorem tu278 : TU Tryz.prog 278 Tryz.t278.desc := ⟨Tryz.underlying278⟩
theorem ti278 : TI Tryz.prog 278 (Tryz.t278.zero.getD undef) 1 8 := ⟨Tryz.t278, (by kernel_rfl), rfl, rfl, rfl⟩
theorem tu279 : TU Tryz.prog 279 Tryz.t279.desc := ⟨Tryz.underlying279⟩
theorem ti279 : TI Tryz.prog 279 (Tryz.t279.zero.getD undef) 1 8 := ⟨Tryz.t279, (by kernel_rfl), rfl, rfl, rfl⟩
theorem tu280 : TU Tryz.prog 280 Tryz.t280.desc := ⟨Tryz.underlying280⟩
theorem ti280 : TI Tryz.prog 280 (Tryz.t280.zero.getD undef) 1 8 := ⟨Tryz.t280, (by kernel_rfl), rfl, rfl, rfl⟩
theorem tu281 : TU Tryz.prog 281 Tryz.t281.desc := ⟨Tryz.underlying281⟩
theorem ti281 : TI Tryz.prog 281 (Tryz.t281.zero.getD undef) 2 16 := ⟨Tryz.t281, (by kernel_rfl), rfl, rfl, rfl⟩
theorem tu282 : TU Tryz.prog 282 Tryz.t281.desc := ⟨Tryz.underlying282⟩
theorem ti282 : TI Tryz.prog 282 (Tryz.t282.zero.getD undef) 2 16 := ⟨Tryz.t282, (by kernel_rfl), rfl, rfl, rfl⟩
theorem tu283 : TU Tryz.prog 283 Tryz.t283.desc := ⟨Tryz.underlying283⟩
theorem ti283 : TI Tryz.prog 283 (Tryz.t283.zero.getD undef) 1 8 := ⟨Tryz.t283, (by kernel_rfl), rfl, rfl, rfl⟩
theorem tu284 : TU Tryz.prog 284 Tryz.t284.desc := ⟨Tryz.underlying284⟩
theorem ti284 : TI Tryz.prog 284 (Tryz.t284.zero.getD undef) 1 8 := ⟨Tryz.t284, (by kernel_rfl), rfl, rfl, rfl⟩
theorem tu285 : TU Tryz.prog 285 Tryz.t285.desc := ⟨Tryz.underlying285⟩
theorem ti285 : TI Tryz.prog 285 (Tryz.t285.zero.getD undef) 1 8 := ⟨Tryz.t285, (by kernel_rfl), rfl, rfl, rfl⟩
theorem tu286 : TU Tryz.prog 286 Tryz.t286.desc := ⟨Tryz.underlying286⟩
theorem ti286 : TI Tryz.prog 286 (Tryz.t286.zero.getD undef) 1 8 := ⟨Tryz.t286, (by kernel_rfl), rfl, rfl, rfl⟩
theorem tu287 : TU Tryz.prog 287 Tryz.t286.desc := ⟨Tryz.underlying287⟩
theorem ti287 : TI Tryz.prog 287 (Tryz.t287.zero.getD undef) 1 8 := ⟨Tryz.t287, (by kernel_rfl), rfl, rfl, rfl⟩
theorem tu288 : TU Tryz.prog 288 Tryz.t288.desc := ⟨Tryz.underlying288⟩
theorem ti288 : TI Tryz.prog 288 (Tryz.t288.zero.getD undef) 1 8 := ⟨Tryz.t288, (by kernel_rfl), rfl, rfl, rfl⟩
theorem tu289 : TU Tryz.prog 289 Tryz.t289.desc := ⟨Tryz.underlying289⟩
theorem ti289 : TI Tryz.prog 289 (Tryz.t289.zero.getD undef) 1 8 := ⟨Tryz.t289, (by kernel_rfl), rfl, rfl, rfl⟩
theorem tu290 : TU Tryz.prog 290 Tryz.t290.desc := ⟨Tryz.underlying290⟩
theorem ti290 : TI Tryz.prog 290 (Tryz.t290.zero.getD undef) 1 8 := ⟨Tryz.t290, (by kernel_rfl), rfl, rfl, rfl⟩
theorem tu291 : TU Tryz.prog 291 Tryz.t291.desc := ⟨Tryz.underlying291⟩
theorem ti291 : TI Tryz.prog 291 (Tryz.t291.zero.getD undef) 1 8 := ⟨Tryz.t291, (by kernel_rfl), rfl, rfl, rfl⟩
theorem tu292 : TU Tryz.prog 292 Tryz.t292.desc := ⟨Tryz.underlying292⟩
theorem ti292 : TI Tryz.prog 292 (Tryz.t292.zero.getD undef) 1 8 := ⟨Tryz.t292, (by kernel_rfl), rfl, rfl, rfl⟩
theorem tu293 : TU Tryz.prog 293 Tryz.t293.desc := ⟨Tryz.underlying293⟩
theorem ti293 : TI Tryz.prog 293 (Tryz.t293.zero.getD undef) 4096 4096 := ⟨Tryz.t293, (by kernel_rfl), rfl, rfl, rfl⟩
theorem tu294 : TU Tryz.prog 294 Tryz.t294.desc := ⟨Tryz.underlying294⟩
theorem ti294 : TI Tryz.prog 294 (Tryz.t294.zero.getD undef) 1 8 := ⟨Tryz.t294, (by kernel_rfl), rfl, rfl, rfl⟩
theorem tu295 : TU Tryz.prog 295 Tryz.t295.desc := ⟨Tryz.underlying295⟩
theorem ti295 : TI Tryz.prog 295 (Tryz.t295.zero.getD undef) 1 8 := ⟨Tryz.t295, (by kernel_rfl), rfl, rfl, rfl⟩
theorem tu296 : TU Tryz.prog 296 Tryz.t296.desc := ⟨Tryz.underlying296⟩
theorem ti296 : TI Tryz.prog 296 (Tryz.t296.zero.getD undef) 1 8 := ⟨Tryz.t296, (by kernel_rfl), rfl, rfl, rfl⟩
theorem tu297 : TU Tryz.prog 297 Tryz.t297.desc := ⟨Tryz.underlying297⟩
theorem ti297 : TI Tryz.prog 297 (Tryz.t297.zero.getD undef) 1 8 := ⟨Tryz.t297, (by kernel_rfl), rfl, rfl, rfl⟩
theorem tu298 : TU Tryz.prog 298 Tryz.t298.desc := ⟨Tryz.underlying298⟩
theorem ti298 : TI Tryz.prog 298 (Tryz.t298.zero.getD undef) 1 8 := ⟨Tryz.t298, (by kernel_rfl), rfl, rfl, rfl⟩
theorem tu299 : TU Tryz.prog 299 Tryz.t299.desc := ⟨Tryz.underlying299⟩
theorem ti299 : TI Tryz.prog 299 (Tryz.t299.zero.getD undef) 1 8 := ⟨Tryz.t299, (by kernel_rfl), rfl, rfl, rfl⟩
theorem tu300 : TU Tryz.prog 300 Tryz.t300.desc := ⟨Tryz.underlying300⟩
theorem ti300 : TI Tryz.prog 300 (Tryz.t300.zero.getD undef) 1 8 := ⟨Tryz.t300, (by kernel_rfl), rfl, rfl, rfl⟩
theorem tu301 : TU Tryz.prog 301 Tryz.t301.desc := ⟨Tryz.underlying301⟩
theorem ti301 : TI Tryz.prog 301 (Tryz.t301.zero.getD undef) 1 8 := ⟨Tryz.t301, (by kernel_rfl), rfl, rfl, rfl⟩
theorem tu302 : TU Tryz.prog 302 Tryz.t302.desc := ⟨Tryz.underlying302⟩
theorem ti302 : TI Tryz.prog 302 (Tryz.t302.zero.getD undef) 1 8 := ⟨Tryz.t302, (by kernel_rfl), rfl, rfl, rfl⟩
theorem tu303 : TU Tryz.prog 303 Tryz.t303.desc := ⟨Tryz.underlying303⟩
theorem ti303 : TI Tryz.prog 303 (Tryz.t303.zero.getD undef) 1 8 := ⟨Tryz.t303, (by kernel_rfl), rfl, rfl, rfl⟩
theorem tu304 : TU Tryz.prog 304 Tryz.t304.desc := ⟨Tryz.underlying304⟩
theorem ti304 : TI Tryz.prog 304 (Tryz.t304.zero.getD undef) 1 8 := ⟨Tryz.t304, (by kernel_rfl), rfl, rfl, rfl⟩
theorem tu305 : TU Tryz.prog 305 Tryz.t305.desc := ⟨Tryz.underlying305⟩
theorem ti305 : TI Tryz.prog 305 (Tryz.t305.zero.getD undef) 1 24 := ⟨Tryz.t305, (by kernel_rfl), rfl, rfl, rfl⟩
theorem tu306 : TU Tryz.prog 306 Tryz.t306.desc := ⟨Tryz.underlying306⟩
theorem ti306 : TI Tryz.prog 306 (Tryz.t306.zero.getD undef) 1 8 := ⟨Tryz.t306, (by kernel_rfl), rfl, rfl, rfl⟩
theorem tu307 : TU Tryz.prog 307 Tryz.t307.desc := ⟨Tryz.underlying307⟩
theorem ti307 : TI Tryz.prog 307 (Tryz.t307.zero.getD undef) 1 8 := ⟨Tryz.t307, (by kernel_rfl), rfl, rfl, rfl⟩
theorem tu308 : TU Tryz.prog 308 Tryz.t308.desc := ⟨Tryz.underlying308⟩
theorem ti308 : TI Tryz.prog 308 (Tryz.t308.zero.getD undef) 1 8 := ⟨Tryz.t308, (by kernel_rfl), rfl, rfl, rfl⟩
theorem tu309 : TU Tryz.prog 309 Tryz.t309.desc := ⟨Tryz.underlying309⟩
theorem ti309 : TI Tryz.prog 309 (Tryz.t309.zero.getD undef) 1 8 := ⟨Tryz.t309, (by kernel_rfl), rfl, rfl, rfl⟩
theorem tu310 : TU Tryz.prog 310 Tryz.t310.desc := ⟨Tryz.underlying310⟩
theorem ti310 : TI Tryz.prog 310 (Tryz.t310.zero.getD undef) 1 8 := ⟨Tryz.t310, (by kernel_rfl), rfl, rfl, rfl⟩
theorem tu311 : TU Tryz.prog 311 Tryz.t311.desc := ⟨Tryz.underlying311⟩
theorem ti311 : TI Tryz.prog 311 (Tryz.t311.zero.getD undef) 4 40 := ⟨Tryz.t311, (by kernel_rfl), rfl, rfl, rfl⟩
theorem tu312 : TU Tryz.prog 312 Tryz.t311.desc := ⟨Tryz.underlying312⟩
theorem ti312 : TI Tryz.prog 312 (Tryz.t312.zero.getD undef) 4 40 := ⟨Tryz.t312, (by kernel_rfl), rfl, rfl, rfl⟩
theorem tu313 : TU Tryz.prog 313 Tryz.t313.desc := ⟨Tryz.underlying313⟩
theorem ti313 : TI Tryz.prog 313 (Tryz.t313.zero.getD undef) 0 0 := ⟨Tryz.t313, (by kernel_rfl), rfl, rfl, rfl⟩
theorem tu314 : TU Tryz.prog 314 Tryz.t314.desc := ⟨Tryz.underlying314⟩
theorem ti314 : TI Tryz.prog 314 (Tryz.t314.zero.getD undef) 0 0 := ⟨Tryz.t314, (by kernel_rfl), rfl, rfl, rfl⟩
theorem tu315 : TU Tryz.prog 315 Tryz.t314.desc := ⟨Tryz.underlying315⟩
theorem ti315 : TI Tryz.prog 315 (Tryz.t315.zero.getD undef) 0 0 := ⟨Tryz.t315, (by kernel_rfl), rfl, rfl, rfl⟩
theorem tu316 : TU Tryz.prog 316 Tryz.t5.desc := ⟨Tryz.underlying316⟩
theorem tk316 : TK Tryz.prog 316 (fun n : Int => Value.int .u8 n) := tk_int (h := ⟨Tryz.underlying316⟩)
theorem ti316 : TI Tryz.prog 316 (Tryz.t316.zero.getD undef) 1 1 := ⟨Tryz.t316, (by kernel_rfl), rfl, rfl, rfl⟩
theorem tu317 : TU Tryz.prog 317 Tryz.t5.desc := ⟨Tryz.underlying317⟩
theorem tk317 : TK Tryz.prog 317 (fun n : Int => Value.int .u8 n) := tk_int (h := ⟨Tryz.underlying317⟩)
theorem ti317 : TI Tryz.prog 317 (Tryz.t317.zero.getD undef) 1 1 := ⟨Tryz.t317, (by kernel_rfl), rfl, rfl, rfl⟩
theorem tu318 : TU Tryz.prog 318 Tryz.t318.desc := ⟨Tryz.underlying318⟩
theorem ti318 : TI Tryz.prog 318 (Tryz.t318.zero.getD undef) 1 8 := ⟨Tryz.t318, (by kernel_rfl), rfl, rfl, rfl⟩
theorem tu319 : TU Tryz.prog 319 Tryz.t319.desc := ⟨Tryz.underlying319⟩
theorem ti319 : TI Tryz.prog 319 (Tryz.t319.zero.getD undef) 1 8 := ⟨Tryz.t319, (by kernel_rfl), rfl, rfl, rfl⟩
theorem tu320 : TU Tryz.prog 320 Tryz.t21.desc := ⟨Tryz.underlying320⟩
theorem tk320 : TK Tryz.prog 320 (fun n : Int => Value.int .i32 n) := tk_int (h := ⟨Tryz.underlying320⟩)
theorem ti320 : TI Tryz.prog 320 (Tryz.t320.zero.getD undef) 1 4 := ⟨Tryz.t320, (by kernel_rfl), rfl, rfl, rfl⟩
theorem tu321 : TU Tryz.prog 321 Tryz.t21.desc := ⟨Tryz.underlying321⟩
theorem tk321 : TK Tryz.prog 321 (fun n : Int => Value.int .i32 n) := tk_int (h := ⟨Tryz.underlying321⟩)
theorem ti321 : TI Tryz.prog 321 (Tryz.t321.zero.getD undef) 1 4 := ⟨Tryz.t321, (by kernel_rfl), rfl, rfl, rfl⟩
theorem tu322 : TU Tryz.prog 322 Tryz.t322.desc := ⟨Tryz.underlying322⟩
theorem ti322 : TI Tryz.prog 322 (Tryz.t322.zero.getD undef) 11 48 := ⟨Tryz.t322, (by kernel_rfl), rfl, rfl, rfl⟩
theorem tu323 : TU Tryz.prog 323 Tryz.t322.desc := ⟨Tryz.underlying323⟩
theorem ti323 : TI Tryz.prog 323 (Tryz.t323.zero.getD undef) 11 48 := ⟨Tryz.t323, (by kernel_rfl), rfl, rfl, rfl⟩
theorem tu324 : TU Tryz.prog 324 Tryz.t324.desc := ⟨Tryz.underlying324⟩
theorem ti324 : TI Tryz.prog 324 (Tryz.t324.zero.getD undef) 1 8 := ⟨Tryz.t324, (by kernel_rfl), rfl, rfl, rfl⟩
theorem tu325 : TU Tryz.prog 325 Tryz.t325.desc := ⟨Tryz.underlying325⟩
theorem ti325 : TI Tryz.prog 325 (Tryz.t325.zero.getD undef) 1 8 := ⟨Tryz.t325, (by kernel_rfl), rfl, rfl, rfl⟩
theorem tu326 : TU Tryz.prog 326 Tryz.t326.desc := ⟨Tryz.underlying326⟩
theorem ti326 : TI Tryz.prog 326 (Tryz.t326.zero.getD undef) 1 8 := ⟨Tryz.t326, (by kernel_rfl), rfl, rfl, rfl⟩
theorem en2 : IsEnt Tryz.prog 2 := ⟨Tryz.call2⟩
theorem en3 : IsEnt Tryz.prog 3 := ⟨Tryz.call3⟩
theorem en4 : IsEnt Tryz.prog 4 := ⟨Tryz.call4⟩
theorem en5 : IsEnt Tryz.prog 5 := ⟨Tryz.call5⟩
theorem en6 : IsEnt Tryz.prog 6 := ⟨Tryz.call6⟩
theorem en7 : IsEnt Tryz.prog 7 := ⟨Tryz.call7⟩
theorem en8 : IsEnt Tryz.prog 8 := ⟨Tryz.call8⟩
theorem en9 : IsEnt Tryz.prog 9 := ⟨Tryz.call9⟩
theorem en10 : IsEnt Tryz.prog 10 := ⟨Tryz.call10⟩
theorem en11 : IsEnt Tryz.prog 11 := ⟨Tryz.call11⟩
theorem en12 : IsEnt Tryz.prog 12 := ⟨Tryz.call12⟩
theorem en13 : IsEnt Tryz.prog 13 := ⟨Tryz.call13⟩
theorem en14 : IsEnt Tryz.prog 14 := ⟨Tryz.call14⟩
theorem en15 : IsEnt Tryz.prog 15 := ⟨Tryz.call15⟩
theorem en16 : IsEnt Tryz.prog 16 := ⟨Tryz.call16⟩
theorem en17 : IsEnt Tryz.prog 17 := ⟨Tryz.call17⟩
theorem en18 : IsEnt Tryz.prog 18 := ⟨Tryz.call18⟩
theorem en19 : IsEnt Tryz.prog 19 := ⟨Tryz.call19⟩
theorem en20 : IsEnt Tryz.prog 20 := ⟨Tryz.call20⟩
theorem en21 : IsEnt Tryz.prog 21 := ⟨Tryz.call21⟩
theorem en22 : IsEnt Tryz.prog 22 := ⟨Tryz.call22⟩
theorem en23 : IsEnt Tryz.prog 23 := ⟨Tryz.call23⟩
theorem en24 : IsEnt Tryz.prog 24 := ⟨Tryz.call24⟩
theorem en25 : IsEnt Tryz.prog 25 := ⟨Tryz.call25⟩
theorem en26 : IsEnt Tryz.prog 26 := ⟨Tryz.call26⟩
theorem en27 : IsEnt Tryz.prog 27 := ⟨Tryz.call27⟩
theorem en28 : IsEnt Tryz.prog 28 := ⟨Tryz.call28⟩
theorem en29 : IsEnt Tryz.prog 29 := ⟨Tryz.call29⟩
theorem en30 : IsEnt Tryz.prog 30 := ⟨Tryz.call30⟩
theorem en31 : IsEnt Tryz.prog 31 := ⟨Tryz.call31⟩
theorem en32 : IsEnt Tryz.prog 32 := ⟨Tryz.call32⟩
theorem en33 : IsEnt Tryz.prog 33 := ⟨Tryz.call33⟩
theorem en34 : IsEnt Tryz.prog 34 := ⟨Tryz.call34⟩
theorem en35 : IsEnt Tryz.prog 35 := ⟨Tryz.call35⟩
theorem en36 : IsEnt Tryz.prog 36 := ⟨Tryz.call36⟩
theorem en37 : IsEnt Tryz.prog 37 := ⟨Tryz.call37⟩
theorem en38 : IsEnt Tryz.prog 38 := ⟨Tryz.call38⟩
theorem en39 : IsEnt Tryz.prog 39 := ⟨Tryz.call39⟩
theorem en40 : IsEnt Tryz.prog 40 := ⟨Tryz.call40⟩
theorem en41 : IsEnt Tryz.prog 41 := ⟨Tryz.call41⟩
theorem en42 : IsEnt Tryz.prog 42 := ⟨Tryz.call42⟩
theorem en43 : IsEnt Tryz.prog 43 := ⟨Tryz.call43⟩
theorem en44 : IsEnt Tryz.prog 44 := ⟨Tryz.call44⟩
theorem en45 : IsEnt Tryz.prog 45 := ⟨Tryz.call45⟩
theorem en46 : IsEnt Tryz.prog 46 := ⟨Tryz.call46⟩
theorem en47 : IsEnt Tryz.prog 47 := ⟨Tryz.call47⟩
theorem en48 : IsEnt Tryz.prog 48 := ⟨Tryz.call48⟩
theorem en49 : IsEnt Tryz.prog 49 := ⟨Tryz.call49⟩
theorem en50 : IsEnt Tryz.prog 50 := ⟨Tryz.call50⟩
theorem en51 : IsEnt Tryz.prog 51 := ⟨Tryz.call51⟩
theorem en52 : IsEnt Tryz.prog 52 := ⟨Tryz.call52⟩
theorem en53 : IsEnt Tryz.prog 53 := ⟨Tryz.call53⟩
theorem en54 : IsEnt Tryz.prog 54 := ⟨Tryz.call54⟩
theorem en55 : IsEnt Tryz.prog 55 := ⟨Tryz.call55⟩
theorem en56 : IsEnt Tryz.prog 56 := ⟨Tryz.call56⟩
theorem en57 : IsEnt Tryz.prog 57 := ⟨Tryz.call57⟩
theorem en58 : IsEnt Tryz.prog 58 := ⟨Tryz.call58⟩
theorem en59 : IsEnt Tryz.prog 59 := ⟨Tryz.call59⟩
theorem en60 : IsEnt Tryz.prog 60 := ⟨Tryz.call60⟩
theorem en61 : IsEnt Tryz.prog 61 := ⟨Tryz.call61⟩
theorem en62 : IsEnt Tryz.prog 62 := ⟨Tryz.call62⟩
theorem en63 : IsEnt Tryz.prog 63 := ⟨Tryz.call63⟩
theorem en64 : IsEnt Tryz.prog 64 := ⟨Tryz.call64⟩
theorem en65 : IsEnt Tryz.prog 65 := ⟨Tryz.call65⟩
theorem en66 : IsEnt Tryz.prog 66 := ⟨Tryz.call66⟩
theorem en67 : IsEnt Tryz.prog 67 := ⟨Tryz.call67⟩
theorem en68 : IsEnt Tryz.prog 68 := ⟨Tryz.call68⟩
theorem en69 : IsEnt Tryz.prog 69 := ⟨Tryz.call69⟩
theorem en70 : IsEnt Tryz.prog 70 := ⟨Tryz.call70⟩
theorem en71 : IsEnt Tryz.prog 71 := ⟨Tryz.call71⟩
theorem en72 : IsEnt Tryz.prog 72 := ⟨Tryz.call72⟩
theorem en73 : IsEnt Tryz.prog 73 := ⟨Tryz.call73⟩
theorem en74 : IsEnt Tryz.prog 74 := ⟨Tryz.call74⟩
theorem en75 : IsEnt Tryz.prog 75 := ⟨Tryz.call75⟩
theorem en76 : IsEnt Tryz.prog 76 := ⟨Tryz.call76⟩
theorem en77 : IsEnt Tryz.prog 77 := ⟨Tryz.call77⟩
theorem en78 : IsEnt Tryz.prog 78 := ⟨Tryz.call78⟩
theorem en79 : IsEnt Tryz.prog 79 := ⟨Tryz.call79⟩
theorem en80 : IsEnt Tryz.prog 80 := ⟨Tryz.call80⟩
theorem en81 : IsEnt Tryz.prog 81 := ⟨Tryz.call81⟩
theorem en82 : IsEnt Tryz.prog 82 := ⟨Tryz.call82⟩
theorem en83 : IsEnt Tryz.prog 83 := ⟨Tryz.call83⟩
theorem en84 : IsEnt Tryz.prog 84 := ⟨Tryz.call84⟩
theorem en85 : IsEnt Tryz.prog 85 := ⟨Tryz.call85⟩
theorem en86 : IsEnt Tryz.prog 86 := ⟨Tryz.call86⟩
theorem en87 : IsEnt Tryz.prog 87 := ⟨Tryz.call87⟩
theorem en88 : IsEnt Tryz.prog 88 := ⟨Tryz.call88⟩
theorem en89 : IsEnt Tryz.prog 89 := ⟨Tryz.call89⟩
theorem en90 : IsEnt Tryz.prog 90 := ⟨Tryz.call90⟩
theorem en91 : IsEnt Tryz.prog 91 := ⟨Tryz.call91⟩
theorem en92 : IsEnt Tryz.prog 92 := ⟨Tryz.call92⟩
theorem en93 : IsEnt Tryz.prog 93 := ⟨Tryz.call93⟩
theorem en94 : IsEnt Tryz.prog 94 := ⟨Tryz.call94⟩
theorem en95 : IsEnt Tryz.prog 95 := ⟨Tryz.call95⟩
theorem en96 : IsEnt Tryz.prog 96 := ⟨Tryz.call96⟩
theorem en97 : IsEnt Tryz.prog 97 := ⟨Tryz.call97⟩
theorem en98 : IsEnt Tryz.prog 98 := ⟨Tryz.call98⟩
theorem en99 : IsEnt Tryz.prog 99 := ⟨Tryz.call99⟩
theorem en100 : IsEnt Tryz.prog 100 := ⟨Tryz.call100⟩
theorem en101 : IsEnt Tryz.prog 101 := ⟨Tryz.call101⟩
theorem en102 : IsEnt Tryz.prog 102 := ⟨Tryz.call102⟩
theorem en103 : IsEnt Tryz.prog 103 := ⟨Tryz.call103⟩
theorem en104 : IsEnt Tryz.prog 104 := ⟨Tryz.call104⟩
theorem en105 : IsEnt Tryz.prog 105 := ⟨Tryz.call105⟩
theorem en106 : IsEnt Tryz.prog 106 := ⟨Tryz.call106⟩
theorem en107 : IsEnt Tryz.prog 107 := ⟨Tryz.call107⟩
theorem en108 : IsEnt Tryz.prog 108 := ⟨Tryz.call108⟩
theorem en109 : IsEnt Tryz.prog 109 := ⟨Tryz.call109⟩
theorem en110 : IsEnt Tryz.prog 110 := ⟨Tryz.call110⟩
theorem en111 : IsEnt Tryz.prog 111 := ⟨Tryz.call111⟩
theorem en112 : IsEnt Tryz.prog 112 := ⟨Tryz.call112⟩
theorem en113 : IsEnt Tryz.prog 113 := ⟨Tryz.call113⟩
theorem en114 : IsEnt Tryz.prog 114 := ⟨Tryz.call114⟩
theorem en115 : IsEnt Tryz.prog 115 := ⟨Tryz.call115⟩
theorem en116 : IsEnt Tryz.prog 116 := ⟨Tryz.call116⟩
theorem en117 : IsEnt Tryz.prog 117 := ⟨Tryz.call117⟩
theorem en118 : IsEnt Tryz.prog 118 := ⟨Tryz.call118⟩
theorem en119 : IsEnt Tryz.prog 119 := ⟨Tryz.call119⟩
theorem en120 : IsEnt Tryz.prog 120 := ⟨Tryz.call120⟩
theorem en121 : IsEnt Tryz.prog 121 := ⟨Tryz.call121⟩
theorem en122 : IsEnt Tryz.prog 122 := ⟨Tryz.call122⟩
theorem en123 : IsEnt Tryz.prog 123 := ⟨Tryz.call123⟩
theorem en124 : IsEnt Tryz.prog 124 := ⟨Tryz.call124⟩
theorem en125 : IsEnt Tryz.prog 125 := ⟨Tryz.call125⟩
theorem en126 : IsEnt Tryz.prog 126 := ⟨Tryz.call126⟩
theorem en127 : IsEnt Tryz.prog 127 := ⟨Tryz.call127⟩
theorem en128 : IsEnt Tryz.prog 128 := ⟨Tryz.call128⟩
theorem en129 : IsEnt Tryz.prog 129 := ⟨Tryz.call129⟩
theorem en130 : IsEnt Tryz.prog 130 := ⟨Tryz.call130⟩
theorem en131 : IsEnt Tryz.prog 131 := ⟨Tryz.call131⟩
theorem en132 : IsEnt Tryz.prog 132 := ⟨Tryz.call132⟩
theorem en133 : IsEnt Tryz.prog 133 := ⟨Tryz.call133⟩
theorem en134 : IsEnt Tryz.prog 134 := ⟨Tryz.call134⟩
theorem en135 : IsEnt Tryz.prog 135 := ⟨Tryz.call135⟩
theorem en136 : IsEnt Tryz.prog 136 := ⟨Tryz.call136⟩
theorem en137 : IsEnt Tryz.prog 137 := ⟨Tryz.call137⟩
theorem en138 : IsEnt Tryz.prog 138 := ⟨Tryz.call138⟩
theorem en139 : IsEnt Tryz.prog 139 := ⟨Tryz.call139⟩
theorem en140 : IsEnt Tryz.prog 140 := ⟨Tryz.call140⟩
theorem en141 : IsEnt Tryz.prog 141 := ⟨Tryz.call141⟩
theorem en142 : IsEnt Tryz.prog 142 := ⟨Tryz.call142⟩
theorem en143 : IsEnt Tryz.prog 143 := ⟨Tryz.call143⟩
theorem en144 : IsEnt Tryz.prog 144 := ⟨Tryz.call144⟩
theorem en145 : IsEnt Tryz.prog 145 := ⟨Tryz.call145⟩
theorem en146 : IsEnt Tryz.prog 146 := ⟨Tryz.call146⟩
theorem en147 : IsEnt Tryz.prog 147 := ⟨Tryz.call147⟩
theorem en148 : IsEnt Tryz.prog 148 := ⟨Tryz.call148⟩
theorem en149 : IsEnt Tryz.prog 149 := ⟨Tryz.call149⟩
theorem en150 : IsEnt Tryz.prog 150 := ⟨Tryz.call150⟩
theorem en151 : IsEnt Tryz.prog 151 := ⟨Tryz.call151⟩
theorem en152 : IsEnt Tryz.prog 152 := ⟨Tryz.call152⟩
theorem en153 : IsEnt Tryz.prog 153 := ⟨Tryz.call153⟩
theorem en154 : IsEnt Tryz.prog 154 := ⟨Tryz.call154⟩
theorem en155 : IsEnt Tryz.prog 155 := ⟨Tryz.call155⟩
theorem en156 : IsEnt Tryz.prog 156 := ⟨Tryz.call156⟩
theorem en157 : IsEnt Tryz.prog 157 := ⟨Tryz.call157⟩
theorem en158 : IsEnt Tryz.prog 158 := ⟨Tryz.call158⟩
theorem en159 : IsEnt Tryz.prog 159 := ⟨Tryz.call159⟩
theorem en160 : IsEnt Tryz.prog 160 := ⟨Tryz.call160⟩
theorem en161 : IsEnt Tryz.prog 161 := ⟨Tryz.call161⟩
theorem en162 : IsEnt Tryz.prog 162 := ⟨Tryz.call162⟩
theorem en163 : IsEnt Tryz.prog 163 := ⟨Tryz.call163⟩
theorem en164 : IsEnt Tryz.prog 164 := ⟨Tryz.call164⟩
theorem en165 : IsEnt Tryz.prog 165 := ⟨Tryz.call165⟩
theorem en166 : IsEnt Tryz.prog 166 := ⟨Tryz.call166⟩
theorem en167 : IsEnt Tryz.prog 167 := ⟨Tryz.call167⟩
theorem en168 : IsEnt Tryz.prog 168 := ⟨Tryz.call168⟩
theorem en169 : IsEnt Tryz.prog 169 := ⟨Tryz.call169⟩
theorem en170 : IsEnt Tryz.prog 170 := ⟨Tryz.call170⟩
theorem en171 : IsEnt Tryz.prog 171 := ⟨Tryz.call171⟩
theorem en172 : IsEnt Tryz.prog 172 := ⟨Tryz.call172⟩
theorem en173 : IsEnt Tryz.prog 173 := ⟨Tryz.call173⟩
theorem en174 : IsEnt Tryz.prog 174 := ⟨Tryz.call174⟩
theorem en175 : IsEnt Tryz.prog 175 := ⟨Tryz.call175⟩
theorem en176 : IsEnt Tryz.prog 176 := ⟨Tryz.call176⟩
theorem en177 : IsEnt Tryz.prog 177 := ⟨Tryz.call177⟩
theorem en178 : IsEnt Tryz.prog 178 := ⟨Tryz.call178⟩
theorem en179 : IsEnt Tryz.prog 179 := ⟨Tryz.call179⟩
theorem en180 : IsEnt Tryz.prog 180 := ⟨Tryz.call180⟩
theorem en181 : IsEnt Tryz.prog 181 := ⟨Tryz.call181⟩
theorem en182 : IsEnt Tryz.prog 182 := ⟨Tryz.call182⟩
theorem en183 : IsEnt Tryz.prog 183 := ⟨Tryz.call183⟩
theorem en184 : IsEnt Tryz.prog 184 := ⟨Tryz.call184⟩
theorem en185 : IsEnt Tryz.prog 185 := ⟨Tryz.call185⟩
theorem en186 : IsEnt Tryz.prog 186 := ⟨Tryz.call186⟩
theorem en187 : IsEnt Tryz.prog 187 := ⟨Tryz.call187⟩
theorem en188 : IsEnt Tryz.prog 188 := ⟨Tryz.call188⟩
theorem en189 : IsEnt Tryz.prog 189 := ⟨Tryz.call189⟩
theorem en190 : IsEnt Tryz.prog 190 := ⟨Tryz.call190⟩
theorem en191 : IsEnt Tryz.prog 191 := ⟨Tryz.call191⟩
theorem en192 : IsEnt Tryz.prog 192 := ⟨Tryz.call192⟩
theorem en193 : IsEnt Tryz.prog 193 := ⟨Tryz.call193⟩
theorem en194 : IsEnt Tryz.prog 194 := ⟨Tryz.call194⟩
theorem en195 : IsEnt Tryz.prog 195 := ⟨Tryz.call195⟩
theorem en196 : IsEnt Tryz.prog 196 := ⟨Tryz.call196⟩
theorem en197 : IsEnt Tryz.prog 197 := ⟨Tryz.call197⟩
theorem en198 : IsEnt Tryz.prog 198 := ⟨Tryz.call198⟩
theorem en199 : IsEnt Tryz.prog 199 := ⟨Tryz.call199⟩
theorem mixed : Mixed Tryz.prog := ⟨(by kernel_rfl)⟩
attribute [instance] tu0 ti0 tu1 ti1 tu2 tk2 ti2 tu3 tk3 ti3 tu4 ti4 tu5 tk5 ti5 tu6 tk6 ti6 tu7 ti7 tu8 ti8 tu9 ti9 tu10 ti10 tu11 ti11 tu12 tk12 ti12 tu13 ti13 tu14 ti14 tu15 ti15 tu16 ti16 tu17 ti17 tu18 ti18 tu19 ti19 tu20 ti20 tu21 tk21 ti21 tu22 tk22 ti22 tu23 ti23 tu24 ti24 tu25 ti25 tu26 ti26 tu27 ti27 tu28 ti28 tu29 ti29 tu30 ti30 tu31 ti31 tu32 tk32 ti32 tu33 ti33 tu34 ti34 tu35 ti35 tu36 ti36 tu37 ti37 tu38 ti38 tu39 tk39 ti39 tu40 ti40 tu41 ti41 tu42 ti42 tu43 ti43 tu44 ti44 tu45 ti45 tu46 ti46 tu47 ti47 tu48 ti48 tu49 ti49 tu50 ti50 tu51 ti51 tu52 ti52 tu53 ti53 tu54 ti54 tu55 ti55 tu56 ti56 tu57 ti57 tu58 ti58 tu59 ti59 tu60 ti60 tu61 ti61 tu62 ti62 tu63 ti63 tu64 ti64 tu65 ti65 tu66 ti66 tu67 ti67 tu68 ti68 tu69 ti69 tu70 ti70 tu71 ti71 tu72 ti72 tu73 ti73 tu74 ti74 tu75 ti75 tu76 ti76 tu77 ti77 tu78 ti78 tu79 ti79 tu80 ti80 tu81 ti81 tu82 ti82 tu83 ti83 tu84 ti84 tu85 ti85 tu86 ti86 tu87 ti87 tu88 ti88 tu89 ti89 tu90 ti90 tu91 ti91 tu92 ti92 tu93 ti93 tu94 tk94 ti94 tu95 ti95 tu96 ti96 tu97 ti97 tu98 ti98 tu99 ti99 tu100 ti100 tu101 ti101 tu102 ti102 tu103 ti103 tu104 ti104 tu105 ti105 tu106 ti106 tu107 ti107 tu108 ti108 tu109 ti109 tu110 ti110 tu111 ti111 tu112 ti112 tu113 ti113 tu114 ti114 tu115 ti115 tu116 ti116 tu117 ti117 tu118 ti118 tu119 ti119 tu120 ti120 tu121 ti121 tu122 ti122 tu123 ti123 tu124 ti124 tu125 ti125 tu126 ti126 tu127 ti127 tu128 ti128 tu129 ti129 tu130 ti130 tu131 ti131 tu132 ti132 tu133 ti133 tu134 ti134 tu135 ti135 tu136 ti136 tu137 ti137 tu138 ti138 tu139 ti139 tu140 ti140 tu141 ti141 tu142 ti142 tu143 ti143 tu144 ti144 tu145 ti145 tu146 ti146 tu147 ti147 tu148 ti148 tu149 ti149 tu150 tk150 ti150 tu151 ti151 tu152 ti152 tu153 ti153 tu154 ti154 tu155 ti155 tu156 ti156 tu157 ti157 tu158 ti158 tu159 ti159 tu160 ti160 tu161 ti161 tu162 ti162 tu163 ti163 tu164 ti164 tu165 ti165 tu166 ti166 tu167 ti167 tu168 ti168 tu169 ti169 tu170 ti170 tu171 ti171 tu172 ti172 tu173 ti173 tu174 ti174 tu175 ti175 tu176 ti176 tu177 ti177 tu178 ti178 tu179 ti179 tu180 ti180 tu181 ti181 tu182 ti182 tu183 ti183 tu184 ti184 tu185 ti185 tu186 ti186 tu187 ti187 tu188 ti188 tu189 ti189 tu190 ti190 tu191 ti191 tu192 ti192 tu193 ti193 tu194 ti194 tu195 ti195 tu196 ti196 tu197 ti197 tu198 ti198 tu199 ti199 tu200 ti200 tu201 ti201 tu202 ti202 tu203 ti203 tu204 ti204 tu205 ti205 tu206 ti206 tu207 ti207 tu208 ti208 tu209 ti209 tu210 ti210 tu211 ti211 tu212 ti212 tu213 ti213 tu214 ti214 tu215 ti215 tu216 ti216 tu217 ti217 tu218 ti218 tu219 ti219 tu220 ti220 tu221 ti221 tu222 ti222 tu223 ti223 tu224 ti224 tu225 ti225 tu226 ti226 tu227 ti227 tu228 ti228 tu229 ti229 tu230 ti230 tu231 ti231 tu232 ti232 tu233 ti233 tu234 ti234 tu235 ti235 tu236 ti236 tu237 ti237 tu238 ti238 tu239 ti239 tu240 ti240 tu241 ti241 tu242 ti242 tu243 ti243 tu244 ti244 tu245 ti245 tu246 ti246 tu247 ti247 tu248 ti248 tu249 ti249 tu250 ti250 tu251 ti251 tu252 ti252 tu253 ti253 tu254 ti254 tu255 ti255 tu256 ti256 tu257 ti257 tu258 ti258 tu259 ti259 tu260 ti260 tu261 ti261 tu262 ti262 tu263 ti263 tu264 ti264 tu265 ti265 tu266 ti266 tu267 ti267 tu268 ti268 tu269 ti269 tu270 ti270 tu271 ti271 tu272 ti272 tu273 ti273 tu274 ti274 tu275 ti275 tu276 ti276 tu277 ti277 tu278 ti278 tu279 ti279 tu280 ti280 tu281 ti281 tu282 ti282 tu283 ti283 tu284 ti284 tu285 ti285 tu286 ti286 tu287 ti287 tu288 ti288 tu289 ti289 tu290 ti290 tu291 ti291 tu292 ti292 tu293 ti293 tu294 ti294 tu295 ti295 tu296 ti296 tu297 ti297 tu298 ti298 tu299 ti299 tu300 ti300 tu301 ti301 tu302 ti302 tu303 ti303 tu304 ti304 tu305 ti305 tu306 ti306 tu307 ti307 tu308 ti308 tu309 ti309 tu310 ti310 tu311 ti311 tu312 ti312 tu313 ti313 tu314 ti314 tu315 ti315 tu316 tk316 ti316 tu317 tk317 ti317 tu318 ti318 tu319 ti319 tu320 tk320 ti320 tu321 tk321 ti321 tu322 ti322 tu323 ti323 tu324 ti324 tu325 ti325 tu326 ti326 en2 en3 en4 en5 en6 en7 en8 en9 en10 en11 en12 en13 en14 en15 en16 en17 en18 en19 en20 en21 en22 en23 en24 en25 en26 en27 en28 en29 en30 en31 en32 en33 en34 en35 en36 en37 en38 en39 en40 en41 en42 en43 en44 en45 en46 en47 en48 en49 en50 en51 en52 en53 en54 en55 en56 en57 en58 en59 en60 en61 en62 en63 en64 en65 en66 en67 en68 en69 en70 en71 en72 en73 en74 en75 en76 en77 en78 en79 en80 en81 en82 en83 en84 en85 en86 en87 en88 en89 en90 en91 en92 en93 en94 en95 en96 en97 en98 en99 en100 en101 en102 en103 en104 en105 en106 en107 en108 en109 en110 en111 en112 en113 en114 en115 en116 en117 en118 en119 en120 en121 en122 en123 en124 en125 en126 en127 en128 en129 en130 en131 en132 en133 en134 en135 en136 en137 en138 en139 en140 en141 en142 en143 en144 en145 en146 en147 en148 en149 en150 en151 en152 en153 en154 en155 en156 en157 en158 en159 en160 en161 en162 en163 en164 en165 en166 en167 en168 en169 en170 en171 en172 en173 en174 en175 en176 en177 en178 en179 en180 en181 en182 en183 en184 en185 en186 en187 en188 en189 en190 en191 en192 en193 en194 en195 en196 en197 en198 en199 mixed
end Go.Proofs.YtamecmklcnohjaaGreat.Sep
namespace Go.Proofs.YtamecmklcnohjaaGreat.Sep
open Go.RowKit
set_option linter.unusedSimpArgs false
set_option linter.unusedVariables false
set_option linter.unusedSectionVars false

class TS (P : Program) (fs : List Field) (ps : outParam (List (Nat × Nat))) : Prop where
  out : ∀ w, (fs.mapM (m := Sem) fun f => do pure (f.offset, ← sizeOf f.type)).run P w = .ok ps w
instance ts_nil {P : Program} : TS P [] [] := ⟨fun w => rfl⟩
instance ts_cons {P : Program} {f : Field} {fs : List Field} {z : Value} {s b : Nat} {ps : List (Nat × Nat)} [h : TI P f.type z s b] [hs : TS P fs ps] : TS P (f :: fs) ((f.offset, s) :: ps) :=
  ⟨fun w => by simp only [List.mapM_cons, Sem.run_bind, run_size h, Result.andThen_ok, Sem.run_pure, hs.out]⟩
theorem setRow_at {w : World} {g : Nat} {cur new : Array Value} {t : TypeId} {fr : Nat × Nat} (h : w.heap[g]? = some (.cells cur t fr)) : (w.setRow g new).heap[g]? = some (.cells new t fr) := by
  simp [World.setRow, Array.getElem?_modify, h]
theorem setRow_ne {w : World} {g k : Nat} {new : Array Value} (h : k ≠ g) : (w.setRow g new).heap[k]? = w.heap[k]? := by
  simp [World.setRow, Array.getElem?_modify, Ne.symm h]
section
variable {P : Program} {w0 : World} {n : Nat} {Q : Exit → Act → World → Prop} {k : List KI} {e : Env} {L R : List HP} {all : Array Oper} {rest : List Oper} {ty : TypeId} {pos : String} {aft : Array Edge} {d : Nat}
variable {α : Type} {E' : E α}
theorem pv_build {T len by' : Nat} {fl : List Field} {parts : Array (Nat × Operand)} {z : Value} {vs : List Value} {ps : List (Nat × Nat)} [hu : TU P T (.struct fl.toArray)] [hi : TI P T z len by'] [hs : TS P fl ps] (hp : parts.toList.map (·.1) = List.range' 0 len := by rfl)
    (hv : evl e (parts.toList.map (·.2)) = some vs := by rfl) (hps : ps = (List.range' 0 len).map (fun i => (i, 1)) := by rfl) (hz : z.cells.size = len := by rfl) (h1 : vs.all Value.oneCell' = true := by rfl) : PV P (.build T parts) ty e (.agg vs.toArray) := fun tm w pos aft h2 => by
  have h4 := evl_sound (ds := []) h2 hv
  have hl : vs.length = len := by
    have := congrArg List.length hp
    simp at this
    rw [← h4]; simp [this]
  have hparts : parts.toList.map (fun x => (x.fst, (Act.mk tm []).eval x.snd)) = (List.range' 0 vs.length).zip vs := by
    rw [hl, ← hp, ← h4]
    generalize parts.toList = l
    induction l with
    | nil => rfl
    | cons p l ih => simp [ih]
  have hcs : ∀ v ∈ vs, v.cells = #[v] := fun v hv => by
    have := List.all_eq_true.1 h1 v hv
    cases v <;> first | rfl | (simp [Value.oneCell'] at this)
  have hus : (underlying T).run P w = .ok (.struct fl.toArray) w := run_und hu.out
  have hfill := fill_seq 1 vs 0 z.cells (fun v hv => by rw [hcs v hv]; rfl) (by rw [hl, hz]; omega)
  have hfm : vs.flatMap (·.cells.toList) = vs := by
    clear hfill hparts hl h4 hv h1
    induction vs with
    | nil => rfl
    | cons v vs ih => simp [List.flatMap_cons, hcs v (by simp), ih (fun u hu => hcs u (by simp [hu]))]
  have hpl : ∀ (places : Nat → Option (Nat × Nat)) (cells : Array Value) (l : List (Nat × Value)), (∀ p ∈ l, places p.1 = some (p.1 * 1, 1)) → Instr.fill places cells l = Instr.fill (fun i => some (i * 1, 1)) cells l := by
    intro places cells l
    induction l generalizing cells with
    | nil => intro _; rfl
    | cons p l ih =>
      intro hp
      obtain ⟨i, v⟩ := p
      have := hp (i, v) (by simp)
      simp only at this
      simp only [Instr.fill, this]
      split
      · rfl
      · exact ih _ fun q hq => hp q (by simp [hq])
  have hmem : ∀ p ∈ (List.range' 0 vs.length).zip vs, ps.toArray[p.1]? = some (p.1 * 1, 1) := by
    intro p hp
    have := (List.of_mem_zip hp).1
    rw [List.mem_range'_1] at this
    rw [hps]
    simp [show p.1 < len by omega]
  simp only [execOp, Instr.build, Sem.run_bind, run_zero hi, Result.andThen_ok, hus, List.mapM_toArray, Sem.run_map, hs.out]
  have hp2 : (Array.map (fun x : Nat × Operand => match x with | (i, x) => (i, (Act.mk tm []).eval x)) parts).toList = (List.range' 0 vs.length).zip vs := by rw [Array.toList_map]; exact hparts
  rw [hp2, hpl _ _ _ hmem, hfill]
  simp only [Sem.run_bind, Sem.run_pure, Result.andThen_ok]
  congr 3
  apply Array.ext'
  simp [hfm, hl, ← hz]
theorem dv_box {T : TypeId} {x : Operand} {row : List Value} (hx : ev e x = some (.agg row.toArray) := by rfl) : DV P w0 (.box T x) ty e L (fun v L' => ∃ b, v = .pointer (some ⟨b, 0, none⟩) ∧ L' = pt b (.cells row.toArray T (0, 0)) :: L) :=
  dv_of_run fun tm w pos aft h2 h3 => ⟨.pointer (some ⟨w.heap.size, 0, none⟩), w.alloc (.cells row.toArray T), _, by simp [execOp, Instr.box, newVar, newRow, ev_sound h2 hx, Value.cells], ⟨_, rfl, rfl⟩, h3.alloc⟩
theorem dv_box1 {T : TypeId} {x : Operand} {v : Value} (hx : ev e x = some v := by rfl) (h1 : v.oneCell' = true := by rfl) : DV P w0 (.box T x) ty e L (fun u L' => ∃ b, u = .pointer (some ⟨b, 0, none⟩) ∧ L' = pt b (.cells [v].toArray T (0, 0)) :: L) :=
  dv_of_run fun tm w pos aft h2 h3 => ⟨.pointer (some ⟨w.heap.size, 0, none⟩), w.alloc (.cells #[v] T), _, by
    have : v.cells = #[v] := by cases v <;> first | rfl | (simp [Value.oneCell'] at h1)
    simp [execOp, Instr.box, newVar, newRow, ev_sound h2 hx, this], ⟨_, rfl, rfl⟩, h3.alloc⟩
theorem dv_alloc {T s by' : Nat} {z : Value} {row : List Value} [hi : TI P T z s by'] (hz : z.cells = row.toArray := by rfl) : DV P w0 (.alloc T) ty e L (fun u L' => ∃ b, u = .pointer (some ⟨b, 0, none⟩) ∧ L' = pt b (.cells row.toArray T (0, 0)) :: L) :=
  dv_of_run fun tm w pos aft h2 h3 => ⟨.pointer (some ⟨w.heap.size, 0, none⟩), w.alloc (.cells row.toArray T), _, by
    simp [execOp, Instr.alloc, newVar, newRow, run_zero hi, hz], ⟨_, rfl, rfl⟩, h3.alloc⟩
theorem run_storeAt {w : World} {T b o s by' : Nat} {v : Value} {z : Value} {cur : Array Value} {T' : TypeId} (hi : TI P T z s by') (hl : v.cells.size = s) (h1 : ∀ u ∈ v.cells.toList, u.oneCell' = true) (hb : w.heap[b]? = some (.cells cur T' (0, 0))) (hfit : o + s ≤ cur.size) :
    (Instr.storeAt T (.pointer (some ⟨b, o, none⟩)) v).run P w = .ok () (w.setRow b (cur.toList.take o ++ v.cells.toList ++ cur.toList.drop (o + s)).toArray) := by
  have hst := run_storeCells_at P b o T' v.cells.toList 0 cur w hb (by simp [hl]; exact hfit) h1
  simp only [Nat.add_zero, Array.length_toList, hl] at hst
  simp [Instr.storeAt, Instr.sureAddr, storeVar, run_size hi, hl, hst]
theorem sat_setRow {w : World} {b : Nat} {cur new : Array Value} {T' : TypeId} (h : Sat w0 w (pt b (.cells cur T' (0, 0)) :: R)) : Sat w0 (w.setRow b new) (pt b (.cells new T' (0, 0)) :: R) :=
  h.put rfl rfl rfl (setRow_at h.block) (fun _ hk => setRow_ne hk)
theorem dv_store {T : TypeId} {x y : Operand} {b o by' : Nat} {v : Value} {row row' : List Value} {T' : TypeId} {z : Value} [hi : TI P T z 1 by'] (hx : ev e x = some (.pointer (some ⟨b, o, none⟩)) := by rfl) (hy : ev e y = some v := by rfl)
    (hf : Find L (pt b (.cells row.toArray T' (0, 0))) R := by repeat (first | exact Find.here | apply Find.there)) (h1 : v.oneCell' = true := by rfl) (ho : (o < row.length : Bool) = true := by rfl) (hr : row.set o v = row' := by first | (simp only [List.set_cons_zero, List.set_cons_succ]; rfl) | rfl) :
    DV P w0 (.store T x y) ty e L (fun _ L' => L' = pt b (.cells row'.toArray T' (0, 0)) :: R) := dv_of_skip fun tm w pos aft h2 h3 => by
  have h3' := h3.find hf
  have ho' : o < row.length := by simpa using ho
  have hc : v.cells = #[v] := by cases v <;> first | rfl | (simp [Value.oneCell'] at h1)
  have hrun := run_storeAt (P := P) (v := v) (o := o) hi (by rw [hc]; rfl) (by rw [hc]; simpa using h1) h3'.block (by simp; omega)
  subst hr
  have e1 : (row.toArray.toList.take o ++ v.cells.toList ++ row.toArray.toList.drop (o + 1)).toArray = (row.set o v).toArray := by
    rw [hc]; simp [List.set_eq_take_append_cons_drop, ho']
  rw [e1] at hrun
  exact ⟨w.setRow b (row.set o v).toArray, _, by simp only [execOp, ev_sound h2 hx, ev_sound h2 hy, Sem.run_bind, hrun, Result.andThen_ok, Sem.run_pure], rfl, sat_setRow h3'⟩
theorem dv_storeW {T s by' : Nat} {x y : Operand} {b : Nat} {row vs : List Value} {T' : TypeId} {z : Value} [hi : TI P T z s by'] (hx : ev e x = some (.pointer (some ⟨b, 0, none⟩)) := by rfl) (hy : ev e y = some (.agg vs.toArray) := by rfl)
    (hf : Find L (pt b (.cells row.toArray T' (0, 0))) R := by repeat (first | exact Find.here | apply Find.there)) (hl : vs.length = s := by rfl) (hr : row.length = s := by rfl) (h1 : vs.all Value.oneCell' = true := by rfl) :
    DV P w0 (.store T x y) ty e L (fun _ L' => L' = pt b (.cells vs.toArray T' (0, 0)) :: R) := dv_of_skip fun tm w pos aft h2 h3 => by
  have h3' := h3.find hf
  have hrun := run_storeAt (P := P) (v := .agg vs.toArray) (o := 0) hi (by simpa [Value.cells] using hl) (by simpa [Value.cells] using h1) h3'.block (by simp [hr])
  have e1 : (row.toArray.toList.take 0 ++ (Value.agg vs.toArray).cells.toList ++ row.toArray.toList.drop (0 + s)).toArray = vs.toArray := by
    simp [Value.cells, ← hr]
  rw [e1] at hrun
  exact ⟨w.setRow b vs.toArray, _, by simp only [execOp, ev_sound h2 hx, ev_sound h2 hy, Sem.run_bind, hrun, Result.andThen_ok, Sem.run_pure], rfl, sat_setRow h3'⟩
theorem run_append_room' {w : World} {t tx ty e : TypeId} {i : TypeInfo} (ht : P.underlying t = some (.slice e)) (hi : P.info? e = some i) {g off sLen sCap : Nat} {cur : Array Value} {T : TypeId} (hg : w.heap[g]? = some (.cells cur T (0, 0))) {x : Value} {n : Nat} {news : List Value}
    (hs : Src P i.size tx x n news w) (hroom : sLen + n ≤ sCap) (hfit : off + sLen * i.size + news.length ≤ cur.size) :
    (Builtin.append_ #[t, tx] ty #[.slice (some ⟨g, off, none⟩) sLen sCap, x]).run P w = .ok (.slice (some ⟨g, off, none⟩) (sLen + n) sCap) (w.setRow g (cur.toList.take (off + sLen * i.size) ++ news ++ cur.toList.drop (off + sLen * i.size + news.length)).toArray) := by
  have hst := run_storeCells_at P g (off + sLen * i.size) T news 0 cur w hg (by simpa using hfit) hs.one
  simp only [Nat.add_zero] at hst
  rcases hs.kind with ⟨e', hk⟩ | hk <;> simp [Builtin.append_, run_und ht, run_und hk, sizeOf, typeInfo, hi, hs.len, hroom, hs.cells, Addr.add_lit, hst]
theorem src_of_view {w : World} {A : HP} {a : Option Addr} {ys : List α} {c tx el : Nat} {H : PH} (hv : View A E' a ys) (hA : A H) (hle : PH.le H w) (hk : P.underlying tx = some (.slice el)) : Src P E'.sz tx (.slice a ys.length c) ys.length (flat E' ys) w := by
  rcases hv H hA with rfl | ⟨ad, rfl, hsp, row, T, fr, hb, hr⟩
  · have hz : ∀ (w : World), (Builtin.firstCells E'.sz 0 (.slice a 0 c)).run P w = .ok #[] w := fun w => by
      cases a with
      | none => simp [Builtin.firstCells]
      | some ad => simp [Builtin.firstCells, loadCells, loadCellsFrom]
    exact ⟨.inl ⟨el, hk⟩, fun _ => rfl, hz w, hz w.drew, by simp, fun _ h => by cases h⟩
  · refine Src.ofSlice w hk ad ys.length c (flat E' ys) (flat_length E' ys) (fun j u hj => ?_) (flat_one E' ys)
    have h1 := hle _ _ hb
    have h2 := hr j u hj
    obtain ⟨b, o, sp⟩ := ad
    simp only at hsp; subst hsp
    rw [show (⟨b, o, none⟩ : Addr).add j = ⟨b, o + j, none⟩ from by unfold Addr.add; split <;> simp_all]
    simp [World.cell?, h1, h2]
theorem dv_append {t tx el s by' : Nat} {x y : Operand} {a a2 : Option Addr} {c c2 : Nat} {xs ys : List α} {A : HP} {z : Value} [hu : TU P t (.slice el)] [hux : TU P tx (.slice el)] [hi : TI P el z s by'] (hx : ev e x = some (.slice a xs.length c) := by rfl) (hy : ev e y = some (.slice a2 ys.length c2) := by rfl)
    (hv : View A E' a2 ys) (hf : FindAll L [Sl E' a c xs, A] R := by repeat (first | exact FindAll.nil | exact Find.here | apply Find.there | apply FindAll.cons)) (hs : E'.sz = s := by rfl) (hz : z.cells.size = s := by rfl) (hby : (0 < by' : Bool) = true := by rfl) (hb : (xs.length + ys.length) * by' ≤ 140737488355328 := by omega) :
    DV P w0 (.call ⟨.builtin .append, #[x, y], #[t, tx]⟩) ty e L (fun v L' => ∃ a' c', v = .slice a' (xs ++ ys).length c' ∧ L' = Sl E' a' c' (xs ++ ys) :: A :: R) := dv_of_run fun tm w pos aft h2 h3 => by
  subst hs
  have hby' : 0 < by' := by simpa using hby
  have h3' := h3.findAll hf
  obtain ⟨i, hinf, hzero, hsz, hbytes⟩ := hi.out
  obtain ⟨H1, hA1, hle1⟩ := (Sat.drop h3').atom
  have hsrc : Src P i.size tx (.slice a2 ys.length c2) ys.length (flat E' ys) w := by rw [hsz]; exact src_of_view hv hA1 hle1 hux.out
  have hop : ∀ (res : Result Value), (Builtin.append_ #[t, tx] ty #[.slice a xs.length c, .slice a2 ys.length c2]).run P w = res →
      (execOp (Act.mk tm []).eval ⟨none, .call ⟨.builtin .append, #[x, y], #[t, tx]⟩, ty, pos, aft, none⟩).run P w = res.andThen fun v w => .ok (.value v) w := by
    intro res h
    simp [execOp, resolve, invoke, builtin, ev_sound h2 hx, ev_sound h2 hy, h]
  have hlen : (xs ++ ys).length = xs.length + ys.length := by simp
  obtain ⟨H0, hA0, hle0⟩ := h3'.atom
  by_cases hroom : xs.length + ys.length ≤ c
  · cases a with
    | none =>
      obtain ⟨rfl, rfl⟩ := hA0
      have hy0 : ys = [] := by
        have : ys.length = 0 := by simpa using hroom
        exact List.length_eq_zero_iff.1 this
      subst hy0
      refine ⟨.slice none 0 0, w, _, ?_, ⟨none, 0, rfl, rfl⟩, h3'⟩
      rw [hop (.ok (.slice none 0 0) w)]
      · rfl
      · have hk := hux.out
        simp [Builtin.append_, run_und hu.out, run_und hk, sizeOf, typeInfo, hinf, hsrc.len, Builtin.lenOf]
        have hz : (Builtin.firstCells i.size 0 (.slice a2 0 c2)).run P w = .ok #[] w := hsrc.cells
        simp [hz]
    | some ad =>
      obtain ⟨b, o, sp⟩ := ad
      obtain ⟨_, hsp, row, T, hrow, pre, post, hr, hp, hq⟩ := hA0
      simp only at hsp; subst hsp
      have hrw := hle0 _ _ hrow
      have hpl : (c - xs.length) * E'.sz ≤ post.length := hq
      have hge : ys.length * E'.sz ≤ (c - xs.length) * E'.sz := Nat.mul_le_mul_right _ (by omega)
      have hsize : row.size = o + xs.length * E'.sz + post.length := by
        rw [← Array.length_toList, hr]; simp [flat_length, hp, Nat.add_assoc]
      have hrun := run_append_room' (ty := ty) hu.out hinf hrw hsrc hroom (by rw [hsz, flat_length, hsize]; exact Nat.add_le_add_left (Nat.le_trans hge hpl) _)
      refine ⟨_, _, _, by rw [hop _ hrun]; rfl, ⟨some ⟨b, o, none⟩, c, by rw [hlen], rfl⟩, ?_⟩
      rw [hsz]
      refine Sat.turn1 (b := b) h3' (fun H hH => ?_) rfl rfl rfl (setRow_at hrw) (fun k hk => setRow_ne hk) (fun H hH => ?_)
      · obtain ⟨_, _, row, T, hb, _⟩ := hH
        rw [hb]; simp
      · refine ⟨by rw [hlen]; exact hroom, rfl, _, T, by simp; rfl, pre, post.drop (ys.length * E'.sz), ?_, hp, ?_⟩
        · have e1 : (pre ++ flat E' xs).length = o + xs.length * E'.sz := by simp [flat_length, hp]
          rw [hr, flat_length]
          rw [List.take_left' e1, ← List.drop_drop, List.drop_left' e1, flat_append]
          simp [List.append_assoc]
        · rw [List.length_drop, hlen]
          have e2 : (c - (xs.length + ys.length)) * E'.sz = (c - xs.length) * E'.sz - ys.length * E'.sz := by rw [← Nat.sub_mul]; congr 1; omega
          rw [e2]; omega
  · have hfc : ∀ w' : World, w'.heap = w.heap → (Builtin.firstCells i.size xs.length (.slice a xs.length c)).run P w' = .ok (flat E' xs).toArray w' := by
      intro w' hw'
      have hle' : PH.le H0 w' := fun b o hb => by rw [hw']; exact hle0 b o hb
      have := (src_of_view (P := P) (tx := tx) (el := el) (c := c) (Sl.view (e := E') (a := a) (c := c) (xs := xs)) hA0 hle' hux.out).cells
      rw [hsz]; exact this
    have hneed : c < xs.length + ys.length := by omega
    have hb' : (xs.length + ys.length) * i.bytes ≤ 140737488355328 := by rw [hbytes]; exact hb
    have h63 : ((xs.length + ys.length : Nat) : Int) ≤ 9223372036854775807 := by
      have : (xs.length + ys.length) * 1 ≤ (xs.length + ys.length) * by' := Nat.mul_le_mul_left _ hby'
      omega
    have hrun := run_append_grow_src w t tx ty el i z hu.out hinf hzero a xs.length c (flat E' xs) (hfc w.drew rfl) (.slice a2 ys.length c2) ys.length (flat E' ys) hsrc hneed h63 (growslice_fits hneed hb')
    refine ⟨_, _, _, by rw [hop _ hrun]; rfl, ⟨some ⟨w.heap.size, 0, none⟩, _, by rw [hlen], rfl⟩, ?_⟩
    have hd : Sat w0 w.drew (A :: R) := (Sat.drop h3').drew
    refine (hd.alloc (o := .cells ((flat E' xs ++ flat E' ys).toArray ++ Builtin.zeroCells z.cells (grownCap w (xs.length + ys.length) c el - (xs.length + ys.length))) el)).map fun _ => SL.head fun H hH => ?_
    refine ⟨by rw [hlen]; exact grownCap_ge w _ _ _, rfl, _, el, hH, [], (Builtin.zeroCells z.cells (grownCap w (xs.length + ys.length) c el - (xs.length + ys.length))).toList, by simp [flat_append], rfl, ?_⟩
    rw [Array.length_toList, hlen]
    simp [Builtin.zeroCells, hz]
theorem tells_cell {fn : Func} {T t : TypeId} {b s by' : Nat} {row : List Value} {T' : TypeId} {fr : Nat × Nat} {dd : TypeDesc} {z : Value} [hu : TU P T dd] [hi : TI P T z s by'] (hr : fn.results = #[.cell t T]) (ht : e.get t = some (.pointer (some ⟨b, 0, none⟩)) := by rfl) (hg : aggD dd = true := by rfl) (hl : row.length = s := by rfl)
    (hf : Find L (pt b (.cells row.toArray T' fr)) R := by repeat (first | exact Find.here | apply Find.there)) : Tells ⟨P, w0, n, Q⟩ fn e L (.agg row.toArray) := by
  intro tm w _ h2 h3
  have h4 := h2 t _ ht
  have h5 := (holds_pt (b := b) (o := 0) (row := row) (T := T') (fr := fr) (vs := row) (by simp)).cell (h3.find hf)
  simp only [Nat.zero_add] at h5
  have h6 := run_loadAtA (P := P) (w := w) (b := b) (o := 0) hu.out hg hi hl (by simpa using h5)
  simp only [Instr.loadAt, Instr.sureAddr, Sem.run_bind, Sem.run_pure, Result.andThen_ok] at h6
  unfold results
  rw [hr]
  simp [List.mapM_toArray, h4, asAddr, h6]
end
end Go.Proofs.YtamecmklcnohjaaGreat.Sep
namespace Go.Proofs.YtamecmklcnohjaaGreat.Sep
open Go.RowKit
set_option linter.unusedSimpArgs false
set_option linter.unusedVariables false
section
variable {P : Program} {w0 : World} {n : Nat} {Q : Exit → Act → World → Prop} {k : List KI} {e : Env} {L R : List HP} {all : Array Oper} {rest : List Oper} {ty : TypeId} {pos : String} {aft : Array Edge} {d : Nat}
def isBit : BinOp → Bool
  | .and | .or | .xor | .andNot => true
  | _ => false
theorem pv_bits {op : BinOp} {t t' : TypeId} {x y : Operand} {kk : IntKind} {a b : Int} (hop : isBit op = true := by rfl) (hx : ev e x = some (.int kk a) := by rfl) (hy : ev e y = some (.int kk b) := by rfl) : PV P (.binOp op t x y t') ty e (.int kk (bitop op kk a b)) :=
  fun tm w pos aft h => by
    simp only [execOp, ev_sound h hx, ev_sound h hy, Sem.run_bind, run_guard_int, Result.andThen_ok]
    cases op <;> simp [isBit] at hop <;> simp [binOp, Op.intBits, bitop]
theorem pv_shrN {t t' : TypeId} {x y : Operand} {kk k2 : IntKind} {a b : Int} (hx : ev e x = some (.int kk a) := by rfl) (hy : ev e y = some (.int k2 b) := by rfl) (h0 : 0 ≤ b := by omega) : PV P (.binOp .shr t x y t') ty e (.int kk (a / (2 ^ (min b.toNat kk.bits) : Nat))) :=
  fun tm w pos aft h => by
    simp only [execOp, ev_sound h hx, ev_sound h hy, Sem.run_bind, run_guard_int, Result.andThen_ok]
    have : ¬ b < 0 := by omega
    have h2 : (2 : Int) ^ (min b.toNat kk.bits) = ((2 ^ (min b.toNat kk.bits) : Nat) : Int) := by simp
    have h3 : 0 < 2 ^ (min b.toNat kk.bits) := Nat.two_pow_pos _
    simp only [binOp, Op.shift, this, if_false, h2]
    rw [Int.fdiv_eq_ediv_of_nonneg _ (by omega)]
    simp
theorem pv_shr12 {t t' : TypeId} {x y : Operand} {kk k2 : IntKind} {a : Int} (hx : ev e x = some (.int kk a) := by rfl) (hy : ev e y = some (.int k2 12) := by rfl) (hk : Nat.ble 12 kk.bits = true := by rfl) : PV P (.binOp .shr t x y t') ty e (.int kk (a / 4096)) := by
  have h := pv_shrN (P := P) (ty := ty) (t := t) (t' := t') hx hy (by decide)
  rwa [show min (12 : Int).toNat kk.bits = 12 from Nat.min_eq_left (Nat.le_of_ble_eq_true hk)] at h
theorem pv_shlN {t t' : TypeId} {x y : Operand} {kk k2 : IntKind} {a b r : Int} (hx : ev e x = some (.int kk a) := by rfl) (hy : ev e y = some (.int k2 b) := by rfl) (h0 : 0 ≤ b := by omega) (hw : kk.wrap (a * (2 ^ (min b.toNat kk.bits) : Nat)) = r := by rfl) : PV P (.binOp .shl t x y t') ty e (.int kk r) :=
  fun tm w pos aft h => by
    subst hw
    simp only [execOp, ev_sound h hx, ev_sound h hy, Sem.run_bind, run_guard_int, Result.andThen_ok]
    have : ¬ b < 0 := by omega
    have h2 : (2 : Int) ^ (min b.toNat kk.bits) = ((2 ^ (min b.toNat kk.bits) : Nat) : Int) := by simp
    simp only [binOp, Op.shift, this, if_false, h2]
    simp
theorem pv_shl12 {t t' : TypeId} {x y : Operand} {kk k2 : IntKind} {a r : Int} (hx : ev e x = some (.int kk a) := by rfl) (hy : ev e y = some (.int k2 12) := by rfl) (hk : Nat.ble 12 kk.bits = true := by rfl) (hw : kk.wrap (a * 4096) = r := by first | exact wrap_i64 (by omega) (by omega) | exact wrap_u64 (by omega) (by omega) | rfl) : PV P (.binOp .shl t x y t') ty e (.int kk r) := by
  refine pv_shlN hx hy (by decide) ?_
  rw [show min (12 : Int).toNat kk.bits = 12 from Nat.min_eq_left (Nat.le_of_ble_eq_true hk)]
  exact hw
theorem pv_quo {t t' : TypeId} {x y : Operand} {kk : IntKind} {a b r : Int} (hx : ev e x = some (.int kk a) := by rfl) (hy : ev e y = some (.int kk b) := by rfl) (h0 : 0 ≤ a := by omega) (h1 : 0 < b := by omega) (hw : kk.wrap (a / b) = r := by first | exact wrap_i64 (by omega) (by omega) | exact wrap_u64 (by omega) (by omega) | rfl) : PV P (.binOp .quo t x y t') ty e (.int kk r) :=
  fun tm w pos aft h => by
    subst hw
    simp only [execOp, ev_sound h hx, ev_sound h hy, Sem.run_bind, run_guard_int, Result.andThen_ok]
    have : ¬ b = 0 := by omega
    simp [binOp, Op.intDiv, this, Int.tdiv_eq_ediv_of_nonneg h0]
theorem pv_rem {t t' : TypeId} {x y : Operand} {kk : IntKind} {a b : Int} (hx : ev e x = some (.int kk a) := by rfl) (hy : ev e y = some (.int kk b) := by rfl) (h0 : 0 ≤ a := by omega) (h1 : 0 < b := by omega) : PV P (.binOp .rem t x y t') ty e (.int kk (a % b)) :=
  fun tm w pos aft h => by
    simp only [execOp, ev_sound h hx, ev_sound h hy, Sem.run_bind, run_guard_int, Result.andThen_ok]
    have : ¬ b = 0 := by omega
    simp [binOp, Op.intDiv, this, Int.tmod_eq_emod_of_nonneg h0]
theorem pv_neg {t : TypeId} {x : Operand} {kk : IntKind} {a r : Int} (hx : ev e x = some (.int kk a) := by rfl) (hw : kk.wrap (0 - a) = r := by first | exact wrap_i64 (by omega) (by omega) | rfl) : PV P (.unOp .neg t x) ty e (.int kk r) :=
  fun tm w pos aft h => by subst hw; simp [execOp, ev_sound h hx, Op.unary, Op.intArith]
theorem pv_makeFunc {fn : Fn} {first captured : Array Operand} {vs ws : List Value} (hv : evl e first.toList = some vs := by rfl) (hw : evl e captured.toList = some ws := by rfl) : PV P (.makeFunc fn first captured) ty e (.func fn vs.toArray ws.toArray) :=
  fun tm w pos aft h => by
    have h1 : first.map (Act.mk tm []).eval = vs.toArray := by apply Array.toList_inj.1; simpa using evl_sound h hv
    have h2 : captured.map (Act.mk tm []).eval = ws.toArray := by apply Array.toList_inj.1; simpa using evl_sound h hw
    simp [execOp, Instr.makeFunc, h1, h2]
end
theorem wrap_u64_eq (x : Int) : IntKind.u64.wrap x = x % 18446744073709551616 := by
  simp [IntKind.wrap, IntKind.bits, IntKind.signed]
theorem bitop_and_u64 {a b : Nat} (ha : a < 18446744073709551616) (hb : b < 18446744073709551616) : bitop .and .u64 a b = ((a &&& b : Nat) : Int) := by
  have h1 : a &&& b ≤ a := Nat.and_le_left
  have e1 : BitVec.ofInt 64 (a : Int) = BitVec.ofNat 64 a := by simp
  have e2 : BitVec.ofInt 64 (b : Int) = BitVec.ofNat 64 b := by simp
  have : (BitVec.ofNat 64 a &&& BitVec.ofNat 64 b).toNat = a &&& b := by
    rw [BitVec.toNat_and, BitVec.toNat_ofNat, BitVec.toNat_ofNat, Nat.mod_eq_of_lt (by omega), Nat.mod_eq_of_lt (by omega)]
  show IntKind.u64.wrap ((BitVec.ofInt 64 (a : Int) &&& BitVec.ofInt 64 (b : Int)).toNat : Int) = _
  rw [e1, e2, this]
  exact wrap_u64 (by omega) (by omega)
theorem and_mask (a k : Nat) : a &&& (2 ^ k - 1) = a % 2 ^ k := by rw [Nat.and_two_pow_sub_one_eq_mod]
theorem pow_two_of {n : Nat} (h : n ≠ 0) (h2 : n &&& (n - 1) = 0) : ∃ k, n = 2 ^ k := by
  induction n using Nat.strongRecOn with
  | _ n ih =>
    rcases Nat.mod_two_eq_zero_or_one n with hp | hp
    · have hlt : n / 2 < n := by omega
      have hne : n / 2 ≠ 0 := by omega
      have h3 : (n / 2) &&& (n / 2 - 1) = 0 := by
        have := congrArg (· / 2) h2
        simp only [Nat.and_div_two] at this
        rw [show (n - 1) / 2 = n / 2 - 1 from by omega] at this
        simpa using this
      obtain ⟨k, hk⟩ := ih _ hlt hne h3
      exact ⟨k + 1, by rw [Nat.pow_succ]; omega⟩
    · by_cases h1 : n = 1
      · exact ⟨0, h1⟩
      · exfalso
        have h3 : (n &&& (n - 1)) / 2 = 0 := by rw [h2]
        rw [Nat.and_div_two, show (n - 1) / 2 = n / 2 from by omega, Nat.and_self] at h3
        omega
theorem pow_two_and (k : Nat) : 2 ^ k &&& (2 ^ k - 1) = 0 := by rw [and_mask]; exact Nat.mod_self _
end Go.Proofs.YtamecmklcnohjaaGreat.Sep
