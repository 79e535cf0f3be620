import Derived.Test.YtehibclkpcnlfaaProg
import Derived.Test.YtehibclkpcnlfaaSepM
import Derived.KernelRfl
namespace Go.Proofs.Ytehibclkpcnlfaa.Sep
open Go.Proofs
theorem tu0 : TU Try.prog 0 Try.t0.desc := ⟨Try.underlying0⟩
theorem ti0 : TI Try.prog 0 (Try.t0.zero.getD undef) 1 0 := ⟨Try.t0, (by kernel_rfl), rfl, rfl, rfl⟩
theorem tu1 : TU Try.prog 1 Try.t1.desc := ⟨Try.underlying1⟩
theorem ti1 : TI Try.prog 1 (Try.t1.zero.getD undef) 1 8 := ⟨Try.t1, (by kernel_rfl), rfl, rfl, rfl⟩
theorem tu2 : TU Try.prog 2 Try.t2.desc := ⟨Try.underlying2⟩
theorem tk2 : TK Try.prog 2 (fun n : Int => Value.int .i64 n) := tk_int (h := ⟨Try.underlying2⟩)
theorem ti2 : TI Try.prog 2 (Try.t2.zero.getD undef) 1 8 := ⟨Try.t2, (by kernel_rfl), rfl, rfl, rfl⟩
theorem tu3 : TU Try.prog 3 Try.t3.desc := ⟨Try.underlying3⟩
theorem tk3 : TK Try.prog 3 (fun n : Int => Value.int .i64 n) := tk_int (h := ⟨Try.underlying3⟩)
theorem ti3 : TI Try.prog 3 (Try.t3.zero.getD undef) 1 8 := ⟨Try.t3, (by kernel_rfl), rfl, rfl, rfl⟩
theorem tu4 : TU Try.prog 4 Try.t4.desc := ⟨Try.underlying4⟩
theorem ti4 : TI Try.prog 4 (Try.t4.zero.getD undef) 1 1 := ⟨Try.t4, (by kernel_rfl), rfl, rfl, rfl⟩
theorem tu5 : TU Try.prog 5 Try.t5.desc := ⟨Try.underlying5⟩
theorem tk5 : TK Try.prog 5 (fun n : Int => Value.int .u8 n) := tk_int (h := ⟨Try.underlying5⟩)
theorem ti5 : TI Try.prog 5 (Try.t5.zero.getD undef) 1 1 := ⟨Try.t5, (by kernel_rfl), rfl, rfl, rfl⟩
theorem tu6 : TU Try.prog 6 Try.t5.desc := ⟨Try.underlying6⟩
theorem tk6 : TK Try.prog 6 (fun n : Int => Value.int .u8 n) := tk_int (h := ⟨Try.underlying6⟩)
theorem ti6 : TI Try.prog 6 (Try.t6.zero.getD undef) 1 1 := ⟨Try.t6, (by kernel_rfl), rfl, rfl, rfl⟩
theorem tu7 : TU Try.prog 7 Try.t7.desc := ⟨Try.underlying7⟩
theorem ti7 : TI Try.prog 7 (Try.t7.zero.getD undef) 4 24 := ⟨Try.t7, (by kernel_rfl), rfl, rfl, rfl⟩
theorem tu8 : TU Try.prog 8 Try.t7.desc := ⟨Try.underlying8⟩
theorem ti8 : TI Try.prog 8 (Try.t8.zero.getD undef) 4 24 := ⟨Try.t8, (by kernel_rfl), rfl, rfl, rfl⟩
theorem tu9 : TU Try.prog 9 Try.t9.desc := ⟨Try.underlying9⟩
theorem ti9 : TI Try.prog 9 (Try.t9.zero.getD undef) 1 16 := ⟨Try.t9, (by kernel_rfl), rfl, rfl, rfl⟩
theorem tu10 : TU Try.prog 10 Try.t9.desc := ⟨Try.underlying10⟩
theorem ti10 : TI Try.prog 10 (Try.t10.zero.getD undef) 1 16 := ⟨Try.t10, (by kernel_rfl), rfl, rfl, rfl⟩
theorem tu11 : TU Try.prog 11 Try.t9.desc := ⟨Try.underlying11⟩
theorem ti11 : TI Try.prog 11 (Try.t11.zero.getD undef) 1 16 := ⟨Try.t11, (by kernel_rfl), rfl, rfl, rfl⟩
theorem tu12 : TU Try.prog 12 Try.t12.desc := ⟨Try.underlying12⟩
theorem tk12 : TK Try.prog 12 (fun n : Int => Value.int .u64 n) := tk_int (h := ⟨Try.underlying12⟩)
theorem ti12 : TI Try.prog 12 (Try.t12.zero.getD undef) 1 8 := ⟨Try.t12, (by kernel_rfl), rfl, rfl, rfl⟩
theorem tu13 : TU Try.prog 13 Try.t13.desc := ⟨Try.underlying13⟩
theorem ti13 : TI Try.prog 13 (Try.t13.zero.getD undef) 2 24 := ⟨Try.t13, (by kernel_rfl), rfl, rfl, rfl⟩
theorem tu14 : TU Try.prog 14 Try.t13.desc := ⟨Try.underlying14⟩
theorem ti14 : TI Try.prog 14 (Try.t14.zero.getD undef) 2 24 := ⟨Try.t14, (by kernel_rfl), rfl, rfl, rfl⟩
theorem tu15 : TU Try.prog 15 Try.t15.desc := ⟨Try.underlying15⟩
theorem ti15 : TI Try.prog 15 (Try.t15.zero.getD undef) 1 8 := ⟨Try.t15, (by kernel_rfl), rfl, rfl, rfl⟩
theorem tu16 : TU Try.prog 16 Try.t16.desc := ⟨Try.underlying16⟩
theorem ti16 : TI Try.prog 16 (Try.t16.zero.getD undef) 1 8 := ⟨Try.t16, (by kernel_rfl), rfl, rfl, rfl⟩
theorem tu17 : TU Try.prog 17 Try.t17.desc := ⟨Try.underlying17⟩
theorem ti17 : TI Try.prog 17 (Try.t17.zero.getD undef) 1 8 := ⟨Try.t17, (by kernel_rfl), rfl, rfl, rfl⟩
theorem tu18 : TU Try.prog 18 Try.t18.desc := ⟨Try.underlying18⟩
theorem ti18 : TI Try.prog 18 (Try.t18.zero.getD undef) 1 8 := ⟨Try.t18, (by kernel_rfl), rfl, rfl, rfl⟩
theorem tu19 : TU Try.prog 19 Try.t18.desc := ⟨Try.underlying19⟩
theorem ti19 : TI Try.prog 19 (Try.t19.zero.getD undef) 1 8 := ⟨Try.t19, (by kernel_rfl), rfl, rfl, rfl⟩
theorem tu20 : TU Try.prog 20 Try.t20.desc := ⟨Try.underlying20⟩
theorem ti20 : TI Try.prog 20 (Try.t20.zero.getD undef) 1 16 := ⟨Try.t20, (by kernel_rfl), rfl, rfl, rfl⟩
theorem tu21 : TU Try.prog 21 Try.t21.desc := ⟨Try.underlying21⟩
theorem tk21 : TK Try.prog 21 (fun n : Int => Value.int .i32 n) := tk_int (h := ⟨Try.underlying21⟩)
theorem ti21 : TI Try.prog 21 (Try.t21.zero.getD undef) 1 4 := ⟨Try.t21, (by kernel_rfl), rfl, rfl, rfl⟩
theorem tu22 : TU Try.prog 22 Try.t22.desc := ⟨Try.underlying22⟩
theorem tk22 : TK Try.prog 22 (fun n : Int => Value.int .u16 n) := tk_int (h := ⟨Try.underlying22⟩)
theorem ti22 : TI Try.prog 22 (Try.t22.zero.getD undef) 1 2 := ⟨Try.t22, (by kernel_rfl), rfl, rfl, rfl⟩
theorem tu23 : TU Try.prog 23 Try.t23.desc := ⟨Try.underlying23⟩
theorem ti23 : TI Try.prog 23 (Try.t23.zero.getD undef) 1 8 := ⟨Try.t23, (by kernel_rfl), rfl, rfl, rfl⟩
theorem tu24 : TU Try.prog 24 Try.t24.desc := ⟨Try.underlying24⟩
theorem ti24 : TI Try.prog 24 (Try.t24.zero.getD undef) 1 8 := ⟨Try.t24, (by kernel_rfl), rfl, rfl, rfl⟩
theorem tu25 : TU Try.prog 25 Try.t25.desc := ⟨Try.underlying25⟩
theorem ti25 : TI Try.prog 25 (Try.t25.zero.getD undef) 1 8 := ⟨Try.t25, (by kernel_rfl), rfl, rfl, rfl⟩
theorem tu26 : TU Try.prog 26 Try.t26.desc := ⟨Try.underlying26⟩
theorem ti26 : TI Try.prog 26 (Try.t26.zero.getD undef) 1 8 := ⟨Try.t26, (by kernel_rfl), rfl, rfl, rfl⟩
theorem tu27 : TU Try.prog 27 Try.t27.desc := ⟨Try.underlying27⟩
theorem ti27 : TI Try.prog 27 (Try.t27.zero.getD undef) 1 8 := ⟨Try.t27, (by kernel_rfl), rfl, rfl, rfl⟩
theorem tu28 : TU Try.prog 28 Try.t28.desc := ⟨Try.underlying28⟩
theorem ti28 : TI Try.prog 28 (Try.t28.zero.getD undef) 1 24 := ⟨Try.t28, (by kernel_rfl), rfl, rfl, rfl⟩
theorem tu29 : TU Try.prog 29 Try.t29.desc := ⟨Try.underlying29⟩
theorem ti29 : TI Try.prog 29 (Try.t29.zero.getD undef) 1 8 := ⟨Try.t29, (by kernel_rfl), rfl, rfl, rfl⟩
theorem tu30 : TU Try.prog 30 Try.t30.desc := ⟨Try.underlying30⟩
theorem ti30 : TI Try.prog 30 (Try.t30.zero.getD undef) 1 8 := ⟨Try.t30, (by kernel_rfl), rfl, rfl, rfl⟩
theorem tu31 : TU Try.prog 31 Try.t31.desc := ⟨Try.underlying31⟩
theorem ti31 : TI Try.prog 31 (Try.t31.zero.getD undef) 1 24 := ⟨Try.t31, (by kernel_rfl), rfl, rfl, rfl⟩
theorem tu32 : TU Try.prog 32 Try.t32.desc := ⟨Try.underlying32⟩
theorem tk32 : TK Try.prog 32 (fun n : Int => Value.int .u64 n) := tk_int (h := ⟨Try.underlying32⟩)
theorem ti32 : TI Try.prog 32 (Try.t32.zero.getD undef) 1 8 := ⟨Try.t32, (by kernel_rfl), rfl, rfl, rfl⟩
theorem tu33 : TU Try.prog 33 Try.t33.desc := ⟨Try.underlying33⟩
theorem ti33 : TI Try.prog 33 (Try.t33.zero.getD undef) 4 32 := ⟨Try.t33, (by kernel_rfl), rfl, rfl, rfl⟩
theorem tu34 : TU Try.prog 34 Try.t33.desc := ⟨Try.underlying34⟩
theorem ti34 : TI Try.prog 34 (Try.t34.zero.getD undef) 4 32 := ⟨Try.t34, (by kernel_rfl), rfl, rfl, rfl⟩
theorem tu35 : TU Try.prog 35 Try.t35.desc := ⟨Try.underlying35⟩
theorem ti35 : TI Try.prog 35 (Try.t35.zero.getD undef) 1 24 := ⟨Try.t35, (by kernel_rfl), rfl, rfl, rfl⟩
theorem tu36 : TU Try.prog 36 Try.t36.desc := ⟨Try.underlying36⟩
theorem ti36 : TI Try.prog 36 (Try.t36.zero.getD undef) 1 8 := ⟨Try.t36, (by kernel_rfl), rfl, rfl, rfl⟩
theorem tu37 : TU Try.prog 37 Try.t37.desc := ⟨Try.underlying37⟩
theorem ti37 : TI Try.prog 37 (Try.t37.zero.getD undef) 1 8 := ⟨Try.t37, (by kernel_rfl), rfl, rfl, rfl⟩
theorem tu38 : TU Try.prog 38 Try.t38.desc := ⟨Try.underlying38⟩
theorem ti38 : TI Try.prog 38 (Try.t38.zero.getD undef) 1 8 := ⟨Try.t38, (by kernel_rfl), rfl, rfl, rfl⟩
theorem tu39 : TU Try.prog 39 Try.t39.desc := ⟨Try.underlying39⟩
theorem ti39 : TI Try.prog 39 (Try.t39.zero.getD undef) 1 0 := ⟨Try.t39, (by kernel_rfl), rfl, rfl, rfl⟩
theorem tu40 : TU Try.prog 40 Try.t40.desc := ⟨Try.underlying40⟩
theorem ti40 : TI Try.prog 40 (Try.t40.zero.getD undef) 1 8 := ⟨Try.t40, (by kernel_rfl), rfl, rfl, rfl⟩
theorem tu41 : TU Try.prog 41 Try.t41.desc := ⟨Try.underlying41⟩
theorem ti41 : TI Try.prog 41 (Try.t41.zero.getD undef) 1 8 := ⟨Try.t41, (by kernel_rfl), rfl, rfl, rfl⟩
theorem tu42 : TU Try.prog 42 Try.t42.desc := ⟨Try.underlying42⟩
theorem ti42 : TI Try.prog 42 (Try.t42.zero.getD undef) 1 8 := ⟨Try.t42, (by kernel_rfl), rfl, rfl, rfl⟩
theorem tu43 : TU Try.prog 43 Try.t43.desc := ⟨Try.underlying43⟩
theorem ti43 : TI Try.prog 43 (Try.t43.zero.getD undef) 1 8 := ⟨Try.t43, (by kernel_rfl), rfl, rfl, rfl⟩
theorem tu44 : TU Try.prog 44 Try.t44.desc := ⟨Try.underlying44⟩
theorem ti44 : TI Try.prog 44 (Try.t44.zero.getD undef) 1 8 := ⟨Try.t44, (by kernel_rfl), rfl, rfl, rfl⟩
theorem tu45 : TU Try.prog 45 Try.t45.desc := ⟨Try.underlying45⟩
theorem ti45 : TI Try.prog 45 (Try.t45.zero.getD undef) 1 0 := ⟨Try.t45, (by kernel_rfl), rfl, rfl, rfl⟩
theorem tu46 : TU Try.prog 46 Try.t46.desc := ⟨Try.underlying46⟩
theorem ti46 : TI Try.prog 46 (Try.t46.zero.getD undef) 1 8 := ⟨Try.t46, (by kernel_rfl), rfl, rfl, rfl⟩
theorem tu47 : TU Try.prog 47 Try.t47.desc := ⟨Try.underlying47⟩
theorem ti47 : TI Try.prog 47 (Try.t47.zero.getD undef) 1 8 := ⟨Try.t47, (by kernel_rfl), rfl, rfl, rfl⟩
theorem tu48 : TU Try.prog 48 Try.t48.desc := ⟨Try.underlying48⟩
theorem ti48 : TI Try.prog 48 (Try.t48.zero.getD undef) 1 8 := ⟨Try.t48, (by kernel_rfl), rfl, rfl, rfl⟩
theorem tu49 : TU Try.prog 49 Try.t49.desc := ⟨Try.underlying49⟩
theorem ti49 : TI Try.prog 49 (Try.t49.zero.getD undef) 1 8 := ⟨Try.t49, (by kernel_rfl), rfl, rfl, rfl⟩
theorem tu50 : TU Try.prog 50 Try.t50.desc := ⟨Try.underlying50⟩
theorem ti50 : TI Try.prog 50 (Try.t50.zero.getD undef) 1 8 := ⟨Try.t50, (by kernel_rfl), rfl, rfl, rfl⟩
theorem tu51 : TU Try.prog 51 Try.t51.desc := ⟨Try.underlying51⟩
theorem tk51 : TK Try.prog 51 (fun n : Int => Value.int .u64 n) := tk_int (h := ⟨Try.underlying51⟩)
theorem ti51 : TI Try.prog 51 (Try.t51.zero.getD undef) 1 8 := ⟨Try.t51, (by kernel_rfl), rfl, rfl, rfl⟩
theorem tu52 : TU Try.prog 52 Try.t52.desc := ⟨Try.underlying52⟩
theorem ti52 : TI Try.prog 52 (Try.t52.zero.getD undef) 1 8 := ⟨Try.t52, (by kernel_rfl), rfl, rfl, rfl⟩
theorem tu53 : TU Try.prog 53 Try.t53.desc := ⟨Try.underlying53⟩
theorem ti53 : TI Try.prog 53 (Try.t53.zero.getD undef) 1 8 := ⟨Try.t53, (by kernel_rfl), rfl, rfl, rfl⟩
theorem tu54 : TU Try.prog 54 Try.t54.desc := ⟨Try.underlying54⟩
theorem ti54 : TI Try.prog 54 (Try.t54.zero.getD undef) 2 16 := ⟨Try.t54, (by kernel_rfl), rfl, rfl, rfl⟩
theorem tu55 : TU Try.prog 55 Try.t54.desc := ⟨Try.underlying55⟩
theorem ti55 : TI Try.prog 55 (Try.t55.zero.getD undef) 2 16 := ⟨Try.t55, (by kernel_rfl), rfl, rfl, rfl⟩
theorem tu56 : TU Try.prog 56 Try.t56.desc := ⟨Try.underlying56⟩
theorem ti56 : TI Try.prog 56 (Try.t56.zero.getD undef) 2 16 := ⟨Try.t56, (by kernel_rfl), rfl, rfl, rfl⟩
theorem tu57 : TU Try.prog 57 Try.t56.desc := ⟨Try.underlying57⟩
theorem ti57 : TI Try.prog 57 (Try.t57.zero.getD undef) 2 16 := ⟨Try.t57, (by kernel_rfl), rfl, rfl, rfl⟩
theorem tu58 : TU Try.prog 58 Try.t58.desc := ⟨Try.underlying58⟩
theorem ti58 : TI Try.prog 58 (Try.t58.zero.getD undef) 2 16 := ⟨Try.t58, (by kernel_rfl), rfl, rfl, rfl⟩
theorem tu59 : TU Try.prog 59 Try.t58.desc := ⟨Try.underlying59⟩
theorem ti59 : TI Try.prog 59 (Try.t59.zero.getD undef) 2 16 := ⟨Try.t59, (by kernel_rfl), rfl, rfl, rfl⟩
theorem tu60 : TU Try.prog 60 Try.t60.desc := ⟨Try.underlying60⟩
theorem ti60 : TI Try.prog 60 (Try.t60.zero.getD undef) 1 24 := ⟨Try.t60, (by kernel_rfl), rfl, rfl, rfl⟩
theorem tu61 : TU Try.prog 61 Try.t61.desc := ⟨Try.underlying61⟩
theorem ti61 : TI Try.prog 61 (Try.t61.zero.getD undef) 1 8 := ⟨Try.t61, (by kernel_rfl), rfl, rfl, rfl⟩
theorem tu62 : TU Try.prog 62 Try.t62.desc := ⟨Try.underlying62⟩
theorem ti62 : TI Try.prog 62 (Try.t62.zero.getD undef) 4 40 := ⟨Try.t62, (by kernel_rfl), rfl, rfl, rfl⟩
theorem tu63 : TU Try.prog 63 Try.t62.desc := ⟨Try.underlying63⟩
theorem ti63 : TI Try.prog 63 (Try.t63.zero.getD undef) 4 40 := ⟨Try.t63, (by kernel_rfl), rfl, rfl, rfl⟩
theorem tu64 : TU Try.prog 64 Try.t64.desc := ⟨Try.underlying64⟩
theorem ti64 : TI Try.prog 64 (Try.t64.zero.getD undef) 0 0 := ⟨Try.t64, (by kernel_rfl), rfl, rfl, rfl⟩
theorem tu65 : TU Try.prog 65 Try.t65.desc := ⟨Try.underlying65⟩
theorem ti65 : TI Try.prog 65 (Try.t65.zero.getD undef) 0 0 := ⟨Try.t65, (by kernel_rfl), rfl, rfl, rfl⟩
theorem tu66 : TU Try.prog 66 Try.t65.desc := ⟨Try.underlying66⟩
theorem ti66 : TI Try.prog 66 (Try.t66.zero.getD undef) 0 0 := ⟨Try.t66, (by kernel_rfl), rfl, rfl, rfl⟩
theorem tu67 : TU Try.prog 67 Try.t67.desc := ⟨Try.underlying67⟩
theorem tk67 : TK Try.prog 67 (fun n : Int => Value.int .u32 n) := tk_int (h := ⟨Try.underlying67⟩)
theorem ti67 : TI Try.prog 67 (Try.t67.zero.getD undef) 1 4 := ⟨Try.t67, (by kernel_rfl), rfl, rfl, rfl⟩
theorem tu68 : TU Try.prog 68 Try.t5.desc := ⟨Try.underlying68⟩
theorem tk68 : TK Try.prog 68 (fun n : Int => Value.int .u8 n) := tk_int (h := ⟨Try.underlying68⟩)
theorem ti68 : TI Try.prog 68 (Try.t68.zero.getD undef) 1 1 := ⟨Try.t68, (by kernel_rfl), rfl, rfl, rfl⟩
theorem tu69 : TU Try.prog 69 Try.t5.desc := ⟨Try.underlying69⟩
theorem tk69 : TK Try.prog 69 (fun n : Int => Value.int .u8 n) := tk_int (h := ⟨Try.underlying69⟩)
theorem ti69 : TI Try.prog 69 (Try.t69.zero.getD undef) 1 1 := ⟨Try.t69, (by kernel_rfl), rfl, rfl, rfl⟩
theorem tu70 : TU Try.prog 70 Try.t70.desc := ⟨Try.underlying70⟩
theorem ti70 : TI Try.prog 70 (Try.t70.zero.getD undef) 1 8 := ⟨Try.t70, (by kernel_rfl), rfl, rfl, rfl⟩
theorem tu71 : TU Try.prog 71 Try.t71.desc := ⟨Try.underlying71⟩
theorem ti71 : TI Try.prog 71 (Try.t71.zero.getD undef) 1 8 := ⟨Try.t71, (by kernel_rfl), rfl, rfl, rfl⟩
theorem tu72 : TU Try.prog 72 Try.t21.desc := ⟨Try.underlying72⟩
theorem tk72 : TK Try.prog 72 (fun n : Int => Value.int .i32 n) := tk_int (h := ⟨Try.underlying72⟩)
theorem ti72 : TI Try.prog 72 (Try.t72.zero.getD undef) 1 4 := ⟨Try.t72, (by kernel_rfl), rfl, rfl, rfl⟩
theorem tu73 : TU Try.prog 73 Try.t21.desc := ⟨Try.underlying73⟩
theorem tk73 : TK Try.prog 73 (fun n : Int => Value.int .i32 n) := tk_int (h := ⟨Try.underlying73⟩)
theorem ti73 : TI Try.prog 73 (Try.t73.zero.getD undef) 1 4 := ⟨Try.t73, (by kernel_rfl), rfl, rfl, rfl⟩
theorem tu74 : TU Try.prog 74 Try.t74.desc := ⟨Try.underlying74⟩
theorem ti74 : TI Try.prog 74 (Try.t74.zero.getD undef) 11 48 := ⟨Try.t74, (by kernel_rfl), rfl, rfl, rfl⟩
theorem tu75 : TU Try.prog 75 Try.t74.desc := ⟨Try.underlying75⟩
theorem ti75 : TI Try.prog 75 (Try.t75.zero.getD undef) 11 48 := ⟨Try.t75, (by kernel_rfl), rfl, rfl, rfl⟩
theorem tu76 : TU Try.prog 76 Try.t76.desc := ⟨Try.underlying76⟩
theorem ti76 : TI Try.prog 76 (Try.t76.zero.getD undef) 1 8 := ⟨Try.t76, (by kernel_rfl), rfl, rfl, rfl⟩
theorem en2 : IsEnt Try.prog 2 := ⟨Try.call2⟩
theorem en3 : IsEnt Try.prog 3 := ⟨Try.call3⟩
theorem en4 : IsEnt Try.prog 4 := ⟨Try.call4⟩
theorem en5 : IsEnt Try.prog 5 := ⟨Try.call5⟩
theorem en6 : IsEnt Try.prog 6 := ⟨Try.call6⟩
theorem en7 : IsEnt Try.prog 7 := ⟨Try.call7⟩
theorem en8 : IsEnt Try.prog 8 := ⟨Try.call8⟩
theorem en9 : IsEnt Try.prog 9 := ⟨Try.call9⟩
theorem en10 : IsEnt Try.prog 10 := ⟨Try.call10⟩
theorem en11 : IsEnt Try.prog 11 := ⟨Try.call11⟩
theorem en12 : IsEnt Try.prog 12 := ⟨Try.call12⟩
theorem en13 : IsEnt Try.prog 13 := ⟨Try.call13⟩
theorem en14 : IsEnt Try.prog 14 := ⟨Try.call14⟩
theorem en15 : IsEnt Try.prog 15 := ⟨Try.call15⟩
theorem en16 : IsEnt Try.prog 16 := ⟨Try.call16⟩
theorem en17 : IsEnt Try.prog 17 := ⟨Try.call17⟩
theorem en18 : IsEnt Try.prog 18 := ⟨Try.call18⟩
theorem en19 : IsEnt Try.prog 19 := ⟨Try.call19⟩
theorem en20 : IsEnt Try.prog 20 := ⟨Try.call20⟩
theorem en21 : IsEnt Try.prog 21 := ⟨Try.call21⟩
theorem en22 : IsEnt Try.prog 22 := ⟨Try.call22⟩
theorem en23 : IsEnt Try.prog 23 := ⟨Try.call23⟩
theorem mixed : Mixed Try.prog := ⟨(by kernel_rfl)⟩
attribute [instance] tu0 ti0 tu1 ti1 tu2 tk2 ti2 tu3 tk3 ti3 tu4 ti4 tu5 tk5 ti5 tu6 tk6 ti6 tu7 ti7 tu8 ti8 tu9 ti9 tu10 ti10 tu11 ti11 tu12 tk12 ti12 tu13 ti13 tu14 ti14 tu15 ti15 tu16 ti16 tu17 ti17 tu18 ti18 tu19 ti19 tu20 ti20 tu21 tk21 ti21 tu22 tk22 ti22 tu23 ti23 tu24 ti24 tu25 ti25 tu26 ti26 tu27 ti27 tu28 ti28 tu29 ti29 tu30 ti30 tu31 ti31 tu32 tk32 ti32 tu33 ti33 tu34 ti34 tu35 ti35 tu36 ti36 tu37 ti37 tu38 ti38 tu39 ti39 tu40 ti40 tu41 ti41 tu42 ti42 tu43 ti43 tu44 ti44 tu45 ti45 tu46 ti46 tu47 ti47 tu48 ti48 tu49 ti49 tu50 ti50 tu51 tk51 ti51 tu52 ti52 tu53 ti53 tu54 ti54 tu55 ti55 tu56 ti56 tu57 ti57 tu58 ti58 tu59 ti59 tu60 ti60 tu61 ti61 tu62 ti62 tu63 ti63 tu64 ti64 tu65 ti65 tu66 ti66 tu67 tk67 ti67 tu68 tk68 ti68 tu69 tk69 ti69 tu70 ti70 tu71 ti71 tu72 tk72 ti72 tu73 tk73 ti73 tu74 ti74 tu75 ti75 tu76 ti76 en2 en3 en4 en5 en6 en7 en8 en9 en10 en11 en12 en13 en14 en15 en16 en17 en18 en19 en20 en21 en22 en23 mixed
end Go.Proofs.Ytehibclkpcnlfaa.Sep
