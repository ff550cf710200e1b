-- Written for this claim by a program of this session (the equations of the functions, read off their code).
import Derived.Test.YtacfnpnaeiagnaaEW
import Derived.KernelRfl
namespace Go.Proofs.Ytacfnpnaeiagnaa.PW
open Go Go.Den Go.RowKit
set_option maxRecDepth 100000
set_option linter.unusedVariables false
theorem laws_FnExactWayOf.f_eq (k : Nat) (a0 : (List T42)) (a1 : ByteArray) (a2 : ByteArray) : laws_FnExactWayOf.f (k + 1) a0 a1 a2 =
  (if ((a1.size : Int) : Int) > 1048576 then (some true) else (if ((a2.size : Int) : Int) > 1048576 then (some true) else ((laws_szNestS.f k a0 1048576).bind fun t0 => (if (t0 : Int) < 0 then (some true) else ((laws_toNestS_m.f k a0).bind fun t1 => ((spec_WayOf.f k t1.1 a1 a2).bind fun t2 => ((laws_toNestS_m.f k a0).bind fun t3 => ((impl_WayOf_m.f k t3.1 a1 a2).bind fun t4 => ((laws_eqStringS.f k t4.1 t2).bind fun t5 => (if t5 = true then ((laws_toNestS_m.f k a0).bind fun t6 => ((laws_eqNestS.f k t3.1 t6.1).bind fun t7 => (if t7 = true then ((laws_markNestS_m.f k t3.1 1).bind fun t8 => (if (t8.1 : Int) < 0 then (some false) else ((laws_eqStringS.f k t4.1 t2).bind fun t9 => (if t9 = true then ((laws_markStringS_m.f k t4.1 1).bind fun t10 => ((laws_heldStringS.f k t10.2.1 1).bind fun t11 => (if (t11 : Int) < 0 then (some false) else (if (t11 : Int) = t10.1 then ((laws_toNestS_m.f k a0).bind fun t12 => ((impl_WayOf_m.f k t12.1 a1 a2).bind fun t13 => ((laws_eqStringS.f k t13.1 t2).bind fun t14 => (if t14 = true then ((laws_heldStringS.f k t10.2.1 1).bind fun t15 => (if (t15 : Int) < 0 then (some false) else (if (t15 : Int) = t10.1 then (some true) else (some false)))) else (some false))))) else (some false))))) else (some false))))) else (some false)))) else (some false))))))))))) := by kernel_rfl
theorem laws_szNestS.f_eq (k : Nat) (a0 : (List T42)) (a1 : Int) : laws_szNestS.f (k + 1) a0 a1 =
  (if ((wrap64 (a1 - (a0.length : Int))) : Int) < 0 then (some (-1)) else (laws_szNestS.l16 k k a0 (wrap64 (a1 - (a0.length : Int))) 0)) := by kernel_rfl
theorem laws_toNestS_m.f_eq (k : Nat) (a0 : (List T42)) : laws_toNestS_m.f (k + 1) a0 =
  (if 0 ≤ ((a0.length : Int) : Int) ∧ ((a0.length : Int) : Int) ≤ (a0.length : Int) ∧ (a0.length : Int) ≤ 1066193093600 then (if ((a0.length : Int) : Int) = (a0.length : Int) then (laws_toNestS_m.l8 k k a0 0 (reps (a0.length : Int) Z42)) else none) else none) := by kernel_rfl
theorem spec_WayOf.f_eq (k : Nat) (a0 : (List T42)) (a1 : ByteArray) (a2 : ByteArray) : spec_WayOf.f (k + 1) a0 a1 a2 =
  ((spec_GoodNests.f k a0).bind fun t0 => (if t0 = true then ((spec_l5Rings.f k a0 a1).bind fun t1 => (spec_WayOf.l14 k k a0 a1 a2 t1 (t1.length : Int) 0)) else (some ([] : List ByteArray)))) := by kernel_rfl
theorem laws_eqStringS.f_eq (k : Nat) (a0 : (List ByteArray)) (a1 : (List ByteArray)) : laws_eqStringS.f (k + 1) a0 a1 =
  (if ((a0.length : Int) : Int) = (a1.length : Int) then (laws_eqStringS.l14 k k a0 a1 0) else (some false)) := by kernel_rfl
theorem laws_eqNestS.f_eq (k : Nat) (a0 : (List T42)) (a1 : (List T42)) : laws_eqNestS.f (k + 1) a0 a1 =
  (if ((a0.length : Int) : Int) = (a1.length : Int) then (laws_eqNestS.l14 k k a0 a1 0) else (some false)) := by kernel_rfl
theorem laws_markNestS_m.f_eq (k : Nat) (a0 : (List T42)) (a1 : Int) : laws_markNestS_m.f (k + 1) a0 a1 =
  (laws_markNestS_m.l6 k k a1 0 a0) := by kernel_rfl
theorem laws_markStringS_m.f_eq (k : Nat) (a0 : (List ByteArray)) (a1 : Int) : laws_markStringS_m.f (k + 1) a0 a1 =
  (laws_markStringS_m.l6 k k a1 0 a0) := by kernel_rfl
theorem laws_heldStringS.f_eq (k : Nat) (a0 : (List ByteArray)) (a1 : Int) : laws_heldStringS.f (k + 1) a0 a1 =
  (laws_heldStringS.l6 k k a0 a1 0) := by kernel_rfl
theorem laws_szNestS.l16_eq (K j : Nat) (x0 : (List T42)) (x1 : Int) (x5 : Int) : laws_szNestS.l16 K (j + 1) x0 x1 x5 =
  (if (x5 : Int) < (x0.length : Int) then (if 0 ≤ (x5 : Int) ∧ (x5 : Int) < (x0.length : Int) then ((laws_szNest.f K (rd Z42 x0 x5) x1).bind fun t0 => (if (t0 : Int) < 0 then (some (-1)) else (laws_szNestS.l16 K j x0 t0 (wrap64 (x5 + 1))))) else none) else (some x1)) := by kernel_rfl
theorem laws_toNestS_m.l8_eq (K j : Nat) (x0 : (List T42)) (x4 : Int) (y0 : (List T42)) : laws_toNestS_m.l8 K (j + 1) x0 x4 y0 =
  (if (x4 : Int) < (x0.length : Int) then (if 0 ≤ (x4 : Int) ∧ (x4 : Int) < (x0.length : Int) then ((laws_toNest.f K (rd Z42 x0 x4)).bind fun t0 => (if 0 ≤ (x4 : Int) ∧ (x4 : Int) < (y0.length : Int) then ((some ((put y0 x4 t0) : (List T42))).bind fun t1 => (laws_toNestS_m.l8 K j x0 (wrap64 (x4 + 1)) t1)) else none)) else none) else (some (y0, ()))) := by kernel_rfl
theorem spec_GoodNests.f_eq (k : Nat) (a0 : (List T42)) : spec_GoodNests.f (k + 1) a0 =
  (if ((a0.length : Int) : Int) > 200 then (some false) else (spec_GoodNests.l14 k k a0 a0 (a0.length : Int) 0)) := by kernel_rfl
theorem spec_WayOf.l14_eq (K j : Nat) (x0 : (List T42)) (x1 : ByteArray) (x2 : ByteArray) (x14 : (List (List ByteArray))) (x15 : Int) (x16 : Int) : spec_WayOf.l14 K (j + 1) x0 x1 x2 x14 x15 x16 =
  (if (x16 : Int) < x15 then (if 0 ≤ (x16 : Int) ∧ (x16 : Int) < (x14.length : Int) then ((spec_l3Has.f K (rd ([] : List ByteArray) x14 x16) x2).bind fun t0 => (if t0 = true then ((spec_l5Way.f K x0 x1 x2 (wrap64 (x16 + 1))).bind fun t1 => (some t1)) else (spec_WayOf.l14 K j x0 x1 x2 x14 x15 (wrap64 (x16 + 1))))) else none) else (some ([] : List ByteArray))) := by kernel_rfl
theorem impl_GoodNests.f_eq (k : Nat) (a0 : (List T42)) : impl_GoodNests.f (k + 1) a0 =
  (if ((a0.length : Int) : Int) > 200 then (some false) else (impl_GoodNests.l14 k k a0 a0 (a0.length : Int) 0)) := by kernel_rfl
theorem laws_eqStringS.l14_eq (K j : Nat) (x0 : (List ByteArray)) (x1 : (List ByteArray)) (x5 : Int) : laws_eqStringS.l14 K (j + 1) x0 x1 x5 =
  (if (x5 : Int) < (x0.length : Int) then (if 0 ≤ (x5 : Int) ∧ (x5 : Int) < (x0.length : Int) then (if 0 ≤ (x5 : Int) ∧ (x5 : Int) < (x1.length : Int) then (if (rd (⟨#[]⟩ : ByteArray) x0 x5).toList = (rd (⟨#[]⟩ : ByteArray) x1 x5).toList then (laws_eqStringS.l14 K j x0 x1 (wrap64 (x5 + 1))) else (some false)) else none) else none) else (some true)) := by kernel_rfl
theorem laws_eqNestS.l14_eq (K j : Nat) (x0 : (List T42)) (x1 : (List T42)) (x5 : Int) : laws_eqNestS.l14 K (j + 1) x0 x1 x5 =
  (if (x5 : Int) < (x0.length : Int) then (if 0 ≤ (x5 : Int) ∧ (x5 : Int) < (x0.length : Int) then (if 0 ≤ (x5 : Int) ∧ (x5 : Int) < (x1.length : Int) then ((laws_eqNest.f K (rd Z42 x0 x5) (rd Z42 x1 x5)).bind fun t0 => (if t0 = true then (laws_eqNestS.l14 K j x0 x1 (wrap64 (x5 + 1))) else (some false))) else none) else none) else (some true)) := by kernel_rfl
theorem laws_markNestS_m.l6_eq (K j : Nat) (x1 : Int) (x5 : Int) (y0 : (List T42)) : laws_markNestS_m.l6 K (j + 1) x1 x5 y0 =
  (if (x5 : Int) < (y0.length : Int) then ((laws_markText.f K x1).bind fun t0 => (if 0 ≤ (x5 : Int) ∧ (x5 : Int) < (y0.length : Int) then ((some ((put y0 x5 (t0, (rd Z42 y0 x5).2)) : (List T42))).bind fun t1 => ((laws_markText.f K (wrap64 (x1 + 1))).bind fun t2 => (if 0 ≤ (x5 : Int) ∧ (x5 : Int) < (t1.length : Int) then ((some ((put t1 x5 ((rd Z42 t1 x5).1, (t2, (rd Z42 t1 x5).2.2))) : (List T42))).bind fun t3 => (laws_markNestS_m.l6 K j (wrap64 ((wrap64 (x1 + 1)) + 1)) (wrap64 (x5 + 1)) t3)) else none))) else none)) else (some (x1, (y0, ())))) := by kernel_rfl
theorem laws_markStringS_m.l6_eq (K j : Nat) (x1 : Int) (x5 : Int) (y0 : (List ByteArray)) : laws_markStringS_m.l6 K (j + 1) x1 x5 y0 =
  (if (x5 : Int) < (y0.length : Int) then ((laws_markText.f K x1).bind fun t0 => (if 0 ≤ (x5 : Int) ∧ (x5 : Int) < (y0.length : Int) then ((some ((put y0 x5 t0) : (List ByteArray))).bind fun t1 => (laws_markStringS_m.l6 K j (wrap64 (x1 + 1)) (wrap64 (x5 + 1)) t1)) else none)) else (some (x1, (y0, ())))) := by kernel_rfl
theorem laws_heldStringS.l6_eq (K j : Nat) (x0 : (List ByteArray)) (x1 : Int) (x5 : Int) : laws_heldStringS.l6 K (j + 1) x0 x1 x5 =
  (if (x5 : Int) < (x0.length : Int) then (if 0 ≤ (x5 : Int) ∧ (x5 : Int) < (x0.length : Int) then ((laws_markText.f K x1).bind fun t0 => (if (rd (⟨#[]⟩ : ByteArray) x0 x5).toList = t0.toList then (laws_heldStringS.l6 K j x0 (wrap64 (x1 + 1)) (wrap64 (x5 + 1))) else (some (-1)))) else none) else (some x1)) := by kernel_rfl
theorem laws_szNest.f_eq (k : Nat) (a0 : T42) (a1 : Int) : laws_szNest.f (k + 1) a0 a1 =
  (if ((wrap64 (a1 - (a0.1.size : Int))) : Int) < 0 then (some (-1)) else (if ((wrap64 ((wrap64 (a1 - (a0.1.size : Int))) - (a0.2.1.size : Int))) : Int) < 0 then (some (-1)) else (some (wrap64 ((wrap64 (a1 - (a0.1.size : Int))) - (a0.2.1.size : Int)))))) := by kernel_rfl
theorem laws_toNest.f_eq (k : Nat) (a0 : T42) : laws_toNest.f (k + 1) a0 =
  (some a0) := by kernel_rfl
theorem spec_GoodNests.l14_eq (K j : Nat) (x0 : (List T42)) (x8 : (List T42)) (x9 : Int) (x10 : Int) : spec_GoodNests.l14 K (j + 1) x0 x8 x9 x10 =
  (if (x10 : Int) < x9 then (if 0 ≤ (x10 : Int) ∧ (x10 : Int) < (x8.length : Int) then ((spec_l5Group.f K (rd Z42 x8 x10).1).bind fun t0 => (if t0 = true then ((spec_GoodName.f K (rd Z42 x8 x10).2.1).bind fun t1 => (if t1 = true then (if (x10 : Int) > 0 then (if 0 ≤ ((wrap64 (x10 - 1)) : Int) ∧ ((wrap64 (x10 - 1)) : Int) < (x0.length : Int) then ((spec_l5CmpNest.f K (rd Z42 x0 (wrap64 (x10 - 1))) (rd Z42 x8 x10)).bind fun t2 => (if (t2 : Int) ≥ 0 then (some false) else (spec_GoodNests.l14 K j x0 x8 x9 (wrap64 (x10 + 1))))) else none) else (spec_GoodNests.l14 K j x0 x8 x9 (wrap64 (x10 + 1)))) else (some false))) else (some false))) else none) else (some true)) := by kernel_rfl
theorem spec_l3Has.f_eq (k : Nat) (a0 : (List ByteArray)) (a1 : ByteArray) : spec_l3Has.f (k + 1) a0 a1 =
  (spec_l3Has.l6 k k a1 a0 (a0.length : Int) 0) := by kernel_rfl
theorem spec_l5Way.f_eq (k : Nat) (a0 : (List T42)) (a1 : ByteArray) (a2 : ByteArray) (a3 : Int) : spec_l5Way.f (k + 1) a0 a1 a2 a3 =
  (spec_l5Way.l6 k k a0 a1 a2 a3 a0 (a0.length : Int) 0) := by kernel_rfl
theorem impl_GoodNests.l14_eq (K j : Nat) (x0 : (List T42)) (x8 : (List T42)) (x9 : Int) (x10 : Int) : impl_GoodNests.l14 K (j + 1) x0 x8 x9 x10 =
  (if (x10 : Int) < x9 then (if 0 ≤ (x10 : Int) ∧ (x10 : Int) < (x8.length : Int) then ((impl_ygoodNest.f K (rd Z42 x8 x10)).bind fun t0 => (if t0 = true then (if (x10 : Int) > 0 then (if 0 ≤ ((wrap64 (x10 - 1)) : Int) ∧ ((wrap64 (x10 - 1)) : Int) < (x0.length : Int) then ((impl_ycmpNest.f K (rd Z42 x0 (wrap64 (x10 - 1))) (rd Z42 x8 x10)).bind fun t1 => (if (t1 : Int) ≥ 0 then (some false) else (impl_GoodNests.l14 K j x0 x8 x9 (wrap64 (x10 + 1))))) else none) else (impl_GoodNests.l14 K j x0 x8 x9 (wrap64 (x10 + 1)))) else (some false))) else none) else (some true)) := by kernel_rfl
theorem laws_eqNest.f_eq (k : Nat) (a0 : T42) (a1 : T42) : laws_eqNest.f (k + 1) a0 a1 =
  (if a0.1.toList = a1.1.toList then (if a0.2.1.toList = a1.2.1.toList then (some true) else (some false)) else (some false)) := by kernel_rfl
theorem laws_markText.f_eq (k : Nat) (a0 : Int) : laws_markText.f (k + 1) a0 =
  (if (a0 : Int) ≤ 0 then (some (⟨#[109, 48]⟩ : ByteArray)) else (laws_markText.l14 k k a0 (⟨#[]⟩ : ByteArray))) := by kernel_rfl
theorem spec_l5Group.f_eq (k : Nat) (a0 : ByteArray) : spec_l5Group.f (k + 1) a0 =
  ((spec_GoodName.f k a0).bind fun t0 => (if t0 = true then (if 0 ≤ (0 : Int) ∧ (0 : Int) < (a0.size : Int) then (if ((bt a0 0) : Int) ≥ 65 then (if 0 ≤ (0 : Int) ∧ (0 : Int) < (a0.size : Int) then (some (decide (((bt a0 0) : Int) ≤ 90))) else none) else (some false)) else none) else (some false))) := by kernel_rfl
theorem spec_GoodName.f_eq (k : Nat) (a0 : ByteArray) : spec_GoodName.f (k + 1) a0 =
  (if ((a0.size : Int) : Int) < 1 then (some false) else (if ((a0.size : Int) : Int) > 30 then (some false) else (if 0 ≤ (0 : Int) ∧ (0 : Int) < (a0.size : Int) then ((spec_l1Digit.f k (bt a0 0)).bind fun t0 => (if t0 = true then (some false) else (spec_GoodName.l14 k k a0 0))) else none))) := by kernel_rfl
theorem spec_l5CmpNest.f_eq (k : Nat) (a0 : T42) (a1 : T42) : spec_l5CmpNest.f (k + 1) a0 a1 =
  ((spec_l1CmpText.f k a0.1 a1.1).bind fun t0 => (if (t0 : Int) = 0 then ((spec_l1CmpText.f k a0.2.1 a1.2.1).bind fun t1 => (some t1)) else (some t0))) := by kernel_rfl
theorem spec_l3Has.l6_eq (K j : Nat) (x1 : ByteArray) (x7 : (List ByteArray)) (x8 : Int) (x9 : Int) : spec_l3Has.l6 K (j + 1) x1 x7 x8 x9 =
  (if (x9 : Int) < x8 then (if 0 ≤ (x9 : Int) ∧ (x9 : Int) < (x7.length : Int) then (if (rd (⟨#[]⟩ : ByteArray) x7 x9).toList = x1.toList then (some true) else (spec_l3Has.l6 K j x1 x7 x8 (wrap64 (x9 + 1)))) else none) else (some false)) := by kernel_rfl
theorem spec_l5Way.l6_eq (K j : Nat) (x0 : (List T42)) (x1 : ByteArray) (x2 : ByteArray) (x3 : Int) (x11 : (List T42)) (x12 : Int) (x13 : Int) : spec_l5Way.l6 K (j + 1) x0 x1 x2 x3 x11 x12 x13 =
  (if (x13 : Int) < x12 then (if 0 ≤ (x13 : Int) ∧ (x13 : Int) < (x11.length : Int) then (if (rd Z42 x11 x13).1.toList = x1.toList then (if (x3 : Int) = 1 then (if (rd Z42 x11 x13).2.1.toList = x2.toList then (some [x1, x2]) else (spec_l5Way.l6 K j x0 x1 x2 x3 x11 x12 (wrap64 (x13 + 1)))) else ((spec_l5Within.f K x0 (rd Z42 x11 x13).2.1 x2 (wrap64 (x3 - 1))).bind fun t0 => (if t0 = true then ((spec_l5Way.f K x0 (rd Z42 x11 x13).2.1 x2 (wrap64 (x3 - 1))).bind fun t1 => (if [x1].length + t1.length ≤ most 16 then (some (app [x1] t1)) else none)) else (spec_l5Way.l6 K j x0 x1 x2 x3 x11 x12 (wrap64 (x13 + 1)))))) else (spec_l5Way.l6 K j x0 x1 x2 x3 x11 x12 (wrap64 (x13 + 1)))) else none) else (some ([] : List ByteArray))) := by kernel_rfl
theorem impl_ygoodNest.f_eq (k : Nat) (a0 : T42) : impl_ygoodNest.f (k + 1) a0 =
  ((impl_ygroupName.f k a0.1).bind fun t0 => (if t0 = true then ((impl_GoodName.f k a0.2.1).bind fun t1 => (some t1)) else (some false))) := by kernel_rfl
theorem impl_ycmpNest.f_eq (k : Nat) (a0 : T42) (a1 : T42) : impl_ycmpNest.f (k + 1) a0 a1 =
  ((cmp_Compare_string.f k a0.1 a1.1).bind fun t0 => ((cmp_Compare_string.f k a0.2.1 a1.2.1).bind fun t1 => ((cmp_Or_int.f k [t0, t1]).bind fun t2 => (some t2)))) := by kernel_rfl
theorem impl_WayOf_m.f_eq (k : Nat) (a0 : (List T42)) (a1 : ByteArray) (a2 : ByteArray) : impl_WayOf_m.f (k + 1) a0 a1 a2 =
  ((impl_GoodNests.f k a0).bind fun t0 => (if t0 = true then ((impl_yfrom_m.f k a0 a1).bind fun t1 => (if ((mgetA (α := ByteArray) (β := Int) (eqD .str) (0 : Int) t1.1 a2) : Int) = 0 then (some (([] : List ByteArray), ())) else (impl_WayOf_m.l26 k k a0 a2 (mgetA (α := ByteArray) (β := Int) (eqD .str) (0 : Int) t1.1 a2) a1 [a1]))) else (some (([] : List ByteArray), ())))) := by kernel_rfl
theorem laws_markText.l14_eq (K j : Nat) (x0 : Int) (x3 : ByteArray) : laws_markText.l14 K (j + 1) x0 x3 =
  (if (x0 : Int) > 0 then (if (utfB [(wr .u8 (wrap64 (48 + (remI x0 10))))]).size + x3.size ≤ lim then (laws_markText.l14 K j (wrap64 (quoI x0 10)) (appS (utfB [(wr .u8 (wrap64 (48 + (remI x0 10))))]) x3)) else none) else (if (⟨#[109]⟩ : ByteArray).size + x3.size ≤ lim then (some (appS (⟨#[109]⟩ : ByteArray) x3)) else none)) := by kernel_rfl
theorem spec_l1Digit.f_eq (k : Nat) (a0 : Int) : spec_l1Digit.f (k + 1) a0 =
  (if (a0 : Int) ≥ 48 then (some (decide ((a0 : Int) ≤ 57))) else (some false)) := by kernel_rfl
theorem spec_GoodName.l14_eq (K j : Nat) (x0 : ByteArray) (x3 : Int) : spec_GoodName.l14 K (j + 1) x0 x3 =
  (if (x3 : Int) < (x0.size : Int) then (if 0 ≤ (x3 : Int) ∧ (x3 : Int) < (x0.size : Int) then ((spec_l1Letter.f K (bt x0 x3)).bind fun t0 => (if t0 = true then (spec_GoodName.l14 K j x0 (wrap64 (x3 + 1))) else (if 0 ≤ (x3 : Int) ∧ (x3 : Int) < (x0.size : Int) then ((spec_l1Digit.f K (bt x0 x3)).bind fun t1 => (if t1 = true then (spec_GoodName.l14 K j x0 (wrap64 (x3 + 1))) else (if 0 ≤ (x3 : Int) ∧ (x3 : Int) < (x0.size : Int) then (if ((bt x0 x3) : Int) = 95 then (spec_GoodName.l14 K j x0 (wrap64 (x3 + 1))) else (some false)) else none))) else none))) else none) else (some true)) := by kernel_rfl
theorem spec_l1CmpText.f_eq (k : Nat) (a0 : ByteArray) (a1 : ByteArray) : spec_l1CmpText.f (k + 1) a0 a1 =
  (spec_l1CmpText.l6 k k a0 a1 0) := by kernel_rfl
theorem spec_l5Within.f_eq (k : Nat) (a0 : (List T42)) (a1 : ByteArray) (a2 : ByteArray) (a3 : Int) : spec_l5Within.f (k + 1) a0 a1 a2 a3 =
  ((spec_l5Rings.f k a0 a1).bind fun t0 => (if (a3 : Int) ≤ (t0.length : Int) then (if 0 ≤ ((wrap64 (a3 - 1)) : Int) ∧ ((wrap64 (a3 - 1)) : Int) < (t0.length : Int) then ((spec_l3Has.f k (rd ([] : List ByteArray) t0 (wrap64 (a3 - 1))) a2).bind fun t1 => (some t1)) else none) else (some false))) := by kernel_rfl
theorem impl_ygroupName.f_eq (k : Nat) (a0 : ByteArray) : impl_ygroupName.f (k + 1) a0 =
  ((impl_GoodName.f k a0).bind fun t0 => (if t0 = true then (if 0 ≤ (0 : Int) ∧ (0 : Int) < (a0.size : Int) then (if ((bt a0 0) : Int) ≥ 65 then (if 0 ≤ (0 : Int) ∧ (0 : Int) < (a0.size : Int) then (some (decide (((bt a0 0) : Int) ≤ 90))) else none) else (some false)) else none) else (some false))) := by kernel_rfl
theorem impl_GoodName.f_eq (k : Nat) (a0 : ByteArray) : impl_GoodName.f (k + 1) a0 =
  (if a0.toList = (⟨#[]⟩ : ByteArray).toList then (some false) else (if ((a0.size : Int) : Int) > 30 then (some false) else (if 0 ≤ (0 : Int) ∧ (0 : Int) < (a0.size : Int) then ((impl_ydigit.f k (bt a0 0)).bind fun t0 => (if t0 = true then (some false) else (impl_GoodName.l14 k k a0 (a0.size : Int) 0))) else none))) := by kernel_rfl
theorem cmp_Compare_string.f_eq (k : Nat) (a0 : ByteArray) (a1 : ByteArray) : cmp_Compare_string.f (k + 1) a0 a1 =
  ((cmp_isNaN_string.f k a0).bind fun t0 => ((cmp_isNaN_string.f k a1).bind fun t1 => (if t0 = true then (if t1 = true then (some 0) else (some (-1))) else (if t1 = true then (some 1) else (if (Op.bytesLess a0.toList a1.toList) = true then (some (-1)) else (if (Op.bytesLess a0.toList a1.toList || decide (a0.toList = a1.toList)) = true then (some 0) else (some 1))))))) := by kernel_rfl
theorem cmp_Or_int.f_eq (k : Nat) (a0 : (List Int)) : cmp_Or_int.f (k + 1) a0 =
  (cmp_Or_int.l8 k k 0 a0 (a0.length : Int) 0) := by kernel_rfl
theorem impl_WayOf_m.l26_eq (K j : Nat) (x0 : (List T42)) (x2 : ByteArray) (x7 : Int) (x9 : ByteArray) (y0 : (List ByteArray)) : impl_WayOf_m.l26 K (j + 1) x0 x2 x7 x9 y0 =
  (if (x7 : Int) > 1 then (impl_WayOf_m.l39 K j x0 x2 x7 x9 x0 (x0.length : Int) 0 y0) else (if y0.length + [x2].length ≤ most 16 then (some ((app y0 [x2]), ())) else none)) := by kernel_rfl
theorem spec_l1Letter.f_eq (k : Nat) (a0 : Int) : spec_l1Letter.f (k + 1) a0 =
  (if (a0 : Int) ≥ 97 then (if (a0 : Int) ≤ 122 then (some true) else (if (a0 : Int) ≥ 65 then (some (decide ((a0 : Int) ≤ 90))) else (some false))) else (if (a0 : Int) ≥ 65 then (some (decide ((a0 : Int) ≤ 90))) else (some false))) := by kernel_rfl
theorem spec_l1CmpText.l6_eq (K j : Nat) (x0 : ByteArray) (x1 : ByteArray) (x5 : Int) : spec_l1CmpText.l6 K (j + 1) x0 x1 x5 =
  (if (x5 : Int) < (x0.size : Int) then (if (x5 : Int) < (x1.size : Int) then (if 0 ≤ (x5 : Int) ∧ (x5 : Int) < (x0.size : Int) then (if 0 ≤ (x5 : Int) ∧ (x5 : Int) < (x1.size : Int) then (if ((bt x0 x5) : Int) = (bt x1 x5) then (spec_l1CmpText.l6 K j x0 x1 (wrap64 (x5 + 1))) else (if 0 ≤ (x5 : Int) ∧ (x5 : Int) < (x0.size : Int) then (if 0 ≤ (x5 : Int) ∧ (x5 : Int) < (x1.size : Int) then ((spec_l1CmpNum.f K (wrap64 (bt x0 x5)) (wrap64 (bt x1 x5))).bind fun t0 => (some t0)) else none) else none)) else none) else none) else ((spec_l1CmpNum.f K (x0.size : Int) (x1.size : Int)).bind fun t0 => (some t0))) else ((spec_l1CmpNum.f K (x0.size : Int) (x1.size : Int)).bind fun t0 => (some t0))) := by kernel_rfl
theorem impl_ydigit.f_eq (k : Nat) (a0 : Int) : impl_ydigit.f (k + 1) a0 =
  (if (a0 : Int) ≥ 48 then (some (decide ((a0 : Int) ≤ 57))) else (some false)) := by kernel_rfl
theorem impl_GoodName.l14_eq (K j : Nat) (x0 : ByteArray) (x17 : Int) (x18 : Int) : impl_GoodName.l14 K (j + 1) x0 x17 x18 =
  (if (x18 : Int) < x17 then (if 0 ≤ (x18 : Int) ∧ (x18 : Int) < (x0.size : Int) then ((impl_ywordByte.f K (bt x0 x18)).bind fun t0 => (if t0 = true then (impl_GoodName.l14 K j x0 x17 (wrap64 (x18 + 1))) else (some false))) else none) else (some true)) := by kernel_rfl
theorem cmp_isNaN_string.f_eq (k : Nat) (a0 : ByteArray) : cmp_isNaN_string.f (k + 1) a0 =
  (some (!(decide (a0.toList = a0.toList)))) := by kernel_rfl
theorem cmp_Or_int.l8_eq (K j : Nat) (x3 : Int) (x6 : (List Int)) (x7 : Int) (x8 : Int) : cmp_Or_int.l8 K (j + 1) x3 x6 x7 x8 =
  (if (x8 : Int) < x7 then (if 0 ≤ (x8 : Int) ∧ (x8 : Int) < (x6.length : Int) then (if ((rd (0 : Int) x6 x8) : Int) = x3 then (cmp_Or_int.l8 K j x3 x6 x7 (wrap64 (x8 + 1))) else (some (rd (0 : Int) x6 x8))) else none) else (some x3)) := by kernel_rfl
theorem impl_WayOf_m.l39_eq (K j : Nat) (x0 : (List T42)) (x2 : ByteArray) (x7 : Int) (x9 : ByteArray) (x29 : (List T42)) (x30 : Int) (x31 : Int) (y0 : (List ByteArray)) : impl_WayOf_m.l39 K (j + 1) x0 x2 x7 x9 x29 x30 x31 y0 =
  (if (x31 : Int) < x30 then (if 0 ≤ (x31 : Int) ∧ (x31 : Int) < (x29.length : Int) then (if (rd Z42 x29 x31).1.toList = x9.toList then ((impl_yfrom_m.f K x0 (rd Z42 x29 x31).2.1).bind fun t0 => (if ((mgetA (α := ByteArray) (β := Int) (eqD .str) (0 : Int) t0.1 x2) : Int) = (wrap64 (x7 - 1)) then (if y0.length + [(rd Z42 x29 x31).2.1].length ≤ most 16 then (impl_WayOf_m.l26 K j x0 x2 (wrap64 (x7 - 1)) (rd Z42 x29 x31).2.1 (app y0 [(rd Z42 x29 x31).2.1])) else none) else (impl_WayOf_m.l39 K j x0 x2 x7 x9 x29 x30 (wrap64 (x31 + 1)) y0))) else (impl_WayOf_m.l39 K j x0 x2 x7 x9 x29 x30 (wrap64 (x31 + 1)) y0)) else none) else (if y0.length + [x9].length ≤ most 16 then (impl_WayOf_m.l26 K j x0 x2 (wrap64 (x7 - 1)) x9 (app y0 [x9])) else none)) := by kernel_rfl
theorem spec_l1CmpNum.f_eq (k : Nat) (a0 : Int) (a1 : Int) : spec_l1CmpNum.f (k + 1) a0 a1 =
  (if (a0 : Int) < a1 then (some (-1)) else (if (a0 : Int) > a1 then (some 1) else (some 0))) := by kernel_rfl
theorem impl_ywordByte.f_eq (k : Nat) (a0 : Int) : impl_ywordByte.f (k + 1) a0 =
  ((impl_yletter.f k a0).bind fun t0 => (if t0 = true then (some true) else ((impl_ydigit.f k a0).bind fun t1 => (if t1 = true then (some true) else (some (decide ((a0 : Int) = 95))))))) := by kernel_rfl
theorem impl_yletter.f_eq (k : Nat) (a0 : Int) : impl_yletter.f (k + 1) a0 =
  (if (a0 : Int) ≥ 97 then (if (a0 : Int) ≤ 122 then (some true) else (if (a0 : Int) ≥ 65 then (some (decide ((a0 : Int) ≤ 90))) else (some false))) else (if (a0 : Int) ≥ 65 then (some (decide ((a0 : Int) ≤ 90))) else (some false))) := by kernel_rfl
theorem impl_yfrom_m.f_eq (k : Nat) (a0 : (List T42)) (a1 : ByteArray) : impl_yfrom_m.f (k + 1) a0 a1 =
  (impl_yfrom_m.l10 k k a0 1 ([] : List (ByteArray × Int)) [a1]) := by kernel_rfl
theorem impl_yfrom_m.l10_eq (K j : Nat) (x0 : (List T42)) (x7 : Int) (y0 : (List (ByteArray × Int))) (y1 : (List ByteArray)) : impl_yfrom_m.l10 K (j + 1) x0 x7 y0 y1 =
  (if ((y1.length : Int) : Int) > 0 then (impl_yfrom_m.l25 K j x0 x7 (y1.length : Int) 0 y0 ([] : List ByteArray) y1) else (some (y0, ()))) := by kernel_rfl
theorem impl_yfrom_m.l25_eq (K j : Nat) (x0 : (List T42)) (x7 : Int) (x22 : Int) (x23 : Int) (y0 : (List (ByteArray × Int))) (y1 : (List ByteArray)) (y2 : (List ByteArray)) : impl_yfrom_m.l25 K (j + 1) x0 x7 x22 x23 y0 y1 y2 =
  (if (x23 : Int) < x22 then (if 0 ≤ (x23 : Int) ∧ (x23 : Int) < (y2.length : Int) then (impl_yfrom_m.l39 K j x0 x7 (rd (⟨#[]⟩ : ByteArray) y2 x23) x22 x23 x0 (x0.length : Int) 0 y0 y1 y2) else none) else (impl_yfrom_m.l10 K j x0 (wrap64 (x7 + 1)) y0 y1)) := by kernel_rfl
theorem spec_l5Rings.f_eq (k : Nat) (a0 : (List T42)) (a1 : ByteArray) : spec_l5Rings.f (k + 1) a0 a1 =
  (spec_l5Rings.l10 k k a0 [a1] ([] : List (List ByteArray)) ([] : List ByteArray)) := by kernel_rfl
theorem impl_yfrom_m.l39_eq (K j : Nat) (x0 : (List T42)) (x7 : Int) (x10 : ByteArray) (x22 : Int) (x23 : Int) (x27 : (List T42)) (x28 : Int) (x29 : Int) (y0 : (List (ByteArray × Int))) (y1 : (List ByteArray)) (y2 : (List ByteArray)) : impl_yfrom_m.l39 K (j + 1) x0 x7 x10 x22 x23 x27 x28 x29 y0 y1 y2 =
  (if (x29 : Int) < x28 then (if 0 ≤ (x29 : Int) ∧ (x29 : Int) < (x27.length : Int) then (if (rd Z42 x27 x29).1.toList = x10.toList then (if ((mgetA (α := ByteArray) (β := Int) (eqD .str) (0 : Int) y0 (rd Z42 x27 x29).2.1) : Int) = 0 then ((some ((mputA (α := ByteArray) (β := Int) (eqD .str) y0 (rd Z42 x27 x29).2.1 x7) : (List (ByteArray × Int)))).bind fun t0 => (if y1.length + [(rd Z42 x27 x29).2.1].length ≤ most 16 then (impl_yfrom_m.l39 K j x0 x7 x10 x22 x23 x27 x28 (wrap64 (x29 + 1)) t0 (app y1 [(rd Z42 x27 x29).2.1]) y2) else none)) else (impl_yfrom_m.l39 K j x0 x7 x10 x22 x23 x27 x28 (wrap64 (x29 + 1)) y0 y1 y2)) else (impl_yfrom_m.l39 K j x0 x7 x10 x22 x23 x27 x28 (wrap64 (x29 + 1)) y0 y1 y2)) else none) else (impl_yfrom_m.l25 K j x0 x7 x22 (wrap64 (x23 + 1)) y0 y1 y2)) := by kernel_rfl
theorem spec_l5Rings.l10_eq (K j : Nat) (x0 : (List T42)) (x7 : (List ByteArray)) (y0 : (List (List ByteArray))) (y1 : (List ByteArray)) : spec_l5Rings.l10 K (j + 1) x0 x7 y0 y1 =
  (if ((x7.length : Int) : Int) > 0 then (spec_l5Rings.l24 K j x0 x7 (x7.length : Int) 0 y0 y1 ([] : List ByteArray)) else (some y0)) := by kernel_rfl
theorem spec_l5Rings.l24_eq (K j : Nat) (x0 : (List T42)) (x18 : (List ByteArray)) (x19 : Int) (x20 : Int) (y0 : (List (List ByteArray))) (y1 : (List ByteArray)) (y2 : (List ByteArray)) : spec_l5Rings.l24 K (j + 1) x0 x18 x19 x20 y0 y1 y2 =
  (if (x20 : Int) < x19 then (if 0 ≤ (x20 : Int) ∧ (x20 : Int) < (x18.length : Int) then (spec_l5Rings.l38 K j x0 (rd (⟨#[]⟩ : ByteArray) x18 x20) x18 x19 x20 x0 (x0.length : Int) 0 y0 y1 y2) else none) else (if ((y2.length : Int) : Int) > 0 then (if y0.length + [y2].length ≤ most 24 then (spec_l5Rings.l10 K j x0 y2 (app y0 [y2]) y1) else none) else (spec_l5Rings.l10 K j x0 y2 y0 y1))) := by kernel_rfl
theorem spec_l5Rings.l38_eq (K j : Nat) (x0 : (List T42)) (x10 : ByteArray) (x18 : (List ByteArray)) (x19 : Int) (x20 : Int) (x24 : (List T42)) (x25 : Int) (x26 : Int) (y0 : (List (List ByteArray))) (y1 : (List ByteArray)) (y2 : (List ByteArray)) : spec_l5Rings.l38 K (j + 1) x0 x10 x18 x19 x20 x24 x25 x26 y0 y1 y2 =
  (if (x26 : Int) < x25 then (if 0 ≤ (x26 : Int) ∧ (x26 : Int) < (x24.length : Int) then (if (rd Z42 x24 x26).1.toList = x10.toList then ((spec_l3Has.f K y1 (rd Z42 x24 x26).2.1).bind fun t0 => (if t0 = true then (spec_l5Rings.l38 K j x0 x10 x18 x19 x20 x24 x25 (wrap64 (x26 + 1)) y0 y1 y2) else (if y1.length + [(rd Z42 x24 x26).2.1].length ≤ most 16 then (if y2.length + [(rd Z42 x24 x26).2.1].length ≤ most 16 then (spec_l5Rings.l38 K j x0 x10 x18 x19 x20 x24 x25 (wrap64 (x26 + 1)) y0 (app y1 [(rd Z42 x24 x26).2.1]) (app y2 [(rd Z42 x24 x26).2.1])) else none) else none))) else (spec_l5Rings.l38 K j x0 x10 x18 x19 x20 x24 x25 (wrap64 (x26 + 1)) y0 y1 y2)) else none) else (spec_l5Rings.l24 K j x0 x18 x19 (wrap64 (x20 + 1)) y0 y1 y2)) := by kernel_rfl
end Go.Proofs.Ytacfnpnaeiagnaa.PW
