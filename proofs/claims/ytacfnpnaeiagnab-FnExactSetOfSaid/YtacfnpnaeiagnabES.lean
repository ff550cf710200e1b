-- Written for this claim by a program of this session (the equations of the functions, read off their code).
import Derived.Test.YtacfnpnaeiagnabProg
import Derived.Test.YtacfnpnaeiagnabDenW
namespace Go.Proofs.Ytacfnpnaeiagnab.PS
open Go Go.Den Go.RowKit
set_option maxRecDepth 100000
abbrev S24 : Sh := .pair .str (.pair .str .unit)
abbrev T24 : Type := (ByteArray × (ByteArray × Unit))
abbrev Z24 : T24 := dflt S24
abbrev S54 : Sh := .pair (.int .i64) (.pair (.int .i64) S24)
abbrev T54 : Type := (Int × (Int × T24))
abbrev Z54 : T54 := dflt S54
abbrev S58 : Sh := .pair (.int .i64) (.pair S54 (.pair (.list S54) (.pair (.list .str) .unit)))
abbrev T58 : Type := (Int × (T54 × ((List T54) × ((List ByteArray) × Unit))))
abbrev Z58 : T58 := dflt S58
abbrev S85 : Sh := .pair (.int .i64) (.pair (.int .i64) .unit)
abbrev T85 : Type := (Int × (Int × Unit))
abbrev Z85 : T85 := dflt S85
noncomputable def E : Env := ⟨Try.prog, [⟨6, [], false⟩,
  ⟨72, [], false⟩,
  ⟨30, [(16, [(0, .keep), (1, .keep), (5, .keep)])], false⟩,
  ⟨1000032, [(8, [(0, .keep), (3, .keep), (4, .keep)])], false⟩,
  ⟨31, [(14, [(0, .keep), (2, .keep), (10, .keep), (11, .keep), (12, .keep)])], false⟩,
  ⟨1000033, [], false⟩,
  ⟨34, [], false⟩,
  ⟨35, [(14, [(0, .keep), (1, .keep), (5, .keep)])], false⟩,
  ⟨1000036, [(6, [(0, .keep), (1, .keep), (5, .keep)])], false⟩,
  ⟨1000037, [], false⟩,
  ⟨38, [], false⟩,
  ⟨117, [], false⟩,
  ⟨87, [], false⟩,
  ⟨86, [(8, [(3, .keep), (6, .keep), (7, .keep), (8, .keep)])], false⟩,
  ⟨67, [], false⟩,
  ⟨1000070, [], false⟩,
  ⟨1000073, [(14, [(0, .keep), (3, .keep)]), (32, [(0, .keep), (3, .keep), (4, .keep), (5, .keep)])], false⟩,
  ⟨74, [], false⟩,
  ⟨75, [(14, [(0, .keep), (1, .keep), (5, .keep)])], false⟩,
  ⟨1000076, [(6, [(0, .keep), (1, .keep), (5, .keep)])], false⟩,
  ⟨77, [(6, [(0, .keep), (1, .keep), (5, .keep)])], false⟩,
  ⟨78, [(6, [(0, .keep), (1, .keep), (5, .keep)])], false⟩,
  ⟨147, [], false⟩,
  ⟨127, [], false⟩,
  ⟨63, [], false⟩,
  ⟨66, [], false⟩,
  ⟨64, [], false⟩,
  ⟨65, [(44, [(3, .keep), (5, .keep), (6, .keep), (7, .keep), (8, .keep), (9, .keep), (10, .keep)]), (23, [(3, .keep), (5, .keep), (6, .keep), (8, .keep), (9, .keep), (10, .keep)]), (8, [(3, .row S54 false), (8, .keep), (9, .keep), (10, .keep)])], false⟩,
  ⟨113, [(6, [(0, .keep), (1, .keep), (7, .keep), (8, .keep)])], false⟩,
  ⟨51, [(14, [(0, .keep), (3, .keep)])], false⟩,
  ⟨109, [(6, [(0, .keep), (3, .keep)])], false⟩,
  ⟨81, [(14, [(0, .keep), (3, .keep)])], false⟩,
  ⟨110, [(8, [(0, .keep), (3, .keep), (4, .keep)])], false⟩,
  ⟨111, [], false⟩,
  ⟨119, [], false⟩,
  ⟨68, [], false⟩,
  ⟨120, [], false⟩,
  ⟨69, [], false⟩,
  ⟨114, [(14, [(0, .keep), (19, .keep), (20, .keep)])], false⟩,
  ⟨85, [(14, [(0, .keep), (17, .keep), (18, .keep)])], false⟩,
  ⟨125, [], false⟩,
  ⟨126, [], false⟩,
  ⟨112, [], false⟩,
  ⟨148, [], false⟩,
  ⟨131, [], false⟩,
  ⟨136, [(6, [(0, .keep), (1, .keep), (5, .keep)])], false⟩], [], [], [(32, ⟨[], 0, [.ref 0], [.row S54], false⟩),
  (33, ⟨[], 0, [.agg [.hole (.int .i64), .hole (.int .i64), .hole (.int .i64), .hole .str, .hole .str, .ref 0, .ref 1]], [.row S54, .row .str], false⟩),
  (36, ⟨[0], 1, [.hole (.int .i64)], [.row S54], false⟩),
  (76, ⟨[0], 1, [.hole (.int .i64)], [.row .str], false⟩),
  (37, ⟨[0], 2, [.hole (.int .i64)], [.row S54, .row .str], false⟩),
  (70, ⟨[], 0, [.ref 0], [.row S54], false⟩),
  (71, ⟨[0], 1, [], [.row S54], false⟩),
  (73, ⟨[0], 1, [.ref 1], [.gone, .row S54], false⟩)], [(1000071, S54)]⟩
noncomputable def laws_FnExactSetOf.f (k : Nat) (a0 : (List T54)) : Option Bool := E.run k 6 [.d (.list S54) a0 false] .bool
noncomputable def impl_ycmpAtom.f (k : Nat) (a0 : T54) (a1 : T54) : Option Int := E.run k 72 [.d S54 a0 true, .d S54 a1 true] (.int .i64)
noncomputable def laws_szAtomS.f (k : Nat) (a0 : (List T54)) (a1 : Int) : Option Int := E.run k 30 [.d (.list S54) a0 false, .d (.int .i64) a1 true] (.int .i64)
noncomputable def laws_toAtomS_m.f (k : Nat) (a0 : (List T54)) : Option ((List T54) × Unit) := E.run k 1000032 [.agg [], .d (.list S54) a0 false] (.pair (.list S54) .unit)
noncomputable def spec_SetOf.f (k : Nat) (a0 : (List T54)) : Option T58 := E.run k 31 [.d (.list S54) a0 false] S58
noncomputable def impl_SetOf_m.f (k : Nat) (a0 : (List T54)) : Option (Int × (Int × (Int × (ByteArray × (ByteArray × ((List T54) × ((List ByteArray) × Unit))))))) := E.run k 1000033 [.agg [], .d (.list S54) a0 false] (.pair (.int .i64) (.pair (.int .i64) (.pair (.int .i64) (.pair .str (.pair .str (.pair (.list S54) (.pair (.list .str) .unit)))))))
noncomputable def laws_eqValue.f (k : Nat) (a0 : T58) (a1 : T58) : Option Bool := E.run k 34 [.d S58 a0 false, .d S58 a1 false] .bool
noncomputable def laws_eqAtomS.f (k : Nat) (a0 : (List T54)) (a1 : (List T54)) : Option Bool := E.run k 35 [.d (.list S54) a0 false, .d (.list S54) a1 false] .bool
noncomputable def laws_markAtomS_m.f (k : Nat) (a0 : (List T54)) (a1 : Int) : Option (Int × ((List T54) × Unit)) := E.run k 1000036 [.agg [.d (.list S54) a0 true], .ref 0, .d (.int .i64) a1 true] (.pair (.int .i64) (.pair (.list S54) .unit))
noncomputable def laws_markValue_m.f (k : Nat) (a0 : (List T54)) (a1 : (List ByteArray)) (a2 : Int) (a3 : Int) (a4 : Int) (a5 : ByteArray) (a6 : ByteArray) (a7 : Int) : Option (Int × ((List T54) × ((List ByteArray) × Unit))) := E.run k 1000037 [.agg [.d (.list S54) a0 true, .d (.list .str) a1 true], .agg [.d (.int .i64) a2 true, .d (.int .i64) a3 true, .d (.int .i64) a4 true, .d .str a5 true, .d .str a6 true, .ref 0, .ref 1], .d (.int .i64) a7 true] (.pair (.int .i64) (.pair (.list S54) (.pair (.list .str) .unit)))
noncomputable def laws_heldValue.f (k : Nat) (a0 : T58) (a1 : Int) : Option Int := E.run k 38 [.d S58 a0 false, .d (.int .i64) a1 true] (.int .i64)
noncomputable def cmp_Compare_int.f (k : Nat) (a0 : Int) (a1 : Int) : Option Int := E.run k 117 [.d (.int .i64) a0 true, .d (.int .i64) a1 true] (.int .i64)
noncomputable def cmp_Compare_string.f (k : Nat) (a0 : ByteArray) (a1 : ByteArray) : Option Int := E.run k 87 [.d .str a0 true, .d .str a1 true] (.int .i64)
noncomputable def cmp_Or_int.f (k : Nat) (a0 : (List Int)) : Option Int := E.run k 86 [.d (.list (.int .i64)) a0 false] (.int .i64)
noncomputable def laws_szAtomS.l16 (K j : Nat) (x0 : (List T54)) (x1 : Int) (x5 : Int) : Option Int := E.den 30 K (.int .i64) j 16 ⟨mkE 27 [(0, .d (.list S54) x0 false), (1, .d (.int .i64) x1 true), (5, .d (.int .i64) x5 true)], [], 0⟩
noncomputable def laws_toAtomS_m.l8 (K j : Nat) (x0 : (List T54)) (x4 : Int) (y0 : (List T54)) : Option ((List T54) × Unit) := E.den 1000032 K (.pair (.list S54) .unit) j 8 ⟨mkE 23 [(0, .d (.list S54) x0 false), (3, .ref 0), (4, .d (.int .i64) x4 true)], [.row S54 y0 true], 0⟩
noncomputable def spec_SetOf.l14 (K j : Nat) (x0 : (List T54)) (x10 : (List T54)) (x11 : Int) (x12 : Int) (y0_0 : Int) (y0_1 : Int) (y0_2 : Int) (y0_3 : ByteArray) (y0_4 : ByteArray) : Option T58 := E.den 31 K S58 j 14 ⟨mkE 29 [(0, .d (.list S54) x0 false), (2, .ptr 0 0), (10, .d (.list S54) x10 false), (11, .d (.int .i64) x11 true), (12, .d (.int .i64) x12 true)], [.box [.d (.int .i64) y0_0 true, .d (.int .i64) y0_1 true, .d (.int .i64) y0_2 true, .d .str y0_3 true, .d .str y0_4 true, .nil, .nil]], 0⟩
noncomputable def slices_ContainsFunc_impl_Atom_impl_Atom.f (k : Nat) (a0 : (List T54)) : Option Bool := E.run k 67 [.d (.list S54) a0 false, .fn 68 []] .bool
noncomputable def slices_Clone_impl_Atom_impl_Atom_m.f (k : Nat) (a0 : (List T54)) : Option ((List T54) × Unit) := E.run k 1000070 [.agg [], .d (.list S54) a0 false] (.pair (.list S54) .unit)
noncomputable def slices_Compact_impl_Atom_impl_Atom_m.f (k : Nat) (a0 : (List T54)) : Option ((List T54) × Unit) := E.run k 1000073 [.agg [.d (.list S54) a0 true], .ref 0] (.pair (.list S54) .unit)
noncomputable def laws_eqAtom.f (k : Nat) (a0 : T54) (a1 : T54) : Option Bool := E.run k 74 [.d S54 a0 true, .d S54 a1 true] .bool
noncomputable def laws_eqStringS.f (k : Nat) (a0 : (List ByteArray)) (a1 : (List ByteArray)) : Option Bool := E.run k 75 [.d (.list .str) a0 false, .d (.list .str) a1 false] .bool
noncomputable def laws_eqAtomS.l14 (K j : Nat) (x0 : (List T54)) (x1 : (List T54)) (x5 : Int) : Option Bool := E.den 35 K .bool j 14 ⟨mkE 27 [(0, .d (.list S54) x0 false), (1, .d (.list S54) x1 false), (5, .d (.int .i64) x5 true)], [], 0⟩
noncomputable def laws_markAtomS_m.l6 (K j : Nat) (x1 : Int) (x5 : Int) (y0 : (List T54)) : Option (Int × ((List T54) × Unit)) := E.den 1000036 K (.pair (.int .i64) (.pair (.list S54) .unit)) j 6 ⟨mkE 43 [(0, .ref 0), (1, .d (.int .i64) x1 true), (5, .d (.int .i64) x5 true)], [.row S54 y0 true], 1⟩
noncomputable def laws_markStringS_m.f (k : Nat) (a0 : (List ByteArray)) (a1 : Int) : Option (Int × ((List ByteArray) × Unit)) := E.run k 1000076 [.agg [.d (.list .str) a0 true], .ref 0, .d (.int .i64) a1 true] (.pair (.int .i64) (.pair (.list .str) .unit))
noncomputable def laws_heldAtomS.f (k : Nat) (a0 : (List T54)) (a1 : Int) : Option Int := E.run k 77 [.d (.list S54) a0 false, .d (.int .i64) a1 true] (.int .i64)
noncomputable def laws_heldStringS.f (k : Nat) (a0 : (List ByteArray)) (a1 : Int) : Option Int := E.run k 78 [.d (.list .str) a0 false, .d (.int .i64) a1 true] (.int .i64)
noncomputable def cmp_isNaN_int.f (k : Nat) (a0 : Int) : Option Bool := E.run k 147 [.d (.int .i64) a0 true] .bool
noncomputable def cmp_isNaN_string.f (k : Nat) (a0 : ByteArray) : Option Bool := E.run k 127 [.d .str a0 true] .bool
noncomputable def cmp_Or_int.l8 (K j : Nat) (x3 : Int) (x6 : (List Int)) (x7 : Int) (x8 : Int) : Option Int := E.den 86 K (.int .i64) j 8 ⟨mkE 18 [(3, .d (.int .i64) x3 true), (6, .d (.list (.int .i64)) x6 false), (7, .d (.int .i64) x7 true), (8, .d (.int .i64) x8 true)], [], 0⟩
noncomputable def laws_szAtom.f (k : Nat) (a0 : T54) (a1 : Int) : Option Int := E.run k 63 [.d S54 a0 true, .d (.int .i64) a1 true] (.int .i64)
noncomputable def laws_toAtom.f (k : Nat) (a0 : T54) : Option T54 := E.run k 66 [.d S54 a0 true] S54
noncomputable def spec_GoodAtom.f (k : Nat) (a0 : T54) : Option Bool := E.run k 64 [.d S54 a0 true] .bool
noncomputable def slices_IndexFunc_impl_Atom_impl_Atom.f (k : Nat) (a0 : (List T54)) : Option Int := E.run k 113 [.d (.list S54) a0 false, .fn 68 []] (.int .i64)
noncomputable def slices_Compact_impl_Atom_impl_Atom_m.l14 (K j : Nat) (x3 : Int) (y0 : (List T54)) : Option ((List T54) × Unit) := E.den 1000073 K (.pair (.list S54) .unit) j 14 ⟨mkE 61 [(0, .ref 0), (3, .d (.int .i64) x3 true)], [.row S54 y0 true], 1⟩
noncomputable def laws_eqStringS.l14 (K j : Nat) (x0 : (List ByteArray)) (x1 : (List ByteArray)) (x5 : Int) : Option Bool := E.den 75 K .bool j 14 ⟨mkE 26 [(0, .d (.list .str) x0 false), (1, .d (.list .str) x1 false), (5, .d (.int .i64) x5 true)], [], 0⟩
noncomputable def laws_markText.f (k : Nat) (a0 : Int) : Option ByteArray := E.run k 51 [.d (.int .i64) a0 true] .str
noncomputable def laws_markStringS_m.l6 (K j : Nat) (x1 : Int) (x5 : Int) (y0 : (List ByteArray)) : Option (Int × ((List ByteArray) × Unit)) := E.den 1000076 K (.pair (.int .i64) (.pair (.list .str) .unit)) j 6 ⟨mkE 20 [(0, .ref 0), (1, .d (.int .i64) x1 true), (5, .d (.int .i64) x5 true)], [.row .str y0 true], 1⟩
noncomputable def laws_heldAtomS.l6 (K j : Nat) (x0 : (List T54)) (x1 : Int) (x5 : Int) : Option Int := E.den 77 K (.int .i64) j 6 ⟨mkE 51 [(0, .d (.list S54) x0 false), (1, .d (.int .i64) x1 true), (5, .d (.int .i64) x5 true)], [], 0⟩
noncomputable def laws_heldStringS.l6 (K j : Nat) (x0 : (List ByteArray)) (x1 : Int) (x5 : Int) : Option Int := E.den 78 K (.int .i64) j 6 ⟨mkE 22 [(0, .d (.list .str) x0 false), (1, .d (.int .i64) x1 true), (5, .d (.int .i64) x5 true)], [], 0⟩
noncomputable def spec_l1Printed.f (k : Nat) (a0 : ByteArray) : Option Bool := E.run k 109 [.d .str a0 true] .bool
noncomputable def spec_GoodName.f (k : Nat) (a0 : ByteArray) : Option Bool := E.run k 81 [.d .str a0 true] .bool
noncomputable def spec_l1Pow2.f (k : Nat) (a0 : Int) : Option Int := E.run k 110 [.d (.int .i64) a0 true] (.int .i64)
noncomputable def spec_l1Block.f (k : Nat) (a0 : T54) : Option T85 := E.run k 111 [.d S54 a0 true] S85
noncomputable def slices_IndexFunc_impl_Atom_impl_Atom.l6 (K j : Nat) (x0 : (List T54)) (x7 : Int) (x8 : Int) : Option Int := E.den 113 K (.int .i64) j 6 ⟨mkE 19 [(0, .d (.list S54) x0 false), (1, .fn 68 []), (7, .d (.int .i64) x7 true), (8, .d (.int .i64) x8 true)], [], 0⟩
noncomputable def slices_Compact_impl_Atom_impl_Atom_m.l32 (K j : Nat) (x3 : Int) (x4_0 : Int) (x4_1 : Int) (x5 : Int) (y0 : (List T54)) : Option ((List T54) × Unit) := E.den 1000073 K (.pair (.list S54) .unit) j 32 ⟨mkE 61 [(0, .ref 0), (3, .d (.int .i64) x3 true), (4, .sub 0 x4_0 x4_1), (5, .d (.int .i64) x5 true)], [.row S54 y0 true], 1⟩
noncomputable def laws_markText.l14 (K j : Nat) (x0 : Int) (x3 : ByteArray) : Option ByteArray := E.den 51 K .str j 14 ⟨mkE 20 [(0, .d (.int .i64) x0 true), (3, .d .str x3 true)], [], 0⟩
noncomputable def spec_l1Printed.l6 (K j : Nat) (x0 : ByteArray) (x3 : Int) : Option Bool := E.den 109 K .bool j 6 ⟨mkE 20 [(0, .d .str x0 true), (3, .d (.int .i64) x3 true)], [], 0⟩
noncomputable def spec_l1Digit.f (k : Nat) (a0 : Int) : Option Bool := E.run k 119 [.d (.int .u8) a0 true] .bool
noncomputable def spec_GoodName.l14 (K j : Nat) (x0 : ByteArray) (x3 : Int) : Option Bool := E.den 81 K .bool j 14 ⟨mkE 41 [(0, .d .str x0 true), (3, .d (.int .i64) x3 true)], [], 0⟩
noncomputable def spec_l1Pow2.l8 (K j : Nat) (x0 : Int) (x3 : Int) (x4 : Int) : Option Int := E.den 110 K (.int .i64) j 8 ⟨mkE 13 [(0, .d (.int .i64) x0 true), (3, .d (.int .i64) x3 true), (4, .d (.int .i64) x4 true)], [], 0⟩
noncomputable def impl_SetOf_1.f (k : Nat) (a0 : T54) : Option Bool := E.run k 68 [.d S54 a0 true] .bool
noncomputable def spec_l1Letter.f (k : Nat) (a0 : Int) : Option Bool := E.run k 120 [.d (.int .u8) a0 true] .bool
noncomputable def impl_GoodAtom.f (k : Nat) (a0 : T54) : Option Bool := E.run k 69 [.d S54 a0 true] .bool
noncomputable def spec_l1Sorted.f (k : Nat) (a0 : (List T54)) : Option (List T54) := E.run k 65 [.d (.list S54) a0 false] (.list S54)
noncomputable def impl_yprinted.f (k : Nat) (a0 : ByteArray) (a1 : Int) (a2 : Int) : Option Bool := E.run k 114 [.d .str a0 true, .d (.int .i64) a1 true, .d (.int .i64) a2 true] .bool
noncomputable def impl_GoodName.f (k : Nat) (a0 : ByteArray) : Option Bool := E.run k 85 [.d .str a0 true] .bool
noncomputable def spec_l1Sorted.l8 (K j : Nat) (x8 : (List T54)) (x9 : Int) (x10 : Int) (y0 : (List T54)) : Option (List T54) := E.den 65 K (.list S54) j 8 ⟨mkE 68 [(3, .ref 0), (8, .d (.list S54) x8 false), (9, .d (.int .i64) x9 true), (10, .d (.int .i64) x10 true)], [.row S54 y0 false], 0⟩
noncomputable def impl_yprinted.l14 (K j : Nat) (x0 : ByteArray) (x19 : Int) (x20 : Int) : Option Bool := E.den 114 K .bool j 14 ⟨mkE 34 [(0, .d .str x0 true), (19, .d (.int .i64) x19 true), (20, .d (.int .i64) x20 true)], [], 0⟩
noncomputable def impl_ydigit.f (k : Nat) (a0 : Int) : Option Bool := E.run k 125 [.d (.int .u8) a0 true] .bool
noncomputable def impl_GoodName.l14 (K j : Nat) (x0 : ByteArray) (x17 : Int) (x18 : Int) : Option Bool := E.den 85 K .bool j 14 ⟨mkE 27 [(0, .d .str x0 true), (17, .d (.int .i64) x17 true), (18, .d (.int .i64) x18 true)], [], 0⟩
noncomputable def spec_l1Sorted.l23 (K j : Nat) (x6 : Int) (x8 : (List T54)) (x9 : Int) (x10 : Int) (y0 : (List T54)) (y1_0 : Int) (y1_1 : Int) (y1_2 : ByteArray) (y1_3 : ByteArray) : Option (List T54) := E.den 65 K (.list S54) j 23 ⟨mkE 68 [(3, .ref 0), (5, .ptr 1 0), (6, .d (.int .i64) x6 true), (8, .d (.list S54) x8 false), (9, .d (.int .i64) x9 true), (10, .d (.int .i64) x10 true)], [.row S54 y0 false, .box [.d (.int .i64) y1_0 false, .d (.int .i64) y1_1 false, .d .str y1_2 false, .d .str y1_3 false]], 0⟩
noncomputable def impl_ywordByte.f (k : Nat) (a0 : Int) : Option Bool := E.run k 126 [.d (.int .u8) a0 true] .bool
noncomputable def spec_l1Cmp.f (k : Nat) (a0 : T54) (a1 : T54) : Option Int := E.run k 112 [.d S54 a0 true, .d S54 a1 true] (.int .i64)
noncomputable def spec_l1Sorted.l44 (K j : Nat) (x6 : Int) (x7 : Int) (x8 : (List T54)) (x9 : Int) (x10 : Int) (y0 : (List T54)) (y1_0 : Int) (y1_1 : Int) (y1_2 : ByteArray) (y1_3 : ByteArray) : Option (List T54) := E.den 65 K (.list S54) j 44 ⟨mkE 68 [(3, .ref 0), (5, .ptr 1 0), (6, .d (.int .i64) x6 true), (7, .d (.int .i64) x7 true), (8, .d (.list S54) x8 false), (9, .d (.int .i64) x9 true), (10, .d (.int .i64) x10 true)], [.row S54 y0 false, .box [.d (.int .i64) y1_0 false, .d (.int .i64) y1_1 false, .d .str y1_2 false, .d .str y1_3 false]], 0⟩
noncomputable def impl_yletter.f (k : Nat) (a0 : Int) : Option Bool := E.run k 148 [.d (.int .u8) a0 true] .bool
noncomputable def spec_l1CmpNum.f (k : Nat) (a0 : Int) (a1 : Int) : Option Int := E.run k 131 [.d (.int .i64) a0 true, .d (.int .i64) a1 true] (.int .i64)
noncomputable def spec_l1CmpText.f (k : Nat) (a0 : ByteArray) (a1 : ByteArray) : Option Int := E.run k 136 [.d .str a0 true, .d .str a1 true] (.int .i64)
noncomputable def spec_l1CmpText.l6 (K j : Nat) (x0 : ByteArray) (x1 : ByteArray) (x5 : Int) : Option Int := E.den 136 K (.int .i64) j 6 ⟨mkE 39 [(0, .d .str x0 true), (1, .d .str x1 true), (5, .d (.int .i64) x5 true)], [], 0⟩
noncomputable def slices_SortFunc_impl_Atom_impl_Atom_m.f (k : Nat) (a0 : (List T54)) : Option ((List T54) × Unit) := E.run k 1000071 [.agg [.d (.list S54) a0 true], .ref 0, .fn 72 []] (.pair (.list S54) .unit)
end Go.Proofs.Ytacfnpnaeiagnab.PS
