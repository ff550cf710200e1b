-- Written for this claim by a program of this session (the equations of the functions, read off their code).
import Derived.Test.YtacfnpnaeiagnabProg
import Derived.Test.YtacfnpnaeiagnabDenZ
namespace Go.Proofs.Ytacfnpnaeiagnab.PA
open Go Go.Den Go.RowKit
set_option maxRecDepth 100000
abbrev S24 : Sh := .pair .str (.pair .str .unit)
abbrev T24 : Type := (ByteArray × (ByteArray × Unit))
abbrev Z24 : T24 := dflt S24
abbrev S68 : Sh := .pair .str (.pair .str (.pair (.int .i64) .unit))
abbrev T68 : Type := (ByteArray × (ByteArray × (Int × Unit)))
abbrev Z68 : T68 := dflt S68
noncomputable def E : Env := ⟨Try.prog, [⟨3, [(1000035, [(0, .keep), (2, .keep), (4, .keep), (1, .keep), (3, .keep), (5, .keep), (6, .keep), (7, .keep), (8, .keep), (9, .keep), (10, .keep), (11, .keep)]), (1000117, [(0, .keep), (2, .keep), (4, .keep), (1, .keep), (3, .keep), (5, .keep), (6, .keep), (7, .keep), (8, .keep), (9, .keep), (10, .keep), (11, .keep)])], false⟩,
  ⟨92, [], false⟩,
  ⟨7, [(16, [(0, .keep), (1, .keep), (5, .keep)])], false⟩,
  ⟨8, [(16, [(0, .keep), (1, .keep), (5, .keep)])], false⟩,
  ⟨9, [], false⟩,
  ⟨1000011, [(8, [(0, .keep), (3, .keep), (4, .keep)])], false⟩,
  ⟨1000012, [(8, [(0, .keep), (3, .keep), (4, .keep)])], false⟩,
  ⟨13, [], false⟩,
  ⟨10, [], false⟩,
  ⟨1000014, [], false⟩,
  ⟨15, [(14, [(0, .keep), (1, .keep), (5, .keep)])], false⟩,
  ⟨16, [(14, [(0, .keep), (1, .keep), (5, .keep)])], false⟩,
  ⟨1000017, [(6, [(0, .keep), (1, .keep), (5, .keep)])], false⟩,
  ⟨1000018, [(6, [(0, .keep), (1, .keep), (5, .keep)])], false⟩,
  ⟨19, [(6, [(0, .keep), (1, .keep), (5, .keep)])], false⟩,
  ⟨20, [(6, [(0, .keep), (1, .keep), (5, .keep)])], false⟩,
  ⟨87, [], false⟩,
  ⟨86, [(8, [(3, .keep), (6, .keep), (7, .keep), (8, .keep)])], false⟩,
  ⟨40, [], false⟩,
  ⟨42, [(14, [(0, .keep), (8, .keep), (9, .keep), (10, .keep)])], false⟩,
  ⟨43, [], false⟩,
  ⟨1000044, [], false⟩,
  ⟨45, [(8, [(0, .keep), (2, .keep), (4, .keep), (8, .keep), (9, .keep), (10, .keep)])], false⟩,
  ⟨1000048, [(28, [(0, .keep), (3, .row S68 false), (5, .keep), (8, .keep), (9, .keep), (10, .keep), (32, .keep)]), (8, [(0, .keep), (3, .row S68 false), (8, .keep), (9, .keep), (10, .keep)])], false⟩,
  ⟨127, [], false⟩,
  ⟨39, [], false⟩,
  ⟨41, [], false⟩,
  ⟨79, [(14, [(0, .keep), (8, .keep), (9, .keep), (10, .keep)])], false⟩,
  ⟨80, [], false⟩,
  ⟨81, [(14, [(0, .keep), (3, .keep)])], false⟩,
  ⟨82, [(10, [(4, .keep), (7, .row S24 false), (8, .keep), (14, .keep), (15, .keep), (16, .keep)])], false⟩,
  ⟨83, [(27, [(0, .keep), (3, .keep), (5, .keep), (6, .row .str false), (7, .keep), (15, .keep), (16, .keep), (17, .keep), (24, .keep), (25, .keep), (26, .keep)]), (57, [(0, .keep), (3, .row S68 false), (5, .keep), (7, .keep), (11, .keep), (15, .keep), (16, .keep), (17, .keep), (35, .keep), (36, .keep), (37, .keep), (41, .keep), (42, .keep), (43, .keep)]), (43, [(0, .keep), (3, .row S68 false), (5, .keep), (7, .keep), (15, .keep), (16, .keep), (17, .keep), (35, .keep), (36, .keep), (37, .keep)]), (8, [(0, .keep), (3, .row S68 false), (15, .keep), (16, .keep), (17, .keep)])], false⟩,
  ⟨84, [], false⟩,
  ⟨85, [(14, [(0, .keep), (17, .keep), (18, .keep)])], false⟩,
  ⟨49, [], false⟩,
  ⟨50, [], false⟩,
  ⟨51, [(14, [(0, .keep), (3, .keep)])], false⟩,
  ⟨119, [], false⟩,
  ⟨121, [(8, [(3, .row .str false), (6, .keep), (7, .keep), (8, .keep)])], false⟩,
  ⟨46, [], false⟩,
  ⟨125, [], false⟩,
  ⟨1000090, [(39, [(0, .keep), (5, .keep), (7, .keep), (8, .row .str false), (10, .keep), (21, .keep), (22, .keep), (23, .keep), (27, .keep), (28, .keep), (29, .keep)]), (25, [(0, .keep), (5, .keep), (7, .keep), (8, .row .str false), (21, .keep), (22, .keep), (23, .keep)]), (10, [(0, .keep), (5, .keep), (6, .row .str false), (7, .keep)])], false⟩,
  ⟨118, [], false⟩,
  ⟨120, [], false⟩,
  ⟨122, [(38, [(0, .keep), (5, .keep), (6, .row .str false), (8, .row .str false), (10, .keep), (18, .keep), (19, .keep), (20, .keep), (24, .keep), (25, .keep), (26, .keep)]), (24, [(0, .keep), (5, .keep), (6, .row .str false), (8, .row .str false), (18, .keep), (19, .keep), (20, .keep)]), (10, [(0, .keep), (5, .row (.list .str) false), (6, .row .str false), (7, .data .str false)])], false⟩,
  ⟨126, [], false⟩,
  ⟨136, [(6, [(0, .keep), (1, .keep), (5, .keep)])], false⟩,
  ⟨123, [(44, [(3, .keep), (5, .keep), (6, .keep), (7, .keep), (8, .keep), (9, .keep), (10, .keep)]), (23, [(3, .keep), (5, .keep), (6, .keep), (8, .keep), (9, .keep), (10, .keep)]), (8, [(3, .row .str false), (8, .keep), (9, .keep), (10, .keep)])], false⟩,
  ⟨148, [], false⟩,
  ⟨131, [], false⟩,
  ⟨124, [(6, [(1, .keep), (7, .keep), (8, .keep), (9, .keep)])], false⟩], [(1000047, fun _ => insAny S24)], [], [(11, ⟨[], 0, [.ref 0], [.row S24], false⟩),
  (12, ⟨[], 0, [.ref 0], [.row S68], false⟩),
  (14, ⟨[], 0, [.ref 0, .ref 1], [.row S24, .row S68], false⟩),
  (17, ⟨[0], 1, [.hole (.int .i64)], [.row S24], false⟩),
  (18, ⟨[0], 1, [.hole (.int .i64)], [.row S68], false⟩),
  (90, ⟨[], 0, [.ref 0], [.map .str (.int .i64) true], false⟩),
  (48, ⟨[], 0, [.ref 0], [.row S68], false⟩),
  (91, ⟨[0], 1, [], [.row S68], false⟩),
  (44, ⟨[], 0, [.ref 0], [.row S24], false⟩),
  (47, ⟨[0], 1, [.ref 1], [.gone, .row S24], false⟩)], [(1000091, S68)]⟩
noncomputable def laws_FnExactAddNest.f (k : Nat) (a0 : (List T24)) (a1 : (List T68)) (a2 : T24) : Option Bool := E.run k 3 [.d (.list S24) a0 false, .d (.list S68) a1 false, .d S24 a2 true] .bool
noncomputable def impl_yreach_1.f (k : Nat) (a0 : T68) (a1 : T68) : Option Int := E.run k 92 [.d S68 a0 true, .d S68 a1 true] (.int .i64)
noncomputable def laws_szNestS.f (k : Nat) (a0 : (List T24)) (a1 : Int) : Option Int := E.run k 7 [.d (.list S24) a0 false, .d (.int .i64) a1 true] (.int .i64)
noncomputable def laws_szReachS.f (k : Nat) (a0 : (List T68)) (a1 : Int) : Option Int := E.run k 8 [.d (.list S68) a0 false, .d (.int .i64) a1 true] (.int .i64)
noncomputable def laws_szNest.f (k : Nat) (a0 : T24) (a1 : Int) : Option Int := E.run k 9 [.d S24 a0 true, .d (.int .i64) a1 true] (.int .i64)
noncomputable def laws_toNestS_m.f (k : Nat) (a0 : (List T24)) : Option ((List T24) × Unit) := E.run k 1000011 [.agg [], .d (.list S24) a0 false] (.pair (.list S24) .unit)
noncomputable def laws_toReachS_m.f (k : Nat) (a0 : (List T68)) : Option ((List T68) × Unit) := E.run k 1000012 [.agg [], .d (.list S68) a0 false] (.pair (.list S68) .unit)
noncomputable def laws_toNest.f (k : Nat) (a0 : T24) : Option T24 := E.run k 13 [.d S24 a0 true] S24
noncomputable def spec_AddNest.f (k : Nat) (a0 : (List T24)) (a1 : (List T68)) (a2 : T24) : Option ((List T24) × ((List T68) × Unit)) := E.run k 10 [.d (.list S24) a0 false, .d (.list S68) a1 false, .d S24 a2 true] (.pair (.list S24) (.pair (.list S68) .unit))
noncomputable def impl_AddNest_m.f (k : Nat) (a0 : (List T24)) (a1 : (List T68)) (a2 : T24) : Option ((List T24) × ((List T68) × Unit)) := E.run k 1000014 [.agg [], .d (.list S24) a0 false, .d (.list S68) a1 false, .d S24 a2 true] (.pair (.list S24) (.pair (.list S68) .unit))
noncomputable def laws_eqNestS.f (k : Nat) (a0 : (List T24)) (a1 : (List T24)) : Option Bool := E.run k 15 [.d (.list S24) a0 false, .d (.list S24) a1 false] .bool
noncomputable def laws_eqReachS.f (k : Nat) (a0 : (List T68)) (a1 : (List T68)) : Option Bool := E.run k 16 [.d (.list S68) a0 false, .d (.list S68) a1 false] .bool
noncomputable def laws_markNestS_m.f (k : Nat) (a0 : (List T24)) (a1 : Int) : Option (Int × ((List T24) × Unit)) := E.run k 1000017 [.agg [.d (.list S24) a0 true], .ref 0, .d (.int .i64) a1 true] (.pair (.int .i64) (.pair (.list S24) .unit))
noncomputable def laws_markReachS_m.f (k : Nat) (a0 : (List T68)) (a1 : Int) : Option (Int × ((List T68) × Unit)) := E.run k 1000018 [.agg [.d (.list S68) a0 true], .ref 0, .d (.int .i64) a1 true] (.pair (.int .i64) (.pair (.list S68) .unit))
noncomputable def laws_heldNestS.f (k : Nat) (a0 : (List T24)) (a1 : Int) : Option Int := E.run k 19 [.d (.list S24) a0 false, .d (.int .i64) a1 true] (.int .i64)
noncomputable def laws_heldReachS.f (k : Nat) (a0 : (List T68)) (a1 : Int) : Option Int := E.run k 20 [.d (.list S68) a0 false, .d (.int .i64) a1 true] (.int .i64)
noncomputable def cmp_Compare_string.f (k : Nat) (a0 : ByteArray) (a1 : ByteArray) : Option Int := E.run k 87 [.d .str a0 true, .d .str a1 true] (.int .i64)
noncomputable def cmp_Or_int.f (k : Nat) (a0 : (List Int)) : Option Int := E.run k 86 [.d (.list (.int .i64)) a0 false] (.int .i64)
noncomputable def laws_szNestS.l16 (K j : Nat) (x0 : (List T24)) (x1 : Int) (x5 : Int) : Option Int := E.den 7 K (.int .i64) j 16 ⟨mkE 27 [(0, .d (.list S24) x0 false), (1, .d (.int .i64) x1 true), (5, .d (.int .i64) x5 true)], [], 0⟩
noncomputable def laws_szReachS.l16 (K j : Nat) (x0 : (List T68)) (x1 : Int) (x5 : Int) : Option Int := E.den 8 K (.int .i64) j 16 ⟨mkE 27 [(0, .d (.list S68) x0 false), (1, .d (.int .i64) x1 true), (5, .d (.int .i64) x5 true)], [], 0⟩
noncomputable def laws_toNestS_m.l8 (K j : Nat) (x0 : (List T24)) (x4 : Int) (y0 : (List T24)) : Option ((List T24) × Unit) := E.den 1000011 K (.pair (.list S24) .unit) j 8 ⟨mkE 23 [(0, .d (.list S24) x0 false), (3, .ref 0), (4, .d (.int .i64) x4 true)], [.row S24 y0 true], 0⟩
noncomputable def laws_toReachS_m.l8 (K j : Nat) (x0 : (List T68)) (x4 : Int) (y0 : (List T68)) : Option ((List T68) × Unit) := E.den 1000012 K (.pair (.list S68) .unit) j 8 ⟨mkE 23 [(0, .d (.list S68) x0 false), (3, .ref 0), (4, .d (.int .i64) x4 true)], [.row S68 y0 true], 0⟩
noncomputable def spec_l5Change.f (k : Nat) (a0 : (List T24)) (a1 : T24) (a2 : Bool) : Option ((List T24) × ((List T68) × Unit)) := E.run k 40 [.d (.list S24) a0 false, .d S24 a1 true, .c (.bv a2)] (.pair (.list S24) (.pair (.list S68) .unit))
noncomputable def impl_GoodNests.f (k : Nat) (a0 : (List T24)) : Option Bool := E.run k 42 [.d (.list S24) a0 false] .bool
noncomputable def impl_ygoodNest.f (k : Nat) (a0 : T24) : Option Bool := E.run k 43 [.d S24 a0 true] .bool
noncomputable def slices_Clone_impl_Nest_impl_Nest_m.f (k : Nat) (a0 : (List T24)) : Option ((List T24) × Unit) := E.run k 1000044 [.agg [], .d (.list S24) a0 false] (.pair (.list S24) .unit)
noncomputable def slices_BinarySearchFunc_impl_Nest_impl_Nest_impl_Nest.f (k : Nat) (a0 : (List T24)) (a1 : T24) : Option (Int × (Bool × Unit)) := E.run k 45 [.d (.list S24) a0 false, .d S24 a1 true, .fn 46 []] (.pair (.int .i64) (.pair .bool .unit))
noncomputable def laws_eqNestS.l14 (K j : Nat) (x0 : (List T24)) (x1 : (List T24)) (x5 : Int) : Option Bool := E.den 15 K .bool j 14 ⟨mkE 27 [(0, .d (.list S24) x0 false), (1, .d (.list S24) x1 false), (5, .d (.int .i64) x5 true)], [], 0⟩
noncomputable def laws_eqReachS.l14 (K j : Nat) (x0 : (List T68)) (x1 : (List T68)) (x5 : Int) : Option Bool := E.den 16 K .bool j 14 ⟨mkE 27 [(0, .d (.list S68) x0 false), (1, .d (.list S68) x1 false), (5, .d (.int .i64) x5 true)], [], 0⟩
noncomputable def laws_markNestS_m.l6 (K j : Nat) (x1 : Int) (x5 : Int) (y0 : (List T24)) : Option (Int × ((List T24) × Unit)) := E.den 1000017 K (.pair (.int .i64) (.pair (.list S24) .unit)) j 6 ⟨mkE 29 [(0, .ref 0), (1, .d (.int .i64) x1 true), (5, .d (.int .i64) x5 true)], [.row S24 y0 true], 1⟩
noncomputable def laws_markReachS_m.l6 (K j : Nat) (x1 : Int) (x5 : Int) (y0 : (List T68)) : Option (Int × ((List T68) × Unit)) := E.den 1000018 K (.pair (.int .i64) (.pair (.list S68) .unit)) j 6 ⟨mkE 36 [(0, .ref 0), (1, .d (.int .i64) x1 true), (5, .d (.int .i64) x5 true)], [.row S68 y0 true], 1⟩
noncomputable def laws_heldNestS.l6 (K j : Nat) (x0 : (List T24)) (x1 : Int) (x5 : Int) : Option Int := E.den 19 K (.int .i64) j 6 ⟨mkE 33 [(0, .d (.list S24) x0 false), (1, .d (.int .i64) x1 true), (5, .d (.int .i64) x5 true)], [], 0⟩
noncomputable def laws_heldReachS.l6 (K j : Nat) (x0 : (List T68)) (x1 : Int) (x5 : Int) : Option Int := E.den 20 K (.int .i64) j 6 ⟨mkE 42 [(0, .d (.list S68) x0 false), (1, .d (.int .i64) x1 true), (5, .d (.int .i64) x5 true)], [], 0⟩
noncomputable def cmp_isNaN_string.f (k : Nat) (a0 : ByteArray) : Option Bool := E.run k 127 [.d .str a0 true] .bool
noncomputable def cmp_Or_int.l8 (K j : Nat) (x3 : Int) (x6 : (List Int)) (x7 : Int) (x8 : Int) : Option Int := E.den 86 K (.int .i64) j 8 ⟨mkE 18 [(3, .d (.int .i64) x3 true), (6, .d (.list (.int .i64)) x6 false), (7, .d (.int .i64) x7 true), (8, .d (.int .i64) x8 true)], [], 0⟩
noncomputable def laws_szReach.f (k : Nat) (a0 : T68) (a1 : Int) : Option Int := E.run k 39 [.d S68 a0 true, .d (.int .i64) a1 true] (.int .i64)
noncomputable def laws_toReach.f (k : Nat) (a0 : T68) : Option T68 := E.run k 41 [.d S68 a0 true] S68
noncomputable def spec_GoodNests.f (k : Nat) (a0 : (List T24)) : Option Bool := E.run k 79 [.d (.list S24) a0 false] .bool
noncomputable def spec_l5Group.f (k : Nat) (a0 : ByteArray) : Option Bool := E.run k 80 [.d .str a0 true] .bool
noncomputable def spec_GoodName.f (k : Nat) (a0 : ByteArray) : Option Bool := E.run k 81 [.d .str a0 true] .bool
noncomputable def impl_GoodNests.l14 (K j : Nat) (x0 : (List T24)) (x8 : (List T24)) (x9 : Int) (x10 : Int) : Option Bool := E.den 42 K .bool j 14 ⟨mkE 33 [(0, .d (.list S24) x0 false), (8, .d (.list S24) x8 false), (9, .d (.int .i64) x9 true), (10, .d (.int .i64) x10 true)], [], 0⟩
noncomputable def impl_ygroupName.f (k : Nat) (a0 : ByteArray) : Option Bool := E.run k 84 [.d .str a0 true] .bool
noncomputable def impl_GoodName.f (k : Nat) (a0 : ByteArray) : Option Bool := E.run k 85 [.d .str a0 true] .bool
noncomputable def slices_BinarySearchFunc_impl_Nest_impl_Nest_impl_Nest.l8 (K j : Nat) (x0 : (List T24)) (x8 : Int) (x9 : Int) (x10 : Int) (y0_0 : ByteArray) (y0_1 : ByteArray) : Option (Int × (Bool × Unit)) := E.den 45 K (.pair (.int .i64) (.pair .bool .unit)) j 8 ⟨mkE 49 [(0, .d (.list S24) x0 false), (2, .fn 46 []), (4, .ptr 0 0), (8, .d (.int .i64) x8 true), (9, .d (.int .i64) x9 true), (10, .d (.int .i64) x10 true)], [.box [.d .str y0_0 true, .d .str y0_1 true]], 0⟩
noncomputable def laws_eqNest.f (k : Nat) (a0 : T24) (a1 : T24) : Option Bool := E.run k 49 [.d S24 a0 true, .d S24 a1 true] .bool
noncomputable def laws_eqReach.f (k : Nat) (a0 : T68) (a1 : T68) : Option Bool := E.run k 50 [.d S68 a0 true, .d S68 a1 true] .bool
noncomputable def laws_markText.f (k : Nat) (a0 : Int) : Option ByteArray := E.run k 51 [.d (.int .i64) a0 true] .str
noncomputable def spec_GoodNests.l14 (K j : Nat) (x0 : (List T24)) (x8 : (List T24)) (x9 : Int) (x10 : Int) : Option Bool := E.den 79 K .bool j 14 ⟨mkE 40 [(0, .d (.list S24) x0 false), (8, .d (.list S24) x8 false), (9, .d (.int .i64) x9 true), (10, .d (.int .i64) x10 true)], [], 0⟩
noncomputable def spec_l1Digit.f (k : Nat) (a0 : Int) : Option Bool := E.run k 119 [.d (.int .u8) a0 true] .bool
noncomputable def spec_GoodName.l14 (K j : Nat) (x0 : ByteArray) (x3 : Int) : Option Bool := E.den 81 K .bool j 14 ⟨mkE 41 [(0, .d .str x0 true), (3, .d (.int .i64) x3 true)], [], 0⟩
noncomputable def impl_ycmpNest.f (k : Nat) (a0 : T24) (a1 : T24) : Option Int := E.run k 46 [.d S24 a0 true, .d S24 a1 true] (.int .i64)
noncomputable def impl_ydigit.f (k : Nat) (a0 : Int) : Option Bool := E.run k 125 [.d (.int .u8) a0 true] .bool
noncomputable def impl_GoodName.l14 (K j : Nat) (x0 : ByteArray) (x17 : Int) (x18 : Int) : Option Bool := E.den 85 K .bool j 14 ⟨mkE 27 [(0, .d .str x0 true), (17, .d (.int .i64) x17 true), (18, .d (.int .i64) x18 true)], [], 0⟩
noncomputable def laws_markText.l14 (K j : Nat) (x0 : Int) (x3 : ByteArray) : Option ByteArray := E.den 51 K .str j 14 ⟨mkE 20 [(0, .d (.int .i64) x0 true), (3, .d .str x3 true)], [], 0⟩
noncomputable def spec_l5CmpNest.f (k : Nat) (a0 : T24) (a1 : T24) : Option Int := E.run k 118 [.d S24 a0 true, .d S24 a1 true] (.int .i64)
noncomputable def spec_l1Letter.f (k : Nat) (a0 : Int) : Option Bool := E.run k 120 [.d (.int .u8) a0 true] .bool
noncomputable def spec_l5With.f (k : Nat) (a0 : (List T24)) (a1 : T24) (a2 : Bool) : Option (List T24) := E.run k 82 [.d (.list S24) a0 false, .d S24 a1 true, .c (.bv a2)] (.list S24)
noncomputable def impl_ywordByte.f (k : Nat) (a0 : Int) : Option Bool := E.run k 126 [.d (.int .u8) a0 true] .bool
noncomputable def spec_l1CmpText.f (k : Nat) (a0 : ByteArray) (a1 : ByteArray) : Option Int := E.run k 136 [.d .str a0 true, .d .str a1 true] (.int .i64)
noncomputable def spec_l5With.l10 (K j : Nat) (x8 : Bool) (x14 : (List T24)) (x15 : Int) (x16 : Int) (y0_0 : ByteArray) (y0_1 : ByteArray) (y1 : (List T24)) : Option (List T24) := E.den 82 K (.list S24) j 10 ⟨mkE 47 [(4, .ptr 0 0), (7, .ref 1), (8, .c (.bv x8)), (14, .d (.list S24) x14 false), (15, .d (.int .i64) x15 true), (16, .d (.int .i64) x16 true)], [.box [.d .str y0_0 true, .d .str y0_1 true], .row S24 y1 false], 0⟩
noncomputable def spec_l5Groups.f (k : Nat) (a0 : (List T24)) : Option (List ByteArray) := E.run k 121 [.d (.list S24) a0 false] (.list .str)
noncomputable def impl_yletter.f (k : Nat) (a0 : Int) : Option Bool := E.run k 148 [.d (.int .u8) a0 true] .bool
noncomputable def spec_l1CmpText.l6 (K j : Nat) (x0 : ByteArray) (x1 : ByteArray) (x5 : Int) : Option Int := E.den 136 K (.int .i64) j 6 ⟨mkE 39 [(0, .d .str x0 true), (1, .d .str x1 true), (5, .d (.int .i64) x5 true)], [], 0⟩
noncomputable def spec_l5Groups.l8 (K j : Nat) (x6 : (List T24)) (x7 : Int) (x8 : Int) (y0 : (List ByteArray)) : Option (List ByteArray) := E.den 121 K (.list .str) j 8 ⟨mkE 20 [(3, .ref 0), (6, .d (.list S24) x6 false), (7, .d (.int .i64) x7 true), (8, .d (.int .i64) x8 true)], [.row .str y0 false], 0⟩
noncomputable def spec_l1CmpNum.f (k : Nat) (a0 : Int) (a1 : Int) : Option Int := E.run k 131 [.d (.int .i64) a0 true, .d (.int .i64) a1 true] (.int .i64)
noncomputable def impl_yreach_m.f (k : Nat) (a0 : (List T24)) : Option ((List T68) × Unit) := E.run k 1000048 [.agg [], .d (.list S24) a0 false] (.pair (.list S68) .unit)
noncomputable def impl_yreach_m.l8 (K j : Nat) (x0 : (List T24)) (x8 : (List T24)) (x9 : Int) (x10 : Int) (y0 : (List T68)) : Option ((List T68) × Unit) := E.den 1000048 K (.pair (.list S68) .unit) j 8 ⟨mkE 50 [(0, .d (.list S24) x0 false), (3, .ref 0), (8, .d (.list S24) x8 false), (9, .d (.int .i64) x9 true), (10, .d (.int .i64) x10 true)], [.row S68 y0 false], 0⟩
noncomputable def spec_l5Sorted.f (k : Nat) (a0 : (List ByteArray)) : Option (List ByteArray) := E.run k 123 [.d (.list .str) a0 false] (.list .str)
noncomputable def impl_yreach_m.l28 (K j : Nat) (x0 : (List T24)) (x8 : (List T24)) (x9 : Int) (x10 : Int) (y0 : (List T68)) (y1_0 : ByteArray) (y1_1 : ByteArray) (y2 : (List (ByteArray × Int))) (y2r : (List (ByteArray × Int))) : Option ((List T68) × Unit) := E.den 1000048 K (.pair (.list S68) .unit) j 28 ⟨mkE 50 [(0, .d (.list S24) x0 false), (3, .ref 0), (5, .ptr 1 0), (8, .d (.list S24) x8 false), (9, .d (.int .i64) x9 true), (10, .d (.int .i64) x10 true), (32, .itr 2)], [.row S68 y0 false, .box [.d .str y1_0 false, .d .str y1_1 false], .map .str (.int .i64) true y2 1 y2r none], 0⟩
noncomputable def spec_l5Sorted.l8 (K j : Nat) (x8 : (List ByteArray)) (x9 : Int) (x10 : Int) (y0 : (List ByteArray)) : Option (List ByteArray) := E.den 123 K (.list .str) j 8 ⟨mkE 67 [(3, .ref 0), (8, .d (.list .str) x8 false), (9, .d (.int .i64) x9 true), (10, .d (.int .i64) x10 true)], [.row .str y0 false], 0⟩
noncomputable def spec_l3Has.f (k : Nat) (a0 : (List ByteArray)) (a1 : ByteArray) : Option Bool := E.run k 124 [.d (.list .str) a0 false, .d .str a1 true] .bool
noncomputable def spec_l5Sorted.l23 (K j : Nat) (x5 : ByteArray) (x6 : Int) (x8 : (List ByteArray)) (x9 : Int) (x10 : Int) (y0 : (List ByteArray)) : Option (List ByteArray) := E.den 123 K (.list .str) j 23 ⟨mkE 67 [(3, .ref 0), (5, .d .str x5 false), (6, .d (.int .i64) x6 true), (8, .d (.list .str) x8 false), (9, .d (.int .i64) x9 true), (10, .d (.int .i64) x10 true)], [.row .str y0 false], 0⟩
noncomputable def spec_l3Has.l6 (K j : Nat) (x1 : ByteArray) (x7 : (List ByteArray)) (x8 : Int) (x9 : Int) : Option Bool := E.den 124 K .bool j 6 ⟨mkE 17 [(1, .d .str x1 true), (7, .d (.list .str) x7 false), (8, .d (.int .i64) x8 true), (9, .d (.int .i64) x9 true)], [], 0⟩
noncomputable def spec_l5Sorted.l44 (K j : Nat) (x5 : ByteArray) (x6 : Int) (x7 : Int) (x8 : (List ByteArray)) (x9 : Int) (x10 : Int) (y0 : (List ByteArray)) : Option (List ByteArray) := E.den 123 K (.list .str) j 44 ⟨mkE 67 [(3, .ref 0), (5, .d .str x5 false), (6, .d (.int .i64) x6 true), (7, .d (.int .i64) x7 true), (8, .d (.list .str) x8 false), (9, .d (.int .i64) x9 true), (10, .d (.int .i64) x10 true)], [.row .str y0 false], 0⟩
noncomputable def impl_yfrom_m.f (k : Nat) (a0 : (List T24)) (a1 : ByteArray) : Option ((List (ByteArray × Int)) × Unit) := E.run k 1000090 [.agg [], .d (.list S24) a0 false, .d .str a1 true] (.pair (.list (.pair .str (.int .i64))) .unit)
noncomputable def impl_yfrom_m.l10 (K j : Nat) (x0 : (List T24)) (x7 : Int) (y0 : (List (ByteArray × Int))) (y1 : (List ByteArray)) : Option ((List (ByteArray × Int)) × Unit) := E.den 1000090 K (.pair (.list (.pair .str (.int .i64))) .unit) j 10 ⟨mkE 57 [(0, .d (.list S24) x0 false), (5, .ref 0), (6, .ref 1), (7, .d (.int .i64) x7 true)], [.map .str (.int .i64) true y0 0 [] none, .row .str y1 false], 0⟩
noncomputable def spec_l5Reach.f (k : Nat) (a0 : (List T24)) : Option (List T68) := E.run k 83 [.d (.list S24) a0 false] (.list S68)
noncomputable def impl_yfrom_m.l25 (K j : Nat) (x0 : (List T24)) (x7 : Int) (x22 : Int) (x23 : Int) (y0 : (List (ByteArray × Int))) (y1 : (List ByteArray)) (y2 : (List ByteArray)) : Option ((List (ByteArray × Int)) × Unit) := E.den 1000090 K (.pair (.list (.pair .str (.int .i64))) .unit) j 25 ⟨mkE 57 [(0, .d (.list S24) x0 false), (5, .ref 0), (7, .d (.int .i64) x7 true), (8, .ref 1), (21, .ref 2), (22, .d (.int .i64) x22 true), (23, .d (.int .i64) x23 true)], [.map .str (.int .i64) true y0 0 [] none, .row .str y1 false, .row .str y2 false], 0⟩
noncomputable def spec_l5Reach.l8 (K j : Nat) (x0 : (List T24)) (x15 : (List ByteArray)) (x16 : Int) (x17 : Int) (y0 : (List T68)) : Option (List T68) := E.den 83 K (.list S68) j 8 ⟨mkE 63 [(0, .d (.list S24) x0 false), (3, .ref 0), (15, .d (.list .str) x15 false), (16, .d (.int .i64) x16 true), (17, .d (.int .i64) x17 true)], [.row S68 y0 false], 0⟩
noncomputable def impl_yfrom_m.l39 (K j : Nat) (x0 : (List T24)) (x7 : Int) (x10 : ByteArray) (x22 : Int) (x23 : Int) (x27 : (List T24)) (x28 : Int) (x29 : Int) (y0 : (List (ByteArray × Int))) (y1 : (List ByteArray)) (y2 : (List ByteArray)) : Option ((List (ByteArray × Int)) × Unit) := E.den 1000090 K (.pair (.list (.pair .str (.int .i64))) .unit) j 39 ⟨mkE 57 [(0, .d (.list S24) x0 false), (5, .ref 0), (7, .d (.int .i64) x7 true), (8, .ref 1), (10, .d .str x10 false), (21, .ref 2), (22, .d (.int .i64) x22 true), (23, .d (.int .i64) x23 true), (27, .d (.list S24) x27 false), (28, .d (.int .i64) x28 true), (29, .d (.int .i64) x29 true)], [.map .str (.int .i64) true y0 0 [] none, .row .str y1 false, .row .str y2 false], 0⟩
noncomputable def spec_l5Rings.f (k : Nat) (a0 : (List T24)) (a1 : ByteArray) : Option (List (List ByteArray)) := E.run k 122 [.d (.list S24) a0 false, .d .str a1 true] (.list (.list .str))
noncomputable def spec_l5Reach.l27 (K j : Nat) (x0 : (List T24)) (x5 : ByteArray) (x7 : (List (List ByteArray))) (x15 : (List ByteArray)) (x16 : Int) (x17 : Int) (x24 : (List (List ByteArray))) (x25 : Int) (x26 : Int) (y0 : (List T68)) (y1 : (List ByteArray)) : Option (List T68) := E.den 83 K (.list S68) j 27 ⟨mkE 63 [(0, .d (.list S24) x0 false), (3, .ref 0), (5, .d .str x5 false), (6, .ref 1), (7, .d (.list (.list .str)) x7 false), (15, .d (.list .str) x15 false), (16, .d (.int .i64) x16 true), (17, .d (.int .i64) x17 true), (24, .d (.list (.list .str)) x24 false), (25, .d (.int .i64) x25 true), (26, .d (.int .i64) x26 true)], [.row S68 y0 false, .row .str y1 false], 0⟩
noncomputable def spec_l5Rings.l10 (K j : Nat) (x0 : (List T24)) (x7 : (List ByteArray)) (y0 : (List (List ByteArray))) (y1 : (List ByteArray)) : Option (List (List ByteArray)) := E.den 122 K (.list (.list .str)) j 10 ⟨mkE 62 [(0, .d (.list S24) x0 false), (5, .ref 0), (6, .ref 1), (7, .d (.list .str) x7 false)], [.row (.list .str) y0 false, .row .str y1 false], 0⟩
noncomputable def spec_l5Reach.l43 (K j : Nat) (x0 : (List T24)) (x5 : ByteArray) (x7 : (List (List ByteArray))) (x15 : (List ByteArray)) (x16 : Int) (x17 : Int) (x35 : (List ByteArray)) (x36 : Int) (x37 : Int) (y0 : (List T68)) : Option (List T68) := E.den 83 K (.list S68) j 43 ⟨mkE 63 [(0, .d (.list S24) x0 false), (3, .ref 0), (5, .d .str x5 false), (7, .d (.list (.list .str)) x7 false), (15, .d (.list .str) x15 false), (16, .d (.int .i64) x16 true), (17, .d (.int .i64) x17 true), (35, .d (.list .str) x35 false), (36, .d (.int .i64) x36 true), (37, .d (.int .i64) x37 true)], [.row S68 y0 false], 0⟩
noncomputable def spec_l5Rings.l24 (K j : Nat) (x0 : (List T24)) (x18 : (List ByteArray)) (x19 : Int) (x20 : Int) (y0 : (List (List ByteArray))) (y1 : (List ByteArray)) (y2 : (List ByteArray)) : Option (List (List ByteArray)) := E.den 122 K (.list (.list .str)) j 24 ⟨mkE 62 [(0, .d (.list S24) x0 false), (5, .ref 0), (6, .ref 1), (8, .ref 2), (18, .d (.list .str) x18 false), (19, .d (.int .i64) x19 true), (20, .d (.int .i64) x20 true)], [.row (.list .str) y0 false, .row .str y1 false, .row .str y2 false], 0⟩
noncomputable def spec_l5Reach.l57 (K j : Nat) (x0 : (List T24)) (x5 : ByteArray) (x7 : (List (List ByteArray))) (x11 : ByteArray) (x15 : (List ByteArray)) (x16 : Int) (x17 : Int) (x35 : (List ByteArray)) (x36 : Int) (x37 : Int) (x41 : (List (List ByteArray))) (x42 : Int) (x43 : Int) (y0 : (List T68)) : Option (List T68) := E.den 83 K (.list S68) j 57 ⟨mkE 63 [(0, .d (.list S24) x0 false), (3, .ref 0), (5, .d .str x5 false), (7, .d (.list (.list .str)) x7 false), (11, .d .str x11 false), (15, .d (.list .str) x15 false), (16, .d (.int .i64) x16 true), (17, .d (.int .i64) x17 true), (35, .d (.list .str) x35 false), (36, .d (.int .i64) x36 true), (37, .d (.int .i64) x37 true), (41, .d (.list (.list .str)) x41 false), (42, .d (.int .i64) x42 true), (43, .d (.int .i64) x43 true)], [.row S68 y0 false], 0⟩
noncomputable def spec_l5Rings.l38 (K j : Nat) (x0 : (List T24)) (x10 : ByteArray) (x18 : (List ByteArray)) (x19 : Int) (x20 : Int) (x24 : (List T24)) (x25 : Int) (x26 : Int) (y0 : (List (List ByteArray))) (y1 : (List ByteArray)) (y2 : (List ByteArray)) : Option (List (List ByteArray)) := E.den 122 K (.list (.list .str)) j 38 ⟨mkE 62 [(0, .d (.list S24) x0 false), (5, .ref 0), (6, .ref 1), (8, .ref 2), (10, .d .str x10 false), (18, .d (.list .str) x18 false), (19, .d (.int .i64) x19 true), (20, .d (.int .i64) x20 true), (24, .d (.list S24) x24 false), (25, .d (.int .i64) x25 true), (26, .d (.int .i64) x26 true)], [.row (.list .str) y0 false, .row .str y1 false, .row .str y2 false], 0⟩
noncomputable def slices_Insert_impl_Nest_impl_Nest_m.f (k : Nat) (a0 : (List T24)) (a1 : Int) (a2 : (List T24)) : Option ((List T24) × Unit) := E.run k 1000047 [.agg [.d (.list S24) a0 true], .ref 0, .d (.int .i64) a1 true, .d (.list S24) a2 false] (.pair (.list S24) .unit)
noncomputable def slices_SortFunc_impl_Reach_impl_Reach_m.f (k : Nat) (a0 : (List T68)) : Option ((List T68) × Unit) := E.run k 1000091 [.agg [.d (.list S68) a0 true], .ref 0, .fn 92 []] (.pair (.list S68) .unit)
end Go.Proofs.Ytacfnpnaeiagnab.PA
