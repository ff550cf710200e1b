-- Written for this claim by a program of this session (the equations of the functions, read off their code).
import Derived.Test.YtacfnpnaeiagnabProg
import Derived.Test.YtacfnpnaeiagnabDenZ
namespace Go.Proofs.Ytacfnpnaeiagnab.PY
open Go Go.Den Go.RowKit
set_option maxRecDepth 100000
abbrev S24 : Sh := .pair .str (.pair .str .unit)
abbrev T24 : Type := (ByteArray × (ByteArray × Unit))
abbrev Z24 : T24 := dflt S24
abbrev S85 : Sh := .pair (.int .i64) (.pair (.int .i64) .unit)
abbrev T85 : Type := (Int × (Int × Unit))
abbrev Z85 : T85 := dflt S85
abbrev S89 : Sh := .pair S85 (.pair (.int .i64) (.pair (.int .i64) (.pair (.int .i64) (.pair S24 S24))))
abbrev T89 : Type := (T85 × (Int × (Int × (Int × (T24 × T24)))))
abbrev Z89 : T89 := dflt S89
noncomputable def E : Env := ⟨Try.prog, [⟨5, [], false⟩,
  ⟨21, [(16, [(0, .keep), (1, .keep), (5, .keep)])], false⟩,
  ⟨1000023, [(8, [(0, .keep), (3, .keep), (4, .keep)])], false⟩,
  ⟨28, [], false⟩,
  ⟨1000029, [], false⟩,
  ⟨25, [(14, [(0, .keep), (1, .keep), (5, .keep)])], false⟩,
  ⟨1000026, [(6, [(0, .keep), (1, .keep), (5, .keep)])], false⟩,
  ⟨27, [(6, [(0, .keep), (1, .keep), (5, .keep)])], false⟩,
  ⟨53, [(14, [(0, .keep), (8, .keep), (9, .keep), (10, .keep)])], false⟩,
  ⟨60, [(23, [(0, .keep), (3, .keep), (4, .keep), (5, .data (.int .i64) false), (12, .keep), (13, .keep), (14, .keep)]), (8, [(0, .keep), (3, .row S85 false), (4, .keep)])], false⟩,
  ⟨59, [(25, [(1, .keep), (5, .keep), (7, .keep), (8, .keep), (11, .keep), (12, .keep), (13, .keep), (17, .keep), (18, .keep), (19, .keep)]), (8, [(1, .keep), (5, .row S89 false), (11, .keep), (12, .keep), (13, .keep)])], false⟩,
  ⟨55, [(10, [(5, .keep), (13, .keep), (14, .keep), (15, .keep)]), (25, [(5, .keep), (7, .keep), (8, .keep), (13, .keep), (14, .keep), (15, .keep)]), (2000043, [(0, .keep), (1, .keep), (2, .keep), (3, .keep), (4, .keep), (5, .keep), (6, .keep), (7, .keep)]), (1000043, [(0, .keep), (1, .keep), (2, .keep), (3, .keep), (5, .keep), (8, .keep), (9, .keep), (10, .keep), (4, .keep), (6, .keep), (7, .keep), (11, .keep), (12, .keep)])], false⟩,
  ⟨62, [(16, [(3, .keep), (12, .keep), (13, .keep), (14, .keep)]), (35, [(3, .keep), (6, .row S85 true), (26, .keep)])], false⟩,
  ⟨61, [(14, [(0, .keep), (1, .keep), (19, .keep), (20, .keep)]), (39, [(1, .keep), (6, .row S89 false), (40, .keep), (41, .keep), (42, .keep)])], false⟩,
  ⟨1000057, [(16, [(6, .keep), (21, .keep), (22, .keep), (23, .keep)])], false⟩,
  ⟨52, [], false⟩,
  ⟨56, [], false⟩,
  ⟨98, [(14, [(0, .keep), (8, .keep), (9, .keep), (10, .keep)])], false⟩,
  ⟨1000099, [], false⟩,
  ⟨58, [], false⟩,
  ⟨51, [(14, [(0, .keep), (3, .keep)])], false⟩,
  ⟨93, [], false⟩,
  ⟨96, [], false⟩,
  ⟨97, [], false⟩,
  ⟨94, [], false⟩,
  ⟨95, [], false⟩,
  ⟨100, [], false⟩,
  ⟨101, [(8, [(0, .keep), (2, .keep), (4, .keep), (8, .keep), (9, .keep), (10, .keep)])], false⟩,
  ⟨105, [], false⟩,
  ⟨106, [], false⟩,
  ⟨81, [(14, [(0, .keep), (3, .keep)])], false⟩,
  ⟨109, [(6, [(0, .keep), (3, .keep)])], false⟩,
  ⟨130, [(6, [(0, .keep), (3, .keep)])], false⟩,
  ⟨131, [], false⟩,
  ⟨103, [], false⟩,
  ⟨107, [(6, [(0, .keep), (1, .keep), (7, .keep), (8, .keep)])], false⟩,
  ⟨132, [], false⟩,
  ⟨133, [], false⟩,
  ⟨85, [(14, [(0, .keep), (17, .keep), (18, .keep)])], false⟩,
  ⟨114, [(14, [(0, .keep), (19, .keep), (20, .keep)])], false⟩,
  ⟨119, [], false⟩,
  ⟨117, [], false⟩,
  ⟨86, [(8, [(3, .keep), (6, .keep), (7, .keep), (8, .keep)])], false⟩,
  ⟨158, [], false⟩,
  ⟨125, [], false⟩,
  ⟨102, [], false⟩,
  ⟨120, [], false⟩,
  ⟨147, [], false⟩,
  ⟨108, [], false⟩,
  ⟨168, [(43, [(0, .keep), (1, .keep), (5, .keep), (6, .keep), (7, .keep), (8, .keep), (9, .keep), (10, .keep)])], false⟩,
  ⟨126, [], false⟩,
  ⟨148, [], false⟩], [(1000104, fun _ => insAny S89), (172, fun _ => idxAny)], [], [(23, ⟨[], 0, [.ref 0], [.row S89], false⟩),
  (29, ⟨[], 0, [.ref 0, .ref 1], [.row S89, .row S89], false⟩),
  (26, ⟨[0], 1, [.hole (.int .i64)], [.row S89], false⟩),
  (57, ⟨[], 0, [.ref 0, .hole .bool], [.row S89], false⟩),
  (99, ⟨[], 0, [.ref 0], [.row S89], false⟩),
  (104, ⟨[0], 1, [.ref 1], [.gone, .row S89], false⟩)], []⟩
noncomputable def laws_FnExactSync.f (k : Nat) (a0 : (List T89)) (a1 : (List T89)) : Option Bool := E.run k 5 [.d (.list S89) a0 false, .d (.list S89) a1 false] .bool
noncomputable def laws_szDirChangeS.f (k : Nat) (a0 : (List T89)) (a1 : Int) : Option Int := E.run k 21 [.d (.list S89) a0 false, .d (.int .i64) a1 true] (.int .i64)
noncomputable def laws_toDirChangeS_m.f (k : Nat) (a0 : (List T89)) : Option ((List T89) × Unit) := E.run k 1000023 [.agg [], .d (.list S89) a0 false] (.pair (.list S89) .unit)
noncomputable def spec_Sync.f (k : Nat) (a0 : (List T89)) (a1 : (List T89)) : Option ((List T89) × ((List T89) × Unit)) := E.run k 28 [.d (.list S89) a0 false, .d (.list S89) a1 false] (.pair (.list S89) (.pair (.list S89) .unit))
noncomputable def impl_Sync_m.f (k : Nat) (a0 : (List T89)) (a1 : (List T89)) : Option ((List T89) × ((List T89) × Unit)) := E.run k 1000029 [.agg [], .d (.list S89) a0 false, .d (.list S89) a1 false] (.pair (.list S89) (.pair (.list S89) .unit))
noncomputable def laws_eqDirChangeS.f (k : Nat) (a0 : (List T89)) (a1 : (List T89)) : Option Bool := E.run k 25 [.d (.list S89) a0 false, .d (.list S89) a1 false] .bool
noncomputable def laws_markDirChangeS_m.f (k : Nat) (a0 : (List T89)) (a1 : Int) : Option (Int × ((List T89) × Unit)) := E.run k 1000026 [.agg [.d (.list S89) a0 true], .ref 0, .d (.int .i64) a1 true] (.pair (.int .i64) (.pair (.list S89) .unit))
noncomputable def laws_heldDirChangeS.f (k : Nat) (a0 : (List T89)) (a1 : Int) : Option Int := E.run k 27 [.d (.list S89) a0 false, .d (.int .i64) a1 true] (.int .i64)
noncomputable def laws_szDirChangeS.l16 (K j : Nat) (x0 : (List T89)) (x1 : Int) (x5 : Int) : Option Int := E.den 21 K (.int .i64) j 16 ⟨mkE 27 [(0, .d (.list S89) x0 false), (1, .d (.int .i64) x1 true), (5, .d (.int .i64) x5 true)], [], 0⟩
noncomputable def laws_toDirChangeS_m.l8 (K j : Nat) (x0 : (List T89)) (x4 : Int) (y0 : (List T89)) : Option ((List T89) × Unit) := E.den 1000023 K (.pair (.list S89) .unit) j 8 ⟨mkE 23 [(0, .d (.list S89) x0 false), (3, .ref 0), (4, .d (.int .i64) x4 true)], [.row S89 y0 true], 0⟩
noncomputable def spec_GoodLog.f (k : Nat) (a0 : (List T89)) : Option Bool := E.run k 53 [.d (.list S89) a0 false] .bool
noncomputable def spec_l4Receive.f (k : Nat) (a0 : (List T89)) (a1 : (List T89)) : Option (List T89) := E.run k 55 [.d (.list S89) a0 false, .d (.list S89) a1 false] (.list S89)
noncomputable def impl_yreceive_m.f (k : Nat) (a0 : (List T89)) (a1 : (List T89)) : Option (Bool × ((List T89) × Unit)) := E.run k 1000057 [.agg [], .d (.list S89) a0 false, .d (.list S89) a1 false] (.pair .bool (.pair (.list S89) .unit))
noncomputable def laws_eqDirChangeS.l14 (K j : Nat) (x0 : (List T89)) (x1 : (List T89)) (x5 : Int) : Option Bool := E.den 25 K .bool j 14 ⟨mkE 27 [(0, .d (.list S89) x0 false), (1, .d (.list S89) x1 false), (5, .d (.int .i64) x5 true)], [], 0⟩
noncomputable def laws_markDirChangeS_m.l6 (K j : Nat) (x1 : Int) (x5 : Int) (y0 : (List T89)) : Option (Int × ((List T89) × Unit)) := E.den 1000026 K (.pair (.int .i64) (.pair (.list S89) .unit)) j 6 ⟨mkE 84 [(0, .ref 0), (1, .d (.int .i64) x1 true), (5, .d (.int .i64) x5 true)], [.row S89 y0 true], 1⟩
noncomputable def laws_heldDirChangeS.l6 (K j : Nat) (x0 : (List T89)) (x1 : Int) (x5 : Int) : Option Int := E.den 27 K (.int .i64) j 6 ⟨mkE 102 [(0, .d (.list S89) x0 false), (1, .d (.int .i64) x1 true), (5, .d (.int .i64) x5 true)], [], 0⟩
noncomputable def laws_szDirChange.f (k : Nat) (a0 : T89) (a1 : Int) : Option Int := E.run k 52 [.d S89 a0 true, .d (.int .i64) a1 true] (.int .i64)
noncomputable def laws_toDirChange.f (k : Nat) (a0 : T89) : Option T89 := E.run k 56 [.d S89 a0 true] S89
noncomputable def spec_GoodLog.l14 (K j : Nat) (x0 : (List T89)) (x8 : (List T89)) (x9 : Int) (x10 : Int) : Option Bool := E.den 53 K .bool j 14 ⟨mkE 35 [(0, .d (.list S89) x0 false), (8, .d (.list S89) x8 false), (9, .d (.int .i64) x9 true), (10, .d (.int .i64) x10 true)], [], 0⟩
noncomputable def spec_l4Receive.l10 (K j : Nat) (x13 : (List T89)) (x14 : Int) (x15 : Int) (y0 : (List T89)) : Option (List T89) := E.den 55 K (.list S89) j 10 ⟨mkE 65 [(5, .ref 0), (13, .d (.list S89) x13 false), (14, .d (.int .i64) x14 true), (15, .d (.int .i64) x15 true)], [.row S89 y0 false], 0⟩
noncomputable def impl_GoodLog.f (k : Nat) (a0 : (List T89)) : Option Bool := E.run k 98 [.d (.list S89) a0 false] .bool
noncomputable def slices_Clone_impl_DirChange_impl_DirChange_m.f (k : Nat) (a0 : (List T89)) : Option ((List T89) × Unit) := E.run k 1000099 [.agg [], .d (.list S89) a0 false] (.pair (.list S89) .unit)
noncomputable def impl_yreceive_m.l16 (K j : Nat) (x21 : (List T89)) (x22 : Int) (x23 : Int) (y0 : (List T89)) : Option (Bool × ((List T89) × Unit)) := E.den 1000057 K (.pair .bool (.pair (.list S89) .unit)) j 16 ⟨mkE 48 [(6, .ref 0), (21, .d (.list S89) x21 false), (22, .d (.int .i64) x22 true), (23, .d (.int .i64) x23 true)], [.row S89 y0 true], 0⟩
noncomputable def laws_eqDirChange.f (k : Nat) (a0 : T89) (a1 : T89) : Option Bool := E.run k 58 [.d S89 a0 true, .d S89 a1 true] .bool
noncomputable def laws_markText.f (k : Nat) (a0 : Int) : Option ByteArray := E.run k 51 [.d (.int .i64) a0 true] .str
noncomputable def laws_szPart.f (k : Nat) (a0 : T24) (a1 : Int) : Option Int := E.run k 93 [.d S24 a0 true, .d (.int .i64) a1 true] (.int .i64)
noncomputable def laws_toStamp.f (k : Nat) (a0 : T85) : Option T85 := E.run k 96 [.d S85 a0 true] S85
noncomputable def laws_toPart.f (k : Nat) (a0 : T24) : Option T24 := E.run k 97 [.d S24 a0 true] S24
noncomputable def spec_GoodChange.f (k : Nat) (a0 : T89) : Option Bool := E.run k 94 [.d S89 a0 true] .bool
noncomputable def spec_l4Cmp.f (k : Nat) (a0 : T85) (a1 : T85) : Option Int := E.run k 95 [.d S85 a0 true, .d S85 a1 true] (.int .i64)
noncomputable def spec_l4Receive.l25 (K j : Nat) (x8 : Int) (x13 : (List T89)) (x14 : Int) (x15 : Int) (y0 : (List T89)) (y1_0 : Int) (y1_1 : Int) (y1_2 : Int) (y1_3 : Int) (y1_4 : Int) (y1_5 : ByteArray) (y1_6 : ByteArray) (y1_7 : ByteArray) (y1_8 : ByteArray) : Option (List T89) := E.den 55 K (.list S89) j 25 ⟨mkE 65 [(5, .ref 0), (7, .ptr 1 0), (8, .d (.int .i64) x8 true), (13, .d (.list S89) x13 false), (14, .d (.int .i64) x14 true), (15, .d (.int .i64) x15 true)], [.row S89 y0 false, .box [.d (.int .i64) y1_0 false, .d (.int .i64) y1_1 false, .d (.int .i64) y1_2 false, .d (.int .i64) y1_3 false, .d (.int .i64) y1_4 false, .d .str y1_5 false, .d .str y1_6 false, .d .str y1_7 false, .d .str y1_8 false]], 0⟩
noncomputable def impl_GoodLog.l14 (K j : Nat) (x0 : (List T89)) (x8 : (List T89)) (x9 : Int) (x10 : Int) : Option Bool := E.den 98 K .bool j 14 ⟨mkE 35 [(0, .d (.list S89) x0 false), (8, .d (.list S89) x8 false), (9, .d (.int .i64) x9 true), (10, .d (.int .i64) x10 true)], [], 0⟩
noncomputable def impl_GoodChange.f (k : Nat) (a0 : T89) : Option Bool := E.run k 100 [.d S89 a0 true] .bool
noncomputable def slices_BinarySearchFunc_impl_DirChange_impl_DirChange_impl_DirChange.f (k : Nat) (a0 : (List T89)) (a1 : T89) : Option (Int × (Bool × Unit)) := E.run k 101 [.d (.list S89) a0 false, .d S89 a1 true, .fn 102 []] (.pair (.int .i64) (.pair .bool .unit))
noncomputable def laws_eqStamp.f (k : Nat) (a0 : T85) (a1 : T85) : Option Bool := E.run k 105 [.d S85 a0 true, .d S85 a1 true] .bool
noncomputable def laws_eqPart.f (k : Nat) (a0 : T24) (a1 : T24) : Option Bool := E.run k 106 [.d S24 a0 true, .d S24 a1 true] .bool
noncomputable def laws_markText.l14 (K j : Nat) (x0 : Int) (x3 : ByteArray) : Option ByteArray := E.den 51 K .str j 14 ⟨mkE 20 [(0, .d (.int .i64) x0 true), (3, .d .str x3 true)], [], 0⟩
noncomputable def spec_GoodName.f (k : Nat) (a0 : ByteArray) : Option Bool := E.run k 81 [.d .str a0 true] .bool
noncomputable def spec_l1Printed.f (k : Nat) (a0 : ByteArray) : Option Bool := E.run k 109 [.d .str a0 true] .bool
noncomputable def spec_l4Tilde.f (k : Nat) (a0 : ByteArray) : Option Bool := E.run k 130 [.d .str a0 true] .bool
noncomputable def spec_l1CmpNum.f (k : Nat) (a0 : Int) (a1 : Int) : Option Int := E.run k 131 [.d (.int .i64) a0 true, .d (.int .i64) a1 true] (.int .i64)
noncomputable def spec_l4Missing.f (k : Nat) (a0 : (List T89)) (a1 : (List T85)) : Option (List T89) := E.run k 59 [.d (.list S89) a0 false, .d (.list S85) a1 false] (.list S89)
noncomputable def impl_ycmpStamp.f (k : Nat) (a0 : T85) (a1 : T85) : Option Int := E.run k 103 [.d S85 a0 true, .d S85 a1 true] (.int .i64)
noncomputable def impl_VectorOf.f (k : Nat) (a0 : (List T89)) : Option (List T85) := E.run k 62 [.d (.list S89) a0 false] (.list S85)
noncomputable def slices_IndexFunc_impl_Stamp_impl_Stamp.f (k : Nat) (a0 : (List T85)) (a1 : Int) (a2 : Int) (a3 : Int) (a4 : Int) (a5 : Int) (a6 : ByteArray) (a7 : ByteArray) (a8 : ByteArray) (a9 : ByteArray) : Option Int := E.run k 107 [.d (.list S85) a0 false, .fn 108 [.fb [.d (.int .i64) a1 true, .d (.int .i64) a2 true, .d (.int .i64) a3 true, .d (.int .i64) a4 true, .d (.int .i64) a5 true, .d .str a6 true, .d .str a7 true, .d .str a8 true, .d .str a9 true] 0]] (.int .i64)
noncomputable def impl_Missing.f (k : Nat) (a0 : (List T89)) (a1 : (List T85)) : Option (List T89) := E.run k 61 [.d (.list S89) a0 false, .d (.list S85) a1 false] (.list S89)
noncomputable def impl_ygoodPart.f (k : Nat) (a0 : T24) (a1 : Int) : Option Bool := E.run k 132 [.d S24 a0 true, .d (.int .i64) a1 true] .bool
noncomputable def strings_Contains.f (k : Nat) (a0 : ByteArray) (a1 : ByteArray) : Option Bool := E.run k 133 [.d .str a0 true, .d .str a1 true] .bool
noncomputable def impl_GoodName.f (k : Nat) (a0 : ByteArray) : Option Bool := E.run k 85 [.d .str a0 true] .bool
noncomputable def impl_yprinted.f (k : Nat) (a0 : ByteArray) (a1 : Int) (a2 : Int) : Option Bool := E.run k 114 [.d .str a0 true, .d (.int .i64) a1 true, .d (.int .i64) a2 true] .bool
noncomputable def slices_BinarySearchFunc_impl_DirChange_impl_DirChange_impl_DirChange.l8 (K j : Nat) (x0 : (List T89)) (x8 : Int) (x9 : Int) (x10 : Int) (y0_0 : Int) (y0_1 : Int) (y0_2 : Int) (y0_3 : Int) (y0_4 : Int) (y0_5 : ByteArray) (y0_6 : ByteArray) (y0_7 : ByteArray) (y0_8 : ByteArray) : Option (Int × (Bool × Unit)) := E.den 101 K (.pair (.int .i64) (.pair .bool .unit)) j 8 ⟨mkE 49 [(0, .d (.list S89) x0 false), (2, .fn 102 []), (4, .ptr 0 0), (8, .d (.int .i64) x8 true), (9, .d (.int .i64) x9 true), (10, .d (.int .i64) x10 true)], [.box [.d (.int .i64) y0_0 true, .d (.int .i64) y0_1 true, .d (.int .i64) y0_2 true, .d (.int .i64) y0_3 true, .d (.int .i64) y0_4 true, .d .str y0_5 true, .d .str y0_6 true, .d .str y0_7 true, .d .str y0_8 true]], 0⟩
noncomputable def spec_l1Digit.f (k : Nat) (a0 : Int) : Option Bool := E.run k 119 [.d (.int .u8) a0 true] .bool
noncomputable def spec_GoodName.l14 (K j : Nat) (x0 : ByteArray) (x3 : Int) : Option Bool := E.den 81 K .bool j 14 ⟨mkE 41 [(0, .d .str x0 true), (3, .d (.int .i64) x3 true)], [], 0⟩
noncomputable def spec_l1Printed.l6 (K j : Nat) (x0 : ByteArray) (x3 : Int) : Option Bool := E.den 109 K .bool j 6 ⟨mkE 20 [(0, .d .str x0 true), (3, .d (.int .i64) x3 true)], [], 0⟩
noncomputable def spec_l4Tilde.l6 (K j : Nat) (x0 : ByteArray) (x3 : Int) : Option Bool := E.den 130 K .bool j 6 ⟨mkE 14 [(0, .d .str x0 true), (3, .d (.int .i64) x3 true)], [], 0⟩
noncomputable def spec_l4Missing.l8 (K j : Nat) (x1 : (List T85)) (x11 : (List T89)) (x12 : Int) (x13 : Int) (y0 : (List T89)) : Option (List T89) := E.den 59 K (.list S89) j 8 ⟨mkE 49 [(1, .d (.list S85) x1 false), (5, .ref 0), (11, .d (.list S89) x11 false), (12, .d (.int .i64) x12 true), (13, .d (.int .i64) x13 true)], [.row S89 y0 false], 0⟩
noncomputable def cmp_Compare_int.f (k : Nat) (a0 : Int) (a1 : Int) : Option Int := E.run k 117 [.d (.int .i64) a0 true, .d (.int .i64) a1 true] (.int .i64)
noncomputable def cmp_Or_int.f (k : Nat) (a0 : (List Int)) : Option Int := E.run k 86 [.d (.list (.int .i64)) a0 false] (.int .i64)
noncomputable def impl_VectorOf.l16 (K j : Nat) (x12 : (List T89)) (x13 : Int) (x14 : Int) (y0 : (List (Int × Int))) : Option (List T85) := E.den 62 K (.list S85) j 16 ⟨mkE 43 [(3, .ref 0), (12, .d (.list S89) x12 false), (13, .d (.int .i64) x13 true), (14, .d (.int .i64) x14 true)], [.map (.int .i64) (.int .i64) true y0 0 [] none], 0⟩
noncomputable def slices_IndexFunc_impl_Stamp_impl_Stamp.l6 (K j : Nat) (x0 : (List T85)) (x1_0_0 : Int) (x1_0_1 : Int) (x1_0_2 : Int) (x1_0_3 : Int) (x1_0_4 : Int) (x1_0_5 : ByteArray) (x1_0_6 : ByteArray) (x1_0_7 : ByteArray) (x1_0_8 : ByteArray) (x7 : Int) (x8 : Int) : Option Int := E.den 107 K (.int .i64) j 6 ⟨mkE 19 [(0, .d (.list S85) x0 false), (1, .fn 108 [.fb [.d (.int .i64) x1_0_0 true, .d (.int .i64) x1_0_1 true, .d (.int .i64) x1_0_2 true, .d (.int .i64) x1_0_3 true, .d (.int .i64) x1_0_4 true, .d .str x1_0_5 true, .d .str x1_0_6 true, .d .str x1_0_7 true, .d .str x1_0_8 true] 0]), (7, .d (.int .i64) x7 true), (8, .d (.int .i64) x8 true)], [], 0⟩
noncomputable def impl_Missing.l14 (K j : Nat) (x0 : (List T89)) (x1 : (List T85)) (x19 : Int) (x20 : Int) : Option (List T89) := E.den 61 K (.list S89) j 14 ⟨mkE 68 [(0, .d (.list S89) x0 false), (1, .d (.list S85) x1 false), (19, .d (.int .i64) x19 true), (20, .d (.int .i64) x20 true)], [], 0⟩
noncomputable def strings_Index.f (k : Nat) (a0 : ByteArray) (a1 : ByteArray) : Option Int := E.run k 158 [.d .str a0 true, .d .str a1 true] (.int .i64)
noncomputable def impl_ydigit.f (k : Nat) (a0 : Int) : Option Bool := E.run k 125 [.d (.int .u8) a0 true] .bool
noncomputable def impl_GoodName.l14 (K j : Nat) (x0 : ByteArray) (x17 : Int) (x18 : Int) : Option Bool := E.den 85 K .bool j 14 ⟨mkE 27 [(0, .d .str x0 true), (17, .d (.int .i64) x17 true), (18, .d (.int .i64) x18 true)], [], 0⟩
noncomputable def impl_yprinted.l14 (K j : Nat) (x0 : ByteArray) (x19 : Int) (x20 : Int) : Option Bool := E.den 114 K .bool j 14 ⟨mkE 34 [(0, .d .str x0 true), (19, .d (.int .i64) x19 true), (20, .d (.int .i64) x20 true)], [], 0⟩
noncomputable def impl_yreceive_1.f (k : Nat) (a0 : T89) (a1 : T89) : Option Int := E.run k 102 [.d S89 a0 true, .d S89 a1 true] (.int .i64)
noncomputable def spec_l1Letter.f (k : Nat) (a0 : Int) : Option Bool := E.run k 120 [.d (.int .u8) a0 true] .bool
noncomputable def spec_l4Missing.l25 (K j : Nat) (x1 : (List T85)) (x8 : Bool) (x11 : (List T89)) (x12 : Int) (x13 : Int) (x17 : (List T85)) (x18 : Int) (x19 : Int) (y0 : (List T89)) (y1_0 : Int) (y1_1 : Int) (y1_2 : Int) (y1_3 : Int) (y1_4 : Int) (y1_5 : ByteArray) (y1_6 : ByteArray) (y1_7 : ByteArray) (y1_8 : ByteArray) : Option (List T89) := E.den 59 K (.list S89) j 25 ⟨mkE 49 [(1, .d (.list S85) x1 false), (5, .ref 0), (7, .ptr 1 0), (8, .c (.bv x8)), (11, .d (.list S89) x11 false), (12, .d (.int .i64) x12 true), (13, .d (.int .i64) x13 true), (17, .d (.list S85) x17 false), (18, .d (.int .i64) x18 true), (19, .d (.int .i64) x19 true)], [.row S89 y0 false, .box [.d (.int .i64) y1_0 false, .d (.int .i64) y1_1 false, .d (.int .i64) y1_2 false, .d (.int .i64) y1_3 false, .d (.int .i64) y1_4 false, .d .str y1_5 false, .d .str y1_6 false, .d .str y1_7 false, .d .str y1_8 false]], 0⟩
noncomputable def cmp_isNaN_int.f (k : Nat) (a0 : Int) : Option Bool := E.run k 147 [.d (.int .i64) a0 true] .bool
noncomputable def cmp_Or_int.l8 (K j : Nat) (x3 : Int) (x6 : (List Int)) (x7 : Int) (x8 : Int) : Option Int := E.den 86 K (.int .i64) j 8 ⟨mkE 18 [(3, .d (.int .i64) x3 true), (6, .d (.list (.int .i64)) x6 false), (7, .d (.int .i64) x7 true), (8, .d (.int .i64) x8 true)], [], 0⟩
noncomputable def impl_VectorOf.l35 (K j : Nat) (x26 : Int) (y0 : (List (Int × Int))) (y1 : (List T85)) : Option (List T85) := E.den 62 K (.list S85) j 35 ⟨mkE 43 [(3, .ref 0), (6, .ref 1), (26, .d (.int .i64) x26 true)], [.map (.int .i64) (.int .i64) true y0 0 [] none, .row S85 y1 true], 0⟩
noncomputable def impl_Missing_1.f (k : Nat) (a0 : T85) (a1 : Int) (a2 : Int) (a3 : Int) (a4 : Int) (a5 : Int) (a6 : ByteArray) (a7 : ByteArray) (a8 : ByteArray) (a9 : ByteArray) : Option Bool := E.run k 108 [.d S85 a0 true, .fb [.d (.int .i64) a1 true, .d (.int .i64) a2 true, .d (.int .i64) a3 true, .d (.int .i64) a4 true, .d (.int .i64) a5 true, .d .str a6 true, .d .str a7 true, .d .str a8 true, .d .str a9 true] 0] .bool
noncomputable def impl_Missing.l39 (K j : Nat) (x1 : (List T85)) (x40 : (List T89)) (x41 : Int) (x42 : Int) (y0 : (List T89)) : Option (List T89) := E.den 61 K (.list S89) j 39 ⟨mkE 68 [(1, .d (.list S85) x1 false), (6, .ref 0), (40, .d (.list S89) x40 false), (41, .d (.int .i64) x41 true), (42, .d (.int .i64) x42 true)], [.row S89 y0 false], 0⟩
noncomputable def internal_stringslite_Index.f (k : Nat) (a0 : ByteArray) (a1 : ByteArray) : Option Int := E.run k 168 [.d .str a0 true, .d .str a1 true] (.int .i64)
noncomputable def impl_ywordByte.f (k : Nat) (a0 : Int) : Option Bool := E.run k 126 [.d (.int .u8) a0 true] .bool
noncomputable def spec_l4Vector.f (k : Nat) (a0 : (List T89)) : Option (List T85) := E.run k 60 [.d (.list S89) a0 false] (.list S85)
noncomputable def internal_stringslite_IndexByte.f (k : Nat) (a0 : ByteArray) (a1 : Int) : Option Int := E.run k 172 [.d .str a0 true, .d (.int .u8) a1 true] (.int .i64)
noncomputable def impl_yletter.f (k : Nat) (a0 : Int) : Option Bool := E.run k 148 [.d (.int .u8) a0 true] .bool
noncomputable def spec_l4Vector.l8 (K j : Nat) (x0 : (List T89)) (x4 : Int) (y0 : (List T85)) : Option (List T85) := E.den 60 K (.list S85) j 8 ⟨mkE 43 [(0, .d (.list S89) x0 false), (3, .ref 0), (4, .d (.int .i64) x4 true)], [.row S85 y0 false], 0⟩
noncomputable def spec_l4Vector.l23 (K j : Nat) (x0 : (List T89)) (x4 : Int) (x5 : Int) (x12 : (List T89)) (x13 : Int) (x14 : Int) (y0 : (List T85)) : Option (List T85) := E.den 60 K (.list S85) j 23 ⟨mkE 43 [(0, .d (.list S89) x0 false), (3, .ref 0), (4, .d (.int .i64) x4 true), (5, .d (.int .i64) x5 false), (12, .d (.list S89) x12 false), (13, .d (.int .i64) x13 true), (14, .d (.int .i64) x14 true)], [.row S85 y0 false], 0⟩
noncomputable def slices_Insert_impl_DirChange_impl_DirChange_m.f (k : Nat) (a0 : (List T89)) (a1 : Int) (a2 : (List T89)) : Option ((List T89) × Unit) := E.run k 1000104 [.agg [.d (.list S89) a0 true], .ref 0, .d (.int .i64) a1 true, .d (.list S89) a2 false] (.pair (.list S89) .unit)
end Go.Proofs.Ytacfnpnaeiagnab.PY
