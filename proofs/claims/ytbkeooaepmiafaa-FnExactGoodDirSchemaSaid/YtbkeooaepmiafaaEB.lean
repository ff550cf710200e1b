-- Written for this claim by a program of this session (the equations of the functions, read off their code).
import Derived.Test.YtbkeooaepmiafaaProg
import Derived.Test.YtbkeooaepmiafaaDenW
namespace Go.Proofs.Ytbkeooaepmiafaa.PB
open Go Go.Den Go.RowKit
set_option maxRecDepth 100000
abbrev S100 : Sh := .pair .str (.pair (.int .i64) (.pair .bool .unit))
abbrev T100 : Type := (ByteArray × (Int × (Bool × Unit)))
abbrev Z100 : T100 := dflt S100
abbrev S106 : Sh := .pair .str (.pair .str (.pair (.list .str) (.pair (.list .str) .unit)))
abbrev T106 : Type := (ByteArray × (ByteArray × ((List ByteArray) × ((List ByteArray) × Unit))))
abbrev Z106 : T106 := dflt S106
abbrev S61 : Sh := .pair (.list S100) (.pair (.list S106) .unit)
abbrev T61 : Type := ((List T100) × ((List T106) × Unit))
abbrev Z61 : T61 := dflt S61
noncomputable def E : Env := ⟨Try.prog, [⟨5, [], false⟩,
  ⟨21, [], false⟩,
  ⟨23, [], false⟩,
  ⟨22, [(47, [(1, .keep), (86, .keep), (87, .keep), (88, .keep)]), (111, [(1, .keep), (15, .keep), (16, .keep), (86, .keep), (87, .keep), (88, .keep)]), (70, [(1, .keep), (8, .keep), (86, .keep), (87, .keep), (88, .keep), (142, .keep), (143, .keep), (144, .keep)]), (84, [(1, .keep), (8, .keep), (86, .keep), (87, .keep), (88, .keep), (142, .keep), (143, .keep), (144, .keep), (148, .keep), (149, .keep), (150, .keep)]), (14, [(1, .keep), (30, .keep), (31, .keep), (32, .keep)])], false⟩,
  ⟨24, [(47, [(1, .keep), (84, .keep), (85, .keep), (86, .keep)]), (119, [(1, .keep), (15, .keep), (16, .keep), (84, .keep), (85, .keep), (86, .keep)]), (70, [(1, .keep), (8, .keep), (84, .keep), (85, .keep), (86, .keep), (115, .keep), (116, .keep), (117, .keep)]), (92, [(1, .keep), (8, .keep), (84, .keep), (85, .keep), (86, .keep), (115, .keep), (116, .keep), (117, .keep), (129, .keep), (130, .keep), (131, .keep)]), (14, [(1, .keep), (29, .keep), (30, .keep), (31, .keep)])], false⟩,
  ⟨25, [], false⟩,
  ⟨53, [(16, [(0, .keep), (1, .keep), (5, .keep)])], false⟩,
  ⟨54, [(16, [(0, .keep), (1, .keep), (5, .keep)])], false⟩,
  ⟨60, [(8, [(0, .keep), (3, .keep), (4, .keep)])], false⟩,
  ⟨61, [(8, [(0, .keep), (3, .row S106 false), (4, .keep)])], false⟩,
  ⟨66, [(14, [(0, .keep), (1, .keep), (5, .keep)])], false⟩,
  ⟨67, [(14, [(0, .keep), (1, .keep), (5, .keep)])], false⟩,
  ⟨55, [(14, [(0, .keep), (3, .keep)])], false⟩,
  ⟨56, [(6, [(0, .keep), (1, .keep), (5, .keep)])], false⟩,
  ⟨57, [(6, [(1, .keep), (4, .keep), (9, .keep), (10, .keep), (11, .keep)])], false⟩,
  ⟨62, [(14, [(0, .keep), (17, .keep), (18, .keep)])], false⟩,
  ⟨63, [], false⟩,
  ⟨86, [], false⟩,
  ⟨87, [], false⟩,
  ⟨91, [], false⟩,
  ⟨92, [], false⟩,
  ⟨88, [], false⟩,
  ⟨58, [(6, [(0, .keep), (3, .keep)])], false⟩,
  ⟨93, [], false⟩,
  ⟨95, [(6, [(1, .keep), (2, .keep), (6, .keep), (11, .keep), (12, .keep), (13, .keep)])], false⟩,
  ⟨99, [], false⟩,
  ⟨100, [], false⟩,
  ⟨29, [(16, [(0, .keep), (1, .keep), (5, .keep)])], false⟩,
  ⟨35, [(8, [(0, .keep), (3, .row .str false), (4, .keep)])], false⟩,
  ⟨89, [], false⟩,
  ⟨90, [], false⟩,
  ⟨94, [], false⟩,
  ⟨64, [(6, [(0, .keep), (5, .keep), (6, .keep), (7, .keep)])], false⟩,
  ⟨44, [(14, [(0, .keep), (1, .keep), (5, .keep)])], false⟩,
  ⟨59, [(6, [(1, .keep), (4, .keep), (9, .keep), (10, .keep), (11, .keep)])], false⟩,
  ⟨113, [], false⟩,
  ⟨96, [], false⟩,
  ⟨65, [], false⟩,
  ⟨97, [(6, [(1, .keep), (2, .keep), (6, .keep), (11, .keep), (12, .keep), (13, .keep)])], false⟩,
  ⟨98, [], false⟩], [], []⟩
noncomputable def laws_FnExactGoodDirSchema.f (k : Nat) (a0 : T61) : Option Bool := E.run k 5 [.d S61 a0 false] .bool
noncomputable def laws_szDirSchema.f (k : Nat) (a0 : T61) (a1 : Int) : Option Int := E.run k 21 [.d S61 a0 false, .d (.int .i64) a1 true] (.int .i64)
noncomputable def laws_toDirSchema.f (k : Nat) (a0 : T61) : Option T61 := E.run k 23 [.d S61 a0 false] S61
noncomputable def spec_GoodDirSchema.f (k : Nat) (a0 : T61) : Option Bool := E.run k 22 [.d S61 a0 false] .bool
noncomputable def impl_GoodDirSchema.f (k : Nat) (a0 : T61) : Option Bool := E.run k 24 [.d S61 a0 false] .bool
noncomputable def laws_eqDirSchema.f (k : Nat) (a0 : T61) (a1 : T61) : Option Bool := E.run k 25 [.d S61 a0 false, .d S61 a1 false] .bool
noncomputable def laws_szAttrTypeS.f (k : Nat) (a0 : (List T100)) (a1 : Int) : Option Int := E.run k 53 [.d (.list S100) a0 false, .d (.int .i64) a1 true] (.int .i64)
noncomputable def laws_szClassS.f (k : Nat) (a0 : (List T106)) (a1 : Int) : Option Int := E.run k 54 [.d (.list S106) a0 false, .d (.int .i64) a1 true] (.int .i64)
noncomputable def laws_toAttrTypeS.f (k : Nat) (a0 : (List T100)) : Option (List T100) := E.run k 60 [.d (.list S100) a0 false] (.list S100)
noncomputable def spec_GoodDirSchema.l14 (K j : Nat) (x30 : (List T100)) (x31 : Int) (x32 : Int) (y0_0 : (List T100)) (y0_1 : (List T106)) : Option Bool := E.den 22 K .bool j 14 ⟨mkE 188 [(1, .ptr 0 0), (30, .d (.list S100) x30 false), (31, .d (.int .i64) x31 true), (32, .d (.int .i64) x32 true)], [.box [.d (.list S100) y0_0 false, .d (.list S106) y0_1 false]]⟩
noncomputable def impl_GoodDirSchema.l14 (K j : Nat) (x29 : (List T100)) (x30 : Int) (x31 : Int) (y0_0 : (List T100)) (y0_1 : (List T106)) : Option Bool := E.den 24 K .bool j 14 ⟨mkE 165 [(1, .ptr 0 0), (29, .d (.list S100) x29 false), (30, .d (.int .i64) x30 true), (31, .d (.int .i64) x31 true)], [.box [.d (.list S100) y0_0 false, .d (.list S106) y0_1 false]]⟩
noncomputable def laws_eqAttrTypeS.f (k : Nat) (a0 : (List T100)) (a1 : (List T100)) : Option Bool := E.run k 66 [.d (.list S100) a0 false, .d (.list S100) a1 false] .bool
noncomputable def laws_eqClassS.f (k : Nat) (a0 : (List T106)) (a1 : (List T106)) : Option Bool := E.run k 67 [.d (.list S106) a0 false, .d (.list S106) a1 false] .bool
noncomputable def laws_szAttrTypeS.l16 (K j : Nat) (x0 : (List T100)) (x1 : Int) (x5 : Int) : Option Int := E.den 53 K (.int .i64) j 16 ⟨mkE 27 [(0, .d (.list S100) x0 false), (1, .d (.int .i64) x1 true), (5, .d (.int .i64) x5 true)], []⟩
noncomputable def laws_szClassS.l16 (K j : Nat) (x0 : (List T106)) (x1 : Int) (x5 : Int) : Option Int := E.den 54 K (.int .i64) j 16 ⟨mkE 27 [(0, .d (.list S106) x0 false), (1, .d (.int .i64) x1 true), (5, .d (.int .i64) x5 true)], []⟩
noncomputable def laws_toAttrTypeS.l8 (K j : Nat) (x0 : (List T100)) (x4 : Int) (y0 : (List T100)) : Option (List T100) := E.den 60 K (.list S100) j 8 ⟨mkE 23 [(0, .d (.list S100) x0 false), (3, .ref 0), (4, .d (.int .i64) x4 true)], [.row S100 y0 true]⟩
noncomputable def spec_GoodName.f (k : Nat) (a0 : ByteArray) : Option Bool := E.run k 55 [.d .str a0 true] .bool
noncomputable def spec_l1CmpText.f (k : Nat) (a0 : ByteArray) (a1 : ByteArray) : Option Int := E.run k 56 [.d .str a0 true, .d .str a1 true] (.int .i64)
noncomputable def spec_l3Type.f (k : Nat) (a0 : T61) (a1 : ByteArray) : Option (T100 × (Bool × Unit)) := E.run k 57 [.d S61 a0 false, .d .str a1 true] (.pair S100 (.pair .bool .unit))
noncomputable def spec_GoodDirSchema.l47 (K j : Nat) (x86 : (List T106)) (x87 : Int) (x88 : Int) (y0_0 : (List T100)) (y0_1 : (List T106)) : Option Bool := E.den 22 K .bool j 47 ⟨mkE 188 [(1, .ptr 0 0), (86, .d (.list S106) x86 false), (87, .d (.int .i64) x87 true), (88, .d (.int .i64) x88 true)], [.box [.d (.list S100) y0_0 false, .d (.list S106) y0_1 false]]⟩
noncomputable def impl_GoodName.f (k : Nat) (a0 : ByteArray) : Option Bool := E.run k 62 [.d .str a0 true] .bool
noncomputable def impl_DirSchema_yattrType.f (k : Nat) (a0 : T61) (a1 : ByteArray) : Option (T100 × (Bool × Unit)) := E.run k 63 [.d S61 a0 false, .d .str a1 true] (.pair S100 (.pair .bool .unit))
noncomputable def impl_GoodDirSchema.l47 (K j : Nat) (x84 : (List T106)) (x85 : Int) (x86 : Int) (y0_0 : (List T100)) (y0_1 : (List T106)) : Option Bool := E.den 24 K .bool j 47 ⟨mkE 165 [(1, .ptr 0 0), (84, .d (.list S106) x84 false), (85, .d (.int .i64) x85 true), (86, .d (.int .i64) x86 true)], [.box [.d (.list S100) y0_0 false, .d (.list S106) y0_1 false]]⟩
noncomputable def laws_eqAttrTypeS.l14 (K j : Nat) (x0 : (List T100)) (x1 : (List T100)) (x5 : Int) : Option Bool := E.den 66 K .bool j 14 ⟨mkE 27 [(0, .d (.list S100) x0 false), (1, .d (.list S100) x1 false), (5, .d (.int .i64) x5 true)], []⟩
noncomputable def laws_eqClassS.l14 (K j : Nat) (x0 : (List T106)) (x1 : (List T106)) (x5 : Int) : Option Bool := E.den 67 K .bool j 14 ⟨mkE 27 [(0, .d (.list S106) x0 false), (1, .d (.list S106) x1 false), (5, .d (.int .i64) x5 true)], []⟩
noncomputable def laws_szAttrType.f (k : Nat) (a0 : T100) (a1 : Int) : Option Int := E.run k 86 [.d S100 a0 true, .d (.int .i64) a1 true] (.int .i64)
noncomputable def laws_szClass.f (k : Nat) (a0 : T106) (a1 : Int) : Option Int := E.run k 87 [.d S106 a0 false, .d (.int .i64) a1 true] (.int .i64)
noncomputable def laws_toAttrType.f (k : Nat) (a0 : T100) : Option T100 := E.run k 91 [.d S100 a0 true] S100
noncomputable def laws_toClass.f (k : Nat) (a0 : T106) : Option T106 := E.run k 92 [.d S106 a0 false] S106
noncomputable def laws_toClassS.f (k : Nat) (a0 : (List T106)) : Option (List T106) := E.run k 61 [.d (.list S106) a0 false] (.list S106)
noncomputable def spec_l1Digit.f (k : Nat) (a0 : Int) : Option Bool := E.run k 88 [.d (.int .u8) a0 true] .bool
noncomputable def spec_GoodName.l14 (K j : Nat) (x0 : ByteArray) (x3 : Int) : Option Bool := E.den 55 K .bool j 14 ⟨mkE 41 [(0, .d .str x0 true), (3, .d (.int .i64) x3 true)], []⟩
noncomputable def spec_l1CmpText.l6 (K j : Nat) (x0 : ByteArray) (x1 : ByteArray) (x5 : Int) : Option Int := E.den 56 K (.int .i64) j 6 ⟨mkE 39 [(0, .d .str x0 true), (1, .d .str x1 true), (5, .d (.int .i64) x5 true)], []⟩
noncomputable def spec_l3Type.l6 (K j : Nat) (x1 : ByteArray) (x9 : (List T100)) (x10 : Int) (x11 : Int) (y0_0 : ByteArray) (y0_1 : Int) (y0_2 : Bool) : Option (T100 × (Bool × Unit)) := E.den 57 K (.pair S100 (.pair .bool .unit)) j 6 ⟨mkE 22 [(1, .d .str x1 true), (4, .ptr 0 0), (9, .d (.list S100) x9 false), (10, .d (.int .i64) x10 true), (11, .d (.int .i64) x11 true)], [.box [.d .str y0_0 true, .d (.int .i64) y0_1 true, .c (.bv y0_2)]]⟩
noncomputable def spec_l3Rising.f (k : Nat) (a0 : (List ByteArray)) : Option Bool := E.run k 58 [.d (.list .str) a0 false] .bool
noncomputable def spec_GoodDirSchema.l70 (K j : Nat) (x86 : (List T106)) (x87 : Int) (x88 : Int) (x143 : Int) (x144 : Int) (y0_0 : (List T100)) (y0_1 : (List T106)) (y1_0 : ByteArray) (y1_1 : ByteArray) (y1_2 : (List ByteArray)) (y1_3 : (List ByteArray)) (y2 : (List (List ByteArray))) : Option Bool := E.den 22 K .bool j 70 ⟨mkE 188 [(1, .ptr 0 0), (8, .ptr 1 0), (86, .d (.list S106) x86 false), (87, .d (.int .i64) x87 true), (88, .d (.int .i64) x88 true), (142, .ref 2), (143, .d (.int .i64) x143 true), (144, .d (.int .i64) x144 true)], [.box [.d (.list S100) y0_0 false, .d (.list S106) y0_1 false], .box [.d .str y1_0 false, .d .str y1_1 false, .d (.list .str) y1_2 false, .d (.list .str) y1_3 false], .row (.list .str) y2 false]⟩
noncomputable def impl_ydigit.f (k : Nat) (a0 : Int) : Option Bool := E.run k 93 [.d (.int .u8) a0 true] .bool
noncomputable def impl_GoodName.l14 (K j : Nat) (x0 : ByteArray) (x17 : Int) (x18 : Int) : Option Bool := E.den 62 K .bool j 14 ⟨mkE 27 [(0, .d .str x0 true), (17, .d (.int .i64) x17 true), (18, .d (.int .i64) x18 true)], []⟩
noncomputable def impl_yfind_impl_AttrType.f (k : Nat) (a0 : (List T100)) (a1 : ByteArray) : Option (T100 × (Bool × Unit)) := E.run k 95 [.d (.list S100) a0 false, .fn 96 [], .d .str a1 true] (.pair S100 (.pair .bool .unit))
noncomputable def impl_GoodDirSchema.l70 (K j : Nat) (x84 : (List T106)) (x85 : Int) (x86 : Int) (x116 : Int) (x117 : Int) (y0_0 : (List T100)) (y0_1 : (List T106)) (y1_0 : ByteArray) (y1_1 : ByteArray) (y1_2 : (List ByteArray)) (y1_3 : (List ByteArray)) (y2 : (List (List ByteArray))) : Option Bool := E.den 24 K .bool j 70 ⟨mkE 165 [(1, .ptr 0 0), (8, .ptr 1 0), (84, .d (.list S106) x84 false), (85, .d (.int .i64) x85 true), (86, .d (.int .i64) x86 true), (115, .ref 2), (116, .d (.int .i64) x116 true), (117, .d (.int .i64) x117 true)], [.box [.d (.list S100) y0_0 false, .d (.list S106) y0_1 false], .box [.d .str y1_0 false, .d .str y1_1 false, .d (.list .str) y1_2 false, .d (.list .str) y1_3 false], .row (.list .str) y2 false]⟩
noncomputable def laws_eqAttrType.f (k : Nat) (a0 : T100) (a1 : T100) : Option Bool := E.run k 99 [.d S100 a0 true, .d S100 a1 true] .bool
noncomputable def laws_eqClass.f (k : Nat) (a0 : T106) (a1 : T106) : Option Bool := E.run k 100 [.d S106 a0 false, .d S106 a1 false] .bool
noncomputable def laws_szStringS.f (k : Nat) (a0 : (List ByteArray)) (a1 : Int) : Option Int := E.run k 29 [.d (.list .str) a0 false, .d (.int .i64) a1 true] (.int .i64)
noncomputable def laws_toClassS.l8 (K j : Nat) (x0 : (List T106)) (x4 : Int) (y0 : (List T106)) : Option (List T106) := E.den 61 K (.list S106) j 8 ⟨mkE 23 [(0, .d (.list S106) x0 false), (3, .ref 0), (4, .d (.int .i64) x4 true)], [.row S106 y0 false]⟩
noncomputable def spec_l1Letter.f (k : Nat) (a0 : Int) : Option Bool := E.run k 89 [.d (.int .u8) a0 true] .bool
noncomputable def spec_l1CmpNum.f (k : Nat) (a0 : Int) (a1 : Int) : Option Int := E.run k 90 [.d (.int .i64) a0 true, .d (.int .i64) a1 true] (.int .i64)
noncomputable def spec_l3Rising.l6 (K j : Nat) (x0 : (List ByteArray)) (x3 : Int) : Option Bool := E.den 58 K .bool j 6 ⟨mkE 21 [(0, .d (.list .str) x0 false), (3, .d (.int .i64) x3 true)], []⟩
noncomputable def spec_GoodDirSchema.l84 (K j : Nat) (x86 : (List T106)) (x87 : Int) (x88 : Int) (x143 : Int) (x144 : Int) (x148 : (List ByteArray)) (x149 : Int) (x150 : Int) (y0_0 : (List T100)) (y0_1 : (List T106)) (y1_0 : ByteArray) (y1_1 : ByteArray) (y1_2 : (List ByteArray)) (y1_3 : (List ByteArray)) (y2 : (List (List ByteArray))) : Option Bool := E.den 22 K .bool j 84 ⟨mkE 188 [(1, .ptr 0 0), (8, .ptr 1 0), (86, .d (.list S106) x86 false), (87, .d (.int .i64) x87 true), (88, .d (.int .i64) x88 true), (142, .ref 2), (143, .d (.int .i64) x143 true), (144, .d (.int .i64) x144 true), (148, .d (.list .str) x148 false), (149, .d (.int .i64) x149 true), (150, .d (.int .i64) x150 true)], [.box [.d (.list S100) y0_0 false, .d (.list S106) y0_1 false], .box [.d .str y1_0 false, .d .str y1_1 false, .d (.list .str) y1_2 false, .d (.list .str) y1_3 false], .row (.list .str) y2 false]⟩
noncomputable def spec_GoodDirSchema.l111 (K j : Nat) (x15 : ByteArray) (x16 : Int) (x86 : (List T106)) (x87 : Int) (x88 : Int) (y0_0 : (List T100)) (y0_1 : (List T106)) : Option Bool := E.den 22 K .bool j 111 ⟨mkE 188 [(1, .ptr 0 0), (15, .d .str x15 false), (16, .d (.int .i64) x16 true), (86, .d (.list S106) x86 false), (87, .d (.int .i64) x87 true), (88, .d (.int .i64) x88 true)], [.box [.d (.list S100) y0_0 false, .d (.list S106) y0_1 false]]⟩
noncomputable def impl_ywordByte.f (k : Nat) (a0 : Int) : Option Bool := E.run k 94 [.d (.int .u8) a0 true] .bool
noncomputable def impl_yfind_impl_AttrType.l6 (K j : Nat) (x2 : ByteArray) (x11 : (List T100)) (x12 : Int) (x13 : Int) (y0_0 : ByteArray) (y0_1 : Int) (y0_2 : Bool) : Option (T100 × (Bool × Unit)) := E.den 95 K (.pair S100 (.pair .bool .unit)) j 6 ⟨mkE 25 [(1, .fn 96 []), (2, .d .str x2 true), (6, .ptr 0 0), (11, .d (.list S100) x11 false), (12, .d (.int .i64) x12 true), (13, .d (.int .i64) x13 true)], [.box [.d .str y0_0 true, .d (.int .i64) y0_1 true, .c (.bv y0_2)]]⟩
noncomputable def impl_yrising.f (k : Nat) (a0 : (List ByteArray)) : Option Bool := E.run k 64 [.d (.list .str) a0 false] .bool
noncomputable def impl_GoodDirSchema.l92 (K j : Nat) (x84 : (List T106)) (x85 : Int) (x86 : Int) (x116 : Int) (x117 : Int) (x129 : (List ByteArray)) (x130 : Int) (x131 : Int) (y0_0 : (List T100)) (y0_1 : (List T106)) (y1_0 : ByteArray) (y1_1 : ByteArray) (y1_2 : (List ByteArray)) (y1_3 : (List ByteArray)) (y2 : (List (List ByteArray))) : Option Bool := E.den 24 K .bool j 92 ⟨mkE 165 [(1, .ptr 0 0), (8, .ptr 1 0), (84, .d (.list S106) x84 false), (85, .d (.int .i64) x85 true), (86, .d (.int .i64) x86 true), (115, .ref 2), (116, .d (.int .i64) x116 true), (117, .d (.int .i64) x117 true), (129, .d (.list .str) x129 false), (130, .d (.int .i64) x130 true), (131, .d (.int .i64) x131 true)], [.box [.d (.list S100) y0_0 false, .d (.list S106) y0_1 false], .box [.d .str y1_0 false, .d .str y1_1 false, .d (.list .str) y1_2 false, .d (.list .str) y1_3 false], .row (.list .str) y2 false]⟩
noncomputable def impl_GoodDirSchema.l119 (K j : Nat) (x16 : Int) (x84 : (List T106)) (x85 : Int) (x86 : Int) (y0_0 : (List T100)) (y0_1 : (List T106)) (y1_0 : ByteArray) (y1_1 : ByteArray) (y1_2 : (List ByteArray)) (y1_3 : (List ByteArray)) : Option Bool := E.den 24 K .bool j 119 ⟨mkE 165 [(1, .ptr 0 0), (15, .ptr 1 0), (16, .d (.int .i64) x16 true), (84, .d (.list S106) x84 false), (85, .d (.int .i64) x85 true), (86, .d (.int .i64) x86 true)], [.box [.d (.list S100) y0_0 false, .d (.list S106) y0_1 false], .box [.d .str y1_0 false, .d .str y1_1 false, .d (.list .str) y1_2 false, .d (.list .str) y1_3 false]]⟩
noncomputable def laws_eqStringS.f (k : Nat) (a0 : (List ByteArray)) (a1 : (List ByteArray)) : Option Bool := E.run k 44 [.d (.list .str) a0 false, .d (.list .str) a1 false] .bool
noncomputable def laws_szStringS.l16 (K j : Nat) (x0 : (List ByteArray)) (x1 : Int) (x5 : Int) : Option Int := E.den 29 K (.int .i64) j 16 ⟨mkE 28 [(0, .d (.list .str) x0 false), (1, .d (.int .i64) x1 true), (5, .d (.int .i64) x5 true)], []⟩
noncomputable def spec_l3Class.f (k : Nat) (a0 : T61) (a1 : ByteArray) : Option (T106 × (Bool × Unit)) := E.run k 59 [.d S61 a0 false, .d .str a1 true] (.pair S106 (.pair .bool .unit))
noncomputable def impl_yletter.f (k : Nat) (a0 : Int) : Option Bool := E.run k 113 [.d (.int .u8) a0 true] .bool
noncomputable def impl_DirSchema_yattrType_1.f (k : Nat) (a0 : T100) : Option ByteArray := E.run k 96 [.d S100 a0 true] .str
noncomputable def impl_yrising.l6 (K j : Nat) (x0 : (List ByteArray)) (x5 : (List ByteArray)) (x6 : Int) (x7 : Int) : Option Bool := E.den 64 K .bool j 6 ⟨mkE 24 [(0, .d (.list .str) x0 false), (5, .d (.list .str) x5 false), (6, .d (.int .i64) x6 true), (7, .d (.int .i64) x7 true)], []⟩
noncomputable def impl_DirSchema_yclass.f (k : Nat) (a0 : T61) (a1 : ByteArray) : Option (T106 × (Bool × Unit)) := E.run k 65 [.d S61 a0 false, .d .str a1 true] (.pair S106 (.pair .bool .unit))
noncomputable def laws_eqStringS.l14 (K j : Nat) (x0 : (List ByteArray)) (x1 : (List ByteArray)) (x5 : Int) : Option Bool := E.den 44 K .bool j 14 ⟨mkE 26 [(0, .d (.list .str) x0 false), (1, .d (.list .str) x1 false), (5, .d (.int .i64) x5 true)], []⟩
noncomputable def laws_toStringS.f (k : Nat) (a0 : (List ByteArray)) : Option (List ByteArray) := E.run k 35 [.d (.list .str) a0 false] (.list .str)
noncomputable def spec_l3Class.l6 (K j : Nat) (x1 : ByteArray) (x9 : (List T106)) (x10 : Int) (x11 : Int) (y0_0 : ByteArray) (y0_1 : ByteArray) : Option (T106 × (Bool × Unit)) := E.den 59 K (.pair S106 (.pair .bool .unit)) j 6 ⟨mkE 22 [(1, .d .str x1 true), (4, .ptr 0 0), (9, .d (.list S106) x9 false), (10, .d (.int .i64) x10 true), (11, .d (.int .i64) x11 true)], [.box [.d .str y0_0 true, .d .str y0_1 true, .nil, .nil]]⟩
noncomputable def impl_yfind_impl_Class.f (k : Nat) (a0 : (List T106)) (a1 : ByteArray) : Option (T106 × (Bool × Unit)) := E.run k 97 [.d (.list S106) a0 false, .fn 98 [], .d .str a1 true] (.pair S106 (.pair .bool .unit))
noncomputable def laws_toStringS.l8 (K j : Nat) (x0 : (List ByteArray)) (x4 : Int) (y0 : (List ByteArray)) : Option (List ByteArray) := E.den 35 K (.list .str) j 8 ⟨mkE 22 [(0, .d (.list .str) x0 false), (3, .ref 0), (4, .d (.int .i64) x4 true)], [.row .str y0 false]⟩
noncomputable def impl_yfind_impl_Class.l6 (K j : Nat) (x2 : ByteArray) (x11 : (List T106)) (x12 : Int) (x13 : Int) (y0_0 : ByteArray) (y0_1 : ByteArray) : Option (T106 × (Bool × Unit)) := E.den 97 K (.pair S106 (.pair .bool .unit)) j 6 ⟨mkE 25 [(1, .fn 98 []), (2, .d .str x2 true), (6, .ptr 0 0), (11, .d (.list S106) x11 false), (12, .d (.int .i64) x12 true), (13, .d (.int .i64) x13 true)], [.box [.d .str y0_0 true, .d .str y0_1 true, .nil, .nil]]⟩
noncomputable def impl_DirSchema_yclass_1.f (k : Nat) (a0 : T106) : Option ByteArray := E.run k 98 [.d S106 a0 false] .str
end Go.Proofs.Ytbkeooaepmiafaa.PB
