-- Written for this claim by a program of this session (the equations of the functions, read off their code).
import Derived.Test.YtcgiegkcmofhhabProg
import Derived.Test.YtcgiegkcmofhhabDenW
namespace Go.Proofs.Ytcgiegkcmofhhab.PFnExactGoodCaveat
open Go Go.Den Go.RowKit
set_option maxRecDepth 100000
abbrev S24 : Sh := .pair (.int .i64) (.pair (.int .i64) .unit)
abbrev T24 : Type := (Int × (Int × Unit))
abbrev Z24 : T24 := dflt S24
abbrev S99 : Sh := .pair .str (.pair (.int .i64) .unit)
abbrev T99 : Type := (ByteArray × (Int × Unit))
abbrev Z99 : T99 := dflt S99
abbrev S88 : Sh := .pair .str (.pair .str .unit)
abbrev T88 : Type := (ByteArray × (ByteArray × Unit))
abbrev Z88 : T88 := dflt S88
abbrev S62 : Sh := .pair (.int .i64) (.pair (.int .i64) S88)
abbrev T62 : Type := (Int × (Int × T88))
abbrev Z62 : T62 := dflt S62
abbrev S64 : Sh := .pair .str (.pair (.int .i64) (.pair .str (.pair S62 .unit)))
abbrev T64 : Type := (ByteArray × (Int × (ByteArray × (T62 × Unit))))
abbrev Z64 : T64 := dflt S64
abbrev S34 : Sh := .pair .str (.pair (.list S99) (.pair (.list S64) .unit))
abbrev T34 : Type := (ByteArray × ((List T99) × ((List T64) × Unit)))
abbrev Z34 : T34 := dflt S34
noncomputable def E : Env := ⟨Try.prog, [⟨4, [], false⟩,
  ⟨15, [], false⟩,
  ⟨17, [], false⟩,
  ⟨16, [(37, [(1, .keep), (86, .keep), (87, .keep), (88, .keep)]), (14, [(1, .keep), (36, .keep), (37, .keep), (38, .keep)])], false⟩,
  ⟨18, [(37, [(1, .keep), (90, .keep), (91, .keep), (92, .keep)]), (14, [(1, .keep), (41, .keep), (42, .keep), (43, .keep)])], false⟩,
  ⟨19, [], false⟩,
  ⟨37, [(16, [(0, .keep), (1, .keep), (5, .keep)])], false⟩,
  ⟨51, [(16, [(0, .keep), (1, .keep), (5, .keep)])], false⟩,
  ⟨41, [(8, [(0, .keep), (3, .keep), (4, .keep)])], false⟩,
  ⟨55, [(8, [(0, .keep), (3, .keep), (4, .keep)])], false⟩,
  ⟨52, [(14, [(0, .keep), (3, .keep)])], false⟩,
  ⟨56, [(14, [(0, .keep), (17, .keep), (18, .keep)])], false⟩,
  ⟨44, [(14, [(0, .keep), (1, .keep), (5, .keep)])], false⟩,
  ⟨61, [(14, [(0, .keep), (1, .keep), (5, .keep)])], false⟩,
  ⟨97, [], false⟩,
  ⟨53, [(6, [(0, .keep), (1, .keep), (5, .keep)])], false⟩,
  ⟨102, [], false⟩,
  ⟨74, [], false⟩,
  ⟨36, [], false⟩,
  ⟨80, [], false⟩,
  ⟨40, [], false⟩,
  ⟨98, [], false⟩,
  ⟨54, [], false⟩,
  ⟨103, [], false⟩,
  ⟨57, [], false⟩,
  ⟨59, [], false⟩,
  ⟨60, [], false⟩,
  ⟨58, [], false⟩,
  ⟨87, [], false⟩,
  ⟨107, [], false⟩,
  ⟨73, [], false⟩,
  ⟨79, [], false⟩,
  ⟨99, [], false⟩,
  ⟨100, [(6, [(1, .keep), (4, .keep), (8, .keep), (9, .keep), (10, .keep)])], false⟩,
  ⟨101, [], false⟩,
  ⟨135, [], false⟩,
  ⟨104, [(6, [(1, .keep), (2, .keep), (6, .keep), (11, .keep), (12, .keep), (13, .keep)])], false⟩,
  ⟨106, [(14, [(0, .keep), (19, .keep), (20, .keep)])], false⟩,
  ⟨88, [], false⟩,
  ⟨128, [(6, [(0, .keep), (3, .keep)])], false⟩,
  ⟨133, [(8, [(0, .keep), (3, .keep), (4, .keep)])], false⟩,
  ⟨134, [], false⟩,
  ⟨105, [], false⟩], [], []⟩
noncomputable def laws_FnExactGoodCaveat.f (k : Nat) (a0 : T34) : Option Bool := E.run k 4 [.d S34 a0 false] .bool
noncomputable def laws_szCaveat.f (k : Nat) (a0 : T34) (a1 : Int) : Option Int := E.run k 15 [.d S34 a0 false, .d (.int .i64) a1 true] (.int .i64)
noncomputable def laws_toCaveat.f (k : Nat) (a0 : T34) : Option T34 := E.run k 17 [.d S34 a0 false] S34
noncomputable def spec_GoodCaveat.f (k : Nat) (a0 : T34) : Option Bool := E.run k 16 [.d S34 a0 false] .bool
noncomputable def impl_GoodCaveat.f (k : Nat) (a0 : T34) : Option Bool := E.run k 18 [.d S34 a0 false] .bool
noncomputable def laws_eqCaveat.f (k : Nat) (a0 : T34) (a1 : T34) : Option Bool := E.run k 19 [.d S34 a0 false, .d S34 a1 false] .bool
noncomputable def laws_szParamS.f (k : Nat) (a0 : (List T99)) (a1 : Int) : Option Int := E.run k 37 [.d (.list S99) a0 false, .d (.int .i64) a1 true] (.int .i64)
noncomputable def laws_szCavTermS.f (k : Nat) (a0 : (List T64)) (a1 : Int) : Option Int := E.run k 51 [.d (.list S64) a0 false, .d (.int .i64) a1 true] (.int .i64)
noncomputable def laws_toParamS.f (k : Nat) (a0 : (List T99)) : Option (List T99) := E.run k 41 [.d (.list S99) a0 false] (.list S99)
noncomputable def laws_toCavTermS.f (k : Nat) (a0 : (List T64)) : Option (List T64) := E.run k 55 [.d (.list S64) a0 false] (.list S64)
noncomputable def spec_GoodName.f (k : Nat) (a0 : ByteArray) : Option Bool := E.run k 52 [.d .str a0 true] .bool
noncomputable def spec_GoodCaveat.l14 (K j : Nat) (x36 : (List T99)) (x37 : Int) (x38 : Int) (y0_0 : ByteArray) (y0_1 : (List T99)) (y0_2 : (List T64)) : Option Bool := E.den 16 K .bool j 14 ⟨mkE 98 [(1, .ptr 0 0), (36, .d (.list S99) x36 false), (37, .d (.int .i64) x37 true), (38, .d (.int .i64) x38 true)], [.box [.d .str y0_0 false, .d (.list S99) y0_1 false, .d (.list S64) y0_2 false]]⟩
noncomputable def impl_GoodName.f (k : Nat) (a0 : ByteArray) : Option Bool := E.run k 56 [.d .str a0 true] .bool
noncomputable def impl_GoodCaveat.l14 (K j : Nat) (x41 : (List T99)) (x42 : Int) (x43 : Int) (y0_0 : ByteArray) (y0_1 : (List T99)) (y0_2 : (List T64)) : Option Bool := E.den 18 K .bool j 14 ⟨mkE 144 [(1, .ptr 0 0), (41, .d (.list S99) x41 false), (42, .d (.int .i64) x42 true), (43, .d (.int .i64) x43 true)], [.box [.d .str y0_0 false, .d (.list S99) y0_1 false, .d (.list S64) y0_2 false]]⟩
noncomputable def laws_eqParamS.f (k : Nat) (a0 : (List T99)) (a1 : (List T99)) : Option Bool := E.run k 44 [.d (.list S99) a0 false, .d (.list S99) a1 false] .bool
noncomputable def laws_eqCavTermS.f (k : Nat) (a0 : (List T64)) (a1 : (List T64)) : Option Bool := E.run k 61 [.d (.list S64) a0 false, .d (.list S64) a1 false] .bool
noncomputable def laws_szParamS.l16 (K j : Nat) (x0 : (List T99)) (x1 : Int) (x5 : Int) : Option Int := E.den 37 K (.int .i64) j 16 ⟨mkE 27 [(0, .d (.list S99) x0 false), (1, .d (.int .i64) x1 true), (5, .d (.int .i64) x5 true)], []⟩
noncomputable def laws_szCavTermS.l16 (K j : Nat) (x0 : (List T64)) (x1 : Int) (x5 : Int) : Option Int := E.den 51 K (.int .i64) j 16 ⟨mkE 27 [(0, .d (.list S64) x0 false), (1, .d (.int .i64) x1 true), (5, .d (.int .i64) x5 true)], []⟩
noncomputable def laws_toParamS.l8 (K j : Nat) (x0 : (List T99)) (x4 : Int) (y0 : (List T99)) : Option (List T99) := E.den 41 K (.list S99) j 8 ⟨mkE 23 [(0, .d (.list S99) x0 false), (3, .ref 0), (4, .d (.int .i64) x4 true)], [.row S99 y0 true]⟩
noncomputable def laws_toCavTermS.l8 (K j : Nat) (x0 : (List T64)) (x4 : Int) (y0 : (List T64)) : Option (List T64) := E.den 55 K (.list S64) j 8 ⟨mkE 23 [(0, .d (.list S64) x0 false), (3, .ref 0), (4, .d (.int .i64) x4 true)], [.row S64 y0 true]⟩
noncomputable def spec_l1Digit.f (k : Nat) (a0 : Int) : Option Bool := E.run k 97 [.d (.int .u8) a0 true] .bool
noncomputable def spec_GoodName.l14 (K j : Nat) (x0 : ByteArray) (x3 : Int) : Option Bool := E.den 52 K .bool j 14 ⟨mkE 41 [(0, .d .str x0 true), (3, .d (.int .i64) x3 true)], []⟩
noncomputable def spec_l1CmpText.f (k : Nat) (a0 : ByteArray) (a1 : ByteArray) : Option Int := E.run k 53 [.d .str a0 true, .d .str a1 true] (.int .i64)
noncomputable def spec_GoodCaveat.l37 (K j : Nat) (x86 : (List T64)) (x87 : Int) (x88 : Int) (y0_0 : ByteArray) (y0_1 : (List T99)) (y0_2 : (List T64)) : Option Bool := E.den 16 K .bool j 37 ⟨mkE 98 [(1, .ptr 0 0), (86, .d (.list S64) x86 false), (87, .d (.int .i64) x87 true), (88, .d (.int .i64) x88 true)], [.box [.d .str y0_0 false, .d (.list S99) y0_1 false, .d (.list S64) y0_2 false]]⟩
noncomputable def impl_ydigit.f (k : Nat) (a0 : Int) : Option Bool := E.run k 102 [.d (.int .u8) a0 true] .bool
noncomputable def impl_GoodName.l14 (K j : Nat) (x0 : ByteArray) (x17 : Int) (x18 : Int) : Option Bool := E.den 56 K .bool j 14 ⟨mkE 27 [(0, .d .str x0 true), (17, .d (.int .i64) x17 true), (18, .d (.int .i64) x18 true)], []⟩
noncomputable def impl_GoodCaveat.l37 (K j : Nat) (x90 : (List T64)) (x91 : Int) (x92 : Int) (y0_0 : ByteArray) (y0_1 : (List T99)) (y0_2 : (List T64)) : Option Bool := E.den 18 K .bool j 37 ⟨mkE 144 [(1, .ptr 0 0), (90, .d (.list S64) x90 false), (91, .d (.int .i64) x91 true), (92, .d (.int .i64) x92 true)], [.box [.d .str y0_0 false, .d (.list S99) y0_1 false, .d (.list S64) y0_2 false]]⟩
noncomputable def laws_eqParamS.l14 (K j : Nat) (x0 : (List T99)) (x1 : (List T99)) (x5 : Int) : Option Bool := E.den 44 K .bool j 14 ⟨mkE 27 [(0, .d (.list S99) x0 false), (1, .d (.list S99) x1 false), (5, .d (.int .i64) x5 true)], []⟩
noncomputable def laws_eqCavTermS.l14 (K j : Nat) (x0 : (List T64)) (x1 : (List T64)) (x5 : Int) : Option Bool := E.den 61 K .bool j 14 ⟨mkE 27 [(0, .d (.list S64) x0 false), (1, .d (.list S64) x1 false), (5, .d (.int .i64) x5 true)], []⟩
noncomputable def laws_szParam.f (k : Nat) (a0 : T99) (a1 : Int) : Option Int := E.run k 74 [.d S99 a0 true, .d (.int .i64) a1 true] (.int .i64)
noncomputable def laws_szCavTerm.f (k : Nat) (a0 : T64) (a1 : Int) : Option Int := E.run k 36 [.d S64 a0 true, .d (.int .i64) a1 true] (.int .i64)
noncomputable def laws_toParam.f (k : Nat) (a0 : T99) : Option T99 := E.run k 80 [.d S99 a0 true] S99
noncomputable def laws_toCavTerm.f (k : Nat) (a0 : T64) : Option T64 := E.run k 40 [.d S64 a0 true] S64
noncomputable def spec_l1Letter.f (k : Nat) (a0 : Int) : Option Bool := E.run k 98 [.d (.int .u8) a0 true] .bool
noncomputable def spec_l1CmpText.l6 (K j : Nat) (x0 : ByteArray) (x1 : ByteArray) (x5 : Int) : Option Int := E.den 53 K (.int .i64) j 6 ⟨mkE 39 [(0, .d .str x0 true), (1, .d .str x1 true), (5, .d (.int .i64) x5 true)], []⟩
noncomputable def spec_l6GoodTerm.f (k : Nat) (a0 : T64) (a1 : (List T99)) : Option Bool := E.run k 54 [.d S64 a0 true, .d (.list S99) a1 false] .bool
noncomputable def impl_ywordByte.f (k : Nat) (a0 : Int) : Option Bool := E.run k 103 [.d (.int .u8) a0 true] .bool
noncomputable def impl_Caveat_yparam.f (k : Nat) (a0 : T34) (a1 : ByteArray) : Option (T99 × (Bool × Unit)) := E.run k 57 [.d S34 a0 false, .d .str a1 true] (.pair S99 (.pair .bool .unit))
noncomputable def impl_GoodAtom.f (k : Nat) (a0 : T62) : Option Bool := E.run k 59 [.d S62 a0 true] .bool
noncomputable def impl_yopFits.f (k : Nat) (a0 : Int) (a1 : Int) : Option Bool := E.run k 60 [.d (.int .i64) a0 true, .d (.int .i64) a1 true] .bool
noncomputable def impl_yzeroAtom.f (k : Nat) (a0 : T62) : Option Bool := E.run k 58 [.d S62 a0 true] .bool
noncomputable def laws_eqParam.f (k : Nat) (a0 : T99) (a1 : T99) : Option Bool := E.run k 87 [.d S99 a0 true, .d S99 a1 true] .bool
noncomputable def laws_eqCavTerm.f (k : Nat) (a0 : T64) (a1 : T64) : Option Bool := E.run k 107 [.d S64 a0 true, .d S64 a1 true] .bool
noncomputable def laws_szAtom.f (k : Nat) (a0 : T62) (a1 : Int) : Option Int := E.run k 73 [.d S62 a0 true, .d (.int .i64) a1 true] (.int .i64)
noncomputable def laws_toAtom.f (k : Nat) (a0 : T62) : Option T62 := E.run k 79 [.d S62 a0 true] S62
noncomputable def spec_l1CmpNum.f (k : Nat) (a0 : Int) (a1 : Int) : Option Int := E.run k 99 [.d (.int .i64) a0 true, .d (.int .i64) a1 true] (.int .i64)
noncomputable def spec_l6Param.f (k : Nat) (a0 : (List T99)) (a1 : ByteArray) : Option (T99 × (Bool × Unit)) := E.run k 100 [.d (.list S99) a0 false, .d .str a1 true] (.pair S99 (.pair .bool .unit))
noncomputable def spec_GoodAtom.f (k : Nat) (a0 : T62) : Option Bool := E.run k 101 [.d S62 a0 true] .bool
noncomputable def impl_yletter.f (k : Nat) (a0 : Int) : Option Bool := E.run k 135 [.d (.int .u8) a0 true] .bool
noncomputable def impl_yfind_impl_Param.f (k : Nat) (a0 : (List T99)) (a1 : ByteArray) : Option (T99 × (Bool × Unit)) := E.run k 104 [.d (.list S99) a0 false, .fn 105 [], .d .str a1 true] (.pair S99 (.pair .bool .unit))
noncomputable def impl_yprinted.f (k : Nat) (a0 : ByteArray) (a1 : Int) (a2 : Int) : Option Bool := E.run k 106 [.d .str a0 true, .d (.int .i64) a1 true, .d (.int .i64) a2 true] .bool
noncomputable def laws_eqAtom.f (k : Nat) (a0 : T62) (a1 : T62) : Option Bool := E.run k 88 [.d S62 a0 true, .d S62 a1 true] .bool
noncomputable def spec_l6Param.l6 (K j : Nat) (x1 : ByteArray) (x8 : (List T99)) (x9 : Int) (x10 : Int) (y0_0 : ByteArray) (y0_1 : Int) : Option (T99 × (Bool × Unit)) := E.den 100 K (.pair S99 (.pair .bool .unit)) j 6 ⟨mkE 21 [(1, .d .str x1 true), (4, .ptr 0 0), (8, .d (.list S99) x8 false), (9, .d (.int .i64) x9 true), (10, .d (.int .i64) x10 true)], [.box [.d .str y0_0 true, .d (.int .i64) y0_1 true]]⟩
noncomputable def spec_l1Printed.f (k : Nat) (a0 : ByteArray) : Option Bool := E.run k 128 [.d .str a0 true] .bool
noncomputable def spec_l1Pow2.f (k : Nat) (a0 : Int) : Option Int := E.run k 133 [.d (.int .i64) a0 true] (.int .i64)
noncomputable def spec_l1Block.f (k : Nat) (a0 : T62) : Option T24 := E.run k 134 [.d S62 a0 true] S24
noncomputable def impl_yfind_impl_Param.l6 (K j : Nat) (x2 : ByteArray) (x11 : (List T99)) (x12 : Int) (x13 : Int) (y0_0 : ByteArray) (y0_1 : Int) : Option (T99 × (Bool × Unit)) := E.den 104 K (.pair S99 (.pair .bool .unit)) j 6 ⟨mkE 25 [(1, .fn 105 []), (2, .d .str x2 true), (6, .ptr 0 0), (11, .d (.list S99) x11 false), (12, .d (.int .i64) x12 true), (13, .d (.int .i64) x13 true)], [.box [.d .str y0_0 true, .d (.int .i64) y0_1 true]]⟩
noncomputable def impl_yprinted.l14 (K j : Nat) (x0 : ByteArray) (x19 : Int) (x20 : Int) : Option Bool := E.den 106 K .bool j 14 ⟨mkE 34 [(0, .d .str x0 true), (19, .d (.int .i64) x19 true), (20, .d (.int .i64) x20 true)], []⟩
noncomputable def spec_l1Printed.l6 (K j : Nat) (x0 : ByteArray) (x3 : Int) : Option Bool := E.den 128 K .bool j 6 ⟨mkE 20 [(0, .d .str x0 true), (3, .d (.int .i64) x3 true)], []⟩
noncomputable def spec_l1Pow2.l8 (K j : Nat) (x0 : Int) (x3 : Int) (x4 : Int) : Option Int := E.den 133 K (.int .i64) j 8 ⟨mkE 13 [(0, .d (.int .i64) x0 true), (3, .d (.int .i64) x3 true), (4, .d (.int .i64) x4 true)], []⟩
noncomputable def impl_Caveat_yparam_1.f (k : Nat) (a0 : T99) : Option ByteArray := E.run k 105 [.d S99 a0 true] .str
end Go.Proofs.Ytcgiegkcmofhhab.PFnExactGoodCaveat
