-- Written for this claim by a program of this session (the equations of the functions, read off their code).
import Derived.Test.YtbkeooaepmiafaaProg
import Derived.Test.YtbkeooaepmiafaaDenW
namespace Go.Proofs.Ytbkeooaepmiafaa.PA
open Go Go.Den Go.RowKit
set_option maxRecDepth 100000
abbrev S22 : Sh := .pair (.int .i64) (.pair (.int .i64) (.pair .str (.pair .str .unit)))
abbrev T22 : Type := (Int × (Int × (ByteArray × (ByteArray × Unit))))
abbrev Z22 : T22 := dflt S22
abbrev S24 : Sh := .pair .str (.pair (.int .i64) (.pair .str (.pair S22 .unit)))
abbrev T24 : Type := (ByteArray × (Int × (ByteArray × (T22 × Unit))))
abbrev Z24 : T24 := dflt S24
abbrev S29 : Sh := .pair (.int .i64) (.pair S22 (.pair (.list S22) (.pair (.list .str) .unit)))
abbrev T29 : Type := (Int × (T22 × ((List T22) × ((List ByteArray) × Unit))))
abbrev Z29 : T29 := dflt S29
abbrev S74 : Sh := .pair .str (.pair (.int .i64) .unit)
abbrev T74 : Type := (ByteArray × (Int × Unit))
abbrev Z74 : T74 := dflt S74
abbrev S49 : Sh := .pair .str (.pair (.list S74) (.pair (.list S24) .unit))
abbrev T49 : Type := (ByteArray × ((List T74) × ((List T24) × Unit)))
abbrev Z49 : T49 := dflt S49
noncomputable def E : Env := ⟨Try.prog, [⟨3, [(1000035, [(0, .keep), (1, .keep), (2, .keep), (4, .keep), (3, .keep), (5, .keep), (6, .keep), (7, .keep)])], false⟩,
  ⟨4, [(1000025, [(0, .keep), (2, .keep), (1, .keep), (3, .keep), (4, .keep), (5, .keep)])], false⟩,
  ⟨6, [], false⟩,
  ⟨7, [(16, [(0, .keep), (1, .keep), (5, .keep)])], false⟩,
  ⟨8, [], false⟩,
  ⟨10, [], false⟩,
  ⟨11, [(8, [(0, .keep), (3, .keep), (4, .keep)])], false⟩,
  ⟨12, [], false⟩,
  ⟨9, [], false⟩,
  ⟨13, [], false⟩,
  ⟨14, [(14, [(0, .keep), (1, .keep), (5, .keep)])], false⟩,
  ⟨15, [], false⟩,
  ⟨16, [], false⟩,
  ⟨18, [], false⟩,
  ⟨17, [], false⟩,
  ⟨19, [], false⟩,
  ⟨20, [], false⟩,
  ⟨26, [], false⟩,
  ⟨28, [(16, [(0, .keep), (1, .keep), (5, .keep)])], false⟩,
  ⟨29, [(16, [(0, .keep), (1, .keep), (5, .keep)])], false⟩,
  ⟨32, [], false⟩,
  ⟨34, [(8, [(0, .keep), (3, .keep), (4, .keep)])], false⟩,
  ⟨35, [(8, [(0, .keep), (3, .row .str false), (4, .keep)])], false⟩,
  ⟨30, [], false⟩,
  ⟨31, [], false⟩,
  ⟨36, [], false⟩,
  ⟨38, [], false⟩,
  ⟨37, [], false⟩,
  ⟨42, [], false⟩,
  ⟨43, [(14, [(0, .keep), (1, .keep), (5, .keep)])], false⟩,
  ⟨44, [(14, [(0, .keep), (1, .keep), (5, .keep)])], false⟩,
  ⟨45, [(16, [(0, .keep), (1, .keep), (5, .keep)])], false⟩,
  ⟨48, [(8, [(0, .keep), (3, .keep), (4, .keep)])], false⟩,
  ⟨46, [(37, [(1, .keep), (86, .keep), (87, .keep), (88, .keep)]), (14, [(1, .keep), (36, .keep), (37, .keep), (38, .keep)])], false⟩,
  ⟨47, [(8, [(2, .keep), (3, .keep), (5, .keep), (10, .keep), (11, .keep), (12, .keep)])], false⟩,
  ⟨49, [(37, [(1, .keep), (90, .keep), (91, .keep), (92, .keep)]), (14, [(1, .keep), (41, .keep), (42, .keep), (43, .keep)])], false⟩,
  ⟨50, [(8, [(1, .keep), (2, .keep), (5, .keep), (9, .keep), (10, .keep), (11, .keep)])], false⟩,
  ⟨52, [(14, [(0, .keep), (1, .keep), (5, .keep)])], false⟩,
  ⟨27, [], false⟩,
  ⟨33, [], false⟩,
  ⟨68, [(70, [(1, .keep), (86, .keep), (87, .keep), (88, .keep)]), (31, [(1, .keep), (40, .keep), (41, .keep), (42, .keep)])], false⟩,
  ⟨69, [], false⟩,
  ⟨71, [], false⟩,
  ⟨70, [], false⟩,
  ⟨72, [], false⟩,
  ⟨73, [], false⟩,
  ⟨74, [], false⟩,
  ⟨77, [], false⟩,
  ⟨78, [], false⟩,
  ⟨79, [], false⟩,
  ⟨41, [], false⟩,
  ⟨55, [(14, [(0, .keep), (3, .keep)])], false⟩,
  ⟨62, [(14, [(0, .keep), (17, .keep), (18, .keep)])], false⟩,
  ⟨101, [], false⟩,
  ⟨103, [(6, [(1, .keep), (4, .keep), (8, .keep), (9, .keep), (10, .keep)])], false⟩,
  ⟨104, [(6, [(1, .keep), (2, .keep), (4, .keep), (9, .keep), (10, .keep), (11, .keep)])], false⟩,
  ⟨102, [], false⟩,
  ⟨105, [], false⟩,
  ⟨83, [], false⟩,
  ⟨106, [(6, [(0, .keep), (5, .keep), (6, .keep), (7, .keep)])], false⟩,
  ⟨107, [], false⟩,
  ⟨64, [(6, [(0, .keep), (5, .keep), (6, .keep), (7, .keep)])], false⟩,
  ⟨108, [], false⟩,
  ⟨75, [(6, [(1, .keep), (2, .keep), (6, .keep), (11, .keep), (12, .keep), (13, .keep)])], false⟩,
  ⟨39, [], false⟩,
  ⟨110, [], false⟩,
  ⟨88, [], false⟩,
  ⟨56, [(6, [(0, .keep), (1, .keep), (5, .keep)])], false⟩,
  ⟨93, [], false⟩,
  ⟨85, [], false⟩,
  ⟨114, [(6, [(0, .keep), (3, .keep)])], false⟩,
  ⟨115, [(8, [(0, .keep), (3, .keep), (4, .keep)])], false⟩,
  ⟨90, [], false⟩,
  ⟨112, [(14, [(0, .keep), (19, .keep), (20, .keep)])], false⟩,
  ⟨116, [], false⟩,
  ⟨118, [(6, [(0, .keep), (1, .keep), (7, .keep), (8, .keep)])], false⟩,
  ⟨40, [], false⟩,
  ⟨120, [], false⟩,
  ⟨121, [], false⟩,
  ⟨119, [(8, [(3, .keep), (6, .keep), (7, .keep), (8, .keep)])], false⟩,
  ⟨89, [], false⟩,
  ⟨81, [], false⟩,
  ⟨94, [], false⟩,
  ⟨82, [], false⟩,
  ⟨84, [], false⟩,
  ⟨122, [(6, [(0, .keep), (1, .keep), (7, .keep), (8, .keep)])], false⟩,
  ⟨76, [], false⟩,
  ⟨80, [(6, [(0, .keep), (1, .keep), (7, .keep), (8, .keep)])], false⟩,
  ⟨123, [], false⟩,
  ⟨124, [], false⟩,
  ⟨113, [], false⟩,
  ⟨51, [], false⟩,
  ⟨109, [], false⟩,
  ⟨117, [], false⟩,
  ⟨111, [], false⟩], [], []⟩
noncomputable def laws_FnExactTermHolds.f (k : Nat) (a0 : T24) (a1 : (List T74)) (a2 : T29) : Option Bool := E.run k 3 [.d S24 a0 true, .d (.list S74) a1 false, .d S29 a2 false] .bool
noncomputable def laws_FnExactCaveatHolds.f (k : Nat) (a0 : T49) (a1 : T29) : Option Bool := E.run k 4 [.d S49 a0 false, .d S29 a1 false] .bool
noncomputable def laws_szCavTerm.f (k : Nat) (a0 : T24) (a1 : Int) : Option Int := E.run k 6 [.d S24 a0 true, .d (.int .i64) a1 true] (.int .i64)
noncomputable def laws_szParamS.f (k : Nat) (a0 : (List T74)) (a1 : Int) : Option Int := E.run k 7 [.d (.list S74) a0 false, .d (.int .i64) a1 true] (.int .i64)
noncomputable def laws_szValue.f (k : Nat) (a0 : T29) (a1 : Int) : Option Int := E.run k 8 [.d S29 a0 false, .d (.int .i64) a1 true] (.int .i64)
noncomputable def laws_toCavTerm.f (k : Nat) (a0 : T24) : Option T24 := E.run k 10 [.d S24 a0 true] S24
noncomputable def laws_toParamS.f (k : Nat) (a0 : (List T74)) : Option (List T74) := E.run k 11 [.d (.list S74) a0 false] (.list S74)
noncomputable def laws_toValue.f (k : Nat) (a0 : T29) : Option T29 := E.run k 12 [.d S29 a0 false] S29
noncomputable def spec_TermHolds.f (k : Nat) (a0 : T24) (a1 : (List T74)) (a2 : T29) : Option Int := E.run k 9 [.d S24 a0 true, .d (.list S74) a1 false, .d S29 a2 false] (.int .i64)
noncomputable def impl_TermHolds.f (k : Nat) (a0 : T24) (a1 : (List T74)) (a2 : T29) : Option Int := E.run k 13 [.d S24 a0 true, .d (.list S74) a1 false, .d S29 a2 false] (.int .i64)
noncomputable def laws_eqParamS.f (k : Nat) (a0 : (List T74)) (a1 : (List T74)) : Option Bool := E.run k 14 [.d (.list S74) a0 false, .d (.list S74) a1 false] .bool
noncomputable def laws_eqValue.f (k : Nat) (a0 : T29) (a1 : T29) : Option Bool := E.run k 15 [.d S29 a0 false, .d S29 a1 false] .bool
noncomputable def laws_szCaveat.f (k : Nat) (a0 : T49) (a1 : Int) : Option Int := E.run k 16 [.d S49 a0 false, .d (.int .i64) a1 true] (.int .i64)
noncomputable def laws_toCaveat.f (k : Nat) (a0 : T49) : Option T49 := E.run k 18 [.d S49 a0 false] S49
noncomputable def spec_CaveatHolds.f (k : Nat) (a0 : T49) (a1 : T29) : Option Int := E.run k 17 [.d S49 a0 false, .d S29 a1 false] (.int .i64)
noncomputable def impl_CaveatHolds.f (k : Nat) (a0 : T49) (a1 : T29) : Option Int := E.run k 19 [.d S49 a0 false, .d S29 a1 false] (.int .i64)
noncomputable def laws_eqCaveat.f (k : Nat) (a0 : T49) (a1 : T49) : Option Bool := E.run k 20 [.d S49 a0 false, .d S49 a1 false] .bool
noncomputable def laws_szAtom.f (k : Nat) (a0 : T22) (a1 : Int) : Option Int := E.run k 26 [.d S22 a0 true, .d (.int .i64) a1 true] (.int .i64)
noncomputable def laws_szParamS.l16 (K j : Nat) (x0 : (List T74)) (x1 : Int) (x5 : Int) : Option Int := E.den 7 K (.int .i64) j 16 ⟨mkE 27 [(0, .d (.list S74) x0 false), (1, .d (.int .i64) x1 true), (5, .d (.int .i64) x5 true)], []⟩
noncomputable def laws_szAtomS.f (k : Nat) (a0 : (List T22)) (a1 : Int) : Option Int := E.run k 28 [.d (.list S22) a0 false, .d (.int .i64) a1 true] (.int .i64)
noncomputable def laws_szStringS.f (k : Nat) (a0 : (List ByteArray)) (a1 : Int) : Option Int := E.run k 29 [.d (.list .str) a0 false, .d (.int .i64) a1 true] (.int .i64)
noncomputable def laws_toAtom.f (k : Nat) (a0 : T22) : Option T22 := E.run k 32 [.d S22 a0 true] S22
noncomputable def laws_toParamS.l8 (K j : Nat) (x0 : (List T74)) (x4 : Int) (y0 : (List T74)) : Option (List T74) := E.den 11 K (.list S74) j 8 ⟨mkE 23 [(0, .d (.list S74) x0 false), (3, .ref 0), (4, .d (.int .i64) x4 true)], [.row S74 y0 true]⟩
noncomputable def laws_toAtomS.f (k : Nat) (a0 : (List T22)) : Option (List T22) := E.run k 34 [.d (.list S22) a0 false] (.list S22)
noncomputable def spec_l6Record.f (k : Nat) (a0 : T29) : Option Bool := E.run k 30 [.d S29 a0 false] .bool
noncomputable def spec_l6Term.f (k : Nat) (a0 : T24) (a1 : (List T74)) (a2 : T29) : Option Int := E.run k 31 [.d S24 a0 true, .d (.list S74) a1 false, .d S29 a2 false] (.int .i64)
noncomputable def impl_ygoodRecord.f (k : Nat) (a0 : T29) : Option Bool := E.run k 36 [.d S29 a0 false] .bool
noncomputable def impl_yterm.f (k : Nat) (a0 : T24) (a1 : (List T74)) (a2 : Int) (a3 : Int) (a4 : Int) (a5 : ByteArray) (a6 : ByteArray) (a7 : (List T22)) (a8 : (List ByteArray)) : Option Int := E.run k 38 [.d S24 a0 true, .d (.list S74) a1 false, .fn 39 [.fb [.d (.int .i64) a2 true, .d (.int .i64) a3 true, .d (.int .i64) a4 true, .d .str a5 true, .d .str a6 true, .d (.list S22) a7 false, .d (.list .str) a8 false] 0]] (.int .i64)
noncomputable def impl_yzeroAtom.f (k : Nat) (a0 : T22) : Option Bool := E.run k 37 [.d S22 a0 true] .bool
noncomputable def laws_eqParamS.l14 (K j : Nat) (x0 : (List T74)) (x1 : (List T74)) (x5 : Int) : Option Bool := E.den 14 K .bool j 14 ⟨mkE 27 [(0, .d (.list S74) x0 false), (1, .d (.list S74) x1 false), (5, .d (.int .i64) x5 true)], []⟩
noncomputable def laws_eqAtom.f (k : Nat) (a0 : T22) (a1 : T22) : Option Bool := E.run k 42 [.d S22 a0 true, .d S22 a1 true] .bool
noncomputable def laws_eqAtomS.f (k : Nat) (a0 : (List T22)) (a1 : (List T22)) : Option Bool := E.run k 43 [.d (.list S22) a0 false, .d (.list S22) a1 false] .bool
noncomputable def laws_eqStringS.f (k : Nat) (a0 : (List ByteArray)) (a1 : (List ByteArray)) : Option Bool := E.run k 44 [.d (.list .str) a0 false, .d (.list .str) a1 false] .bool
noncomputable def laws_szCavTermS.f (k : Nat) (a0 : (List T24)) (a1 : Int) : Option Int := E.run k 45 [.d (.list S24) a0 false, .d (.int .i64) a1 true] (.int .i64)
noncomputable def laws_toCavTermS.f (k : Nat) (a0 : (List T24)) : Option (List T24) := E.run k 48 [.d (.list S24) a0 false] (.list S24)
noncomputable def spec_GoodCaveat.f (k : Nat) (a0 : T49) : Option Bool := E.run k 46 [.d S49 a0 false] .bool
noncomputable def spec_l6Holds.f (k : Nat) (a0 : T49) (a1 : T29) : Option Int := E.run k 47 [.d S49 a0 false, .d S29 a1 false] (.int .i64)
noncomputable def impl_GoodCaveat.f (k : Nat) (a0 : T49) : Option Bool := E.run k 49 [.d S49 a0 false] .bool
noncomputable def impl_ycaveat.f (k : Nat) (a0 : T49) (a1 : Int) (a2 : Int) (a3 : Int) (a4 : ByteArray) (a5 : ByteArray) (a6 : (List T22)) (a7 : (List ByteArray)) : Option Int := E.run k 50 [.d S49 a0 false, .fn 51 [.fb [.d (.int .i64) a1 true, .d (.int .i64) a2 true, .d (.int .i64) a3 true, .d .str a4 true, .d .str a5 true, .d (.list S22) a6 false, .d (.list .str) a7 false] 0]] (.int .i64)
noncomputable def laws_eqCavTermS.f (k : Nat) (a0 : (List T24)) (a1 : (List T24)) : Option Bool := E.run k 52 [.d (.list S24) a0 false, .d (.list S24) a1 false] .bool
noncomputable def laws_szParam.f (k : Nat) (a0 : T74) (a1 : Int) : Option Int := E.run k 27 [.d S74 a0 true, .d (.int .i64) a1 true] (.int .i64)
noncomputable def laws_szAtomS.l16 (K j : Nat) (x0 : (List T22)) (x1 : Int) (x5 : Int) : Option Int := E.den 28 K (.int .i64) j 16 ⟨mkE 27 [(0, .d (.list S22) x0 false), (1, .d (.int .i64) x1 true), (5, .d (.int .i64) x5 true)], []⟩
noncomputable def laws_szStringS.l16 (K j : Nat) (x0 : (List ByteArray)) (x1 : Int) (x5 : Int) : Option Int := E.den 29 K (.int .i64) j 16 ⟨mkE 28 [(0, .d (.list .str) x0 false), (1, .d (.int .i64) x1 true), (5, .d (.int .i64) x5 true)], []⟩
noncomputable def laws_toParam.f (k : Nat) (a0 : T74) : Option T74 := E.run k 33 [.d S74 a0 true] S74
noncomputable def laws_toAtomS.l8 (K j : Nat) (x0 : (List T22)) (x4 : Int) (y0 : (List T22)) : Option (List T22) := E.den 34 K (.list S22) j 8 ⟨mkE 23 [(0, .d (.list S22) x0 false), (3, .ref 0), (4, .d (.int .i64) x4 true)], [.row S22 y0 true]⟩
noncomputable def spec_GoodValue.f (k : Nat) (a0 : T29) : Option Bool := E.run k 68 [.d S29 a0 false] .bool
noncomputable def spec_l6Value.f (k : Nat) (a0 : (List T74)) (a1 : T29) (a2 : ByteArray) : Option (T22 × (Bool × Unit)) := E.run k 69 [.d (.list S74) a0 false, .d S29 a1 false, .d .str a2 true] (.pair S22 (.pair .bool .unit))
noncomputable def spec_CompareAtoms.f (k : Nat) (a0 : T22) (a1 : T22) : Option Int := E.run k 71 [.d S22 a0 true, .d S22 a1 true] (.int .i64)
noncomputable def spec_l3Said.f (k : Nat) (a0 : Bool) : Option Int := E.run k 70 [.c (.bv a0)] (.int .i64)
noncomputable def spec_AddrIn.f (k : Nat) (a0 : T22) (a1 : T22) : Option Bool := E.run k 72 [.d S22 a0 true, .d S22 a1 true] .bool
noncomputable def impl_GoodValue.f (k : Nat) (a0 : T29) : Option Bool := E.run k 73 [.d S29 a0 false] .bool
noncomputable def impl_yterm_1.f (k : Nat) (a0 : ByteArray) (a1 : (List T74)) (a2 : Int) (a3 : Int) (a4 : Int) (a5 : ByteArray) (a6 : ByteArray) (a7 : (List T22)) (a8 : (List ByteArray)) : Option (T22 × (Bool × Unit)) := E.run k 74 [.d .str a0 true, .fb [.d (.list S74) a1 false] 0, .fb [.fn 39 [.fb [.d (.int .i64) a2 true, .d (.int .i64) a3 true, .d (.int .i64) a4 true, .d .str a5 true, .d .str a6 true, .d (.list S22) a7 false, .d (.list .str) a8 false] 0]] 0] (.pair S22 (.pair .bool .unit))
noncomputable def impl_CompareAtoms.f (k : Nat) (a0 : T22) (a1 : T22) : Option Int := E.run k 77 [.d S22 a0 true, .d S22 a1 true] (.int .i64)
noncomputable def impl_ysure.f (k : Nat) (a0 : Bool) : Option Int := E.run k 78 [.c (.bv a0)] (.int .i64)
noncomputable def impl_AddrIn.f (k : Nat) (a0 : T22) (a1 : T22) : Option Bool := E.run k 79 [.d S22 a0 true, .d S22 a1 true] .bool
noncomputable def laws_eqParam.f (k : Nat) (a0 : T74) (a1 : T74) : Option Bool := E.run k 41 [.d S74 a0 true, .d S74 a1 true] .bool
noncomputable def laws_eqAtomS.l14 (K j : Nat) (x0 : (List T22)) (x1 : (List T22)) (x5 : Int) : Option Bool := E.den 43 K .bool j 14 ⟨mkE 27 [(0, .d (.list S22) x0 false), (1, .d (.list S22) x1 false), (5, .d (.int .i64) x5 true)], []⟩
noncomputable def laws_eqStringS.l14 (K j : Nat) (x0 : (List ByteArray)) (x1 : (List ByteArray)) (x5 : Int) : Option Bool := E.den 44 K .bool j 14 ⟨mkE 26 [(0, .d (.list .str) x0 false), (1, .d (.list .str) x1 false), (5, .d (.int .i64) x5 true)], []⟩
noncomputable def laws_szCavTermS.l16 (K j : Nat) (x0 : (List T24)) (x1 : Int) (x5 : Int) : Option Int := E.den 45 K (.int .i64) j 16 ⟨mkE 27 [(0, .d (.list S24) x0 false), (1, .d (.int .i64) x1 true), (5, .d (.int .i64) x5 true)], []⟩
noncomputable def laws_toCavTermS.l8 (K j : Nat) (x0 : (List T24)) (x4 : Int) (y0 : (List T24)) : Option (List T24) := E.den 48 K (.list S24) j 8 ⟨mkE 23 [(0, .d (.list S24) x0 false), (3, .ref 0), (4, .d (.int .i64) x4 true)], [.row S24 y0 true]⟩
noncomputable def spec_GoodName.f (k : Nat) (a0 : ByteArray) : Option Bool := E.run k 55 [.d .str a0 true] .bool
noncomputable def spec_GoodCaveat.l14 (K j : Nat) (x36 : (List T74)) (x37 : Int) (x38 : Int) (y0_0 : ByteArray) (y0_1 : (List T74)) (y0_2 : (List T24)) : Option Bool := E.den 46 K .bool j 14 ⟨mkE 98 [(1, .ptr 0 0), (36, .d (.list S74) x36 false), (37, .d (.int .i64) x37 true), (38, .d (.int .i64) x38 true)], [.box [.d .str y0_0 false, .d (.list S74) y0_1 false, .d (.list S24) y0_2 false]]⟩
noncomputable def spec_l6Holds.l8 (K j : Nat) (x5 : Int) (x10 : (List T24)) (x11 : Int) (x12 : Int) (y0_0 : ByteArray) (y0_1 : (List T74)) (y0_2 : (List T24)) (y1_0 : Int) (y1_1 : Int) (y1_2 : Int) (y1_3 : ByteArray) (y1_4 : ByteArray) (y1_5 : (List T22)) (y1_6 : (List ByteArray)) : Option Int := E.den 47 K (.int .i64) j 8 ⟨mkE 34 [(2, .ptr 0 0), (3, .ptr 1 0), (5, .d (.int .i64) x5 true), (10, .d (.list S24) x10 false), (11, .d (.int .i64) x11 true), (12, .d (.int .i64) x12 true)], [.box [.d .str y0_0 false, .d (.list S74) y0_1 false, .d (.list S24) y0_2 false], .box [.d (.int .i64) y1_0 false, .d (.int .i64) y1_1 false, .d (.int .i64) y1_2 false, .d .str y1_3 false, .d .str y1_4 false, .d (.list S22) y1_5 false, .d (.list .str) y1_6 false]]⟩
noncomputable def impl_GoodName.f (k : Nat) (a0 : ByteArray) : Option Bool := E.run k 62 [.d .str a0 true] .bool
noncomputable def impl_GoodCaveat.l14 (K j : Nat) (x41 : (List T74)) (x42 : Int) (x43 : Int) (y0_0 : ByteArray) (y0_1 : (List T74)) (y0_2 : (List T24)) : Option Bool := E.den 49 K .bool j 14 ⟨mkE 144 [(1, .ptr 0 0), (41, .d (.list S74) x41 false), (42, .d (.int .i64) x42 true), (43, .d (.int .i64) x43 true)], [.box [.d .str y0_0 false, .d (.list S74) y0_1 false, .d (.list S24) y0_2 false]]⟩
noncomputable def impl_ycaveat.l8 (K j : Nat) (x1_0_0 : Int) (x1_0_1 : Int) (x1_0_2 : Int) (x1_0_3 : ByteArray) (x1_0_4 : ByteArray) (x1_0_5 : (List T22)) (x1_0_6 : (List ByteArray)) (x9 : (List T24)) (x10 : Int) (x11 : Int) (y0_0 : ByteArray) (y0_1 : (List T74)) (y0_2 : (List T24)) (y1_0 : Bool) (y1_1 : Bool) (y1_2 : Bool) : Option Int := E.den 50 K (.int .i64) j 8 ⟨mkE 28 [(1, .fn 51 [.fb [.d (.int .i64) x1_0_0 true, .d (.int .i64) x1_0_1 true, .d (.int .i64) x1_0_2 true, .d .str x1_0_3 true, .d .str x1_0_4 true, .d (.list S22) x1_0_5 false, .d (.list .str) x1_0_6 false] 0]), (2, .ptr 0 0), (5, .ptr 1 0), (9, .d (.list S24) x9 false), (10, .d (.int .i64) x10 true), (11, .d (.int .i64) x11 true)], [.box [.d .str y0_0 false, .d (.list S74) y0_1 false, .d (.list S24) y0_2 false], .box [.c (.bv y1_0), .c (.bv y1_1), .c (.bv y1_2)]]⟩
noncomputable def laws_eqCavTermS.l14 (K j : Nat) (x0 : (List T24)) (x1 : (List T24)) (x5 : Int) : Option Bool := E.den 52 K .bool j 14 ⟨mkE 27 [(0, .d (.list S24) x0 false), (1, .d (.list S24) x1 false), (5, .d (.int .i64) x5 true)], []⟩
noncomputable def laws_toStringS.f (k : Nat) (a0 : (List ByteArray)) : Option (List ByteArray) := E.run k 35 [.d (.list .str) a0 false] (.list .str)
noncomputable def spec_GoodAtom.f (k : Nat) (a0 : T22) : Option Bool := E.run k 101 [.d S22 a0 true] .bool
noncomputable def spec_GoodValue.l31 (K j : Nat) (x40 : (List T22)) (x41 : Int) (x42 : Int) (y0_0 : Int) (y0_1 : Int) (y0_2 : Int) (y0_3 : ByteArray) (y0_4 : ByteArray) (y0_5 : (List T22)) (y0_6 : (List ByteArray)) : Option Bool := E.den 68 K .bool j 31 ⟨mkE 112 [(1, .ptr 0 0), (40, .d (.list S22) x40 false), (41, .d (.int .i64) x41 true), (42, .d (.int .i64) x42 true)], [.box [.d (.int .i64) y0_0 false, .d (.int .i64) y0_1 false, .d (.int .i64) y0_2 false, .d .str y0_3 false, .d .str y0_4 false, .d (.list S22) y0_5 false, .d (.list .str) y0_6 false]]⟩
noncomputable def spec_l6Param.f (k : Nat) (a0 : (List T74)) (a1 : ByteArray) : Option (T74 × (Bool × Unit)) := E.run k 103 [.d (.list S74) a0 false, .d .str a1 true] (.pair S74 (.pair .bool .unit))
noncomputable def spec_l6Field.f (k : Nat) (a0 : T29) (a1 : ByteArray) : Option (T22 × (Bool × Unit)) := E.run k 104 [.d S29 a0 false, .d .str a1 true] (.pair S22 (.pair .bool .unit))
noncomputable def spec_l1Cmp.f (k : Nat) (a0 : T22) (a1 : T22) : Option Int := E.run k 102 [.d S22 a0 true, .d S22 a1 true] (.int .i64)
noncomputable def spec_l1Block.f (k : Nat) (a0 : T22) : Option (Int × (Int × Unit)) := E.run k 105 [.d S22 a0 true] (.pair (.int .i64) (.pair (.int .i64) .unit))
noncomputable def impl_GoodAtom.f (k : Nat) (a0 : T22) : Option Bool := E.run k 83 [.d S22 a0 true] .bool
noncomputable def impl_yrisingAtoms.f (k : Nat) (a0 : (List T22)) : Option Bool := E.run k 106 [.d (.list S22) a0 false] .bool
noncomputable def impl_yallNames.f (k : Nat) (a0 : (List ByteArray)) : Option Bool := E.run k 107 [.d (.list .str) a0 false] .bool
noncomputable def impl_yrising.f (k : Nat) (a0 : (List ByteArray)) : Option Bool := E.run k 64 [.d (.list .str) a0 false] .bool
noncomputable def slices_ContainsFunc_impl_Atom_impl_Atom.f (k : Nat) (a0 : (List T22)) : Option Bool := E.run k 108 [.d (.list S22) a0 false, .fn 109 []] .bool
noncomputable def impl_yfind_impl_Param.f (k : Nat) (a0 : (List T74)) (a1 : ByteArray) : Option (T74 × (Bool × Unit)) := E.run k 75 [.d (.list S74) a0 false, .fn 76 [], .d .str a1 true] (.pair S74 (.pair .bool .unit))
noncomputable def impl_TermHolds_1.f (k : Nat) (a0 : ByteArray) (a1 : Int) (a2 : Int) (a3 : Int) (a4 : ByteArray) (a5 : ByteArray) (a6 : (List T22)) (a7 : (List ByteArray)) : Option (T22 × (Bool × Unit)) := E.run k 39 [.d .str a0 true, .fb [.d (.int .i64) a1 true, .d (.int .i64) a2 true, .d (.int .i64) a3 true, .d .str a4 true, .d .str a5 true, .d (.list S22) a6 false, .d (.list .str) a7 false] 0] (.pair S22 (.pair .bool .unit))
noncomputable def impl_ycmpAtom.f (k : Nat) (a0 : T22) (a1 : T22) : Option Int := E.run k 110 [.d S22 a0 true, .d S22 a1 true] (.int .i64)
noncomputable def spec_l1Digit.f (k : Nat) (a0 : Int) : Option Bool := E.run k 88 [.d (.int .u8) a0 true] .bool
noncomputable def spec_GoodName.l14 (K j : Nat) (x0 : ByteArray) (x3 : Int) : Option Bool := E.den 55 K .bool j 14 ⟨mkE 41 [(0, .d .str x0 true), (3, .d (.int .i64) x3 true)], []⟩
noncomputable def spec_l1CmpText.f (k : Nat) (a0 : ByteArray) (a1 : ByteArray) : Option Int := E.run k 56 [.d .str a0 true, .d .str a1 true] (.int .i64)
noncomputable def spec_GoodCaveat.l37 (K j : Nat) (x86 : (List T24)) (x87 : Int) (x88 : Int) (y0_0 : ByteArray) (y0_1 : (List T74)) (y0_2 : (List T24)) : Option Bool := E.den 46 K .bool j 37 ⟨mkE 98 [(1, .ptr 0 0), (86, .d (.list S24) x86 false), (87, .d (.int .i64) x87 true), (88, .d (.int .i64) x88 true)], [.box [.d .str y0_0 false, .d (.list S74) y0_1 false, .d (.list S24) y0_2 false]]⟩
noncomputable def impl_ydigit.f (k : Nat) (a0 : Int) : Option Bool := E.run k 93 [.d (.int .u8) a0 true] .bool
noncomputable def impl_GoodName.l14 (K j : Nat) (x0 : ByteArray) (x17 : Int) (x18 : Int) : Option Bool := E.den 62 K .bool j 14 ⟨mkE 27 [(0, .d .str x0 true), (17, .d (.int .i64) x17 true), (18, .d (.int .i64) x18 true)], []⟩
noncomputable def impl_GoodCaveat.l37 (K j : Nat) (x90 : (List T24)) (x91 : Int) (x92 : Int) (y0_0 : ByteArray) (y0_1 : (List T74)) (y0_2 : (List T24)) : Option Bool := E.den 49 K .bool j 37 ⟨mkE 144 [(1, .ptr 0 0), (90, .d (.list S24) x90 false), (91, .d (.int .i64) x91 true), (92, .d (.int .i64) x92 true)], [.box [.d .str y0_0 false, .d (.list S74) y0_1 false, .d (.list S24) y0_2 false]]⟩
noncomputable def impl_yterm_v1.f (k : Nat) (a0 : T24) (a1 : (List T74)) (a2 : Int) (a3 : Int) (a4 : Int) (a5 : ByteArray) (a6 : ByteArray) (a7 : (List T22)) (a8 : (List ByteArray)) : Option Int := E.run k 38 [.d S24 a0 true, .d (.list S74) a1 false, .fn 51 [.fb [.d (.int .i64) a2 true, .d (.int .i64) a3 true, .d (.int .i64) a4 true, .d .str a5 true, .d .str a6 true, .d (.list S22) a7 false, .d (.list .str) a8 false] 0]] (.int .i64)
noncomputable def laws_eqCavTerm.f (k : Nat) (a0 : T24) (a1 : T24) : Option Bool := E.run k 85 [.d S24 a0 true, .d S24 a1 true] .bool
noncomputable def laws_toStringS.l8 (K j : Nat) (x0 : (List ByteArray)) (x4 : Int) (y0 : (List ByteArray)) : Option (List ByteArray) := E.den 35 K (.list .str) j 8 ⟨mkE 22 [(0, .d (.list .str) x0 false), (3, .ref 0), (4, .d (.int .i64) x4 true)], [.row .str y0 false]⟩
noncomputable def spec_l1Printed.f (k : Nat) (a0 : ByteArray) : Option Bool := E.run k 114 [.d .str a0 true] .bool
noncomputable def spec_l1Pow2.f (k : Nat) (a0 : Int) : Option Int := E.run k 115 [.d (.int .i64) a0 true] (.int .i64)
noncomputable def spec_GoodValue.l70 (K j : Nat) (x86 : (List ByteArray)) (x87 : Int) (x88 : Int) (y0_0 : Int) (y0_1 : Int) (y0_2 : Int) (y0_3 : ByteArray) (y0_4 : ByteArray) (y0_5 : (List T22)) (y0_6 : (List ByteArray)) : Option Bool := E.den 68 K .bool j 70 ⟨mkE 112 [(1, .ptr 0 0), (86, .d (.list .str) x86 false), (87, .d (.int .i64) x87 true), (88, .d (.int .i64) x88 true)], [.box [.d (.int .i64) y0_0 false, .d (.int .i64) y0_1 false, .d (.int .i64) y0_2 false, .d .str y0_3 false, .d .str y0_4 false, .d (.list S22) y0_5 false, .d (.list .str) y0_6 false]]⟩
noncomputable def spec_l6Param.l6 (K j : Nat) (x1 : ByteArray) (x8 : (List T74)) (x9 : Int) (x10 : Int) (y0_0 : ByteArray) (y0_1 : Int) : Option (T74 × (Bool × Unit)) := E.den 103 K (.pair S74 (.pair .bool .unit)) j 6 ⟨mkE 21 [(1, .d .str x1 true), (4, .ptr 0 0), (8, .d (.list S74) x8 false), (9, .d (.int .i64) x9 true), (10, .d (.int .i64) x10 true)], [.box [.d .str y0_0 true, .d (.int .i64) y0_1 true]]⟩
noncomputable def spec_l6Field.l6 (K j : Nat) (x1 : ByteArray) (x9 : (List ByteArray)) (x10 : Int) (x11 : Int) (y0_0 : Int) (y0_1 : Int) (y0_2 : Int) (y0_3 : ByteArray) (y0_4 : ByteArray) (y0_5 : (List T22)) (y0_6 : (List ByteArray)) (y1_0 : Int) (y1_1 : Int) (y1_2 : ByteArray) (y1_3 : ByteArray) : Option (T22 × (Bool × Unit)) := E.den 104 K (.pair S22 (.pair .bool .unit)) j 6 ⟨mkE 26 [(1, .d .str x1 true), (2, .ptr 0 0), (4, .ptr 1 0), (9, .d (.list .str) x9 false), (10, .d (.int .i64) x10 true), (11, .d (.int .i64) x11 true)], [.box [.d (.int .i64) y0_0 false, .d (.int .i64) y0_1 false, .d (.int .i64) y0_2 false, .d .str y0_3 false, .d .str y0_4 false, .d (.list S22) y0_5 false, .d (.list .str) y0_6 false], .box [.d (.int .i64) y1_0 true, .d (.int .i64) y1_1 true, .d .str y1_2 true, .d .str y1_3 true]]⟩
noncomputable def spec_l1CmpNum.f (k : Nat) (a0 : Int) (a1 : Int) : Option Int := E.run k 90 [.d (.int .i64) a0 true, .d (.int .i64) a1 true] (.int .i64)
noncomputable def impl_yprinted.f (k : Nat) (a0 : ByteArray) (a1 : Int) (a2 : Int) : Option Bool := E.run k 112 [.d .str a0 true, .d (.int .i64) a1 true, .d (.int .i64) a2 true] .bool
noncomputable def impl_yrisingAtoms.l6 (K j : Nat) (x0 : (List T22)) (x5 : (List T22)) (x6 : Int) (x7 : Int) : Option Bool := E.den 106 K .bool j 6 ⟨mkE 30 [(0, .d (.list S22) x0 false), (5, .d (.list S22) x5 false), (6, .d (.int .i64) x6 true), (7, .d (.int .i64) x7 true)], []⟩
noncomputable def slices_ContainsFunc_string_string.f (k : Nat) (a0 : (List ByteArray)) : Option Bool := E.run k 116 [.d (.list .str) a0 false, .fn 117 []] .bool
noncomputable def impl_yrising.l6 (K j : Nat) (x0 : (List ByteArray)) (x5 : (List ByteArray)) (x6 : Int) (x7 : Int) : Option Bool := E.den 64 K .bool j 6 ⟨mkE 24 [(0, .d (.list .str) x0 false), (5, .d (.list .str) x5 false), (6, .d (.int .i64) x6 true), (7, .d (.int .i64) x7 true)], []⟩
noncomputable def slices_IndexFunc_impl_Atom_impl_Atom.f (k : Nat) (a0 : (List T22)) : Option Int := E.run k 118 [.d (.list S22) a0 false, .fn 109 []] (.int .i64)
noncomputable def impl_yfind_impl_Param.l6 (K j : Nat) (x2 : ByteArray) (x11 : (List T74)) (x12 : Int) (x13 : Int) (y0_0 : ByteArray) (y0_1 : Int) : Option (T74 × (Bool × Unit)) := E.den 75 K (.pair S74 (.pair .bool .unit)) j 6 ⟨mkE 25 [(1, .fn 76 []), (2, .d .str x2 true), (6, .ptr 0 0), (11, .d (.list S74) x11 false), (12, .d (.int .i64) x12 true), (13, .d (.int .i64) x13 true)], [.box [.d .str y0_0 true, .d (.int .i64) y0_1 true]]⟩
noncomputable def impl_yitem.f (k : Nat) (a0 : T29) (a1 : ByteArray) : Option (T22 × (Bool × Unit)) := E.run k 40 [.d S29 a0 false, .d .str a1 true] (.pair S22 (.pair .bool .unit))
noncomputable def cmp_Compare_int.f (k : Nat) (a0 : Int) (a1 : Int) : Option Int := E.run k 120 [.d (.int .i64) a0 true, .d (.int .i64) a1 true] (.int .i64)
noncomputable def cmp_Compare_string.f (k : Nat) (a0 : ByteArray) (a1 : ByteArray) : Option Int := E.run k 121 [.d .str a0 true, .d .str a1 true] (.int .i64)
noncomputable def cmp_Or_int.f (k : Nat) (a0 : (List Int)) : Option Int := E.run k 119 [.d (.list (.int .i64)) a0 false] (.int .i64)
noncomputable def spec_l1Letter.f (k : Nat) (a0 : Int) : Option Bool := E.run k 89 [.d (.int .u8) a0 true] .bool
noncomputable def spec_l1CmpText.l6 (K j : Nat) (x0 : ByteArray) (x1 : ByteArray) (x5 : Int) : Option Int := E.den 56 K (.int .i64) j 6 ⟨mkE 39 [(0, .d .str x0 true), (1, .d .str x1 true), (5, .d (.int .i64) x5 true)], []⟩
noncomputable def spec_l6GoodTerm.f (k : Nat) (a0 : T24) (a1 : (List T74)) : Option Bool := E.run k 81 [.d S24 a0 true, .d (.list S74) a1 false] .bool
noncomputable def impl_ywordByte.f (k : Nat) (a0 : Int) : Option Bool := E.run k 94 [.d (.int .u8) a0 true] .bool
noncomputable def impl_Caveat_yparam.f (k : Nat) (a0 : T49) (a1 : ByteArray) : Option (T74 × (Bool × Unit)) := E.run k 82 [.d S49 a0 false, .d .str a1 true] (.pair S74 (.pair .bool .unit))
noncomputable def impl_yopFits.f (k : Nat) (a0 : Int) (a1 : Int) : Option Bool := E.run k 84 [.d (.int .i64) a0 true, .d (.int .i64) a1 true] .bool
noncomputable def impl_yterm_1_v1.f (k : Nat) (a0 : ByteArray) (a1 : (List T74)) (a2 : Int) (a3 : Int) (a4 : Int) (a5 : ByteArray) (a6 : ByteArray) (a7 : (List T22)) (a8 : (List ByteArray)) : Option (T22 × (Bool × Unit)) := E.run k 74 [.d .str a0 true, .fb [.d (.list S74) a1 false] 0, .fb [.fn 51 [.fb [.d (.int .i64) a2 true, .d (.int .i64) a3 true, .d (.int .i64) a4 true, .d .str a5 true, .d .str a6 true, .d (.list S22) a7 false, .d (.list .str) a8 false] 0]] 0] (.pair S22 (.pair .bool .unit))
noncomputable def spec_l1Printed.l6 (K j : Nat) (x0 : ByteArray) (x3 : Int) : Option Bool := E.den 114 K .bool j 6 ⟨mkE 20 [(0, .d .str x0 true), (3, .d (.int .i64) x3 true)], []⟩
noncomputable def spec_l1Pow2.l8 (K j : Nat) (x0 : Int) (x3 : Int) (x4 : Int) : Option Int := E.den 115 K (.int .i64) j 8 ⟨mkE 13 [(0, .d (.int .i64) x0 true), (3, .d (.int .i64) x3 true), (4, .d (.int .i64) x4 true)], []⟩
noncomputable def impl_yprinted.l14 (K j : Nat) (x0 : ByteArray) (x19 : Int) (x20 : Int) : Option Bool := E.den 112 K .bool j 14 ⟨mkE 34 [(0, .d .str x0 true), (19, .d (.int .i64) x19 true), (20, .d (.int .i64) x20 true)], []⟩
noncomputable def slices_IndexFunc_string_string.f (k : Nat) (a0 : (List ByteArray)) : Option Int := E.run k 122 [.d (.list .str) a0 false, .fn 117 []] (.int .i64)
noncomputable def slices_IndexFunc_impl_Atom_impl_Atom.l6 (K j : Nat) (x0 : (List T22)) (x7 : Int) (x8 : Int) : Option Int := E.den 118 K (.int .i64) j 6 ⟨mkE 19 [(0, .d (.list S22) x0 false), (1, .fn 109 []), (7, .d (.int .i64) x7 true), (8, .d (.int .i64) x8 true)], []⟩
noncomputable def impl_yterm_1_1.f (k : Nat) (a0 : T74) : Option ByteArray := E.run k 76 [.d S74 a0 true] .str
noncomputable def slices_Index_string_string.f (k : Nat) (a0 : (List ByteArray)) (a1 : ByteArray) : Option Int := E.run k 80 [.d (.list .str) a0 false, .d .str a1 true] (.int .i64)
noncomputable def cmp_isNaN_int.f (k : Nat) (a0 : Int) : Option Bool := E.run k 123 [.d (.int .i64) a0 true] .bool
noncomputable def cmp_isNaN_string.f (k : Nat) (a0 : ByteArray) : Option Bool := E.run k 124 [.d .str a0 true] .bool
noncomputable def cmp_Or_int.l8 (K j : Nat) (x3 : Int) (x6 : (List Int)) (x7 : Int) (x8 : Int) : Option Int := E.den 119 K (.int .i64) j 8 ⟨mkE 18 [(3, .d (.int .i64) x3 true), (6, .d (.list (.int .i64)) x6 false), (7, .d (.int .i64) x7 true), (8, .d (.int .i64) x8 true)], []⟩
noncomputable def impl_yletter.f (k : Nat) (a0 : Int) : Option Bool := E.run k 113 [.d (.int .u8) a0 true] .bool
noncomputable def impl_yfind_impl_Param_v1.f (k : Nat) (a0 : (List T74)) (a1 : ByteArray) : Option (T74 × (Bool × Unit)) := E.run k 75 [.d (.list S74) a0 false, .fn 111 [], .d .str a1 true] (.pair S74 (.pair .bool .unit))
noncomputable def impl_CaveatHolds_1.f (k : Nat) (a0 : ByteArray) (a1 : Int) (a2 : Int) (a3 : Int) (a4 : ByteArray) (a5 : ByteArray) (a6 : (List T22)) (a7 : (List ByteArray)) : Option (T22 × (Bool × Unit)) := E.run k 51 [.d .str a0 true, .fb [.d (.int .i64) a1 true, .d (.int .i64) a2 true, .d (.int .i64) a3 true, .d .str a4 true, .d .str a5 true, .d (.list S22) a6 false, .d (.list .str) a7 false] 0] (.pair S22 (.pair .bool .unit))
noncomputable def slices_IndexFunc_string_string.l6 (K j : Nat) (x0 : (List ByteArray)) (x7 : Int) (x8 : Int) : Option Int := E.den 122 K (.int .i64) j 6 ⟨mkE 19 [(0, .d (.list .str) x0 false), (1, .fn 117 []), (7, .d (.int .i64) x7 true), (8, .d (.int .i64) x8 true)], []⟩
noncomputable def impl_GoodValue_1.f (k : Nat) (a0 : T22) : Option Bool := E.run k 109 [.d S22 a0 true] .bool
noncomputable def slices_Index_string_string.l6 (K j : Nat) (x0 : (List ByteArray)) (x1 : ByteArray) (x7 : Int) (x8 : Int) : Option Int := E.den 80 K (.int .i64) j 6 ⟨mkE 19 [(0, .d (.list .str) x0 false), (1, .d .str x1 true), (7, .d (.int .i64) x7 true), (8, .d (.int .i64) x8 true)], []⟩
noncomputable def impl_yfind_impl_Param_v1.l6 (K j : Nat) (x2 : ByteArray) (x11 : (List T74)) (x12 : Int) (x13 : Int) (y0_0 : ByteArray) (y0_1 : Int) : Option (T74 × (Bool × Unit)) := E.den 75 K (.pair S74 (.pair .bool .unit)) j 6 ⟨mkE 25 [(1, .fn 111 []), (2, .d .str x2 true), (6, .ptr 0 0), (11, .d (.list S74) x11 false), (12, .d (.int .i64) x12 true), (13, .d (.int .i64) x13 true)], [.box [.d .str y0_0 true, .d (.int .i64) y0_1 true]]⟩
noncomputable def impl_yallNames_1.f (k : Nat) (a0 : ByteArray) : Option Bool := E.run k 117 [.d .str a0 true] .bool
noncomputable def impl_Caveat_yparam_1.f (k : Nat) (a0 : T74) : Option ByteArray := E.run k 111 [.d S74 a0 true] .str
end Go.Proofs.Ytbkeooaepmiafaa.PA
