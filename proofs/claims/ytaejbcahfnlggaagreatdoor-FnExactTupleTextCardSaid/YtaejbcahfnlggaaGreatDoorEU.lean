-- Written for this claim by a program of this session (the equations of the functions, read off their code).
import Derived.Test.YtaejbcahfnlggaaGreatDoorProg
import Derived.Test.YtaejbcahfnlggaaGreatDoorDenZ
import Derived.Test.YtaejbcahfnlggaaGreatDoorQuoU
namespace Go.Proofs.YtaejbcahfnlggaaGreatDoor.PU
open Go Go.Den Go.RowKit
set_option maxRecDepth 100000
abbrev S214 : Sh := .pair .str .unit
abbrev T214 : Type := (ByteArray × Unit)
abbrev Z214 : T214 := dflt S214
abbrev S22 : Sh := .pair (.int .i64) (.pair (.int .i64) (.pair .str S214))
abbrev T22 : Type := (Int × (Int × (ByteArray × T214)))
abbrev Z22 : T22 := dflt S22
abbrev S26 : Sh := .pair (.int .i64) (.pair S22 (.pair (.list S22) (.pair (.list .str) .unit)))
abbrev T26 : Type := (Int × (T22 × ((List T22) × ((List ByteArray) × Unit))))
abbrev Z26 : T26 := dflt S26
abbrev S28 : Sh := .pair .str (.pair .str (.pair .str (.pair .str (.pair .str (.pair .str (.pair .str (.pair S26 .unit)))))))
abbrev T28 : Type := (ByteArray × (ByteArray × (ByteArray × (ByteArray × (ByteArray × (ByteArray × (ByteArray × (T26 × Unit))))))))
abbrev Z28 : T28 := dflt S28
noncomputable def E : Env := ⟨Tryz.prog, [⟨6, [], false⟩,
  ⟨23, [], false⟩,
  ⟨25, [], false⟩,
  ⟨24, [], false⟩,
  ⟨26, [], false⟩,
  ⟨11, [], false⟩,
  ⟨18, [], false⟩,
  ⟨20, [], false⟩,
  ⟨54, [], false⟩,
  ⟨55, [], false⟩,
  ⟨56, [], false⟩,
  ⟨57, [(14, [(0, .keep), (17, .keep), (18, .keep)])], false⟩,
  ⟨59, [(14, [(0, .keep), (13, .keep), (14, .keep)])], false⟩,
  ⟨60, [], false⟩,
  ⟨58, [], false⟩,
  ⟨22, [], false⟩,
  ⟨14, [], false⟩,
  ⟨45, [(16, [(0, .keep), (1, .keep), (5, .keep)])], false⟩,
  ⟨46, [(16, [(0, .keep), (1, .keep), (5, .keep)])], false⟩,
  ⟨16, [], false⟩,
  ⟨48, [(8, [(0, .keep), (3, .keep), (4, .keep)])], false⟩,
  ⟨49, [(8, [(0, .keep), (3, .row .str false), (4, .keep)])], false⟩,
  ⟨74, [(14, [(0, .keep), (3, .keep)])], false⟩,
  ⟨97, [(6, [(0, .keep), (3, .keep)])], false⟩,
  ⟨98, [], false⟩,
  ⟨99, [], false⟩,
  ⟨19, [(24, [(1, .keep), (3, .keep), (16, .keep), (17, .keep), (18, .keep)])], false⟩,
  ⟨88, [], false⟩,
  ⟨100, [], false⟩,
  ⟨21, [(16, [(1, .keep), (3, .row .str true), (11, .keep), (12, .keep), (13, .keep)])], false⟩,
  ⟨50, [], false⟩,
  ⟨29, [], false⟩,
  ⟨52, [(14, [(0, .keep), (1, .keep), (5, .keep)])], false⟩,
  ⟨53, [(14, [(0, .keep), (1, .keep), (5, .keep)])], false⟩,
  ⟨114, [], false⟩,
  ⟨47, [(70, [(1, .keep), (86, .keep), (87, .keep), (88, .keep)]), (31, [(1, .keep), (40, .keep), (41, .keep), (42, .keep)])], false⟩,
  ⟨39, [(45, [(1, .keep), (3, .keep)])], false⟩,
  ⟨101, [], false⟩,
  ⟨40, [], false⟩,
  ⟨89, [(6, [(0, .keep), (5, .keep), (6, .keep), (7, .keep)])], false⟩,
  ⟨90, [], false⟩,
  ⟨91, [(6, [(0, .keep), (5, .keep), (6, .keep), (7, .keep)])], false⟩,
  ⟨92, [], false⟩,
  ⟨115, [], false⟩,
  ⟨38, [], false⟩,
  ⟨77, [], false⟩,
  ⟨78, [(8, [(0, .keep), (3, .keep), (4, .keep)])], false⟩,
  ⟨79, [(14, [(0, .keep), (3, .keep)])], false⟩,
  ⟨76, [], false⟩,
  ⟨130, [], false⟩,
  ⟨17, [(65, [(1, .keep), (6, .keep), (7, .keep), (8, .keep)])], false⟩,
  ⟨80, [(14, [(0, .keep), (19, .keep), (20, .keep)])], false⟩,
  ⟨125, [], false⟩,
  ⟨127, [(6, [(0, .keep), (1, .keep), (7, .keep), (8, .keep)])], false⟩,
  ⟨73, [(6, [(0, .keep), (3, .keep)])], false⟩,
  ⟨75, [(8, [(0, .keep), (3, .keep), (4, .keep)])], false⟩,
  ⟨86, [], false⟩,
  ⟨41, [], false⟩,
  ⟨124, [], false⟩,
  ⟨152, [(6, [(0, .keep), (1, .keep), (7, .keep), (8, .keep)])], false⟩,
  ⟨123, [], false⟩,
  ⟨87, [(6, [(0, .keep), (1, .keep), (5, .keep)])], false⟩,
  ⟨81, [], false⟩,
  ⟨150, [], false⟩,
  ⟨151, [], false⟩,
  ⟨149, [(8, [(3, .keep), (6, .keep), (7, .keep), (8, .keep)])], false⟩,
  ⟨93, [], false⟩,
  ⟨174, [], false⟩,
  ⟨175, [], false⟩,
  ⟨126, [], false⟩], [(42, fun _ => itoaAny), (44, fun _ => fmtAny), (43, fun _ => strAny quoteS 200), (51, fun _ => joinAny)], [], [], [], (fun b => if b = 1 then some (Lib.pow10Tab.map fun z => Value.int .u64 z).toArray else none)⟩
noncomputable def laws_FnExactTupleText.f (k : Nat) (a0 : T28) : Option Bool := E.run k 6 [.d S28 a0 false] .bool
noncomputable def laws_szTuple.f (k : Nat) (a0 : T28) (a1 : Int) : Option Int := E.run k 23 [.d S28 a0 false, .d (.int .i64) a1 true] (.int .i64)
noncomputable def laws_toTuple.f (k : Nat) (a0 : T28) : Option T28 := E.run k 25 [.d S28 a0 false] S28
noncomputable def spec_TupleText.f (k : Nat) (a0 : T28) : Option ByteArray := E.run k 24 [.d S28 a0 false] .str
noncomputable def impl_TupleText.f (k : Nat) (a0 : T28) : Option ByteArray := E.run k 26 [.d S28 a0 false] .str
noncomputable def laws_eqTuple.f (k : Nat) (a0 : T28) (a1 : T28) : Option Bool := E.run k 11 [.d S28 a0 false, .d S28 a1 false] .bool
noncomputable def laws_szValue.f (k : Nat) (a0 : T26) (a1 : Int) : Option Int := E.run k 18 [.d S26 a0 false, .d (.int .i64) a1 true] (.int .i64)
noncomputable def laws_toValue.f (k : Nat) (a0 : T26) : Option T26 := E.run k 20 [.d S26 a0 false] S26
noncomputable def spec_l7Form.f (k : Nat) (a0 : T28) : Option Bool := E.run k 54 [.d S28 a0 false] .bool
noncomputable def spec_l7Subject.f (k : Nat) (a0 : T28) : Option ByteArray := E.run k 55 [.d S28 a0 false] .str
noncomputable def impl_yzeroValue.f (k : Nat) (a0 : T26) : Option Bool := E.run k 56 [.d S26 a0 false] .bool
noncomputable def impl_GoodName.f (k : Nat) (a0 : ByteArray) : Option Bool := E.run k 57 [.d .str a0 true] .bool
noncomputable def impl_ygoodId.f (k : Nat) (a0 : ByteArray) : Option Bool := E.run k 59 [.d .str a0 true] .bool
noncomputable def impl_ysubjectText.f (k : Nat) (a0 : T28) : Option ByteArray := E.run k 60 [.d S28 a0 false] .str
noncomputable def impl_ygoodRecord.f (k : Nat) (a0 : T26) : Option Bool := E.run k 58 [.d S26 a0 false] .bool
noncomputable def laws_eqValue.f (k : Nat) (a0 : T26) (a1 : T26) : Option Bool := E.run k 22 [.d S26 a0 false, .d S26 a1 false] .bool
noncomputable def laws_szAtom.f (k : Nat) (a0 : T22) (a1 : Int) : Option Int := E.run k 14 [.d S22 a0 true, .d (.int .i64) a1 true] (.int .i64)
noncomputable def laws_szAtomS.f (k : Nat) (a0 : (List T22)) (a1 : Int) : Option Int := E.run k 45 [.d (.list S22) a0 false, .d (.int .i64) a1 true] (.int .i64)
noncomputable def laws_szStringS.f (k : Nat) (a0 : (List ByteArray)) (a1 : Int) : Option Int := E.run k 46 [.d (.list .str) a0 false, .d (.int .i64) a1 true] (.int .i64)
noncomputable def laws_toAtom.f (k : Nat) (a0 : T22) : Option T22 := E.run k 16 [.d S22 a0 true] S22
noncomputable def laws_toAtomS.f (k : Nat) (a0 : (List T22)) : Option (List T22) := E.run k 48 [.d (.list S22) a0 false] (.list S22)
noncomputable def spec_GoodName.f (k : Nat) (a0 : ByteArray) : Option Bool := E.run k 74 [.d .str a0 true] .bool
noncomputable def spec_l7Id.f (k : Nat) (a0 : ByteArray) : Option Bool := E.run k 97 [.d .str a0 true] .bool
noncomputable def spec_l7Empty.f (k : Nat) (a0 : T26) : Option Bool := E.run k 98 [.d S26 a0 false] .bool
noncomputable def spec_l6Record.f (k : Nat) (a0 : T26) : Option Bool := E.run k 99 [.d S26 a0 false] .bool
noncomputable def spec_ValueText.f (k : Nat) (a0 : T26) : Option ByteArray := E.run k 19 [.d S26 a0 false] .str
noncomputable def impl_yzeroAtom.f (k : Nat) (a0 : T22) : Option Bool := E.run k 88 [.d S22 a0 true] .bool
noncomputable def impl_ydigit.f (k : Nat) (a0 : Int) : Option Bool := E.run k 100 [.d (.int .u8) a0 true] .bool
noncomputable def impl_GoodName.l14 (K j : Nat) (x0 : ByteArray) (x17 : Int) (x18 : Int) : Option Bool := E.den 57 K .bool j 14 ⟨mkE 27 [(0, .d .str x0 true), (17, .d (.int .i64) x17 true), (18, .d (.int .i64) x18 true)], [], 0⟩
noncomputable def impl_ygoodId.l14 (K j : Nat) (x0 : ByteArray) (x13 : Int) (x14 : Int) : Option Bool := E.den 59 K .bool j 14 ⟨mkE 35 [(0, .d .str x0 true), (13, .d (.int .i64) x13 true), (14, .d (.int .i64) x14 true)], [], 0⟩
noncomputable def impl_GoodValue.f (k : Nat) (a0 : T26) : Option Bool := E.run k 50 [.d S26 a0 false] .bool
noncomputable def laws_eqAtom.f (k : Nat) (a0 : T22) (a1 : T22) : Option Bool := E.run k 29 [.d S22 a0 true, .d S22 a1 true] .bool
noncomputable def laws_eqAtomS.f (k : Nat) (a0 : (List T22)) (a1 : (List T22)) : Option Bool := E.run k 52 [.d (.list S22) a0 false, .d (.list S22) a1 false] .bool
noncomputable def laws_eqStringS.f (k : Nat) (a0 : (List ByteArray)) (a1 : (List ByteArray)) : Option Bool := E.run k 53 [.d (.list .str) a0 false, .d (.list .str) a1 false] .bool
noncomputable def laws_szAtomS.l16 (K j : Nat) (x0 : (List T22)) (x1 : Int) (x5 : Int) : Option Int := E.den 45 K (.int .i64) j 16 ⟨mkE 27 [(0, .d (.list S22) x0 false), (1, .d (.int .i64) x1 true), (5, .d (.int .i64) x5 true)], [], 0⟩
noncomputable def laws_szStringS.l16 (K j : Nat) (x0 : (List ByteArray)) (x1 : Int) (x5 : Int) : Option Int := E.den 46 K (.int .i64) j 16 ⟨mkE 28 [(0, .d (.list .str) x0 false), (1, .d (.int .i64) x1 true), (5, .d (.int .i64) x5 true)], [], 0⟩
noncomputable def laws_toAtomS.l8 (K j : Nat) (x0 : (List T22)) (x4 : Int) (y0 : (List T22)) : Option (List T22) := E.den 48 K (.list S22) j 8 ⟨mkE 23 [(0, .d (.list S22) x0 false), (3, .ref 0), (4, .d (.int .i64) x4 true)], [.row S22 y0 true], 0⟩
noncomputable def spec_l1Digit.f (k : Nat) (a0 : Int) : Option Bool := E.run k 114 [.d (.int .u8) a0 true] .bool
noncomputable def spec_GoodName.l14 (K j : Nat) (x0 : ByteArray) (x3 : Int) : Option Bool := E.den 74 K .bool j 14 ⟨mkE 41 [(0, .d .str x0 true), (3, .d (.int .i64) x3 true)], [], 0⟩
noncomputable def spec_l7Id.l6 (K j : Nat) (x0 : ByteArray) (x3 : Int) : Option Bool := E.den 97 K .bool j 6 ⟨mkE 48 [(0, .d .str x0 true), (3, .d (.int .i64) x3 true)], [], 0⟩
noncomputable def spec_GoodValue.f (k : Nat) (a0 : T26) : Option Bool := E.run k 47 [.d S26 a0 false] .bool
noncomputable def spec_l1Text.f (k : Nat) (a0 : T22) : Option ByteArray := E.run k 39 [.d S22 a0 true] .str
noncomputable def spec_ValueText.l24 (K j : Nat) (x3 : ByteArray) (x16 : (List T22)) (x17 : Int) (x18 : Int) (y0_0 : Int) (y0_1 : Int) (y0_2 : Int) (y0_3 : ByteArray) (y0_4 : ByteArray) (y0_5 : (List T22)) (y0_6 : (List ByteArray)) : Option ByteArray := E.den 19 K .str j 24 ⟨mkE 52 [(1, .ptr 0 0), (3, .d .str x3 true), (16, .d (.list S22) x16 false), (17, .d (.int .i64) x17 true), (18, .d (.int .i64) x18 true)], [.box [.d (.int .i64) y0_0 false, .d (.int .i64) y0_1 false, .d (.int .i64) y0_2 false, .d .str y0_3 false, .d .str y0_4 false, .d (.list S22) y0_5 false, .d (.list .str) y0_6 false]], 0⟩
noncomputable def impl_ywordByte.f (k : Nat) (a0 : Int) : Option Bool := E.run k 101 [.d (.int .u8) a0 true] .bool
noncomputable def impl_GoodAtom.f (k : Nat) (a0 : T22) : Option Bool := E.run k 40 [.d S22 a0 true] .bool
noncomputable def impl_yrisingAtoms.f (k : Nat) (a0 : (List T22)) : Option Bool := E.run k 89 [.d (.list S22) a0 false] .bool
noncomputable def impl_yallNames.f (k : Nat) (a0 : (List ByteArray)) : Option Bool := E.run k 90 [.d (.list .str) a0 false] .bool
noncomputable def impl_yrising.f (k : Nat) (a0 : (List ByteArray)) : Option Bool := E.run k 91 [.d (.list .str) a0 false] .bool
noncomputable def slices_ContainsFunc_impl_Atom_impl_Atom.f (k : Nat) (a0 : (List T22)) : Option Bool := E.run k 92 [.d (.list S22) a0 false, .fn 93 []] .bool
noncomputable def laws_eqAtomS.l14 (K j : Nat) (x0 : (List T22)) (x1 : (List T22)) (x5 : Int) : Option Bool := E.den 52 K .bool j 14 ⟨mkE 27 [(0, .d (.list S22) x0 false), (1, .d (.list S22) x1 false), (5, .d (.int .i64) x5 true)], [], 0⟩
noncomputable def laws_eqStringS.l14 (K j : Nat) (x0 : (List ByteArray)) (x1 : (List ByteArray)) (x5 : Int) : Option Bool := E.den 53 K .bool j 14 ⟨mkE 26 [(0, .d (.list .str) x0 false), (1, .d (.list .str) x1 false), (5, .d (.int .i64) x5 true)], [], 0⟩
noncomputable def laws_toStringS.f (k : Nat) (a0 : (List ByteArray)) : Option (List ByteArray) := E.run k 49 [.d (.list .str) a0 false] (.list .str)
noncomputable def spec_l1Letter.f (k : Nat) (a0 : Int) : Option Bool := E.run k 115 [.d (.int .u8) a0 true] .bool
noncomputable def spec_GoodAtom.f (k : Nat) (a0 : T22) : Option Bool := E.run k 38 [.d S22 a0 true] .bool
noncomputable def spec_GoodValue.l31 (K j : Nat) (x40 : (List T22)) (x41 : Int) (x42 : Int) (y0_0 : Int) (y0_1 : Int) (y0_2 : Int) (y0_3 : ByteArray) (y0_4 : ByteArray) (y0_5 : (List T22)) (y0_6 : (List ByteArray)) : Option Bool := E.den 47 K .bool j 31 ⟨mkE 112 [(1, .ptr 0 0), (40, .d (.list S22) x40 false), (41, .d (.int .i64) x41 true), (42, .d (.int .i64) x42 true)], [.box [.d (.int .i64) y0_0 false, .d (.int .i64) y0_1 false, .d (.int .i64) y0_2 false, .d .str y0_3 false, .d .str y0_4 false, .d (.list S22) y0_5 false, .d (.list .str) y0_6 false]], 0⟩
noncomputable def spec_l1Num.f (k : Nat) (a0 : Int) : Option ByteArray := E.run k 77 [.d (.int .i64) a0 true] .str
noncomputable def spec_l1Quoted.f (k : Nat) (a0 : ByteArray) : Option ByteArray := E.run k 78 [.d .str a0 true] .str
noncomputable def spec_l1Size.f (k : Nat) (a0 : Int) : Option ByteArray := E.run k 79 [.d (.int .i64) a0 true] .str
noncomputable def spec_l1Text.l45 (K j : Nat) (x3 : ByteArray) (y0_0 : Int) (y0_1 : Int) (y0_2 : ByteArray) (y0_3 : ByteArray) : Option ByteArray := E.den 39 K .str j 45 ⟨mkE 97 [(1, .ptr 0 0), (3, .d .str x3 true)], [.box [.d (.int .i64) y0_0 true, .d (.int .i64) y0_1 true, .d .str y0_2 true, .d .str y0_3 true]], 0⟩
noncomputable def spec_l1Block.f (k : Nat) (a0 : T22) : Option (Int × (Int × Unit)) := E.run k 76 [.d S22 a0 true] (.pair (.int .i64) (.pair (.int .i64) .unit))
noncomputable def impl_yletter.f (k : Nat) (a0 : Int) : Option Bool := E.run k 130 [.d (.int .u8) a0 true] .bool
noncomputable def impl_AtomText.f (k : Nat) (a0 : T22) : Option ByteArray := E.run k 17 [.d S22 a0 true] .str
noncomputable def impl_ValueText.f (k : Nat) (a0 : T26) : Option ByteArray := E.run k 21 [.d S26 a0 false] .str
noncomputable def impl_yprinted.f (k : Nat) (a0 : ByteArray) (a1 : Int) (a2 : Int) : Option Bool := E.run k 80 [.d .str a0 true, .d (.int .i64) a1 true, .d (.int .i64) a2 true] .bool
noncomputable def impl_yrisingAtoms.l6 (K j : Nat) (x0 : (List T22)) (x5 : (List T22)) (x6 : Int) (x7 : Int) : Option Bool := E.den 89 K .bool j 6 ⟨mkE 30 [(0, .d (.list S22) x0 false), (5, .d (.list S22) x5 false), (6, .d (.int .i64) x6 true), (7, .d (.int .i64) x7 true)], [], 0⟩
noncomputable def slices_ContainsFunc_string_string.f (k : Nat) (a0 : (List ByteArray)) : Option Bool := E.run k 125 [.d (.list .str) a0 false, .fn 126 []] .bool
noncomputable def impl_yrising.l6 (K j : Nat) (x0 : (List ByteArray)) (x5 : (List ByteArray)) (x6 : Int) (x7 : Int) : Option Bool := E.den 91 K .bool j 6 ⟨mkE 24 [(0, .d (.list .str) x0 false), (5, .d (.list .str) x5 false), (6, .d (.int .i64) x6 true), (7, .d (.int .i64) x7 true)], [], 0⟩
noncomputable def slices_IndexFunc_impl_Atom_impl_Atom.f (k : Nat) (a0 : (List T22)) : Option Int := E.run k 127 [.d (.list S22) a0 false, .fn 93 []] (.int .i64)
noncomputable def laws_toStringS.l8 (K j : Nat) (x0 : (List ByteArray)) (x4 : Int) (y0 : (List ByteArray)) : Option (List ByteArray) := E.den 49 K (.list .str) j 8 ⟨mkE 22 [(0, .d (.list .str) x0 false), (3, .ref 0), (4, .d (.int .i64) x4 true)], [.row .str y0 false], 0⟩
noncomputable def spec_l1Printed.f (k : Nat) (a0 : ByteArray) : Option Bool := E.run k 73 [.d .str a0 true] .bool
noncomputable def spec_l1Pow2.f (k : Nat) (a0 : Int) : Option Int := E.run k 75 [.d (.int .i64) a0 true] (.int .i64)
noncomputable def spec_l1Cmp.f (k : Nat) (a0 : T22) (a1 : T22) : Option Int := E.run k 86 [.d S22 a0 true, .d S22 a1 true] (.int .i64)
noncomputable def spec_GoodValue.l70 (K j : Nat) (x86 : (List ByteArray)) (x87 : Int) (x88 : Int) (y0_0 : Int) (y0_1 : Int) (y0_2 : Int) (y0_3 : ByteArray) (y0_4 : ByteArray) (y0_5 : (List T22)) (y0_6 : (List ByteArray)) : Option Bool := E.den 47 K .bool j 70 ⟨mkE 112 [(1, .ptr 0 0), (86, .d (.list .str) x86 false), (87, .d (.int .i64) x87 true), (88, .d (.int .i64) x88 true)], [.box [.d (.int .i64) y0_0 false, .d (.int .i64) y0_1 false, .d (.int .i64) y0_2 false, .d .str y0_3 false, .d .str y0_4 false, .d (.list S22) y0_5 false, .d (.list .str) y0_6 false]], 0⟩
noncomputable def spec_l1Quoted.l8 (K j : Nat) (x0 : ByteArray) (x4 : Int) (y0 : (List Int)) : Option ByteArray := E.den 78 K .str j 8 ⟨mkE 35 [(0, .d .str x0 true), (3, .ref 0), (4, .d (.int .i64) x4 true)], [.row (.int .u8) y0 true], 0⟩
noncomputable def spec_l1Size.l14 (K j : Nat) (x0 : Int) (x3 : ByteArray) : Option ByteArray := E.den 79 K .str j 14 ⟨mkE 25 [(0, .d (.int .i64) x0 true), (3, .d .str x3 true)], [], 0⟩
noncomputable def strconv_FormatBool.f (k : Nat) (a0 : Bool) : Option ByteArray := E.run k 41 [.c (.bv a0)] .str
noncomputable def impl_AtomText.l65 (K j : Nat) (x6 : Int) (x7 : ByteArray) (x8 : Int) (y0_0 : Int) (y0_1 : Int) (y0_2 : ByteArray) (y0_3 : ByteArray) : Option ByteArray := E.den 17 K .str j 65 ⟨mkE 94 [(1, .ptr 0 0), (6, .d (.int .i64) x6 true), (7, .d .str x7 true), (8, .d (.int .i64) x8 true)], [.box [.d (.int .i64) y0_0 true, .d (.int .i64) y0_1 true, .d .str y0_2 true, .d .str y0_3 true]], 0⟩
noncomputable def impl_ValueText.l16 (K j : Nat) (x11 : (List T22)) (x12 : Int) (x13 : Int) (y0_0 : Int) (y0_1 : Int) (y0_2 : Int) (y0_3 : ByteArray) (y0_4 : ByteArray) (y0_5 : (List T22)) (y0_6 : (List ByteArray)) (y1 : (List ByteArray)) : Option ByteArray := E.den 21 K .str j 16 ⟨mkE 53 [(1, .ptr 0 0), (3, .ref 1), (11, .d (.list S22) x11 false), (12, .d (.int .i64) x12 true), (13, .d (.int .i64) x13 true)], [.box [.d (.int .i64) y0_0 false, .d (.int .i64) y0_1 false, .d (.int .i64) y0_2 false, .d .str y0_3 false, .d .str y0_4 false, .d (.list S22) y0_5 false, .d (.list .str) y0_6 false], .row .str y1 true], 0⟩
noncomputable def impl_yprinted.l14 (K j : Nat) (x0 : ByteArray) (x19 : Int) (x20 : Int) : Option Bool := E.den 80 K .bool j 14 ⟨mkE 34 [(0, .d .str x0 true), (19, .d (.int .i64) x19 true), (20, .d (.int .i64) x20 true)], [], 0⟩
noncomputable def impl_ycmpAtom.f (k : Nat) (a0 : T22) (a1 : T22) : Option Int := E.run k 124 [.d S22 a0 true, .d S22 a1 true] (.int .i64)
noncomputable def slices_IndexFunc_string_string.f (k : Nat) (a0 : (List ByteArray)) : Option Int := E.run k 152 [.d (.list .str) a0 false, .fn 126 []] (.int .i64)
noncomputable def slices_IndexFunc_impl_Atom_impl_Atom.l6 (K j : Nat) (x0 : (List T22)) (x7 : Int) (x8 : Int) : Option Int := E.den 127 K (.int .i64) j 6 ⟨mkE 19 [(0, .d (.list S22) x0 false), (1, .fn 93 []), (7, .d (.int .i64) x7 true), (8, .d (.int .i64) x8 true)], [], 0⟩
noncomputable def spec_l1Printed.l6 (K j : Nat) (x0 : ByteArray) (x3 : Int) : Option Bool := E.den 73 K .bool j 6 ⟨mkE 20 [(0, .d .str x0 true), (3, .d (.int .i64) x3 true)], [], 0⟩
noncomputable def spec_l1Pow2.l8 (K j : Nat) (x0 : Int) (x3 : Int) (x4 : Int) : Option Int := E.den 75 K (.int .i64) j 8 ⟨mkE 13 [(0, .d (.int .i64) x0 true), (3, .d (.int .i64) x3 true), (4, .d (.int .i64) x4 true)], [], 0⟩
noncomputable def spec_l1CmpNum.f (k : Nat) (a0 : Int) (a1 : Int) : Option Int := E.run k 123 [.d (.int .i64) a0 true, .d (.int .i64) a1 true] (.int .i64)
noncomputable def spec_l1CmpText.f (k : Nat) (a0 : ByteArray) (a1 : ByteArray) : Option Int := E.run k 87 [.d .str a0 true, .d .str a1 true] (.int .i64)
noncomputable def internal_strconv_FormatBool.f (k : Nat) (a0 : Bool) : Option ByteArray := E.run k 81 [.c (.bv a0)] .str
noncomputable def cmp_Compare_int.f (k : Nat) (a0 : Int) (a1 : Int) : Option Int := E.run k 150 [.d (.int .i64) a0 true, .d (.int .i64) a1 true] (.int .i64)
noncomputable def cmp_Compare_string.f (k : Nat) (a0 : ByteArray) (a1 : ByteArray) : Option Int := E.run k 151 [.d .str a0 true, .d .str a1 true] (.int .i64)
noncomputable def cmp_Or_int.f (k : Nat) (a0 : (List Int)) : Option Int := E.run k 149 [.d (.list (.int .i64)) a0 false] (.int .i64)
noncomputable def slices_IndexFunc_string_string.l6 (K j : Nat) (x0 : (List ByteArray)) (x7 : Int) (x8 : Int) : Option Int := E.den 152 K (.int .i64) j 6 ⟨mkE 19 [(0, .d (.list .str) x0 false), (1, .fn 126 []), (7, .d (.int .i64) x7 true), (8, .d (.int .i64) x8 true)], [], 0⟩
noncomputable def impl_GoodValue_1.f (k : Nat) (a0 : T22) : Option Bool := E.run k 93 [.d S22 a0 true] .bool
noncomputable def spec_l1CmpText.l6 (K j : Nat) (x0 : ByteArray) (x1 : ByteArray) (x5 : Int) : Option Int := E.den 87 K (.int .i64) j 6 ⟨mkE 39 [(0, .d .str x0 true), (1, .d .str x1 true), (5, .d (.int .i64) x5 true)], [], 0⟩
noncomputable def cmp_isNaN_int.f (k : Nat) (a0 : Int) : Option Bool := E.run k 174 [.d (.int .i64) a0 true] .bool
noncomputable def cmp_isNaN_string.f (k : Nat) (a0 : ByteArray) : Option Bool := E.run k 175 [.d .str a0 true] .bool
noncomputable def cmp_Or_int.l8 (K j : Nat) (x3 : Int) (x6 : (List Int)) (x7 : Int) (x8 : Int) : Option Int := E.den 149 K (.int .i64) j 8 ⟨mkE 18 [(3, .d (.int .i64) x3 true), (6, .d (.list (.int .i64)) x6 false), (7, .d (.int .i64) x7 true), (8, .d (.int .i64) x8 true)], [], 0⟩
noncomputable def impl_yallNames_1.f (k : Nat) (a0 : ByteArray) : Option Bool := E.run k 126 [.d .str a0 true] .bool
noncomputable def strconv_Itoa.f (k : Nat) (a0 : Int) : Option ByteArray := E.run k 42 [.d (.int .i64) a0 true] .str
noncomputable def strconv_FormatUint.f (k : Nat) (a0 : Int) (a1 : Int) : Option ByteArray := E.run k 44 [.d (.int .u64) a0 true, .d (.int .i64) a1 true] .str
noncomputable def impl_yquote.f (k : Nat) (a0 : ByteArray) : Option ByteArray := E.run k 43 [.d .str a0 true] .str
noncomputable def strings_Join.f (k : Nat) (a0 : (List ByteArray)) (a1 : ByteArray) : Option ByteArray := E.run k 51 [.d (.list .str) a0 false, .d .str a1 true] .str
end Go.Proofs.YtaejbcahfnlggaaGreatDoor.PU
