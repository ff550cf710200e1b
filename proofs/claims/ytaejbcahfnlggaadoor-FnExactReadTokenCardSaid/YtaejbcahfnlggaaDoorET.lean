-- Written for this claim by a program of this session (the equations of the functions, read off their code).
import Derived.Test.YtaejbcahfnlggaaDoorProg
import Derived.Test.YtaejbcahfnlggaaDoorDenZ
import Derived.Test.YtaejbcahfnlggaaDoorWholeT
import Derived.Test.YtaejbcahfnlggaaDoorArmT
namespace Go.Proofs.YtaejbcahfnlggaaDoor.PT
open Go Go.Den Go.RowKit
set_option maxRecDepth 100000
abbrev S87 : Sh := .pair .str .unit
abbrev T87 : Type := (ByteArray × Unit)
abbrev Z87 : T87 := dflt S87
def armorS (l : List Int) : ByteArray := ⟨(Arm.armorL l).toArray⟩
noncomputable def E : Env := ⟨Tryd.prog, [⟨3, [], false⟩,
  ⟨4, [], false⟩,
  ⟨5, [], false⟩,
  ⟨6, [(6, [(0, .keep), (1, .keep), (6, .keep)]), (18, [(0, .keep), (1, .keep), (6, .keep), (7, .keep)])], false⟩,
  ⟨7, [], false⟩,
  ⟨8, [(16, [(0, .keep), (4, .keep), (5, .keep)])], false⟩,
  ⟨9, [], false⟩,
  ⟨11, [], false⟩,
  ⟨10, [], false⟩,
  ⟨13, [], false⟩,
  ⟨16, [], false⟩,
  ⟨18, [], false⟩,
  ⟨17, [], false⟩,
  ⟨21, [], false⟩,
  ⟨1000024, [], false⟩,
  ⟨1000023, [], false⟩,
  ⟨14, [], false⟩,
  ⟨15, [], false⟩,
  ⟨1000028, [(8, [(0, .keep), (3, .keep), (7, .keep), (8, .keep)])], false⟩,
  ⟨1000027, [], false⟩,
  ⟨26, [(23, [(0, .keep), (3, .keep), (4, .keep), (5, .keep), (6, .keep)]), (8, [(0, .keep), (3, .row (.int .u8) true), (4, .keep)])], false⟩,
  ⟨30, [], false⟩,
  ⟨29, [(43, [(0, .keep), (1, .keep), (5, .keep), (6, .keep), (7, .keep), (8, .keep), (9, .keep), (10, .keep)])], false⟩,
  ⟨1000036, [(54, [(3, .keep), (5, .keep), (41, .keep)]), (37, [(3, .keep), (5, .keep), (31, .keep), (32, .keep), (33, .keep)]), (20, [(0, .keep), (3, .keep), (5, .keep), (19, .keep), (20, .keep), (21, .keep)]), (71, [(10, .row (.int .u8) true), (46, .keep), (47, .keep)])], false⟩,
  ⟨25, [(14, [(0, .keep), (3, .keep)])], false⟩,
  ⟨1000039, [(42, [(3, .keep), (8, .keep)]), (25, [(3, .keep), (26, .keep), (27, .keep), (28, .keep)]), (8, [(0, .keep), (3, .keep), (13, .keep), (14, .keep), (15, .keep)]), (59, [(9, .row (.int .u8) true), (43, .keep), (44, .keep), (45, .keep)])], false⟩,
  ⟨1000038, [], false⟩,
  ⟨1000051, [(3, [(0, .keep), (1, .keep), (2, .keep), (5, .keep)])], false⟩,
  ⟨1000052, [(5, [(0, .keep), (1, .keep), (4, .keep), (5, .keep)])], false⟩,
  ⟨37, [], false⟩], [(40, fun _ => idxAny), (20, fun _ => itoaAny), (22, fun _ => armAny armorS), (12, fun _ => flatC [.str] (.pair (.int .i64) (.pair .bool .unit)) (fun x => shortB x.1) (fun x => (atoiN x.1, (wholeB x.1, ()))))], [], [(24, ⟨[], 0, [.ref 0], [.row (.int .u8)], none⟩),
  (36, ⟨[], 0, [.ref 0], [.row (.int .u8)], none⟩),
  (23, ⟨[], 0, [.ref 0], [.row (.int .u8)], none⟩),
  (51, ⟨[1, 2], 2, [], [.box [.hole (.int .i64), .hole (.int .i64), .hole (.int .i64), .hole (.int .i64)], .box [.hole (.int .i64), .hole (.int .i64), .hole (.int .i64), .hole (.int .i64)]], some [5]⟩),
  (28, ⟨[], 0, [.ref 0], [.row (.int .u8)], none⟩),
  (27, ⟨[], 0, [.ref 0], [.row (.int .u8)], none⟩),
  (39, ⟨[], 0, [.ref 0], [.row (.int .u8)], none⟩),
  (38, ⟨[], 0, [.ref 0], [.row (.int .u8)], none⟩),
  (52, ⟨[0], 1, [], [.row (.int .i64)], none⟩)], [], (fun b => if b = 3 then some (fun cs => cs = (Lib.pow10Tab.map fun z => Value.int .u64 z).toArray) else if b = 1 then some (fun cs => ∃ te pe, cs = #[.iface te pe]) else if b = 2 then some (fun cs => ∃ te pe, cs = #[.iface te pe]) else none)⟩
noncomputable def laws_FnExactReadToken.f (k : Nat) (a0 : Int) (a1 : ByteArray) : Option Bool := E.run k 3 [.d (.int .i64) a0 true, .d .str a1 true] .bool
noncomputable def spec_ReadToken.f (k : Nat) (a0 : Int) (a1 : ByteArray) : Option (Int × (Bool × Unit)) := E.run k 4 [.d (.int .i64) a0 true, .d .str a1 true] (.pair (.int .i64) (.pair .bool .unit))
noncomputable def impl_ReadToken.f (k : Nat) (a0 : Int) (a1 : ByteArray) : Option (Int × (Bool × Unit)) := E.run k 5 [.d (.int .i64) a0 true, .d .str a1 true] (.pair (.int .i64) (.pair .bool .unit))
noncomputable def spec_l7Until.f (k : Nat) (a0 : ByteArray) (a1 : ByteArray) : Option (ByteArray × T87) := E.run k 6 [.d .str a0 true, .d .str a1 true] (.pair .str S87)
noncomputable def spec_l2Secret.f (k : Nat) (a0 : Int) : Option Bool := E.run k 7 [.d (.int .i64) a0 true] .bool
noncomputable def spec_l1Whole.f (k : Nat) (a0 : ByteArray) : Option (Int × (Bool × Unit)) := E.run k 8 [.d .str a0 true] (.pair (.int .i64) (.pair .bool .unit))
noncomputable def spec_TokenOf.f (k : Nat) (a0 : Int) (a1 : Int) : Option ByteArray := E.run k 9 [.d (.int .i64) a0 true, .d (.int .i64) a1 true] .str
noncomputable def strings_TrimPrefix.f (k : Nat) (a0 : ByteArray) (a1 : ByteArray) : Option ByteArray := E.run k 11 [.d .str a0 true, .d .str a1 true] .str
noncomputable def strings_Cut.f (k : Nat) (a0 : ByteArray) (a1 : ByteArray) : Option (ByteArray × (ByteArray × (Bool × Unit))) := E.run k 10 [.d .str a0 true, .d .str a1 true] (.pair .str (.pair .str (.pair .bool .unit)))
noncomputable def impl_TokenOf.f (k : Nat) (a0 : Int) (a1 : Int) : Option ByteArray := E.run k 13 [.d (.int .i64) a0 true, .d (.int .i64) a1 true] .str
noncomputable def spec_l7Until.l6 (K j : Nat) (x0 : ByteArray) (x1 : ByteArray) (x6 : Int) : Option (ByteArray × T87) := E.den 6 K (.pair .str S87) j 6 ⟨mkE 34 [(0, .d .str x0 true), (1, .d .str x1 true), (6, .d (.int .i64) x6 true)], [], 0⟩
noncomputable def spec_l1Whole.l16 (K j : Nat) (x0 : ByteArray) (x4 : Int) (x5 : Int) : Option (Int × (Bool × Unit)) := E.den 8 K (.pair (.int .i64) (.pair .bool .unit)) j 16 ⟨mkE 50 [(0, .d .str x0 true), (4, .d (.int .i64) x4 true), (5, .d (.int .i64) x5 true)], [], 0⟩
noncomputable def spec_l7Token.f (k : Nat) (a0 : Int) (a1 : Int) : Option ByteArray := E.run k 16 [.d (.int .i64) a0 true, .d (.int .i64) a1 true] .str
noncomputable def internal_stringslite_TrimPrefix.f (k : Nat) (a0 : ByteArray) (a1 : ByteArray) : Option ByteArray := E.run k 18 [.d .str a0 true, .d .str a1 true] .str
noncomputable def internal_stringslite_Cut.f (k : Nat) (a0 : ByteArray) (a1 : ByteArray) : Option (ByteArray × (ByteArray × (Bool × Unit))) := E.run k 17 [.d .str a0 true, .d .str a1 true] (.pair .str (.pair .str (.pair .bool .unit)))
noncomputable def impl_ysecret.f (k : Nat) (a0 : Int) : Option Bool := E.run k 21 [.d (.int .i64) a0 true] .bool
noncomputable def impl_ybytes_m.f (k : Nat) (a0 : Int) : Option ((List Int) × Unit) := E.run k 1000024 [.agg [], .d (.int .i64) a0 true] (.pair (.list (.int .u8)) .unit)
noncomputable def impl_Mac_m.f (k : Nat) (a0 : (List Int)) (a1 : (List Int)) : Option ((List Int) × Unit) := E.run k 1000023 [.agg [], .d (.list (.int .u8)) a0 false, .d (.list (.int .u8)) a1 false] (.pair (.list (.int .u8)) .unit)
noncomputable def spec_l7Until.l18 (K j : Nat) (x0 : ByteArray) (x1 : ByteArray) (x6 : Int) (x7 : Int) : Option (ByteArray × T87) := E.den 6 K (.pair .str S87) j 18 ⟨mkE 34 [(0, .d .str x0 true), (1, .d .str x1 true), (6, .d (.int .i64) x6 true), (7, .d (.int .i64) x7 true)], [], 0⟩
noncomputable def spec_l1Digit.f (k : Nat) (a0 : Int) : Option Bool := E.run k 14 [.d (.int .u8) a0 true] .bool
noncomputable def spec_l1Num.f (k : Nat) (a0 : Int) : Option ByteArray := E.run k 15 [.d (.int .i64) a0 true] .str
noncomputable def spec_l2Bytes_m.f (k : Nat) (a0 : Int) : Option ((List Int) × Unit) := E.run k 1000028 [.agg [], .d (.int .i64) a0 true] (.pair (.list (.int .u8)) .unit)
noncomputable def spec_l2Mac_m.f (k : Nat) (a0 : (List Int)) (a1 : (List Int)) : Option ((List Int) × Unit) := E.run k 1000027 [.agg [], .d (.list (.int .u8)) a0 false, .d (.list (.int .u8)) a1 false] (.pair (.list (.int .u8)) .unit)
noncomputable def internal_stringslite_HasPrefix.f (k : Nat) (a0 : ByteArray) (a1 : ByteArray) : Option Bool := E.run k 30 [.d .str a0 true, .d .str a1 true] .bool
noncomputable def internal_stringslite_Index.f (k : Nat) (a0 : ByteArray) (a1 : ByteArray) : Option Int := E.run k 29 [.d .str a0 true, .d .str a1 true] (.int .i64)
noncomputable def spec_l1Size.f (k : Nat) (a0 : Int) : Option ByteArray := E.run k 25 [.d (.int .i64) a0 true] .str
noncomputable def spec_l2Bytes_m.l8 (K j : Nat) (x0 : Int) (x7 : Int) (x8 : Int) (y0 : (List Int)) : Option ((List Int) × Unit) := E.den 1000028 K (.pair (.list (.int .u8)) .unit) j 8 ⟨mkE 21 [(0, .d (.int .i64) x0 true), (3, .ref 0), (7, .d (.int .i64) x7 true), (8, .d (.int .i64) x8 true)], [.row (.int .u8) y0 true], 0⟩
noncomputable def spec_l2Two_m.f (k : Nat) (a0 : (List Int)) (a1 : (List Int)) : Option ((List Int) × Unit) := E.run k 1000038 [.agg [], .d (.list (.int .u8)) a0 false, .d (.list (.int .u8)) a1 false] (.pair (.list (.int .u8)) .unit)
noncomputable def internal_stringslite_IndexByte.f (k : Nat) (a0 : ByteArray) (a1 : Int) : Option Int := E.run k 40 [.d .str a0 true, .d (.int .u8) a1 true] (.int .i64)
noncomputable def spec_l1Size.l14 (K j : Nat) (x0 : Int) (x3 : ByteArray) : Option ByteArray := E.den 25 K .str j 14 ⟨mkE 25 [(0, .d (.int .i64) x0 true), (3, .d .str x3 true)], [], 0⟩
noncomputable def impl_Digest_1_m.f (k : Nat) (a0 : Int) (a1 : Int) (a2 : Int) (a3 : Int) (a4 : Int) (a5 : Int) (a6 : Int) (a7 : Int) (a8 : Int) : Option (Int × (Int × (Int × (Int × (Int × (Int × (Int × (Int × Unit)))))))) := E.run k 1000051 [.agg [.agg [.d (.int .i64) a0 true, .d (.int .i64) a1 true, .d (.int .i64) a2 true, .d (.int .i64) a3 true], .agg [.d (.int .i64) a4 true, .d (.int .i64) a5 true, .d (.int .i64) a6 true, .d (.int .i64) a7 true]], .d (.int .u8) a8 true, .ptr 0 0, .ptr 1 0] (.pair (.int .i64) (.pair (.int .i64) (.pair (.int .i64) (.pair (.int .i64) (.pair (.int .i64) (.pair (.int .i64) (.pair (.int .i64) (.pair (.int .i64) .unit))))))))
noncomputable def spec_l2Mix_m.f (k : Nat) (a0 : (List Int)) (a1 : Int) : Option ((List Int) × Unit) := E.run k 1000052 [.agg [.d (.list (.int .i64)) a0 true], .ref 0, .d (.int .i64) a1 true] (.pair (.list (.int .i64)) .unit)
noncomputable def spec_l2Letters.f (k : Nat)  : Option ByteArray := E.run k 37 [] .str
noncomputable def spec_l2Armor.f (k : Nat) (a0 : (List Int)) : Option ByteArray := E.run k 26 [.d (.list (.int .u8)) a0 false] .str
noncomputable def impl_Digest_1_m.l3 (K j : Nat) (x0 : Int) (x5 : Int) (y0_0 : Int) (y0_1 : Int) (y0_2 : Int) (y0_3 : Int) (y1_0 : Int) (y1_1 : Int) (y1_2 : Int) (y1_3 : Int) : Option (Int × (Int × (Int × (Int × (Int × (Int × (Int × (Int × Unit)))))))) := E.den 1000051 K (.pair (.int .i64) (.pair (.int .i64) (.pair (.int .i64) (.pair (.int .i64) (.pair (.int .i64) (.pair (.int .i64) (.pair (.int .i64) (.pair (.int .i64) .unit)))))))) j 3 ⟨mkE 29 [(0, .d (.int .u8) x0 true), (1, .ptr 0 0), (2, .ptr 1 0), (5, .d (.int .i64) x5 true)], [.box [.d (.int .i64) y0_0 true, .d (.int .i64) y0_1 true, .d (.int .i64) y0_2 true, .d (.int .i64) y0_3 true], .box [.d (.int .i64) y1_0 true, .d (.int .i64) y1_1 true, .d (.int .i64) y1_2 true, .d (.int .i64) y1_3 true]], 2⟩
noncomputable def spec_l2Mix_m.l5 (K j : Nat) (x1 : Int) (x5 : Int) (y0 : (List Int)) (y1 : (List Int)) : Option ((List Int) × Unit) := E.den 1000052 K (.pair (.list (.int .i64)) .unit) j 5 ⟨mkE 34 [(0, .ref 0), (1, .d (.int .i64) x1 true), (4, .ref 1), (5, .d (.int .i64) x5 true)], [.row (.int .i64) y0 true, .row (.int .i64) y1 true], 1⟩
noncomputable def spec_l2Armor.l8 (K j : Nat) (x0 : (List Int)) (x4 : Int) (y0 : (List Int)) : Option ByteArray := E.den 26 K .str j 8 ⟨mkE 50 [(0, .d (.list (.int .u8)) x0 false), (3, .ref 0), (4, .d (.int .i64) x4 true)], [.row (.int .u8) y0 true], 0⟩
noncomputable def spec_l2Armor.l23 (K j : Nat) (x0 : (List Int)) (x4 : Int) (x5 : Int) (x6 : Int) (y0 : (List Int)) : Option ByteArray := E.den 26 K .str j 23 ⟨mkE 50 [(0, .d (.list (.int .u8)) x0 false), (3, .ref 0), (4, .d (.int .i64) x4 true), (5, .d (.int .i64) x5 true), (6, .d (.int .i64) x6 true)], [.row (.int .u8) y0 true], 0⟩
noncomputable def impl_Digest_m.f (k : Nat) (a0 : (List Int)) : Option ((List Int) × Unit) := E.run k 1000036 [.agg [], .d (.list (.int .u8)) a0 false] (.pair (.list (.int .u8)) .unit)
noncomputable def spec_l2Digest_m.f (k : Nat) (a0 : (List Int)) : Option ((List Int) × Unit) := E.run k 1000039 [.agg [], .d (.list (.int .u8)) a0 false] (.pair (.list (.int .u8)) .unit)
noncomputable def impl_Digest_m.l20 (K j : Nat) (x0 : (List Int)) (x19 : (List Int)) (x20 : Int) (x21 : Int) (y0_0 : Int) (y0_1 : Int) (y0_2 : Int) (y0_3 : Int) (y1_0 : Int) (y1_1 : Int) (y1_2 : Int) (y1_3 : Int) : Option ((List Int) × Unit) := E.den 1000036 K (.pair (.list (.int .u8)) .unit) j 20 ⟨mkE 56 [(0, .d (.list (.int .u8)) x0 false), (3, .ptr 0 0), (5, .fn 51 [.ptr 0 0, .ptr 1 0]), (19, .d (.list (.int .u8)) x19 false), (20, .d (.int .i64) x20 true), (21, .d (.int .i64) x21 true)], [.box [.d (.int .i64) y0_0 true, .d (.int .i64) y0_1 true, .d (.int .i64) y0_2 true, .d (.int .i64) y0_3 true], .box [.d (.int .i64) y1_0 true, .d (.int .i64) y1_1 true, .d (.int .i64) y1_2 true, .d (.int .i64) y1_3 true]], 0⟩
noncomputable def spec_l2Digest_m.l8 (K j : Nat) (x0 : (List Int)) (x13 : (List Int)) (x14 : Int) (x15 : Int) (y0 : (List Int)) : Option ((List Int) × Unit) := E.den 1000039 K (.pair (.list (.int .u8)) .unit) j 8 ⟨mkE 55 [(0, .d (.list (.int .u8)) x0 false), (3, .ref 0), (13, .d (.list (.int .u8)) x13 false), (14, .d (.int .i64) x14 true), (15, .d (.int .i64) x15 true)], [.row (.int .i64) y0 true], 0⟩
noncomputable def impl_Digest_m.l37 (K j : Nat) (x32 : Int) (x33 : Int) (y0_0 : Int) (y0_1 : Int) (y0_2 : Int) (y0_3 : Int) (y1_0 : Int) (y1_1 : Int) (y1_2 : Int) (y1_3 : Int) (y2 : (List Int)) : Option ((List Int) × Unit) := E.den 1000036 K (.pair (.list (.int .u8)) .unit) j 37 ⟨mkE 56 [(3, .ptr 0 0), (5, .fn 51 [.ptr 0 0, .ptr 1 0]), (31, .ref 2), (32, .d (.int .i64) x32 true), (33, .d (.int .i64) x33 true)], [.box [.d (.int .i64) y0_0 true, .d (.int .i64) y0_1 true, .d (.int .i64) y0_2 true, .d (.int .i64) y0_3 true], .box [.d (.int .i64) y1_0 true, .d (.int .i64) y1_1 true, .d (.int .i64) y1_2 true, .d (.int .i64) y1_3 true], .row (.int .u8) y2 true], 0⟩
noncomputable def spec_l2Digest_m.l25 (K j : Nat) (x27 : Int) (x28 : Int) (y0 : (List Int)) (y1 : (List Int)) : Option ((List Int) × Unit) := E.den 1000039 K (.pair (.list (.int .u8)) .unit) j 25 ⟨mkE 55 [(3, .ref 0), (26, .ref 1), (27, .d (.int .i64) x27 true), (28, .d (.int .i64) x28 true)], [.row (.int .i64) y0 true, .row (.int .u8) y1 true], 0⟩
noncomputable def impl_Digest_m.l54 (K j : Nat) (x41 : Int) (y0_0 : Int) (y0_1 : Int) (y0_2 : Int) (y0_3 : Int) (y1_0 : Int) (y1_1 : Int) (y1_2 : Int) (y1_3 : Int) : Option ((List Int) × Unit) := E.den 1000036 K (.pair (.list (.int .u8)) .unit) j 54 ⟨mkE 56 [(3, .ptr 0 0), (5, .fn 51 [.ptr 0 0, .ptr 1 0]), (41, .d (.int .i64) x41 true)], [.box [.d (.int .i64) y0_0 true, .d (.int .i64) y0_1 true, .d (.int .i64) y0_2 true, .d (.int .i64) y0_3 true], .box [.d (.int .i64) y1_0 true, .d (.int .i64) y1_1 true, .d (.int .i64) y1_2 true, .d (.int .i64) y1_3 true]], 0⟩
noncomputable def spec_l2Digest_m.l42 (K j : Nat) (x8 : Int) (y0 : (List Int)) : Option ((List Int) × Unit) := E.den 1000039 K (.pair (.list (.int .u8)) .unit) j 42 ⟨mkE 55 [(3, .ref 0), (8, .d (.int .i64) x8 true)], [.row (.int .i64) y0 true], 0⟩
noncomputable def impl_Digest_m.l71 (K j : Nat) (x46_0 : Int) (x46_1 : Int) (x46_2 : Int) (x46_3 : Int) (x47 : Int) (y0 : (List Int)) : Option ((List Int) × Unit) := E.den 1000036 K (.pair (.list (.int .u8)) .unit) j 71 ⟨mkE 56 [(10, .ref 0), (46, .agg [.d (.int .i64) x46_0 true, .d (.int .i64) x46_1 true, .d (.int .i64) x46_2 true, .d (.int .i64) x46_3 true]), (47, .d (.int .i64) x47 true)], [.row (.int .u8) y0 true], 0⟩
noncomputable def spec_l2Digest_m.l59 (K j : Nat) (x44 : Int) (x45 : Int) (y0 : (List Int)) (y1 : (List Int)) : Option ((List Int) × Unit) := E.den 1000039 K (.pair (.list (.int .u8)) .unit) j 59 ⟨mkE 55 [(9, .ref 0), (43, .ref 1), (44, .d (.int .i64) x44 true), (45, .d (.int .i64) x45 true)], [.row (.int .u8) y0 true, .row (.int .i64) y1 true], 0⟩
noncomputable def strconv_Itoa.f (k : Nat) (a0 : Int) : Option ByteArray := E.run k 20 [.d (.int .i64) a0 true] .str
noncomputable def impl_Armor.f (k : Nat) (a0 : (List Int)) : Option ByteArray := E.run k 22 [.d (.list (.int .u8)) a0 false] .str
noncomputable def impl_ywhole.f (k : Nat) (a0 : ByteArray) : Option (Int × (Bool × Unit)) := E.run k 12 [.d .str a0 true] (.pair (.int .i64) (.pair .bool .unit))
end Go.Proofs.YtaejbcahfnlggaaDoor.PT
