-- Written for this claim by a program of this session (the equations of the functions, read off their code).
import Derived.Test.YtaejbcahfnlggaaGreatDoorProg
import Derived.Test.YtaejbcahfnlggaaGreatDoorDenZ
import Derived.Test.YtaejbcahfnlggaaGreatDoorQuoX
namespace Go.Proofs.YtaejbcahfnlggaaGreatDoor.PX
open Go Go.Den Go.RowKit
set_option maxRecDepth 100000
abbrev S214 : Sh := .pair .str .unit
abbrev T214 : Type := (ByteArray × Unit)
abbrev Z214 : T214 := dflt S214
abbrev S22 : Sh := .pair (.int .i64) (.pair (.int .i64) (.pair .str S214))
abbrev T22 : Type := (Int × (Int × (ByteArray × T214)))
abbrev Z22 : T22 := dflt S22
noncomputable def E : Env := ⟨Tryz.prog, [⟨4, [], false⟩,
  ⟨14, [], false⟩,
  ⟨16, [], false⟩,
  ⟨15, [], false⟩,
  ⟨17, [(65, [(1, .keep), (6, .keep), (7, .keep), (8, .keep)])], false⟩,
  ⟨38, [], false⟩,
  ⟨39, [(45, [(1, .keep), (3, .keep)])], false⟩,
  ⟨40, [], false⟩,
  ⟨41, [], false⟩,
  ⟨73, [(6, [(0, .keep), (3, .keep)])], false⟩,
  ⟨74, [(14, [(0, .keep), (3, .keep)])], false⟩,
  ⟨75, [(8, [(0, .keep), (3, .keep), (4, .keep)])], false⟩,
  ⟨76, [], false⟩,
  ⟨77, [], false⟩,
  ⟨78, [(8, [(0, .keep), (3, .keep), (4, .keep)])], false⟩,
  ⟨79, [(14, [(0, .keep), (3, .keep)])], false⟩,
  ⟨80, [(14, [(0, .keep), (19, .keep), (20, .keep)])], false⟩,
  ⟨57, [(14, [(0, .keep), (17, .keep), (18, .keep)])], false⟩,
  ⟨81, [], false⟩,
  ⟨114, [], false⟩,
  ⟨100, [], false⟩,
  ⟨115, [], false⟩,
  ⟨101, [], false⟩,
  ⟨130, [], false⟩], [(42, fun _ => itoaAny), (44, fun _ => fmtAny), (43, fun _ => strAny quoteS 200)], [], [], [], (fun b => if b = 1 then some (Lib.pow10Tab.map fun z => Value.int .u64 z).toArray else none)⟩
noncomputable def laws_FnExactAtomText.f (k : Nat) (a0 : T22) : Option Bool := E.run k 4 [.d S22 a0 true] .bool
noncomputable def laws_szAtom.f (k : Nat) (a0 : T22) (a1 : Int) : Option Int := E.run k 14 [.d S22 a0 true, .d (.int .i64) a1 true] (.int .i64)
noncomputable def laws_toAtom.f (k : Nat) (a0 : T22) : Option T22 := E.run k 16 [.d S22 a0 true] S22
noncomputable def spec_AtomText.f (k : Nat) (a0 : T22) : Option ByteArray := E.run k 15 [.d S22 a0 true] .str
noncomputable def impl_AtomText.f (k : Nat) (a0 : T22) : Option ByteArray := E.run k 17 [.d S22 a0 true] .str
noncomputable def spec_GoodAtom.f (k : Nat) (a0 : T22) : Option Bool := E.run k 38 [.d S22 a0 true] .bool
noncomputable def spec_l1Text.f (k : Nat) (a0 : T22) : Option ByteArray := E.run k 39 [.d S22 a0 true] .str
noncomputable def impl_GoodAtom.f (k : Nat) (a0 : T22) : Option Bool := E.run k 40 [.d S22 a0 true] .bool
noncomputable def strconv_FormatBool.f (k : Nat) (a0 : Bool) : Option ByteArray := E.run k 41 [.c (.bv a0)] .str
noncomputable def impl_AtomText.l65 (K j : Nat) (x6 : Int) (x7 : ByteArray) (x8 : Int) (y0_0 : Int) (y0_1 : Int) (y0_2 : ByteArray) (y0_3 : ByteArray) : Option ByteArray := E.den 17 K .str j 65 ⟨mkE 94 [(1, .ptr 0 0), (6, .d (.int .i64) x6 true), (7, .d .str x7 true), (8, .d (.int .i64) x8 true)], [.box [.d (.int .i64) y0_0 true, .d (.int .i64) y0_1 true, .d .str y0_2 true, .d .str y0_3 true]], 0⟩
noncomputable def spec_l1Printed.f (k : Nat) (a0 : ByteArray) : Option Bool := E.run k 73 [.d .str a0 true] .bool
noncomputable def spec_GoodName.f (k : Nat) (a0 : ByteArray) : Option Bool := E.run k 74 [.d .str a0 true] .bool
noncomputable def spec_l1Pow2.f (k : Nat) (a0 : Int) : Option Int := E.run k 75 [.d (.int .i64) a0 true] (.int .i64)
noncomputable def spec_l1Block.f (k : Nat) (a0 : T22) : Option (Int × (Int × Unit)) := E.run k 76 [.d S22 a0 true] (.pair (.int .i64) (.pair (.int .i64) .unit))
noncomputable def spec_l1Num.f (k : Nat) (a0 : Int) : Option ByteArray := E.run k 77 [.d (.int .i64) a0 true] .str
noncomputable def spec_l1Quoted.f (k : Nat) (a0 : ByteArray) : Option ByteArray := E.run k 78 [.d .str a0 true] .str
noncomputable def spec_l1Size.f (k : Nat) (a0 : Int) : Option ByteArray := E.run k 79 [.d (.int .i64) a0 true] .str
noncomputable def spec_l1Text.l45 (K j : Nat) (x3 : ByteArray) (y0_0 : Int) (y0_1 : Int) (y0_2 : ByteArray) (y0_3 : ByteArray) : Option ByteArray := E.den 39 K .str j 45 ⟨mkE 97 [(1, .ptr 0 0), (3, .d .str x3 true)], [.box [.d (.int .i64) y0_0 true, .d (.int .i64) y0_1 true, .d .str y0_2 true, .d .str y0_3 true]], 0⟩
noncomputable def impl_yprinted.f (k : Nat) (a0 : ByteArray) (a1 : Int) (a2 : Int) : Option Bool := E.run k 80 [.d .str a0 true, .d (.int .i64) a1 true, .d (.int .i64) a2 true] .bool
noncomputable def impl_GoodName.f (k : Nat) (a0 : ByteArray) : Option Bool := E.run k 57 [.d .str a0 true] .bool
noncomputable def internal_strconv_FormatBool.f (k : Nat) (a0 : Bool) : Option ByteArray := E.run k 81 [.c (.bv a0)] .str
noncomputable def spec_l1Printed.l6 (K j : Nat) (x0 : ByteArray) (x3 : Int) : Option Bool := E.den 73 K .bool j 6 ⟨mkE 20 [(0, .d .str x0 true), (3, .d (.int .i64) x3 true)], [], 0⟩
noncomputable def spec_l1Digit.f (k : Nat) (a0 : Int) : Option Bool := E.run k 114 [.d (.int .u8) a0 true] .bool
noncomputable def spec_GoodName.l14 (K j : Nat) (x0 : ByteArray) (x3 : Int) : Option Bool := E.den 74 K .bool j 14 ⟨mkE 41 [(0, .d .str x0 true), (3, .d (.int .i64) x3 true)], [], 0⟩
noncomputable def spec_l1Pow2.l8 (K j : Nat) (x0 : Int) (x3 : Int) (x4 : Int) : Option Int := E.den 75 K (.int .i64) j 8 ⟨mkE 13 [(0, .d (.int .i64) x0 true), (3, .d (.int .i64) x3 true), (4, .d (.int .i64) x4 true)], [], 0⟩
noncomputable def spec_l1Quoted.l8 (K j : Nat) (x0 : ByteArray) (x4 : Int) (y0 : (List Int)) : Option ByteArray := E.den 78 K .str j 8 ⟨mkE 35 [(0, .d .str x0 true), (3, .ref 0), (4, .d (.int .i64) x4 true)], [.row (.int .u8) y0 true], 0⟩
noncomputable def spec_l1Size.l14 (K j : Nat) (x0 : Int) (x3 : ByteArray) : Option ByteArray := E.den 79 K .str j 14 ⟨mkE 25 [(0, .d (.int .i64) x0 true), (3, .d .str x3 true)], [], 0⟩
noncomputable def impl_yprinted.l14 (K j : Nat) (x0 : ByteArray) (x19 : Int) (x20 : Int) : Option Bool := E.den 80 K .bool j 14 ⟨mkE 34 [(0, .d .str x0 true), (19, .d (.int .i64) x19 true), (20, .d (.int .i64) x20 true)], [], 0⟩
noncomputable def impl_ydigit.f (k : Nat) (a0 : Int) : Option Bool := E.run k 100 [.d (.int .u8) a0 true] .bool
noncomputable def impl_GoodName.l14 (K j : Nat) (x0 : ByteArray) (x17 : Int) (x18 : Int) : Option Bool := E.den 57 K .bool j 14 ⟨mkE 27 [(0, .d .str x0 true), (17, .d (.int .i64) x17 true), (18, .d (.int .i64) x18 true)], [], 0⟩
noncomputable def spec_l1Letter.f (k : Nat) (a0 : Int) : Option Bool := E.run k 115 [.d (.int .u8) a0 true] .bool
noncomputable def impl_ywordByte.f (k : Nat) (a0 : Int) : Option Bool := E.run k 101 [.d (.int .u8) a0 true] .bool
noncomputable def impl_yletter.f (k : Nat) (a0 : Int) : Option Bool := E.run k 130 [.d (.int .u8) a0 true] .bool
noncomputable def strconv_Itoa.f (k : Nat) (a0 : Int) : Option ByteArray := E.run k 42 [.d (.int .i64) a0 true] .str
noncomputable def strconv_FormatUint.f (k : Nat) (a0 : Int) (a1 : Int) : Option ByteArray := E.run k 44 [.d (.int .u64) a0 true, .d (.int .i64) a1 true] .str
noncomputable def impl_yquote.f (k : Nat) (a0 : ByteArray) : Option ByteArray := E.run k 43 [.d .str a0 true] .str
end Go.Proofs.YtaejbcahfnlggaaGreatDoor.PX
