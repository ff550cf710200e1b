-- Written for this claim by a program of this session, which goes by the kit's print and takes contracts proved by hand.
import Derived.Test.YtcgiegkcmofhhabProg
import Derived.BigCall
import Derived.BigGuard
import Derived.Lib.MakeNoZero
import Derived.Lib.Join
import Derived.Maps.OwnOps
import Derived.Maps.OwnSet
import Derived.Shelf.Abstract
import Derived.Shelf.RegionOpenPlain
import Derived.Lib.Slices
import Derived.Lib.Walk
import Derived.Lib.AppendStr
import Derived.Laws.BitsLemmas
import Derived.Laws.IdiomCopy
import Derived.Lib.Bytealg
import Derived.Lib.Strings
import Derived.Lib.Builder
import Derived.Lib.UnsafeStr
import Derived.Laws.Externs
import Derived.WalkLawsBesides
import Derived.WalkSpells
import Derived.BigRegion
import Derived.Below
import Derived.Deep.Draws
import Derived.Deep.AppendLies
import Derived.Maps.AppendAt
import Derived.OwnWalk
import Derived.Laws.BytesArg
import Derived.Laws.MakeOwn
import Derived.Laws.OwnMore
import Derived.Deep.OwnRows
import Derived.Tactics
import Derived.Lib.ConvBytes
import Derived.Laws.Slices
import Derived.WalkKit
import Derived.KernelRfl
import Derived.RowKit3
import Derived.Deep.LoopGhost
import Derived.Deep.QuietTactic
import Derived.BigQuiet
import Derived.WideLaws
import Derived.Deep.DeepCutAuto
import Derived.Deep.CutBlock
import Derived.Deep.RegionHeld3
import Derived.Laws.Rows
import Derived.Lib.AppendStr
import Derived.ArgAppend
import Derived.Laws.IdiomCopy
import Derived.OrdersHeld
import Derived.Laws.BitsLemmas
import Derived.RowKit
import Derived.Test.YtcgiegkcmofhhabWWords
import Derived.Test.YtcgiegkcmofhhabWLast
import Derived.Test.YtcgiegkcmofhhabWTab
import Derived.Test.YtcgiegkcmofhhabWFour
import Derived.Test.YtcgiegkcmofhhabWQPut
import Derived.Test.YtcgiegkcmofhhabWApart
import Derived.Test.YtcgiegkcmofhhabWArr
import Derived.Test.YtcgiegkcmofhhabWZeros
import Derived.Test.YtcgiegkcmofhhabWFoot
import Derived.Test.YtcgiegkcmofhhabWKept
import Derived.Test.YtcgiegkcmofhhabWShare
import Derived.Test.YtcgiegkcmofhhabWN
import Derived.Test.YtcgiegkcmofhhabWFootNe
import Derived.Test.YtcgiegkcmofhhabWAt
import Derived.Test.YtcgiegkcmofhhabWEqStruct
import Derived.Test.YtcgiegkcmofhhabWRepsOne
import Derived.Test.YtcgiegkcmofhhabWInv
import Derived.Test.YtcgiegkcmofhhabWInvWords
import Derived.Test.YtcgiegkcmofhhabWGuard
import Derived.Test.YtcgiegkcmofhhabWNEv
import Derived.Test.YtcgiegkcmofhhabWMore
namespace Go.Proofs.Ytcgiegkcmofhhab.PFnExactMissing
open Go.RowKit Go.Proofs.YtcgiegkcmofhhabW.PrintWords Go.Proofs.YtcgiegkcmofhhabW.PrintLast Go.Proofs.YtcgiegkcmofhhabW.PrintMore
attribute [local go_sem] max2_int min2_int max_two min_two max_three min_three max_four min_four   -- for this text's walks alone
set_option linter.unusedVariables false
set_option linter.unusedSimpArgs false



def errW : Option Int → Value
  | none => .nilIface
  | some c => .iface 0 (.int .i64 c)
theorem errW_none : errW none = .nilIface := rfl
theorem errW_some (c : Int) : errW (some c) = .iface 0 (.int .i64 c) := rfl

theorem pw_ne_nil (l : List UInt8) : (l != ([] : List UInt8)) = !l.isEmpty := by cases l <;> rfl
theorem pw_eq_nil (l : List UInt8) : (l == ([] : List UInt8)) = l.isEmpty := by cases l <;> rfl
section
variable {P : Program} {ops : Array Oper} {o : Oper} {a : Act} {W : World} {Q : Exit → Act → World → Prop}
theorem gate_calleeV {x : Operand} {rest : List Oper} {as_ : Array Operand} {ts : Array TypeId} (_ho : o.op = .call { callee := .value x, args := as_, argTypes := ts }) (h : wpList P ops Q (o :: rest) a W) : wpList P ops Q (o :: rest) a W := h
theorem goesV {some_x : Operand} {rest : List Oper} {oi : Oper} {w : World} (N : Option Tmp) (hd : oi.dst = N) (hg : oi.guard = none) {f : FuncId} {fn : Func} {as_ : Array Operand} {ts : Array TypeId} (hf : P.funcs[f]? = some fn) (hname : (fn.name == "runtime.NumGoroutine") = false) (hb : fn.body.isSome = true) (args : Array Value)
    (hop : oi.op = .call { callee := .value some_x, args := as_, argTypes := ts }) (hargs : as_.map a.eval = args) 
    (h : Calls P f args w fun e w' => ∃ v, e = .returned v ∧ wpList P ops Q rest (a.put N v) w') (hv : a.eval some_x = .func (.func f) #[] #[] := by rfl) : wpList P ops Q (oi :: rest) a w := by
  refine wpList_plain hg fun K hK => ?_
  have he := enters_ hf hname hb args w
  have hrun : (execOp a.eval oi).run P w = .ok (.enter f args) w := by
    unfold execOp
    simp [hop, resolve, Deferred.ofValue, invoke, hargs, hv, he]
  unfold Oper.wp
  rw [hrun, Oper.upon_enter]
  refine h.mono fun e w'' hh => ?_
  obtain ⟨v, rfl, hk⟩ := hh
  subst hd
  exact hK _ _ hk
end
theorem info3 : (Try.prog.info? 3).map (fun i => (i.zero, i.size, i.bytes)) = some (some (.int .i64 0), 1, 8) := by kernel_rfl
theorem info5 : (Try.prog.info? 5).map (fun i => (i.zero, i.size, i.bytes)) = some (some (.int .u8 0), 1, 1) := by kernel_rfl
theorem info25 : (Try.prog.info? 25).map (fun i => (i.zero, i.size, i.bytes)) = some (some (.agg #[(.int .i64 0), (.int .i64 0)]), 2, 16) := by kernel_rfl
theorem info95 : (Try.prog.info? 95).map (fun i => (i.zero, i.size, i.bytes)) = some (some (.agg #[(.int .i64 0), (.int .i64 0), (.int .i64 0), (.int .i64 0), (.int .i64 0), (.string ⟨#[]⟩), (.string ⟨#[]⟩), (.string ⟨#[]⟩), (.string ⟨#[]⟩)]), 9, 104) := by kernel_rfl
-- the values' own types
/-! #### struct type 87 -/
structure S87 where
  f0 : Int
  f1 : Int
def z87 : S87 := ⟨(0 : Int), (0 : Int)⟩
def k87 : Kd S87 := Kd.iso (Kd.pair (Kd.int .i64) (Kd.int .i64)) (fun x : S87 => (x.f0, x.f1))
theorem k87_open {w : World} {x : S87} {cs : List Value} (h : k87.K w x cs) : cs = [.int .i64 x.f0, .int .i64 x.f1] := by
  obtain ⟨_, _, rfl, rfl, rfl⟩ := h
  exact rfl
theorem k87_openM {w : World} {base : Nat} {ok : Nat → Prop} {x : S87} {cs : List Value} (h : k87.M w base ok x cs) : cs = [.int .i64 x.f0, .int .i64 x.f1] := by
  obtain ⟨_, _, rfl, rfl, rfl⟩ := h
  exact rfl
theorem k87_mk (w : World) (x : S87)  : k87.K w x [.int .i64 x.f0, .int .i64 x.f1] := ⟨[.int .i64 x.f0], [.int .i64 x.f1], rfl, rfl, rfl⟩
theorem k87_mkM (w : World) (base : Nat) (ok : Nat → Prop) (x : S87)  : k87.M w base ok x [.int .i64 x.f0, .int .i64 x.f1] := ⟨[.int .i64 x.f0], [.int .i64 x.f1], rfl, rfl, rfl⟩
def rd_T87 (xs : List S87) (i : Int) : S87 := xs.getD i.toNat z87
theorem at_T87 {w : World} {A : Option Addr} {n : Nat} {xs : List S87} (h : Kd.C k87 w A n xs) (i : Int) (h0 : 0 ≤ i) (h1 : i < n) : ∃ ad , A = some ad ∧ w.cell? (ad.add (i.toNat * 2)) = some (.int .i64 (rd_T87 xs i).f0) ∧ w.cell? ⟨(ad.add (i.toNat * 2)).block, (ad.add (i.toNat * 2)).off + 1, none⟩ = some (.int .i64 (rd_T87 xs i).f1) := by
  obtain ⟨ad, c, e, _, hK, hc0⟩ := Kd.C_get h z87 i h0 h1
  have hc : ∀ j u, c[j]? = some u → w.cell? (ad.add (i.toNat * 2 + j)) = some u := hc0
  obtain rfl := k87_open hK
  exact ⟨ad, e, hc 0 _ rfl, by rw [← add_field _ _ 1 (by omega)]; exact hc 1 _ rfl⟩

/-! #### struct type 89 -/
structure S89 where
  f0 : ByteArray
  f1 : ByteArray
def z89 : S89 := ⟨(⟨#[]⟩ : ByteArray), (⟨#[]⟩ : ByteArray)⟩
def k89 : Kd S89 := Kd.iso (Kd.pair Kd.string Kd.string) (fun x : S89 => (x.f0, x.f1))
theorem k89_open {w : World} {x : S89} {cs : List Value} (h : k89.K w x cs) : cs = [.string x.f0, .string x.f1] := by
  obtain ⟨_, _, rfl, rfl, rfl⟩ := h
  exact rfl
theorem k89_openM {w : World} {base : Nat} {ok : Nat → Prop} {x : S89} {cs : List Value} (h : k89.M w base ok x cs) : cs = [.string x.f0, .string x.f1] := by
  obtain ⟨_, _, rfl, rfl, rfl⟩ := h
  exact rfl
theorem k89_mk (w : World) (x : S89)  : k89.K w x [.string x.f0, .string x.f1] := ⟨[.string x.f0], [.string x.f1], rfl, rfl, rfl⟩
theorem k89_mkM (w : World) (base : Nat) (ok : Nat → Prop) (x : S89)  : k89.M w base ok x [.string x.f0, .string x.f1] := ⟨[.string x.f0], [.string x.f1], rfl, rfl, rfl⟩
def rd_T89 (xs : List S89) (i : Int) : S89 := xs.getD i.toNat z89
theorem at_T89 {w : World} {A : Option Addr} {n : Nat} {xs : List S89} (h : Kd.C k89 w A n xs) (i : Int) (h0 : 0 ≤ i) (h1 : i < n) : ∃ ad , A = some ad ∧ w.cell? (ad.add (i.toNat * 2)) = some (.string (rd_T89 xs i).f0) ∧ w.cell? ⟨(ad.add (i.toNat * 2)).block, (ad.add (i.toNat * 2)).off + 1, none⟩ = some (.string (rd_T89 xs i).f1) := by
  obtain ⟨ad, c, e, _, hK, hc0⟩ := Kd.C_get h z89 i h0 h1
  have hc : ∀ j u, c[j]? = some u → w.cell? (ad.add (i.toNat * 2 + j)) = some u := hc0
  obtain rfl := k89_open hK
  exact ⟨ad, e, hc 0 _ rfl, by rw [← add_field _ _ 1 (by omega)]; exact hc 1 _ rfl⟩

/-! #### struct type 91 -/
structure S91 where
  f0 : S87
  f1 : Int
  f2 : Int
  f3 : Int
  f4 : S89
  f5 : ByteArray
  f6 : ByteArray
def z91 : S91 := ⟨z87, (0 : Int), (0 : Int), (0 : Int), z89, (⟨#[]⟩ : ByteArray), (⟨#[]⟩ : ByteArray)⟩
def k91 : Kd S91 := Kd.iso (Kd.pair k87 (Kd.pair (Kd.int .i64) (Kd.pair (Kd.int .i64) (Kd.pair (Kd.int .i64) (Kd.pair k89 (Kd.pair Kd.string Kd.string)))))) (fun x : S91 => (x.f0, x.f1, x.f2, x.f3, x.f4, x.f5, x.f6))
theorem k91_open {w : World} {x : S91} {cs : List Value} (h : k91.K w x cs) : cs = [.int .i64 x.f0.f0, .int .i64 x.f0.f1, .int .i64 x.f1, .int .i64 x.f2, .int .i64 x.f3, .string x.f4.f0, .string x.f4.f1, .string x.f5, .string x.f6] := by
  obtain ⟨_, _, rfl, s0, ⟨_, _, rfl, rfl, ⟨_, _, rfl, rfl, ⟨_, _, rfl, rfl, ⟨_, _, rfl, s5, ⟨_, _, rfl, rfl, rfl⟩⟩⟩⟩⟩⟩ := h
  obtain rfl := k87_open s0
  obtain rfl := k89_open s5
  exact rfl
theorem k91_openM {w : World} {base : Nat} {ok : Nat → Prop} {x : S91} {cs : List Value} (h : k91.M w base ok x cs) : cs = [.int .i64 x.f0.f0, .int .i64 x.f0.f1, .int .i64 x.f1, .int .i64 x.f2, .int .i64 x.f3, .string x.f4.f0, .string x.f4.f1, .string x.f5, .string x.f6] := by
  obtain ⟨_, _, rfl, s0, ⟨_, _, rfl, rfl, ⟨_, _, rfl, rfl, ⟨_, _, rfl, rfl, ⟨_, _, rfl, s5, ⟨_, _, rfl, rfl, rfl⟩⟩⟩⟩⟩⟩ := h
  obtain rfl := k87_openM s0
  obtain rfl := k89_openM s5
  exact rfl
theorem k91_mk (w : World) (x : S91)  : k91.K w x [.int .i64 x.f0.f0, .int .i64 x.f0.f1, .int .i64 x.f1, .int .i64 x.f2, .int .i64 x.f3, .string x.f4.f0, .string x.f4.f1, .string x.f5, .string x.f6] := ⟨[.int .i64 x.f0.f0, .int .i64 x.f0.f1], [.int .i64 x.f1, .int .i64 x.f2, .int .i64 x.f3, .string x.f4.f0, .string x.f4.f1, .string x.f5, .string x.f6], rfl, (k87_mk w x.f0 ), ⟨[.int .i64 x.f1], [.int .i64 x.f2, .int .i64 x.f3, .string x.f4.f0, .string x.f4.f1, .string x.f5, .string x.f6], rfl, rfl, ⟨[.int .i64 x.f2], [.int .i64 x.f3, .string x.f4.f0, .string x.f4.f1, .string x.f5, .string x.f6], rfl, rfl, ⟨[.int .i64 x.f3], [.string x.f4.f0, .string x.f4.f1, .string x.f5, .string x.f6], rfl, rfl, ⟨[.string x.f4.f0, .string x.f4.f1], [.string x.f5, .string x.f6], rfl, (k89_mk w x.f4 ), ⟨[.string x.f5], [.string x.f6], rfl, rfl, rfl⟩⟩⟩⟩⟩⟩
theorem k91_mkM (w : World) (base : Nat) (ok : Nat → Prop) (x : S91)  : k91.M w base ok x [.int .i64 x.f0.f0, .int .i64 x.f0.f1, .int .i64 x.f1, .int .i64 x.f2, .int .i64 x.f3, .string x.f4.f0, .string x.f4.f1, .string x.f5, .string x.f6] := ⟨[.int .i64 x.f0.f0, .int .i64 x.f0.f1], [.int .i64 x.f1, .int .i64 x.f2, .int .i64 x.f3, .string x.f4.f0, .string x.f4.f1, .string x.f5, .string x.f6], rfl, (k87_mkM w base ok x.f0 ), ⟨[.int .i64 x.f1], [.int .i64 x.f2, .int .i64 x.f3, .string x.f4.f0, .string x.f4.f1, .string x.f5, .string x.f6], rfl, rfl, ⟨[.int .i64 x.f2], [.int .i64 x.f3, .string x.f4.f0, .string x.f4.f1, .string x.f5, .string x.f6], rfl, rfl, ⟨[.int .i64 x.f3], [.string x.f4.f0, .string x.f4.f1, .string x.f5, .string x.f6], rfl, rfl, ⟨[.string x.f4.f0, .string x.f4.f1], [.string x.f5, .string x.f6], rfl, (k89_mkM w base ok x.f4 ), ⟨[.string x.f5], [.string x.f6], rfl, rfl, rfl⟩⟩⟩⟩⟩⟩
def rd_T91 (xs : List S91) (i : Int) : S91 := xs.getD i.toNat z91
theorem at_T91 {w : World} {A : Option Addr} {n : Nat} {xs : List S91} (h : Kd.C k91 w A n xs) (i : Int) (h0 : 0 ≤ i) (h1 : i < n) : ∃ ad , A = some ad ∧ w.cell? (ad.add (i.toNat * 9)) = some (.int .i64 (rd_T91 xs i).f0.f0) ∧ w.cell? ⟨(ad.add (i.toNat * 9)).block, (ad.add (i.toNat * 9)).off + 1, none⟩ = some (.int .i64 (rd_T91 xs i).f0.f1) ∧ w.cell? ⟨(ad.add (i.toNat * 9)).block, (ad.add (i.toNat * 9)).off + 2, none⟩ = some (.int .i64 (rd_T91 xs i).f1) ∧ w.cell? ⟨(ad.add (i.toNat * 9)).block, (ad.add (i.toNat * 9)).off + 3, none⟩ = some (.int .i64 (rd_T91 xs i).f2) ∧ w.cell? ⟨(ad.add (i.toNat * 9)).block, (ad.add (i.toNat * 9)).off + 4, none⟩ = some (.int .i64 (rd_T91 xs i).f3) ∧ w.cell? ⟨(ad.add (i.toNat * 9)).block, (ad.add (i.toNat * 9)).off + 5, none⟩ = some (.string (rd_T91 xs i).f4.f0) ∧ w.cell? ⟨(ad.add (i.toNat * 9)).block, (ad.add (i.toNat * 9)).off + 6, none⟩ = some (.string (rd_T91 xs i).f4.f1) ∧ w.cell? ⟨(ad.add (i.toNat * 9)).block, (ad.add (i.toNat * 9)).off + 7, none⟩ = some (.string (rd_T91 xs i).f5) ∧ w.cell? ⟨(ad.add (i.toNat * 9)).block, (ad.add (i.toNat * 9)).off + 8, none⟩ = some (.string (rd_T91 xs i).f6) := by
  obtain ⟨ad, c, e, _, hK, hc0⟩ := Kd.C_get h z91 i h0 h1
  have hc : ∀ j u, c[j]? = some u → w.cell? (ad.add (i.toNat * 9 + j)) = some u := hc0
  obtain rfl := k91_open hK
  exact ⟨ad, e, hc 0 _ rfl, by rw [← add_field _ _ 1 (by omega)]; exact hc 1 _ rfl, by rw [← add_field _ _ 2 (by omega)]; exact hc 2 _ rfl, by rw [← add_field _ _ 3 (by omega)]; exact hc 3 _ rfl, by rw [← add_field _ _ 4 (by omega)]; exact hc 4 _ rfl, by rw [← add_field _ _ 5 (by omega)]; exact hc 5 _ rfl, by rw [← add_field _ _ 6 (by omega)]; exact hc 6 _ rfl, by rw [← add_field _ _ 7 (by omega)]; exact hc 7 _ rfl, by rw [← add_field _ _ 8 (by omega)]; exact hc 8 _ rfl⟩

/-! #### struct type 25 -/
structure S25 where
  f0 : Int
  f1 : Int
def z25 : S25 := ⟨(0 : Int), (0 : Int)⟩
def k25 : Kd S25 := Kd.iso (Kd.pair (Kd.int .i64) (Kd.int .i64)) (fun x : S25 => (x.f0, x.f1))
theorem k25_open {w : World} {x : S25} {cs : List Value} (h : k25.K w x cs) : cs = [.int .i64 x.f0, .int .i64 x.f1] := by
  obtain ⟨_, _, rfl, rfl, rfl⟩ := h
  exact rfl
theorem k25_openM {w : World} {base : Nat} {ok : Nat → Prop} {x : S25} {cs : List Value} (h : k25.M w base ok x cs) : cs = [.int .i64 x.f0, .int .i64 x.f1] := by
  obtain ⟨_, _, rfl, rfl, rfl⟩ := h
  exact rfl
theorem k25_mk (w : World) (x : S25)  : k25.K w x [.int .i64 x.f0, .int .i64 x.f1] := ⟨[.int .i64 x.f0], [.int .i64 x.f1], rfl, rfl, rfl⟩
theorem k25_mkM (w : World) (base : Nat) (ok : Nat → Prop) (x : S25)  : k25.M w base ok x [.int .i64 x.f0, .int .i64 x.f1] := ⟨[.int .i64 x.f0], [.int .i64 x.f1], rfl, rfl, rfl⟩
def rd_T25 (xs : List S25) (i : Int) : S25 := xs.getD i.toNat z25
theorem at_T25 {w : World} {A : Option Addr} {n : Nat} {xs : List S25} (h : Kd.C k25 w A n xs) (i : Int) (h0 : 0 ≤ i) (h1 : i < n) : ∃ ad , A = some ad ∧ w.cell? (ad.add (i.toNat * 2)) = some (.int .i64 (rd_T25 xs i).f0) ∧ w.cell? ⟨(ad.add (i.toNat * 2)).block, (ad.add (i.toNat * 2)).off + 1, none⟩ = some (.int .i64 (rd_T25 xs i).f1) := by
  obtain ⟨ad, c, e, _, hK, hc0⟩ := Kd.C_get h z25 i h0 h1
  have hc : ∀ j u, c[j]? = some u → w.cell? (ad.add (i.toNat * 2 + j)) = some u := hc0
  obtain rfl := k25_open hK
  exact ⟨ad, e, hc 0 _ rfl, by rw [← add_field _ _ 1 (by omega)]; exact hc 1 _ rfl⟩

/-! #### struct type 93 -/
structure S93 where
  f0 : ByteArray
  f1 : ByteArray
def z93 : S93 := ⟨(⟨#[]⟩ : ByteArray), (⟨#[]⟩ : ByteArray)⟩
def k93 : Kd S93 := Kd.iso (Kd.pair Kd.string Kd.string) (fun x : S93 => (x.f0, x.f1))
theorem k93_open {w : World} {x : S93} {cs : List Value} (h : k93.K w x cs) : cs = [.string x.f0, .string x.f1] := by
  obtain ⟨_, _, rfl, rfl, rfl⟩ := h
  exact rfl
theorem k93_openM {w : World} {base : Nat} {ok : Nat → Prop} {x : S93} {cs : List Value} (h : k93.M w base ok x cs) : cs = [.string x.f0, .string x.f1] := by
  obtain ⟨_, _, rfl, rfl, rfl⟩ := h
  exact rfl
theorem k93_mk (w : World) (x : S93)  : k93.K w x [.string x.f0, .string x.f1] := ⟨[.string x.f0], [.string x.f1], rfl, rfl, rfl⟩
theorem k93_mkM (w : World) (base : Nat) (ok : Nat → Prop) (x : S93)  : k93.M w base ok x [.string x.f0, .string x.f1] := ⟨[.string x.f0], [.string x.f1], rfl, rfl, rfl⟩
def rd_T93 (xs : List S93) (i : Int) : S93 := xs.getD i.toNat z93
theorem at_T93 {w : World} {A : Option Addr} {n : Nat} {xs : List S93} (h : Kd.C k93 w A n xs) (i : Int) (h0 : 0 ≤ i) (h1 : i < n) : ∃ ad , A = some ad ∧ w.cell? (ad.add (i.toNat * 2)) = some (.string (rd_T93 xs i).f0) ∧ w.cell? ⟨(ad.add (i.toNat * 2)).block, (ad.add (i.toNat * 2)).off + 1, none⟩ = some (.string (rd_T93 xs i).f1) := by
  obtain ⟨ad, c, e, _, hK, hc0⟩ := Kd.C_get h z93 i h0 h1
  have hc : ∀ j u, c[j]? = some u → w.cell? (ad.add (i.toNat * 2 + j)) = some u := hc0
  obtain rfl := k93_open hK
  exact ⟨ad, e, hc 0 _ rfl, by rw [← add_field _ _ 1 (by omega)]; exact hc 1 _ rfl⟩

/-! #### struct type 95 -/
structure S95 where
  f0 : S25
  f1 : Int
  f2 : Int
  f3 : Int
  f4 : S93
  f5 : ByteArray
  f6 : ByteArray
def z95 : S95 := ⟨z25, (0 : Int), (0 : Int), (0 : Int), z93, (⟨#[]⟩ : ByteArray), (⟨#[]⟩ : ByteArray)⟩
def k95 : Kd S95 := Kd.iso (Kd.pair k25 (Kd.pair (Kd.int .i64) (Kd.pair (Kd.int .i64) (Kd.pair (Kd.int .i64) (Kd.pair k93 (Kd.pair Kd.string Kd.string)))))) (fun x : S95 => (x.f0, x.f1, x.f2, x.f3, x.f4, x.f5, x.f6))
theorem k95_open {w : World} {x : S95} {cs : List Value} (h : k95.K w x cs) : cs = [.int .i64 x.f0.f0, .int .i64 x.f0.f1, .int .i64 x.f1, .int .i64 x.f2, .int .i64 x.f3, .string x.f4.f0, .string x.f4.f1, .string x.f5, .string x.f6] := by
  obtain ⟨_, _, rfl, s0, ⟨_, _, rfl, rfl, ⟨_, _, rfl, rfl, ⟨_, _, rfl, rfl, ⟨_, _, rfl, s5, ⟨_, _, rfl, rfl, rfl⟩⟩⟩⟩⟩⟩ := h
  obtain rfl := k25_open s0
  obtain rfl := k93_open s5
  exact rfl
theorem k95_openM {w : World} {base : Nat} {ok : Nat → Prop} {x : S95} {cs : List Value} (h : k95.M w base ok x cs) : cs = [.int .i64 x.f0.f0, .int .i64 x.f0.f1, .int .i64 x.f1, .int .i64 x.f2, .int .i64 x.f3, .string x.f4.f0, .string x.f4.f1, .string x.f5, .string x.f6] := by
  obtain ⟨_, _, rfl, s0, ⟨_, _, rfl, rfl, ⟨_, _, rfl, rfl, ⟨_, _, rfl, rfl, ⟨_, _, rfl, s5, ⟨_, _, rfl, rfl, rfl⟩⟩⟩⟩⟩⟩ := h
  obtain rfl := k25_openM s0
  obtain rfl := k93_openM s5
  exact rfl
theorem k95_mk (w : World) (x : S95)  : k95.K w x [.int .i64 x.f0.f0, .int .i64 x.f0.f1, .int .i64 x.f1, .int .i64 x.f2, .int .i64 x.f3, .string x.f4.f0, .string x.f4.f1, .string x.f5, .string x.f6] := ⟨[.int .i64 x.f0.f0, .int .i64 x.f0.f1], [.int .i64 x.f1, .int .i64 x.f2, .int .i64 x.f3, .string x.f4.f0, .string x.f4.f1, .string x.f5, .string x.f6], rfl, (k25_mk w x.f0 ), ⟨[.int .i64 x.f1], [.int .i64 x.f2, .int .i64 x.f3, .string x.f4.f0, .string x.f4.f1, .string x.f5, .string x.f6], rfl, rfl, ⟨[.int .i64 x.f2], [.int .i64 x.f3, .string x.f4.f0, .string x.f4.f1, .string x.f5, .string x.f6], rfl, rfl, ⟨[.int .i64 x.f3], [.string x.f4.f0, .string x.f4.f1, .string x.f5, .string x.f6], rfl, rfl, ⟨[.string x.f4.f0, .string x.f4.f1], [.string x.f5, .string x.f6], rfl, (k93_mk w x.f4 ), ⟨[.string x.f5], [.string x.f6], rfl, rfl, rfl⟩⟩⟩⟩⟩⟩
theorem k95_mkM (w : World) (base : Nat) (ok : Nat → Prop) (x : S95)  : k95.M w base ok x [.int .i64 x.f0.f0, .int .i64 x.f0.f1, .int .i64 x.f1, .int .i64 x.f2, .int .i64 x.f3, .string x.f4.f0, .string x.f4.f1, .string x.f5, .string x.f6] := ⟨[.int .i64 x.f0.f0, .int .i64 x.f0.f1], [.int .i64 x.f1, .int .i64 x.f2, .int .i64 x.f3, .string x.f4.f0, .string x.f4.f1, .string x.f5, .string x.f6], rfl, (k25_mkM w base ok x.f0 ), ⟨[.int .i64 x.f1], [.int .i64 x.f2, .int .i64 x.f3, .string x.f4.f0, .string x.f4.f1, .string x.f5, .string x.f6], rfl, rfl, ⟨[.int .i64 x.f2], [.int .i64 x.f3, .string x.f4.f0, .string x.f4.f1, .string x.f5, .string x.f6], rfl, rfl, ⟨[.int .i64 x.f3], [.string x.f4.f0, .string x.f4.f1, .string x.f5, .string x.f6], rfl, rfl, ⟨[.string x.f4.f0, .string x.f4.f1], [.string x.f5, .string x.f6], rfl, (k93_mkM w base ok x.f4 ), ⟨[.string x.f5], [.string x.f6], rfl, rfl, rfl⟩⟩⟩⟩⟩⟩
def rd_T95 (xs : List S95) (i : Int) : S95 := xs.getD i.toNat z95
theorem at_T95 {w : World} {A : Option Addr} {n : Nat} {xs : List S95} (h : Kd.C k95 w A n xs) (i : Int) (h0 : 0 ≤ i) (h1 : i < n) : ∃ ad , A = some ad ∧ w.cell? (ad.add (i.toNat * 9)) = some (.int .i64 (rd_T95 xs i).f0.f0) ∧ w.cell? ⟨(ad.add (i.toNat * 9)).block, (ad.add (i.toNat * 9)).off + 1, none⟩ = some (.int .i64 (rd_T95 xs i).f0.f1) ∧ w.cell? ⟨(ad.add (i.toNat * 9)).block, (ad.add (i.toNat * 9)).off + 2, none⟩ = some (.int .i64 (rd_T95 xs i).f1) ∧ w.cell? ⟨(ad.add (i.toNat * 9)).block, (ad.add (i.toNat * 9)).off + 3, none⟩ = some (.int .i64 (rd_T95 xs i).f2) ∧ w.cell? ⟨(ad.add (i.toNat * 9)).block, (ad.add (i.toNat * 9)).off + 4, none⟩ = some (.int .i64 (rd_T95 xs i).f3) ∧ w.cell? ⟨(ad.add (i.toNat * 9)).block, (ad.add (i.toNat * 9)).off + 5, none⟩ = some (.string (rd_T95 xs i).f4.f0) ∧ w.cell? ⟨(ad.add (i.toNat * 9)).block, (ad.add (i.toNat * 9)).off + 6, none⟩ = some (.string (rd_T95 xs i).f4.f1) ∧ w.cell? ⟨(ad.add (i.toNat * 9)).block, (ad.add (i.toNat * 9)).off + 7, none⟩ = some (.string (rd_T95 xs i).f5) ∧ w.cell? ⟨(ad.add (i.toNat * 9)).block, (ad.add (i.toNat * 9)).off + 8, none⟩ = some (.string (rd_T95 xs i).f6) := by
  obtain ⟨ad, c, e, _, hK, hc0⟩ := Kd.C_get h z95 i h0 h1
  have hc : ∀ j u, c[j]? = some u → w.cell? (ad.add (i.toNat * 9 + j)) = some u := hc0
  obtain rfl := k95_open hK
  exact ⟨ad, e, hc 0 _ rfl, by rw [← add_field _ _ 1 (by omega)]; exact hc 1 _ rfl, by rw [← add_field _ _ 2 (by omega)]; exact hc 2 _ rfl, by rw [← add_field _ _ 3 (by omega)]; exact hc 3 _ rfl, by rw [← add_field _ _ 4 (by omega)]; exact hc 4 _ rfl, by rw [← add_field _ _ 5 (by omega)]; exact hc 5 _ rfl, by rw [← add_field _ _ 6 (by omega)]; exact hc 6 _ rfl, by rw [← add_field _ _ 7 (by omega)]; exact hc 7 _ rfl, by rw [← add_field _ _ 8 (by omega)]; exact hc 8 _ rfl⟩

def rd_L9 (xs : List (List S95)) (i : Int) : (List S95) := xs.getD i.toNat ([] : List S95)
theorem at_L9 {w : World} {A : Option Addr} {n : Nat} {xs : List (List S95)} (h : Kd.C (Kd.slice 95 k95) w A n xs) (i : Int) (h0 : 0 ≤ i) (h1 : i < n) : ∃ ad A0 c0, A = some ad ∧ w.cell? (ad.add i.toNat) = some (.slice A0 (rd_L9 xs i).length c0) ∧ (rd_L9 xs i).length ≤ c0 ∧ k95.C w A0 (rd_L9 xs i).length (rd_L9 xs i) := by
  obtain ⟨ad, c, e, _, hK, hc0⟩ := Kd.C_get h ([] : List S95) i h0 h1
  have hc : ∀ j u, c[j]? = some u → w.cell? (ad.add (i.toNat * 1 + j)) = some u := hc0
  obtain ⟨A0, c0, rfl, l0, g0⟩ := hK
  exact ⟨ad, A0, c0, e, by have hq := hc 0 _ rfl; rwa [Nat.mul_one, Nat.add_zero] at hq, l0, g0⟩

def rd_L10 (xs : List (List S25)) (i : Int) : (List S25) := xs.getD i.toNat ([] : List S25)
theorem at_L10 {w : World} {A : Option Addr} {n : Nat} {xs : List (List S25)} (h : Kd.C (Kd.slice 25 k25) w A n xs) (i : Int) (h0 : 0 ≤ i) (h1 : i < n) : ∃ ad A0 c0, A = some ad ∧ w.cell? (ad.add i.toNat) = some (.slice A0 (rd_L10 xs i).length c0) ∧ (rd_L10 xs i).length ≤ c0 ∧ k25.C w A0 (rd_L10 xs i).length (rd_L10 xs i) := by
  obtain ⟨ad, c, e, _, hK, hc0⟩ := Kd.C_get h ([] : List S25) i h0 h1
  have hc : ∀ j u, c[j]? = some u → w.cell? (ad.add (i.toNat * 1 + j)) = some u := hc0
  obtain ⟨A0, c0, rfl, l0, g0⟩ := hK
  exact ⟨ad, A0, c0, e, by have hq := hc 0 _ rfl; rwa [Nat.mul_one, Nat.add_zero] at hq, l0, g0⟩

theorem pk_cells4 {w : World} {g t : Nat} {a0 a1 a2 a3 : Value} (h : w.heap[g]? = some (.cells #[a0, a1, a2, a3] t (0, 0))) : w.cell? ⟨g, 0, none⟩ = some a0 ∧ w.cell? ⟨g, 1, none⟩ = some a1 ∧ w.cell? ⟨g, 2, none⟩ = some a2 ∧ w.cell? ⟨g, 3, none⟩ = some a3 := ⟨(blk_cell h 0).trans rfl, (blk_cell h 1).trans rfl, (blk_cell h 2).trans rfl, (blk_cell h 3).trans rfl⟩
theorem pk_up4 {w W : World} {p0 p1 p2 p3 : Addr} {a0 a1 a2 a3 : Value} (hb : Below w.heap.size w W) (h0 : w.cell? p0 = some a0) (h1 : w.cell? p1 = some a1) (h2 : w.cell? p2 = some a2) (h3 : w.cell? p3 = some a3) : W.cell? p0 = some a0 ∧ W.cell? p1 = some a1 ∧ W.cell? p2 = some a2 ∧ W.cell? p3 = some a3 := ⟨(hb.cell (World.block_lt_of_cell? w _ h0)).trans h0, (hb.cell (World.block_lt_of_cell? w _ h1)).trans h1, (hb.cell (World.block_lt_of_cell? w _ h2)).trans h2, (hb.cell (World.block_lt_of_cell? w _ h3)).trans h3⟩
theorem pk_puts4 {w : World} {g t : Nat} {a0 a1 a2 a3 z0 z1 z2 z3 : Value} (h : w.heap[g]? = some (.cells #[z0, z1, z2, z3] t (0, 0))) : ((((w.setCell ⟨g, 0, none⟩ a0).setCell ⟨g, 1, none⟩ a1).setCell ⟨g, 2, none⟩ a2).setCell ⟨g, 3, none⟩ a3).heap[g]? = some (.cells #[a0, a1, a2, a3] t (0, 0)) := (blk_put (cs := #[a0, a1, a2, z3]) (blk_put (cs := #[a0, a1, z2, z3]) (blk_put (cs := #[a0, z1, z2, z3]) (blk_put (cs := #[z0, z1, z2, z3]) h 0 a0 rfl) 1 a1 rfl) 2 a2 rfl) 3 a3 rfl)
theorem pk_cells5 {w : World} {g t : Nat} {a0 a1 a2 a3 a4 : Value} (h : w.heap[g]? = some (.cells #[a0, a1, a2, a3, a4] t (0, 0))) : w.cell? ⟨g, 0, none⟩ = some a0 ∧ w.cell? ⟨g, 1, none⟩ = some a1 ∧ w.cell? ⟨g, 2, none⟩ = some a2 ∧ w.cell? ⟨g, 3, none⟩ = some a3 ∧ w.cell? ⟨g, 4, none⟩ = some a4 := ⟨(blk_cell h 0).trans rfl, (blk_cell h 1).trans rfl, (blk_cell h 2).trans rfl, (blk_cell h 3).trans rfl, (blk_cell h 4).trans rfl⟩
theorem pk_up5 {w W : World} {p0 p1 p2 p3 p4 : Addr} {a0 a1 a2 a3 a4 : Value} (hb : Below w.heap.size w W) (h0 : w.cell? p0 = some a0) (h1 : w.cell? p1 = some a1) (h2 : w.cell? p2 = some a2) (h3 : w.cell? p3 = some a3) (h4 : w.cell? p4 = some a4) : W.cell? p0 = some a0 ∧ W.cell? p1 = some a1 ∧ W.cell? p2 = some a2 ∧ W.cell? p3 = some a3 ∧ W.cell? p4 = some a4 := ⟨(hb.cell (World.block_lt_of_cell? w _ h0)).trans h0, (hb.cell (World.block_lt_of_cell? w _ h1)).trans h1, (hb.cell (World.block_lt_of_cell? w _ h2)).trans h2, (hb.cell (World.block_lt_of_cell? w _ h3)).trans h3, (hb.cell (World.block_lt_of_cell? w _ h4)).trans h4⟩
theorem pk_puts5 {w : World} {g t : Nat} {a0 a1 a2 a3 a4 z0 z1 z2 z3 z4 : Value} (h : w.heap[g]? = some (.cells #[z0, z1, z2, z3, z4] t (0, 0))) : (((((w.setCell ⟨g, 0, none⟩ a0).setCell ⟨g, 1, none⟩ a1).setCell ⟨g, 2, none⟩ a2).setCell ⟨g, 3, none⟩ a3).setCell ⟨g, 4, none⟩ a4).heap[g]? = some (.cells #[a0, a1, a2, a3, a4] t (0, 0)) := (blk_put (cs := #[a0, a1, a2, a3, z4]) (blk_put (cs := #[a0, a1, a2, z3, z4]) (blk_put (cs := #[a0, a1, z2, z3, z4]) (blk_put (cs := #[a0, z1, z2, z3, z4]) (blk_put (cs := #[z0, z1, z2, z3, z4]) h 0 a0 rfl) 1 a1 rfl) 2 a2 rfl) 3 a3 rfl) 4 a4 rfl)
theorem pk_cells6 {w : World} {g t : Nat} {a0 a1 a2 a3 a4 a5 : Value} (h : w.heap[g]? = some (.cells #[a0, a1, a2, a3, a4, a5] t (0, 0))) : w.cell? ⟨g, 0, none⟩ = some a0 ∧ w.cell? ⟨g, 1, none⟩ = some a1 ∧ w.cell? ⟨g, 2, none⟩ = some a2 ∧ w.cell? ⟨g, 3, none⟩ = some a3 ∧ w.cell? ⟨g, 4, none⟩ = some a4 ∧ w.cell? ⟨g, 5, none⟩ = some a5 := ⟨(blk_cell h 0).trans rfl, (blk_cell h 1).trans rfl, (blk_cell h 2).trans rfl, (blk_cell h 3).trans rfl, (blk_cell h 4).trans rfl, (blk_cell h 5).trans rfl⟩
theorem pk_up6 {w W : World} {p0 p1 p2 p3 p4 p5 : Addr} {a0 a1 a2 a3 a4 a5 : Value} (hb : Below w.heap.size w W) (h0 : w.cell? p0 = some a0) (h1 : w.cell? p1 = some a1) (h2 : w.cell? p2 = some a2) (h3 : w.cell? p3 = some a3) (h4 : w.cell? p4 = some a4) (h5 : w.cell? p5 = some a5) : W.cell? p0 = some a0 ∧ W.cell? p1 = some a1 ∧ W.cell? p2 = some a2 ∧ W.cell? p3 = some a3 ∧ W.cell? p4 = some a4 ∧ W.cell? p5 = some a5 := ⟨(hb.cell (World.block_lt_of_cell? w _ h0)).trans h0, (hb.cell (World.block_lt_of_cell? w _ h1)).trans h1, (hb.cell (World.block_lt_of_cell? w _ h2)).trans h2, (hb.cell (World.block_lt_of_cell? w _ h3)).trans h3, (hb.cell (World.block_lt_of_cell? w _ h4)).trans h4, (hb.cell (World.block_lt_of_cell? w _ h5)).trans h5⟩
theorem pk_puts6 {w : World} {g t : Nat} {a0 a1 a2 a3 a4 a5 z0 z1 z2 z3 z4 z5 : Value} (h : w.heap[g]? = some (.cells #[z0, z1, z2, z3, z4, z5] t (0, 0))) : ((((((w.setCell ⟨g, 0, none⟩ a0).setCell ⟨g, 1, none⟩ a1).setCell ⟨g, 2, none⟩ a2).setCell ⟨g, 3, none⟩ a3).setCell ⟨g, 4, none⟩ a4).setCell ⟨g, 5, none⟩ a5).heap[g]? = some (.cells #[a0, a1, a2, a3, a4, a5] t (0, 0)) := (blk_put (cs := #[a0, a1, a2, a3, a4, z5]) (blk_put (cs := #[a0, a1, a2, a3, z4, z5]) (blk_put (cs := #[a0, a1, a2, z3, z4, z5]) (blk_put (cs := #[a0, a1, z2, z3, z4, z5]) (blk_put (cs := #[a0, z1, z2, z3, z4, z5]) (blk_put (cs := #[z0, z1, z2, z3, z4, z5]) h 0 a0 rfl) 1 a1 rfl) 2 a2 rfl) 3 a3 rfl) 4 a4 rfl) 5 a5 rfl)
theorem pk_cells7 {w : World} {g t : Nat} {a0 a1 a2 a3 a4 a5 a6 : Value} (h : w.heap[g]? = some (.cells #[a0, a1, a2, a3, a4, a5, a6] t (0, 0))) : w.cell? ⟨g, 0, none⟩ = some a0 ∧ w.cell? ⟨g, 1, none⟩ = some a1 ∧ w.cell? ⟨g, 2, none⟩ = some a2 ∧ w.cell? ⟨g, 3, none⟩ = some a3 ∧ w.cell? ⟨g, 4, none⟩ = some a4 ∧ w.cell? ⟨g, 5, none⟩ = some a5 ∧ w.cell? ⟨g, 6, none⟩ = some a6 := ⟨(blk_cell h 0).trans rfl, (blk_cell h 1).trans rfl, (blk_cell h 2).trans rfl, (blk_cell h 3).trans rfl, (blk_cell h 4).trans rfl, (blk_cell h 5).trans rfl, (blk_cell h 6).trans rfl⟩
theorem pk_up7 {w W : World} {p0 p1 p2 p3 p4 p5 p6 : Addr} {a0 a1 a2 a3 a4 a5 a6 : Value} (hb : Below w.heap.size w W) (h0 : w.cell? p0 = some a0) (h1 : w.cell? p1 = some a1) (h2 : w.cell? p2 = some a2) (h3 : w.cell? p3 = some a3) (h4 : w.cell? p4 = some a4) (h5 : w.cell? p5 = some a5) (h6 : w.cell? p6 = some a6) : W.cell? p0 = some a0 ∧ W.cell? p1 = some a1 ∧ W.cell? p2 = some a2 ∧ W.cell? p3 = some a3 ∧ W.cell? p4 = some a4 ∧ W.cell? p5 = some a5 ∧ W.cell? p6 = some a6 := ⟨(hb.cell (World.block_lt_of_cell? w _ h0)).trans h0, (hb.cell (World.block_lt_of_cell? w _ h1)).trans h1, (hb.cell (World.block_lt_of_cell? w _ h2)).trans h2, (hb.cell (World.block_lt_of_cell? w _ h3)).trans h3, (hb.cell (World.block_lt_of_cell? w _ h4)).trans h4, (hb.cell (World.block_lt_of_cell? w _ h5)).trans h5, (hb.cell (World.block_lt_of_cell? w _ h6)).trans h6⟩
theorem pk_puts7 {w : World} {g t : Nat} {a0 a1 a2 a3 a4 a5 a6 z0 z1 z2 z3 z4 z5 z6 : Value} (h : w.heap[g]? = some (.cells #[z0, z1, z2, z3, z4, z5, z6] t (0, 0))) : (((((((w.setCell ⟨g, 0, none⟩ a0).setCell ⟨g, 1, none⟩ a1).setCell ⟨g, 2, none⟩ a2).setCell ⟨g, 3, none⟩ a3).setCell ⟨g, 4, none⟩ a4).setCell ⟨g, 5, none⟩ a5).setCell ⟨g, 6, none⟩ a6).heap[g]? = some (.cells #[a0, a1, a2, a3, a4, a5, a6] t (0, 0)) := (blk_put (cs := #[a0, a1, a2, a3, a4, a5, z6]) (blk_put (cs := #[a0, a1, a2, a3, a4, z5, z6]) (blk_put (cs := #[a0, a1, a2, a3, z4, z5, z6]) (blk_put (cs := #[a0, a1, a2, z3, z4, z5, z6]) (blk_put (cs := #[a0, a1, z2, z3, z4, z5, z6]) (blk_put (cs := #[a0, z1, z2, z3, z4, z5, z6]) (blk_put (cs := #[z0, z1, z2, z3, z4, z5, z6]) h 0 a0 rfl) 1 a1 rfl) 2 a2 rfl) 3 a3 rfl) 4 a4 rfl) 5 a5 rfl) 6 a6 rfl)
theorem pk_cells8 {w : World} {g t : Nat} {a0 a1 a2 a3 a4 a5 a6 a7 : Value} (h : w.heap[g]? = some (.cells #[a0, a1, a2, a3, a4, a5, a6, a7] t (0, 0))) : w.cell? ⟨g, 0, none⟩ = some a0 ∧ w.cell? ⟨g, 1, none⟩ = some a1 ∧ w.cell? ⟨g, 2, none⟩ = some a2 ∧ w.cell? ⟨g, 3, none⟩ = some a3 ∧ w.cell? ⟨g, 4, none⟩ = some a4 ∧ w.cell? ⟨g, 5, none⟩ = some a5 ∧ w.cell? ⟨g, 6, none⟩ = some a6 ∧ w.cell? ⟨g, 7, none⟩ = some a7 := ⟨(blk_cell h 0).trans rfl, (blk_cell h 1).trans rfl, (blk_cell h 2).trans rfl, (blk_cell h 3).trans rfl, (blk_cell h 4).trans rfl, (blk_cell h 5).trans rfl, (blk_cell h 6).trans rfl, (blk_cell h 7).trans rfl⟩
theorem pk_up8 {w W : World} {p0 p1 p2 p3 p4 p5 p6 p7 : Addr} {a0 a1 a2 a3 a4 a5 a6 a7 : Value} (hb : Below w.heap.size w W) (h0 : w.cell? p0 = some a0) (h1 : w.cell? p1 = some a1) (h2 : w.cell? p2 = some a2) (h3 : w.cell? p3 = some a3) (h4 : w.cell? p4 = some a4) (h5 : w.cell? p5 = some a5) (h6 : w.cell? p6 = some a6) (h7 : w.cell? p7 = some a7) : W.cell? p0 = some a0 ∧ W.cell? p1 = some a1 ∧ W.cell? p2 = some a2 ∧ W.cell? p3 = some a3 ∧ W.cell? p4 = some a4 ∧ W.cell? p5 = some a5 ∧ W.cell? p6 = some a6 ∧ W.cell? p7 = some a7 := ⟨(hb.cell (World.block_lt_of_cell? w _ h0)).trans h0, (hb.cell (World.block_lt_of_cell? w _ h1)).trans h1, (hb.cell (World.block_lt_of_cell? w _ h2)).trans h2, (hb.cell (World.block_lt_of_cell? w _ h3)).trans h3, (hb.cell (World.block_lt_of_cell? w _ h4)).trans h4, (hb.cell (World.block_lt_of_cell? w _ h5)).trans h5, (hb.cell (World.block_lt_of_cell? w _ h6)).trans h6, (hb.cell (World.block_lt_of_cell? w _ h7)).trans h7⟩
theorem pk_puts8 {w : World} {g t : Nat} {a0 a1 a2 a3 a4 a5 a6 a7 z0 z1 z2 z3 z4 z5 z6 z7 : Value} (h : w.heap[g]? = some (.cells #[z0, z1, z2, z3, z4, z5, z6, z7] t (0, 0))) : ((((((((w.setCell ⟨g, 0, none⟩ a0).setCell ⟨g, 1, none⟩ a1).setCell ⟨g, 2, none⟩ a2).setCell ⟨g, 3, none⟩ a3).setCell ⟨g, 4, none⟩ a4).setCell ⟨g, 5, none⟩ a5).setCell ⟨g, 6, none⟩ a6).setCell ⟨g, 7, none⟩ a7).heap[g]? = some (.cells #[a0, a1, a2, a3, a4, a5, a6, a7] t (0, 0)) := (blk_put (cs := #[a0, a1, a2, a3, a4, a5, a6, z7]) (blk_put (cs := #[a0, a1, a2, a3, a4, a5, z6, z7]) (blk_put (cs := #[a0, a1, a2, a3, a4, z5, z6, z7]) (blk_put (cs := #[a0, a1, a2, a3, z4, z5, z6, z7]) (blk_put (cs := #[a0, a1, a2, z3, z4, z5, z6, z7]) (blk_put (cs := #[a0, a1, z2, z3, z4, z5, z6, z7]) (blk_put (cs := #[a0, z1, z2, z3, z4, z5, z6, z7]) (blk_put (cs := #[z0, z1, z2, z3, z4, z5, z6, z7]) h 0 a0 rfl) 1 a1 rfl) 2 a2 rfl) 3 a3 rfl) 4 a4 rfl) 5 a5 rfl) 6 a6 rfl) 7 a7 rfl)
theorem pk_cells9 {w : World} {g t : Nat} {a0 a1 a2 a3 a4 a5 a6 a7 a8 : Value} (h : w.heap[g]? = some (.cells #[a0, a1, a2, a3, a4, a5, a6, a7, a8] t (0, 0))) : w.cell? ⟨g, 0, none⟩ = some a0 ∧ w.cell? ⟨g, 1, none⟩ = some a1 ∧ w.cell? ⟨g, 2, none⟩ = some a2 ∧ w.cell? ⟨g, 3, none⟩ = some a3 ∧ w.cell? ⟨g, 4, none⟩ = some a4 ∧ w.cell? ⟨g, 5, none⟩ = some a5 ∧ w.cell? ⟨g, 6, none⟩ = some a6 ∧ w.cell? ⟨g, 7, none⟩ = some a7 ∧ w.cell? ⟨g, 8, none⟩ = some a8 := ⟨(blk_cell h 0).trans rfl, (blk_cell h 1).trans rfl, (blk_cell h 2).trans rfl, (blk_cell h 3).trans rfl, (blk_cell h 4).trans rfl, (blk_cell h 5).trans rfl, (blk_cell h 6).trans rfl, (blk_cell h 7).trans rfl, (blk_cell h 8).trans rfl⟩
theorem pk_up9 {w W : World} {p0 p1 p2 p3 p4 p5 p6 p7 p8 : Addr} {a0 a1 a2 a3 a4 a5 a6 a7 a8 : Value} (hb : Below w.heap.size w W) (h0 : w.cell? p0 = some a0) (h1 : w.cell? p1 = some a1) (h2 : w.cell? p2 = some a2) (h3 : w.cell? p3 = some a3) (h4 : w.cell? p4 = some a4) (h5 : w.cell? p5 = some a5) (h6 : w.cell? p6 = some a6) (h7 : w.cell? p7 = some a7) (h8 : w.cell? p8 = some a8) : W.cell? p0 = some a0 ∧ W.cell? p1 = some a1 ∧ W.cell? p2 = some a2 ∧ W.cell? p3 = some a3 ∧ W.cell? p4 = some a4 ∧ W.cell? p5 = some a5 ∧ W.cell? p6 = some a6 ∧ W.cell? p7 = some a7 ∧ W.cell? p8 = some a8 := ⟨(hb.cell (World.block_lt_of_cell? w _ h0)).trans h0, (hb.cell (World.block_lt_of_cell? w _ h1)).trans h1, (hb.cell (World.block_lt_of_cell? w _ h2)).trans h2, (hb.cell (World.block_lt_of_cell? w _ h3)).trans h3, (hb.cell (World.block_lt_of_cell? w _ h4)).trans h4, (hb.cell (World.block_lt_of_cell? w _ h5)).trans h5, (hb.cell (World.block_lt_of_cell? w _ h6)).trans h6, (hb.cell (World.block_lt_of_cell? w _ h7)).trans h7, (hb.cell (World.block_lt_of_cell? w _ h8)).trans h8⟩
theorem pk_puts9 {w : World} {g t : Nat} {a0 a1 a2 a3 a4 a5 a6 a7 a8 z0 z1 z2 z3 z4 z5 z6 z7 z8 : Value} (h : w.heap[g]? = some (.cells #[z0, z1, z2, z3, z4, z5, z6, z7, z8] t (0, 0))) : (((((((((w.setCell ⟨g, 0, none⟩ a0).setCell ⟨g, 1, none⟩ a1).setCell ⟨g, 2, none⟩ a2).setCell ⟨g, 3, none⟩ a3).setCell ⟨g, 4, none⟩ a4).setCell ⟨g, 5, none⟩ a5).setCell ⟨g, 6, none⟩ a6).setCell ⟨g, 7, none⟩ a7).setCell ⟨g, 8, none⟩ a8).heap[g]? = some (.cells #[a0, a1, a2, a3, a4, a5, a6, a7, a8] t (0, 0)) := (blk_put (cs := #[a0, a1, a2, a3, a4, a5, a6, a7, z8]) (blk_put (cs := #[a0, a1, a2, a3, a4, a5, a6, z7, z8]) (blk_put (cs := #[a0, a1, a2, a3, a4, a5, z6, z7, z8]) (blk_put (cs := #[a0, a1, a2, a3, a4, z5, z6, z7, z8]) (blk_put (cs := #[a0, a1, a2, a3, z4, z5, z6, z7, z8]) (blk_put (cs := #[a0, a1, a2, z3, z4, z5, z6, z7, z8]) (blk_put (cs := #[a0, a1, z2, z3, z4, z5, z6, z7, z8]) (blk_put (cs := #[a0, z1, z2, z3, z4, z5, z6, z7, z8]) (blk_put (cs := #[z0, z1, z2, z3, z4, z5, z6, z7, z8]) h 0 a0 rfl) 1 a1 rfl) 2 a2 rfl) 3 a3 rfl) 4 a4 rfl) 5 a5 rfl) 6 a6 rfl) 7 a7 rfl) 8 a8 rfl)
theorem pk_cells10 {w : World} {g t : Nat} {a0 a1 a2 a3 a4 a5 a6 a7 a8 a9 : Value} (h : w.heap[g]? = some (.cells #[a0, a1, a2, a3, a4, a5, a6, a7, a8, a9] t (0, 0))) : w.cell? ⟨g, 0, none⟩ = some a0 ∧ w.cell? ⟨g, 1, none⟩ = some a1 ∧ w.cell? ⟨g, 2, none⟩ = some a2 ∧ w.cell? ⟨g, 3, none⟩ = some a3 ∧ w.cell? ⟨g, 4, none⟩ = some a4 ∧ w.cell? ⟨g, 5, none⟩ = some a5 ∧ w.cell? ⟨g, 6, none⟩ = some a6 ∧ w.cell? ⟨g, 7, none⟩ = some a7 ∧ w.cell? ⟨g, 8, none⟩ = some a8 ∧ w.cell? ⟨g, 9, none⟩ = some a9 := ⟨(blk_cell h 0).trans rfl, (blk_cell h 1).trans rfl, (blk_cell h 2).trans rfl, (blk_cell h 3).trans rfl, (blk_cell h 4).trans rfl, (blk_cell h 5).trans rfl, (blk_cell h 6).trans rfl, (blk_cell h 7).trans rfl, (blk_cell h 8).trans rfl, (blk_cell h 9).trans rfl⟩
theorem pk_up10 {w W : World} {p0 p1 p2 p3 p4 p5 p6 p7 p8 p9 : Addr} {a0 a1 a2 a3 a4 a5 a6 a7 a8 a9 : Value} (hb : Below w.heap.size w W) (h0 : w.cell? p0 = some a0) (h1 : w.cell? p1 = some a1) (h2 : w.cell? p2 = some a2) (h3 : w.cell? p3 = some a3) (h4 : w.cell? p4 = some a4) (h5 : w.cell? p5 = some a5) (h6 : w.cell? p6 = some a6) (h7 : w.cell? p7 = some a7) (h8 : w.cell? p8 = some a8) (h9 : w.cell? p9 = some a9) : W.cell? p0 = some a0 ∧ W.cell? p1 = some a1 ∧ W.cell? p2 = some a2 ∧ W.cell? p3 = some a3 ∧ W.cell? p4 = some a4 ∧ W.cell? p5 = some a5 ∧ W.cell? p6 = some a6 ∧ W.cell? p7 = some a7 ∧ W.cell? p8 = some a8 ∧ W.cell? p9 = some a9 := ⟨(hb.cell (World.block_lt_of_cell? w _ h0)).trans h0, (hb.cell (World.block_lt_of_cell? w _ h1)).trans h1, (hb.cell (World.block_lt_of_cell? w _ h2)).trans h2, (hb.cell (World.block_lt_of_cell? w _ h3)).trans h3, (hb.cell (World.block_lt_of_cell? w _ h4)).trans h4, (hb.cell (World.block_lt_of_cell? w _ h5)).trans h5, (hb.cell (World.block_lt_of_cell? w _ h6)).trans h6, (hb.cell (World.block_lt_of_cell? w _ h7)).trans h7, (hb.cell (World.block_lt_of_cell? w _ h8)).trans h8, (hb.cell (World.block_lt_of_cell? w _ h9)).trans h9⟩
theorem pk_puts10 {w : World} {g t : Nat} {a0 a1 a2 a3 a4 a5 a6 a7 a8 a9 z0 z1 z2 z3 z4 z5 z6 z7 z8 z9 : Value} (h : w.heap[g]? = some (.cells #[z0, z1, z2, z3, z4, z5, z6, z7, z8, z9] t (0, 0))) : ((((((((((w.setCell ⟨g, 0, none⟩ a0).setCell ⟨g, 1, none⟩ a1).setCell ⟨g, 2, none⟩ a2).setCell ⟨g, 3, none⟩ a3).setCell ⟨g, 4, none⟩ a4).setCell ⟨g, 5, none⟩ a5).setCell ⟨g, 6, none⟩ a6).setCell ⟨g, 7, none⟩ a7).setCell ⟨g, 8, none⟩ a8).setCell ⟨g, 9, none⟩ a9).heap[g]? = some (.cells #[a0, a1, a2, a3, a4, a5, a6, a7, a8, a9] t (0, 0)) := (blk_put (cs := #[a0, a1, a2, a3, a4, a5, a6, a7, a8, z9]) (blk_put (cs := #[a0, a1, a2, a3, a4, a5, a6, a7, z8, z9]) (blk_put (cs := #[a0, a1, a2, a3, a4, a5, a6, z7, z8, z9]) (blk_put (cs := #[a0, a1, a2, a3, a4, a5, z6, z7, z8, z9]) (blk_put (cs := #[a0, a1, a2, a3, a4, z5, z6, z7, z8, z9]) (blk_put (cs := #[a0, a1, a2, a3, z4, z5, z6, z7, z8, z9]) (blk_put (cs := #[a0, a1, a2, z3, z4, z5, z6, z7, z8, z9]) (blk_put (cs := #[a0, a1, z2, z3, z4, z5, z6, z7, z8, z9]) (blk_put (cs := #[a0, z1, z2, z3, z4, z5, z6, z7, z8, z9]) (blk_put (cs := #[z0, z1, z2, z3, z4, z5, z6, z7, z8, z9]) h 0 a0 rfl) 1 a1 rfl) 2 a2 rfl) 3 a3 rfl) 4 a4 rfl) 5 a5 rfl) 6 a6 rfl) 7 a7 rfl) 8 a8 rfl) 9 a9 rfl)
theorem pk_cells11 {w : World} {g t : Nat} {a0 a1 a2 a3 a4 a5 a6 a7 a8 a9 a10 : Value} (h : w.heap[g]? = some (.cells #[a0, a1, a2, a3, a4, a5, a6, a7, a8, a9, a10] t (0, 0))) : w.cell? ⟨g, 0, none⟩ = some a0 ∧ w.cell? ⟨g, 1, none⟩ = some a1 ∧ w.cell? ⟨g, 2, none⟩ = some a2 ∧ w.cell? ⟨g, 3, none⟩ = some a3 ∧ w.cell? ⟨g, 4, none⟩ = some a4 ∧ w.cell? ⟨g, 5, none⟩ = some a5 ∧ w.cell? ⟨g, 6, none⟩ = some a6 ∧ w.cell? ⟨g, 7, none⟩ = some a7 ∧ w.cell? ⟨g, 8, none⟩ = some a8 ∧ w.cell? ⟨g, 9, none⟩ = some a9 ∧ w.cell? ⟨g, 10, none⟩ = some a10 := ⟨(blk_cell h 0).trans rfl, (blk_cell h 1).trans rfl, (blk_cell h 2).trans rfl, (blk_cell h 3).trans rfl, (blk_cell h 4).trans rfl, (blk_cell h 5).trans rfl, (blk_cell h 6).trans rfl, (blk_cell h 7).trans rfl, (blk_cell h 8).trans rfl, (blk_cell h 9).trans rfl, (blk_cell h 10).trans rfl⟩
theorem pk_up11 {w W : World} {p0 p1 p2 p3 p4 p5 p6 p7 p8 p9 p10 : Addr} {a0 a1 a2 a3 a4 a5 a6 a7 a8 a9 a10 : Value} (hb : Below w.heap.size w W) (h0 : w.cell? p0 = some a0) (h1 : w.cell? p1 = some a1) (h2 : w.cell? p2 = some a2) (h3 : w.cell? p3 = some a3) (h4 : w.cell? p4 = some a4) (h5 : w.cell? p5 = some a5) (h6 : w.cell? p6 = some a6) (h7 : w.cell? p7 = some a7) (h8 : w.cell? p8 = some a8) (h9 : w.cell? p9 = some a9) (h10 : w.cell? p10 = some a10) : W.cell? p0 = some a0 ∧ W.cell? p1 = some a1 ∧ W.cell? p2 = some a2 ∧ W.cell? p3 = some a3 ∧ W.cell? p4 = some a4 ∧ W.cell? p5 = some a5 ∧ W.cell? p6 = some a6 ∧ W.cell? p7 = some a7 ∧ W.cell? p8 = some a8 ∧ W.cell? p9 = some a9 ∧ W.cell? p10 = some a10 := ⟨(hb.cell (World.block_lt_of_cell? w _ h0)).trans h0, (hb.cell (World.block_lt_of_cell? w _ h1)).trans h1, (hb.cell (World.block_lt_of_cell? w _ h2)).trans h2, (hb.cell (World.block_lt_of_cell? w _ h3)).trans h3, (hb.cell (World.block_lt_of_cell? w _ h4)).trans h4, (hb.cell (World.block_lt_of_cell? w _ h5)).trans h5, (hb.cell (World.block_lt_of_cell? w _ h6)).trans h6, (hb.cell (World.block_lt_of_cell? w _ h7)).trans h7, (hb.cell (World.block_lt_of_cell? w _ h8)).trans h8, (hb.cell (World.block_lt_of_cell? w _ h9)).trans h9, (hb.cell (World.block_lt_of_cell? w _ h10)).trans h10⟩
theorem pk_puts11 {w : World} {g t : Nat} {a0 a1 a2 a3 a4 a5 a6 a7 a8 a9 a10 z0 z1 z2 z3 z4 z5 z6 z7 z8 z9 z10 : Value} (h : w.heap[g]? = some (.cells #[z0, z1, z2, z3, z4, z5, z6, z7, z8, z9, z10] t (0, 0))) : (((((((((((w.setCell ⟨g, 0, none⟩ a0).setCell ⟨g, 1, none⟩ a1).setCell ⟨g, 2, none⟩ a2).setCell ⟨g, 3, none⟩ a3).setCell ⟨g, 4, none⟩ a4).setCell ⟨g, 5, none⟩ a5).setCell ⟨g, 6, none⟩ a6).setCell ⟨g, 7, none⟩ a7).setCell ⟨g, 8, none⟩ a8).setCell ⟨g, 9, none⟩ a9).setCell ⟨g, 10, none⟩ a10).heap[g]? = some (.cells #[a0, a1, a2, a3, a4, a5, a6, a7, a8, a9, a10] t (0, 0)) := (blk_put (cs := #[a0, a1, a2, a3, a4, a5, a6, a7, a8, a9, z10]) (blk_put (cs := #[a0, a1, a2, a3, a4, a5, a6, a7, a8, z9, z10]) (blk_put (cs := #[a0, a1, a2, a3, a4, a5, a6, a7, z8, z9, z10]) (blk_put (cs := #[a0, a1, a2, a3, a4, a5, a6, z7, z8, z9, z10]) (blk_put (cs := #[a0, a1, a2, a3, a4, a5, z6, z7, z8, z9, z10]) (blk_put (cs := #[a0, a1, a2, a3, a4, z5, z6, z7, z8, z9, z10]) (blk_put (cs := #[a0, a1, a2, a3, z4, z5, z6, z7, z8, z9, z10]) (blk_put (cs := #[a0, a1, a2, z3, z4, z5, z6, z7, z8, z9, z10]) (blk_put (cs := #[a0, a1, z2, z3, z4, z5, z6, z7, z8, z9, z10]) (blk_put (cs := #[a0, z1, z2, z3, z4, z5, z6, z7, z8, z9, z10]) (blk_put (cs := #[z0, z1, z2, z3, z4, z5, z6, z7, z8, z9, z10]) h 0 a0 rfl) 1 a1 rfl) 2 a2 rfl) 3 a3 rfl) 4 a4 rfl) 5 a5 rfl) 6 a6 rfl) 7 a7 rfl) 8 a8 rfl) 9 a9 rfl) 10 a10 rfl)
abbrev pkA := @below_alloc
abbrev pkN := @pw_below_drewN
abbrev pkD := @below_drew1
abbrev pk1 := @List.setIfInBounds_toArray
abbrev pk2 := @List.set_cons_zero
abbrev pk3 := @List.set_cons_succ
abbrev pkd := @blk_drewN
abbrev pke := @blk_drew
abbrev pkf := @blk_alloc
abbrev pkb8_0 : Array Bool := #[false, false, false, false, false, false, false, false]
abbrev pkb8_1 : Array Bool := #[true, false, false, false, false, false, false, false]
abbrev pkb8_2 : Array Bool := #[true, true, false, false, false, false, false, false]
abbrev pkb8_3 : Array Bool := #[true, true, true, false, false, false, false, false]
abbrev pkb8_4 : Array Bool := #[true, true, true, true, false, false, false, false]
abbrev pkb8_6 : Array Bool := #[true, true, true, true, true, true, false, false]
abbrev pkb8_7 : Array Bool := #[true, true, true, true, true, true, true, false]
abbrev pkb8_8 : Array Bool := #[true, true, true, true, true, true, true, true]
abbrev pkb9_0 : Array Bool := #[false, false, false, false, false, false, false, false, false]
abbrev pkb9_1 : Array Bool := #[true, false, false, false, false, false, false, false, false]
abbrev pkb9_2 : Array Bool := #[true, true, false, false, false, false, false, false, false]
abbrev pkb9_3 : Array Bool := #[true, true, true, false, false, false, false, false, false]
abbrev pkb9_4 : Array Bool := #[true, true, true, true, false, false, false, false, false]
abbrev pkb9_5 : Array Bool := #[true, true, true, true, true, false, false, false, false]
abbrev pkb9_7 : Array Bool := #[true, true, true, true, true, true, true, false, false]
abbrev pkb9_8 : Array Bool := #[true, true, true, true, true, true, true, true, false]
abbrev pkb9_9 : Array Bool := #[true, true, true, true, true, true, true, true, true]
abbrev pkb10_0 : Array Bool := #[false, false, false, false, false, false, false, false, false, false]
abbrev pkb10_1 : Array Bool := #[true, false, false, false, false, false, false, false, false, false]
abbrev pkb10_2 : Array Bool := #[true, true, false, false, false, false, false, false, false, false]
abbrev pkb10_3 : Array Bool := #[true, true, true, false, false, false, false, false, false, false]
abbrev pkb10_7 : Array Bool := #[true, true, true, true, true, true, true, false, false, false]
abbrev pkb10_8 : Array Bool := #[true, true, true, true, true, true, true, true, false, false]
abbrev pkb10_9 : Array Bool := #[true, true, true, true, true, true, true, true, true, false]
abbrev pkb10_10 : Array Bool := #[true, true, true, true, true, true, true, true, true, true]
abbrev pkb13_0 : Array Bool := #[false, false, false, false, false, false, false, false, false, false, false, false, false]
abbrev pkb13_1 : Array Bool := #[true, false, false, false, false, false, false, false, false, false, false, false, false]
abbrev pkb13_9 : Array Bool := #[true, true, true, true, true, true, true, true, true, false, false, false, false]
abbrev pkb13_10 : Array Bool := #[true, true, true, true, true, true, true, true, true, true, false, false, false]
abbrev pkb13_11 : Array Bool := #[true, true, true, true, true, true, true, true, true, true, true, false, false]
abbrev pkb13_12 : Array Bool := #[true, true, true, true, true, true, true, true, true, true, true, true, false]
abbrev pkb13_13 : Array Bool := #[true, true, true, true, true, true, true, true, true, true, true, true, true]
abbrev pkb19_0 : Array Bool := #[false, false, false, false, false, false, false, false, false, false, false, false, false, false, false, false, false, false, false]
abbrev pkb19_1 : Array Bool := #[true, false, false, false, false, false, false, false, false, false, false, false, false, false, false, false, false, false, false]
abbrev pkb19_2 : Array Bool := #[true, true, false, false, false, false, false, false, false, false, false, false, false, false, false, false, false, false, false]
abbrev pkb19_3 : Array Bool := #[true, true, true, false, false, false, false, false, false, false, false, false, false, false, false, false, false, false, false]
abbrev pkb19_4 : Array Bool := #[true, true, true, true, false, false, false, false, false, false, false, false, false, false, false, false, false, false, false]
abbrev pkb19_5 : Array Bool := #[true, true, true, true, true, false, false, false, false, false, false, false, false, false, false, false, false, false, false]
abbrev pkb19_6 : Array Bool := #[true, true, true, true, true, true, false, false, false, false, false, false, false, false, false, false, false, false, false]
abbrev pkb19_7 : Array Bool := #[true, true, true, true, true, true, true, false, false, false, false, false, false, false, false, false, false, false, false]
abbrev pkb19_8 : Array Bool := #[true, true, true, true, true, true, true, true, false, false, false, false, false, false, false, false, false, false, false]
abbrev pkb19_9 : Array Bool := #[true, true, true, true, true, true, true, true, true, false, false, false, false, false, false, false, false, false, false]
abbrev pkb19_10 : Array Bool := #[true, true, true, true, true, true, true, true, true, true, false, false, false, false, false, false, false, false, false]
abbrev pkb19_11 : Array Bool := #[true, true, true, true, true, true, true, true, true, true, true, false, false, false, false, false, false, false, false]
abbrev pkb19_12 : Array Bool := #[true, true, true, true, true, true, true, true, true, true, true, true, false, false, false, false, false, false, false]
abbrev pkb19_13 : Array Bool := #[true, true, true, true, true, true, true, true, true, true, true, true, true, false, false, false, false, false, false]
abbrev pkb19_14 : Array Bool := #[true, true, true, true, true, true, true, true, true, true, true, true, true, true, false, false, false, false, false]
abbrev pkb19_15 : Array Bool := #[true, true, true, true, true, true, true, true, true, true, true, true, true, true, true, false, false, false, false]
abbrev pkb19_16 : Array Bool := #[true, true, true, true, true, true, true, true, true, true, true, true, true, true, true, true, false, false, false]
abbrev pkb19_17 : Array Bool := #[true, true, true, true, true, true, true, true, true, true, true, true, true, true, true, true, true, false, false]
abbrev pkb19_18 : Array Bool := #[true, true, true, true, true, true, true, true, true, true, true, true, true, true, true, true, true, true, false]
abbrev pkb19_19 : Array Bool := #[true, true, true, true, true, true, true, true, true, true, true, true, true, true, true, true, true, true, true]

end Go.Proofs.Ytcgiegkcmofhhab.PFnExactMissing
