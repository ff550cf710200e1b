-- Written for this claim by a program of this session (mkarm.py): impl.Armor, walked.
import Derived.Test.YtaejbcahfnlggaaDoorProg
import Derived.Test.YtaejbcahfnlggaaDoorDenK
import Derived.Shelf.Abstract
import Derived.Shelf.RegionOpenPlain
import Derived.Lib.Slices
import Derived.Lib.Walk
import Derived.Lib.AppendStr
import Derived.Laws.BitsLemmas
import Derived.Laws.IdiomCopy
import Derived.Lib.Bytealg
import Derived.Lib.Strings
import Derived.Lib.Builder
import Derived.Lib.UnsafeStr
import Derived.Laws.Externs
import Derived.WalkLawsBesides
import Derived.WalkSpells
import Derived.BigRegion
import Derived.Below
import Derived.Deep.Draws
import Derived.Deep.AppendLies
import Derived.Maps.AppendAt
import Derived.OwnWalk
import Derived.Laws.BytesArg
import Derived.Laws.MakeOwn
import Derived.Laws.OwnMore
import Derived.Deep.OwnRows
import Derived.Tactics
import Derived.Lib.ConvBytes
import Derived.Laws.Slices
import Derived.WalkKit
import Derived.KernelRfl
import Derived.RowKit3
import Derived.Deep.LoopGhost
import Derived.Deep.QuietTactic
import Derived.BigQuiet
import Derived.WideLaws
import Derived.Deep.DeepCutAuto
import Derived.Deep.CutBlock
import Derived.Deep.RegionHeld3
import Derived.Laws.Rows
import Derived.ArgAppend
import Derived.OrdersHeld
import Derived.RowKit
namespace Go.Proofs.YtaejbcahfnlggaaDoor.PT.Arm
open Go Go.Proofs Go.RowKit
set_option linter.unusedVariables false
set_option linter.unusedSimpArgs false
/-- a row of bytes, place by place -/
def rdI (l : List Int) (i : Int) : Int := l.getD i.toNat 0
def RowB (w : World) (A : Option Addr) (l : List Int) : Prop := ∀ i : Nat, i < l.length → ∃ ad, A = some ad ∧ w.cell? (ad.add i) = some (.int .u8 (rdI l i))
structure Aside0 (p : Prop) : Prop where mk :: (out : p)
theorem drawn_freeze (w : World) (p : Addr) (n : Nat) : (w.freeze p n).drawn = w.drawn := by
  unfold World.freeze
  split <;> rfl
theorem drawn_setCell (w : World) (p : Addr) (v : Value) : (w.setCell p v).drawn = w.drawn := by
  rfl
theorem wpList_append_own_d {P : Program} (w : World) {ops : Array Oper} {rest : List Oper} {o : Oper} {a : Act} {Q : Exit → Act → World → Prop} (hgd : o.guard = none) (s x : Operand) (t : TypeId)
    (ho : o.op = .call { callee := .builtin .append, args := #[s, x], argTypes := #[t, t] })
    (base : Nat) (e : TypeId) (i : TypeInfo) (z : Value) (size bytes : Nat) (ht : P.underlying t = some (.slice e)) (hi : P.info? e = some i) (hz : i.zero = some z)
    (hsize : i.size = size) (hby : i.bytes = bytes) (hzs : z.cells.size = size) (hsz : 0 < size)
    (v : Value) (n : Nat) (xs : List Value) (hs : a.eval s = v) (hown : w.ownsRow base e size v n xs)
    (ad : Addr) (m c : Nat) (news : List Value) (hx : a.eval x = .slice (some ad) m c) (hl : news.length = m * size) (hnews : ∀ (j : Nat) u, news[j]? = some u → w.cell? (ad.add j) = some u) (h1 : ∀ u ∈ news, u.oneCell' = true)
    (h63 : n + m ≤ maxLen) (hbytes : (n + m) * bytes ≤ 140737488355328) (hbase : base ≤ w.heap.size) (hb2 : (n + m) * bytes ≤ 35184372088832) (hn2 : n + m ≤ 35184372088832)
    (h : ∀ v' w', w'.ownsRow base e size v' (n + m) (xs ++ news) → w.grownBy w' v.ownBlock → (v' = .slice none 0 0 ↔ v = .slice none 0 0 ∧ m = 0) → w.drawn ≤ w'.drawn → wpList P ops Q rest (a.put o.dst v') w') : wpList P ops Q (o :: rest) a w := by
  obtain ⟨v', w', hr, h2, h3, h4⟩ := run_append_own (P := P) w base t o.type e i z size bytes ht hi hz hsize hby hzs hsz v n xs hown ad m c news hl hnews h1 h63 hbytes hbase
  obtain ⟨v2, w2, e2, hr2, _, hG, _⟩ := Go.Den.append_ok (P := P) (w := w) base t o.type e e i z size ht hi hz hsize hzs hsz v n xs (Go.Den.OwnR.of hown) (some ad) m c news hl (.inr ⟨ad, rfl, hnews⟩) h1 (by rw [hby]; exact hb2) hn2 hbase
  have e1 := hr.symm.trans hr2
  injection e1 with e1 e3
  subst e1 e3
  refine wpList_plain hgd fun _ hK => ?_
  unfold Oper.wp execOp
  simp only [ho, resolve, invoke, builtin, Sem.run_bind, Sem.run_pure, Result.andThen_ok, List.map_toArray, List.map_cons, List.map_nil, hs, hx, hr]
  exact hK _ _ (h v' w' h2 h3 h4 hG.drawn)
theorem BA_size : ∃ j, Tryd.prog.info? 48 = some j ∧ j.size = 2 := Option.map_eq_some_iff.1 (show (Tryd.prog.info? 48).map (·.size) = some 2 by kernel_rfl)
theorem BA_lies : liesAt Tryd.prog Tryd.prog.depth 48 (2 / Tryd.prog.cellsOf 48) 0 48 1 = true := by kernel_rfl
set_option maxHeartbeats 1000000 in
set_option maxRecDepth 100000 in
theorem BA_copyCheck_used (b : Nat) (w : World) (h0 : w.cell? ⟨b, 0, none⟩ = some (.pointer (some ⟨b, 0, none⟩))) :
    Calls Tryd.prog 50 #[.pointer (some ⟨b, 0, none⟩)] w fun e w' => e = .returned (.tuple #[]) ∧ w' = w := by
  obtain ⟨j, hj, _⟩ := BA_size
  have u37 := Tryd.underlying48
  have u35 := Tryd.underlying46
  go_enter Tryd.func50, Tryd.ntmps50
  go_wp2
  rw [Lib.run_neq_ptr_same w _ u35 hj]
  go_wp2
  go_end0
  exact ⟨rfl, rfl⟩
set_option maxHeartbeats 1000000 in
set_option maxRecDepth 100000 in
theorem BA_copyCheck_fresh (b : Nat) (w : World) (h0 : w.cell? ⟨b, 0, none⟩ = some (.pointer none)) (hsh : w.shape? b = some (48, 2)) (hfz : w.frozen? ⟨b, 0, none⟩ = false) :
    Calls Tryd.prog 50 #[.pointer (some ⟨b, 0, none⟩)] w fun e w' => e = .returned (.tuple #[]) ∧ w' = w.setCell ⟨b, 0, none⟩ (.pointer (some ⟨b, 0, none⟩)) := by
  obtain ⟨j, hj, hjs⟩ := BA_size
  have u37 := Tryd.underlying48
  have u35 := Tryd.underlying46
  have u49 := Tryd.underlying82
  go_enter Tryd.func50, Tryd.ntmps50
  go_wp2
  rw [Lib.run_to_unsafe w ⟨b, 0, none⟩ u35 u49 hj (by rw [hjs]; decide) hsh (Nat.zero_lt_succ 1)]
  simp only [Result.andThen]
  rw [Oper.upon_value]
  go_wp2
  rw [run_callFunc_extern Tryd.func62 (by kernel_rfl) (by kernel_rfl) (by kernel_rfl) (e := Extern.AbiNoEscape.same) (by kernel_rfl)]
  rw [Lib.run_noEscape]
  simp only [Result.andThen]
  rw [Oper.upon_value]
  go_wp2
  rw [Lib.run_from_unsafe w ⟨b, 0, none⟩ u49 u35 hj hsh BA_lies]
  simp only [Result.andThen]
  rw [Oper.upon_value]
  go_wp2
  go_end0
  exact ⟨rfl, rfl⟩
theorem BA_copyCheck (B b : Nat) (bs : List Value) (w : World) (h : Lib.IsBuilder 48 5 B b bs w) :
    Calls Tryd.prog 50 #[.pointer (some ⟨b, 0, none⟩)] w fun e w' => e = .returned (.tuple #[]) ∧ (Lib.BuilderAt 48 5 B b (.pointer (some ⟨b, 0, none⟩)) bs w' ∧ Go.RowKit.Below B w w' ∧ w.drawn ≤ w'.drawn) := by
  rcases h with h | h
  · refine (BA_copyCheck_fresh b w h.cell0 h.shape h.frozen0).mono ?_
    rintro e w' ⟨rfl, rfl⟩
    exact ⟨rfl, h.used _, (Go.RowKit.Below.refl B w).setCell (p := ⟨b, 0, none⟩) h.1 _, Nat.le_of_eq (drawn_setCell _ _ _).symm⟩
  · refine (BA_copyCheck_used b w h.cell0).mono ?_
    rintro e w' ⟨rfl, rfl⟩
    exact ⟨rfl, h, Go.RowKit.Below.refl B _, Nat.le_refl _⟩
set_option maxHeartbeats 2000000 in
set_option maxRecDepth 100000 in
theorem BA_WriteByte (B b : Nat) (bs : List Value) (c : Int) (w : World) (h : Lib.IsBuilder 48 5 B b bs w) (hlen : bs.length + 1 ≤ 1000000) (hsize : B ≤ w.heap.size) :
    Calls Tryd.prog 34 #[.pointer (some ⟨b, 0, none⟩), .int .u8 c] w fun e w' => e = .returned .nilIface ∧ (Lib.BuilderAt 48 5 B b (.pointer (some ⟨b, 0, none⟩)) (bs ++ [.int .u8 c]) w' ∧ Go.RowKit.Below B w w' ∧ w.drawn ≤ w'.drawn) := by
  obtain ⟨i0, hi, hz0, hz1, hz2⟩ := info_parts (show (Tryd.prog.info? 5).map (fun i => (i.zero, i.size, i.bytes)) = some (some (.int .u8 0), 1, 1) by kernel_rfl)
  have u37 := Tryd.underlying48
  have u35 := Tryd.underlying46
  have u26 := Tryd.underlying40
  have u5 := Tryd.underlying5
  have e40 : ∀ args w, (callFunc 50 args).run Tryd.prog w = .ok (.enter 50 args) w := enters_of Tryd.func50 (by kernel_rfl) rfl
  go_enter Tryd.func34, Tryd.ntmps34
  go_wp2_with (go_at_fn 50; refine (BA_copyCheck B b bs _ h).mono ?_)
  rintro e w1 ⟨rfl, h1, hb1, hd1⟩
  obtain ⟨hB, v, hbk, hown, hne⟩ := h1
  have c0 : w1.cell? ⟨b, 0, none⟩ = some (.pointer (some ⟨b, 0, none⟩)) := by rw [Lib.cell_of_heap hbk]; rfl
  have c1 : w1.cell? ⟨b, 1, none⟩ = some v := by rw [Lib.cell_of_heap hbk]; rfl
  go_wp2_with (at_builtin; refine wpList_append_own_d _ rfl _ _ 40 rfl B 5 i0 (.int .u8 0) 1 1 u26 hi hz0 hz1 hz2 rfl (by decide) _ _ _ rfl (hown.alloc _) ⟨w1.heap.size, 0, none⟩ 1 1 [.int .u8 c] rfl rfl ?c1 ?c2 ?c3 ?c4 ?c5 ?c6 ?c7 ?_)
  case c1 =>
    intro j u hj
    match j, hj with
    | 0, hj => simp at hj; subst hj; simp [Addr.add]
  case c2 => intro u hu; simp at hu; subst hu; rfl
  case c3 => unfold maxLen; omega
  case c4 => omega
  case c6 => omega
  case c7 => omega
  case c5 => have := hb1.size; simp; omega
  intro v' w2 hown' hgrow _ hd2
  have hlt : b < w1.heap.size := by
    rcases Nat.lt_or_ge b w1.heap.size with h' | h'
    · exact h'
    · simp [Array.getElem?_eq_none h'] at hbk
  have hb2 : w2.heap[b]? = some (.cells #[.pointer (some ⟨b, 0, none⟩), v] 48 (0, 0)) := by
    rw [hgrow.block b (by simp; omega) (fun e => hne e.symm), Lib.alloc_old w1 _ b hlt]
    exact hbk
  have d0 : w2.cell? ⟨b, 0, none⟩ = some (.pointer (some ⟨b, 0, none⟩)) := by rw [Lib.cell_of_heap hb2]; rfl
  have d1 : w2.cell? ⟨b, 1, none⟩ = some v := by rw [Lib.cell_of_heap hb2]; rfl
  have f1 : w2.frozen? ⟨b, 1, none⟩ = false := Lib.frozen_of_heap hb2 1
  obtain ⟨g, cap, rfl⟩ : ∃ g cap, v' = .slice (some ⟨g, 0, none⟩) (bs.length + 1) cap := by
    rcases hown'.2 with ⟨_, h0⟩ | ⟨g, cap, cur, hv, _⟩
    · omega
    · exact ⟨g, cap, hv⟩
  go_wp2
  go_ret
  refine ⟨rfl, ?_, ?_⟩
  · exact Lib.BuilderAt.put (T := 48) (e := 5) hB hb2 (bs' := bs ++ [.int .u8 c]) (by simpa using hown') (by decide)
  · refine ⟨?_, Nat.le_trans hd1 (Nat.le_trans hd2 (Nat.le_of_eq (drawn_setCell _ _ _).symm))⟩
    exact ((hb1.alloc (by have := hb1.size; omega) _).grown hgrow (by have := hb1.size; simp; omega) (fun k hk => (hown.lt k hk).1)).setCell (p := ⟨b, 1, none⟩) hB _

set_option maxHeartbeats 1000000 in
set_option maxRecDepth 100000 in
theorem BA_String (B b : Nat) (l : List UInt8) (w : World) (h : Lib.IsBuilder 48 5 B b (Lib.byteCells l) w) (h0 : l ≠ []) :
    Calls Tryd.prog 35 #[.pointer (some ⟨b, 0, none⟩)] w fun e w' => e = .returned (.string ⟨l.toArray⟩) ∧ Go.RowKit.Below B w w' ∧ w.drawn ≤ w'.drawn := by
  obtain ⟨p, hB, v, hbk, hown, hne⟩ : ∃ p, Lib.BuilderAt 48 5 B b p (Lib.byteCells l) w := by
    rcases h with h | h
    · exact ⟨_, h⟩
    · exact ⟨_, h⟩
  have hl0 : l.length ≠ 0 := by simpa using h0
  rw [Lib.byteCells_length] at hown
  obtain ⟨g, cap, cur, rfl, hbg, hg, hnc, hcm, hcs, htake⟩ : ∃ g cap cur, v = .slice (some ⟨g, 0, none⟩) l.length cap ∧ B ≤ g ∧ w.heap[g]? = some (.cells cur 5 (0, 0)) ∧ l.length ≤ cap ∧ cap ≤ maxLen ∧ cur.size = cap * 1 ∧ cur.toList.take (l.length * 1) = Lib.byteCells l := by
    rcases hown.2 with ⟨_, hz⟩ | ⟨g, cap, cur, hv, r⟩
    · exact absurd hz hl0
    · exact ⟨g, cap, cur, hv, r⟩
  have c1 : w.drew.cell? ⟨b, 1, none⟩ = some (.slice (some ⟨g, 0, none⟩) l.length cap) := by
    have : w.drew.heap[b]? = some (.cells #[p, .slice (some ⟨g, 0, none⟩) l.length cap] 48 (0, 0)) := hbk
    rw [Lib.cell_of_heap this]; rfl
  have hSD : (Builtin.unsafeSliceData_ #[40] 62 #[.slice (some ⟨g, 0, none⟩) l.length cap]).run Tryd.prog w.drew = .ok (.pointer (some ⟨g, 0, none⟩)) w.drew :=
    Lib.run_unsafeSliceData_row _ _ _ _ _ _ (by omega)
  have hUS : (Builtin.unsafeString_ #[62, 3] 9 #[.pointer (some ⟨g, 0, none⟩), .int .i64 l.length]).run Tryd.prog w.drew = .ok (.string ⟨l.toArray⟩) (w.drew.freeze ⟨g, 0, none⟩ l.length) := by
    refine Lib.run_unsafeString_row w.drew 62 3 9 5 Tryd.underlying62 (by kernel_rfl) g cur.size (by have hg' : w.drew.heap[g]? = some (.cells cur 5 (0, 0)) := hg; simp [World.shape?, hg']) l h0 (by omega) (by unfold maxLen at hcm; omega) ?_
    intro j x hx
    have := hown.cells (g := g) rfl j (.int .u8 x.toNat) (by simp [Lib.byteCells, hx])
    exact this
  have u37 := Tryd.underlying48
  have u35 := Tryd.underlying46
  have u26 := Tryd.underlying40
  have u46 := Tryd.underlying62
  have mixed : Tryd.prog.follows .mixedOrders = true := by kernel_rfl
  go_enter Tryd.func35, Tryd.ntmps35
  go_wp2
  go_region_o
  all_goals (go_wp2; go_ret; exact ⟨rfl, Lib.below_freeze (Go.RowKit.Below.drew (Go.RowKit.Below.refl B w)) (p := ⟨g, 0, none⟩) hbg _, Nat.le_trans (Nat.le_succ _) (Nat.le_of_eq (drawn_freeze w.drew _ _).symm)⟩)
set_option maxHeartbeats 2000000 in
set_option maxRecDepth 100000 in
theorem BA_String_nil (B b : Nat) (p : Value) (w : World) (hbk : w.heap[b]? = some (.cells #[p, .slice none 0 0] 48 (0, 0))) :
    Calls Tryd.prog 35 #[.pointer (some ⟨b, 0, none⟩)] w fun e w' => e = .returned (.string ⟨#[]⟩) ∧ Go.RowKit.Below B w w' ∧ w.drawn ≤ w'.drawn := by
  have hUS : ∀ (W : World) (q : Option Addr), (Builtin.unsafeString_ #[62, 3] 9 #[.pointer q, .int .i64 0]).run Tryd.prog W = .ok (.string .empty) W := fun W q => Lib.run_unsafeString_none W _ _ _ q
  have c1 : w.drew.cell? ⟨b, 1, none⟩ = some (.slice none 0 0) := by
    have : w.drew.heap[b]? = some (.cells #[p, .slice none 0 0] 48 (0, 0)) := hbk
    rw [Lib.cell_of_heap this]; rfl
  have hSD : (Builtin.unsafeSliceData_ #[40] 62 #[.slice none 0 0]).run Tryd.prog w.drew = .ok (.pointer none) w.drew := rfl
  have u37 := Tryd.underlying48
  have u35 := Tryd.underlying46
  have u26 := Tryd.underlying40
  have u46 := Tryd.underlying62
  have mixed : Tryd.prog.follows .mixedOrders = true := by kernel_rfl
  go_enter Tryd.func35, Tryd.ntmps35
  go_wp2
  go_region_o
  all_goals (go_wp2; go_ret; exact ⟨rfl, Go.RowKit.Below.drew (Go.RowKit.Below.refl B w), Nat.le_succ _⟩)
def yarm : ByteArray := ⟨#[48, 49, 50, 51, 52, 53, 54, 55, 56, 57, 97, 98, 99, 100, 101, 102, 103, 104, 105, 106, 107, 108, 109, 110, 111, 112, 113, 114, 115, 116, 117, 118]⟩
theorem and31 (x : Int) : 0 ≤ bits .and .i64 x 31 ∧ bits .and .i64 x 31 < 32 := by
  simp only [bits, IntKind.wrap_i64]
  have h := Nat.and_le_right (n := (BitVec.ofInt IntKind.i64.bits x).toNat) (m := (BitVec.ofInt IntKind.i64.bits 31).toNat)
  rw [← BitVec.toNat_and] at h
  have e : (BitVec.ofInt IntKind.i64.bits 31).toNat = 31 := by decide
  rw [e] at h
  omega
def chB (x : Int) : UInt8 := yarm[(Go.bits .and .i64 x 31).toNat]'(show _ < 32 by have := and31 x; omega)
theorem byteCells_snoc (l : List UInt8) (c : UInt8) : Lib.byteCells (l ++ [c]) = Lib.byteCells l ++ [.int .u8 c.toNat] := by simp [Lib.byteCells]
theorem below_step' {B : Nat} {w w1 w2 : World} (h : Go.RowKit.Below B w w1) (k : Go.RowKit.Below B w1 w2) : Go.RowKit.Below B w w2 := h.trans k
structure InB (W : World) (l : List UInt8) (w : World) : Prop where
  a : Lib.IsBuilder 48 5 W.heap.size W.heap.size (Lib.byteCells l) w
  n : l = [] → ∃ p, w.heap[W.heap.size]? = some (.cells #[p, .slice none 0 0] 48 (0, 0))
  b : Go.RowKit.Below W.heap.size W w
  d : W.drawn ≤ w.drawn
def arF (v : Int) : Nat → Int → List UInt8 → Int × List UInt8
  | 0, b, l => (b, l)
  | n + 1, b, l => if 5 ≤ b then arF v n (b - 5) (l ++ [chB (v / 2 ^ min (b - 5).toNat 64)]) else (b, l)
theorem arF_step (v : Int) (m : Nat) (b : Int) (l : List UInt8) (h : 5 ≤ b) : arF v (m + 1) b l = arF v m (b - 5) (l ++ [chB (v / 2 ^ min (b - 5).toNat 64)]) := by
  conv => lhs; unfold arF
  rw [if_pos h]
theorem arF_stop (v : Int) (m : Nat) (b : Int) (l : List UInt8) (h : ¬ 5 ≤ b) : arF v m b l = (b, l) := by
  cases m with
  | zero => rfl
  | succ m => unfold arF; rw [if_neg h]
structure AS where
  v : Int
  b : Int
  l : List UInt8
def arS (s : AS) (x : Int) : AS :=
  let v := Go.bits .or .i64 (wrap64 (s.v * 256)) (wrap64 x)
  let p := arF v 3 (s.b + 8) s.l
  ⟨Go.bits .and .i64 v (wrap64 (wrap64 (2 ^ min p.1.toNat 64) - 1)), p.1, p.2⟩
theorem foldl_stepA (l : List Int) (k : Nat) (h : k < l.length) (s : AS) : (l.take (k + 1)).foldl arS s = arS ((l.take k).foldl arS s) (rdI l (k : Int)) := by
  rw [List.take_succ_eq_append_getElem h, List.foldl_append]
  unfold rdI
  rw [Int.toNat_natCast, List.getD_eq_getElem?_getD, List.getElem?_eq_getElem h]; rfl
def armorL (l0 : List Int) : List UInt8 :=
  let s := l0.foldl arS ⟨0, 0, []⟩
  if s.b > 0 then s.l ++ [chB (wrap64 (s.v * 2 ^ min (5 - s.b).toNat 64))] else s.l
set_option maxHeartbeats 8000000 in
set_option maxRecDepth 100000 in
theorem armor (A0 : Option Addr) (c0 : Nat) (l0 : List Int) (w : World) (hr0 : RowB w A0 l0) (hc0 : l0.length ≤ c0) (hl : ¬ (l0.length : Int) > 20000) :
    Calls Tryd.prog 22 #[.slice A0 l0.length c0] w fun e w' => e = .returned (.string ⟨(armorL l0).toArray⟩) ∧ Go.RowKit.Below w.heap.size w w' ∧ w.drawn ≤ w'.drawn := by
  have HR0 := Aside0.mk hr0
  clear hr0
  have b1 : decide (20000 < (l0.length : Int)) = false := decide_eq_false hl
  have b2 : decide (20000 < l0.length) = false := decide_eq_false (by omega)
  go_enter Tryd.func22, Tryd.ntmps22
  go_wp2
  go_loopw [4, 5, 13] (fun v4 v5 v13 w' => ∃ k : Nat, k ≤ l0.length ∧ v4 = .int .i64 ((l0.take k).foldl arS ⟨0, 0, []⟩).v ∧ v5 = .int .i64 ((l0.take k).foldl arS ⟨0, 0, []⟩).b ∧ v13 = .int .i64 k ∧ Aside0 (((l0.take k).foldl arS ⟨0, 0, []⟩).l.length ≤ 3 * k) ∧ Aside0 (0 ≤ ((l0.take k).foldl arS ⟨0, 0, []⟩).b ∧ ((l0.take k).foldl arS ⟨0, 0, []⟩).b < 5) ∧ Aside0 (InB w ((l0.take k).foldl arS ⟨0, 0, []⟩).l w')) (fun _ _ v13 _ => l0.length - (intOf v13).toNat)
  case atStart =>
    refine ⟨0, Nat.zero_le _, rfl, rfl, rfl, ⟨by rw [List.take_zero]; exact Nat.le_refl _⟩, ⟨by rw [List.take_zero]; exact ⟨by decide, by decide⟩⟩, ⟨?_, ?_, ?_, Nat.le_refl _⟩⟩
    · have z := heap_alloc_new w (.cells #[.pointer none, .slice none 0 0] 48 (0, 0))
      exact Or.inl ⟨Nat.le_refl _, .slice none 0 0, z, by rw [List.take_zero]; exact World.ownsRow_nil _ _ _ _, by simp [Value.ownBlock]⟩
    · intro _
      exact ⟨_, heap_alloc_new w (.cells #[.pointer none, .slice none 0 0] 48 (0, 0))⟩
    · exact (Go.RowKit.Below.refl _ w).alloc (Nat.le_refl _) _
  case round =>
    obtain ⟨k, hk, rfl, rfl, rfl, HLn, HB5, HI⟩ := hrel
    by_cases hlt : k < l0.length
    · obtain ⟨ad, ead, hx0⟩ := HR0.out k (by omega)
      cases ead
      replace hx0 := (HI.out.b.cell (World.block_lt_of_cell? w _ hx0)).trans hx0
      have q := eq_true (show (k : Int) < l0.length by omega)
      have HF := Aside0.mk (foldl_stepA l0 k hlt ⟨0, 0, []⟩)
      generalize (l0.take k).foldl arS ⟨0, 0, []⟩ = s at *
      go_wp2
      have HW := Aside0.mk (show wrap64 (s.b + 8) = s.b + 8 from by have := HB5.out; unfold wrap64; omega)
      go_loopw [5] (fun v5 w' => ∃ (n : Nat) (b' : Int) (l' : List UInt8), v5 = .int .i64 b' ∧ n ≤ 3 ∧ Aside0 (0 ≤ b' ∧ b' < 5 * n + 5) ∧ Aside0 (arF (Go.bits .or .i64 (wrap64 (s.v * 256)) (wrap64 (rdI l0 k))) n b' l' = arF (Go.bits .or .i64 (wrap64 (s.v * 256)) (wrap64 (rdI l0 k))) 3 (s.b + 8) s.l) ∧ Aside0 (l'.length ≤ s.l.length + 3 - n) ∧ Aside0 (InB w l' w')) (fun v5 _ => (intOf v5).toNat)
      case atStart => exact ⟨3, s.b + 8, s.l, by rw [HW.out], Nat.le_refl _, ⟨by have := HB5.out; omega⟩, ⟨rfl⟩, ⟨by omega⟩, HI⟩
      case round =>
        obtain ⟨n, b', l', rfl, hn, HB, HA, HL, HI1⟩ := hrel
        by_cases h5 : 5 ≤ b'
        · obtain ⟨m, rfl⟩ : ∃ m, n = m + 1 := ⟨n - 1, by have := HB.out; omega⟩
          have HA1 := Aside0.mk (show arF (Go.bits .or .i64 (wrap64 (s.v * 256)) (wrap64 (rdI l0 k))) m (b' - 5) (l' ++ [chB ((Go.bits .or .i64 (wrap64 (s.v * 256)) (wrap64 (rdI l0 k))) / 2 ^ min (b' - 5).toNat 64)]) = arF (Go.bits .or .i64 (wrap64 (s.v * 256)) (wrap64 (rdI l0 k))) 3 (s.b + 8) s.l from by rw [← HA.out, arF_step _ _ _ _ h5])
          have q5 := eq_true h5
          have HW1 := (show wrap64 (b' - 5) = b' - 5 from by have := HB.out; unfold wrap64; omega)
          have hq := and31 ((Go.bits .or .i64 (wrap64 (s.v * 256)) (wrap64 (rdI l0 k))) / 2 ^ min (b' - 5).toNat 64)
          have hq1 := eq_true hq.1
          have hq2 := eq_true hq.2
          have hq3 := eq_true (show 0 ≤ b' - 5 by omega)
          clear hq
          have HN := Aside0.mk (show (Lib.byteCells l').length + 1 ≤ 1000000 by rw [Lib.byteCells_length]; have := HL.out; have := HLn.out; omega)
          go_wp2_with (go_at_call 34; refine (BA_WriteByte w.heap.size w.heap.size (Lib.byteCells l') _ _ HI1.out.a HN.out HI1.out.b.size).mono ?_; rintro e w1 ⟨rfl, hb, hbl, hbd⟩; have HI2 := Aside0.mk (show InB w (l' ++ [chB ((Go.bits .or .i64 (wrap64 (s.v * 256)) (wrap64 (rdI l0 k))) / 2 ^ min (b' - 5).toNat 64)]) w1 from ⟨Or.inr (by rw [byteCells_snoc]; exact hb), fun z => absurd z (by simp), below_step' HI1.out.b hbl, Nat.le_trans HI1.out.d hbd⟩); clear hb hbl hbd)
          go_roundw
          case rel => exact ⟨m, b' - 5, _, rfl, by omega, ⟨by have := HB.out; omega⟩, HA1, ⟨by have := HL.out; simp; omega⟩, HI2⟩
          case measure => have := HB.out; simp [intOf]; omega
        · have HE := Aside0.mk (show arF (Go.bits .or .i64 (wrap64 (s.v * 256)) (wrap64 (rdI l0 k))) 3 (s.b + 8) s.l = (b', l') from by rw [← HA.out, arF_stop _ _ _ _ h5])
          have q5 := eq_false h5
          have hsh := eq_true (show 0 ≤ b' from HB.out.1)
          have HS := Aside0.mk (show arS s (rdI l0 k) = ⟨Go.bits .and .i64 (Go.bits .or .i64 (wrap64 (s.v * 256)) (wrap64 (rdI l0 k))) (wrap64 (wrap64 (2 ^ min b'.toNat 64) - 1)), b', l'⟩ from by simp only [arS]; rw [HE.out])
          go_wp2
          refine ⟨⟨k + 1, by omega, ?_, ?_, by go_num, ⟨?_⟩, ⟨?_⟩, ⟨?_⟩⟩, ?_⟩
          · rw [HF.out, HS.out]
          · rw [HF.out, HS.out]
          · rw [HF.out, HS.out]; have := HL.out; have := HLn.out; show l'.length ≤ _; omega
          · rw [HF.out, HS.out]; have := HB.out; exact ⟨by show 0 ≤ b'; omega, by show b' < 5; omega⟩
          · rw [HF.out, HS.out]; exact HI1.out
          · simp [intOf]; omega
    · obtain rfl : k = l0.length := by omega
      rw [List.take_length] at *
      have q := decide_eq_false (show ¬ (l0.length : Int) < (l0.length : Int) by omega)
      generalize hs : l0.foldl arS ⟨0, 0, []⟩ = s at *
      have HS := Aside0.mk hs
      clear hs
      by_cases hp : 0 < s.b
      · have qp := eq_true hp
        have hW := (show wrap64 (5 - s.b) = 5 - s.b from by have := HB5.out; unfold wrap64; omega)
        have hq3 := eq_true (show 0 ≤ 5 - s.b by have := HB5.out; omega)
        have hq4 := eq_true (show s.b ≤ 5 by have := HB5.out; omega)
        have hq := and31 (wrap64 (s.v * 2 ^ min (5 - s.b).toNat 64))
        have hq1 := eq_true hq.1
        have hq2 := eq_true hq.2
        clear hq
        have HN := Aside0.mk (show (Lib.byteCells s.l).length + 1 ≤ 1000000 by rw [Lib.byteCells_length]; have := HLn.out; omega)
        have HE := Aside0.mk (show armorL l0 = s.l ++ [chB (wrap64 (s.v * 2 ^ min (5 - s.b).toNat 64))] by unfold armorL; rw [HS.out]; exact if_pos hp)
        go_wp2_with (first | (go_at_call 34; refine (BA_WriteByte w.heap.size w.heap.size (Lib.byteCells s.l) _ _ HI.out.a HN.out HI.out.b.size).mono ?_; rintro e w1 ⟨rfl, hb, hbl, hbd⟩; have HI2 := Aside0.mk (show InB w (s.l ++ [chB (wrap64 (s.v * 2 ^ min (5 - s.b).toNat 64))]) w1 from ⟨Or.inr (by rw [byteCells_snoc]; exact hb), fun z => absurd z (by simp), below_step' HI.out.b hbl, Nat.le_trans HI.out.d hbd⟩); clear hb hbl hbd) | (go_at_call 35; refine (BA_String w.heap.size w.heap.size (s.l ++ [chB (wrap64 (s.v * 2 ^ min (5 - s.b).toNat 64))]) _ HI2.out.a (by simp)).mono ?_; rintro e w2 ⟨rfl, hbl, hbd⟩; have HB2 := Aside0.mk (And.intro (below_step' HI2.out.b hbl) (Nat.le_trans HI2.out.d hbd)); clear hbl hbd))
        go_ret
        exact ⟨by rw [HE.out]; rfl, HB2.out⟩
      · have qp := eq_false hp
        have HE := Aside0.mk (show armorL l0 = s.l by unfold armorL; rw [HS.out]; exact if_neg hp)
        by_cases hn : s.l = []
        · obtain ⟨p, hbk⟩ := HI.out.n hn
          have HK := Aside0.mk hbk
          clear hbk
          go_wp2_with (go_at_call 35; refine (BA_String_nil w.heap.size w.heap.size p _ HK.out).mono ?_; rintro e w2 ⟨rfl, hbl, hbd⟩; have HB2 := Aside0.mk (And.intro (below_step' HI.out.b hbl) (Nat.le_trans HI.out.d hbd)); clear hbl hbd)
          go_ret
          exact ⟨by rw [HE.out, hn]; rfl, HB2.out⟩
        · go_wp2_with (go_at_call 35; refine (BA_String w.heap.size w.heap.size s.l _ HI.out.a hn).mono ?_; rintro e w2 ⟨rfl, hbl, hbd⟩; have HB2 := Aside0.mk (And.intro (below_step' HI.out.b hbl) (Nat.le_trans HI.out.d hbd)); clear hbl hbd)
          go_ret
          exact ⟨by rw [HE.out]; rfl, HB2.out⟩
end Go.Proofs.YtaejbcahfnlggaaDoor.PT.Arm
