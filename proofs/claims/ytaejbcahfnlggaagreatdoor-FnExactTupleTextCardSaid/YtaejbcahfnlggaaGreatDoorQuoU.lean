-- Written for this claim by a program of this session (mkquo.py): impl.yquote, walked through strings.Replacer.
import Derived.Test.YtaejbcahfnlggaaGreatDoorProg
import Derived.Test.YtaejbcahfnlggaaGreatDoorDenK
import Derived.Tactics
import Derived.Tactics2
import Derived.Defers
import Derived.Laws.Pointers
import Derived.Laws.LoneSync
import Derived.RegionTactic
import Derived.RegionCalls
import Derived.ChangeAlike
import Derived.Lib.Walk
import Derived.WalkKit
import Derived.LoopN
import Derived.OwnWalk
import Derived.Laws.MakeOwn
import Derived.Laws.CopyRow
import Derived.Laws.BytesString
import Derived.Lib.Slices
import Derived.Laws.Externs
import Derived.Shelf.RegionOpenPlain
import Derived.Lib.Bytealg
import Derived.Lib.ConvBytes
import Derived.Lib.Builder
namespace Go.Proofs.YtaejbcahfnlggaaGreatDoor.PU
open Go Go.Proofs Go.RowKit
set_option linter.unusedVariables false
set_option linter.unusedSimpArgs false
set_option linter.unnecessarySimpa false
set_option maxHeartbeats 8000000
set_option maxRecDepth 100000
/-- a text in quotes -/
def quoteS (s : ByteArray) : ByteArray := ⟨(34 :: ((s.data.toList.flatMap fun b => if b = 34 ∨ b = 92 then [92, b] else [b]) ++ [34])).toArray⟩
namespace Once
theorem disable (w : World) : (callFunc 187 #[]).run Tryz.prog w = .ok (.value (.tuple #[])) w := run_call_mark0 Tryz.func187 (by kernel_rfl) (by kernel_rfl) (by kernel_rfl) .disable (by kernel_rfl) w
theorem enable (w : World) : (callFunc 189 #[]).run Tryz.prog w = .ok (.value (.tuple #[])) w := run_call_mark0 Tryz.func189 (by kernel_rfl) (by kernel_rfl) (by kernel_rfl) .enable (by kernel_rfl) w
theorem acquire (a : Addr) (w : World) : (callFunc 190 #[.pointer (some a)]).run Tryz.prog w = .ok (.value (.tuple #[])) w := run_call_marked Tryz.func190 (by kernel_rfl) (by kernel_rfl) (by kernel_rfl) .acquire (by kernel_rfl) a w
theorem releaseMerge (a : Addr) (w : World) : (callFunc 192 #[.pointer (some a)]).run Tryz.prog w = .ok (.value (.tuple #[])) w := run_call_marked Tryz.func192 (by kernel_rfl) (by kernel_rfl) (by kernel_rfl) .releaseMerge (by kernel_rfl) a w

/-- '(*sync/atomic.Bool).Store(true)', ENTERED AS A DEFERRED CALL: the cell holds 1. -/
theorem store_deferred (a : Addr) (x : Value) (u : FrameMode) (w : World) (hc : w.cell? a = some x) (hz : w.frozen? a = false) :
    CallsD Tryz.prog 169 #[.pointer (some a), .bool true] u w fun e u' w' => u' = u ∧ (e = .returned (.tuple #[]) ∧ w' = w.drew.setCell a (.int .u32 1)) := by
  have hc' : w.drew.cell? a = some x := by go_simp
  have hz' : w.drew.frozen? a = false := by go_simp
  have hst := run_call_store (P := Tryz.prog) Tryz.func181 (by kernel_rfl) (by kernel_rfl) (by kernel_rfl) (by kernel_rfl) (k := .u32) (y := 1) hc' hz'
  go_enter_d Tryz.func169, Tryz.ntmps169
  go_wp2
  go_region_calls
  all_goals (go_end0; exact ⟨rfl, rfl⟩)

/-- '(*sync.Mutex).Unlock', ENTERED AS A DEFERRED CALL, the lock held and nobody waiting (state 1): state 0. -/
theorem unlock_deferred (a : Addr) (u : FrameMode) (w : World) (hc : w.cell? a = some (.int .i32 1)) (hz : w.frozen? a = false) :
    CallsD Tryz.prog 168 #[.pointer (some a)] u w fun e u' w' => u' = u ∧ (e = .returned (.tuple #[]) ∧ w' = w.setCell a (.int .i32 0)) := by
  have hd := disable
  have he := enable
  have hr := releaseMerge
  have hadd := run_call_add (P := Tryz.prog) Tryz.func193 (by kernel_rfl) (by kernel_rfl) (by kernel_rfl) .i32 (by kernel_rfl) (y := -1) (s := 0) hc hz (by simp [go_sem]; rfl)
  have hcv := run_convert_to_unsafe (P := Tryz.prog) (src := 216) (dst := 160) Tryz.underlying216 Tryz.underlying160 (by kernel_rfl) hc
  go_enter_d Tryz.func168, Tryz.ntmps168
  go_wp2
  go_end0
  go_wp2
  go_end0
  exact ⟨rfl, rfl⟩

/-- '(*sync.Mutex).Lock', the lock free (state 0): state 1. A CONTRACT, to be met at the call ('go_at_call 9'). -/
theorem lock_free (a : Addr) (w : World) (hc : w.cell? a = some (.int .i32 0)) (hz : w.frozen? a = false) :
    Calls Tryz.prog 167 #[.pointer (some a)] w fun e w' => e = .returned (.tuple #[]) ∧ w' = w.setCell a (.int .i32 1) := by
  have hd := disable
  have he := enable
  have ha := acquire
  have hcas := run_call_cas_hit (P := Tryz.prog) Tryz.func188 (by kernel_rfl) (by kernel_rfl) (by kernel_rfl) .i32 (by kernel_rfl) (y := 1) hc hz
  have hc' : (w.setCell a (.int .i32 1)).cell? a = some (.int .i32 1) := World.cell?_setCell_same w a _ hc
  have hcv := run_convert_to_unsafe (P := Tryz.prog) (src := 216) (dst := 160) Tryz.underlying216 Tryz.underlying160 (by kernel_rfl) hc'
  go_enter Tryz.func167, Tryz.ntmps167
  go_wp2
  first | go_end0 | (simp only [Exit.inBlock, Exit.then]; refine bodyPost_ret (results_none rfl _ _ _) rfl ?_) | refine bodyPost_ret (results_none rfl _ _ _) rfl ?_
  go_wp2
  go_end0
  exact ⟨rfl, rfl⟩
end Once
namespace Yq
structure Aside0 (p : Prop) : Prop where mk :: (out : p)
structure IsR (b t cap x c1 y c2 : Nat) (w : World) : Prop where
  top : w.cell? ⟨b, 256, none⟩ = some (.slice (some ⟨t, 0, none⟩) 2 cap)
  t0 : w.cell? ⟨t, 0, none⟩ = some (.string ⟨#[34]⟩)
  t1 : w.cell? ⟨t, 1, none⟩ = some (.string ⟨#[92]⟩)
  q : w.cell? ⟨b, 34, none⟩ = some (.slice (some ⟨x, 0, none⟩) 2 c1)
  q0 : w.cell? ⟨x, 0, none⟩ = some (.int .u8 92)
  q1 : w.cell? ⟨x, 1, none⟩ = some (.int .u8 34)
  s : w.cell? ⟨b, 92, none⟩ = some (.slice (some ⟨y, 0, none⟩) 2 c2)
  s0 : w.cell? ⟨y, 0, none⟩ = some (.int .u8 92)
  s1 : w.cell? ⟨y, 1, none⟩ = some (.int .u8 92)
  other : ∀ k : Nat, k < 256 → k ≠ 34 → k ≠ 92 → w.cell? ⟨b, k, none⟩ = some (.slice none 0 0)
/-- a byte, escaped -/
def esc (b : UInt8) : List UInt8 := if b = 34 ∨ b = 92 then [92, b] else [b]
def body (l : List UInt8) : List UInt8 := l.flatMap esc
theorem body_snoc (l : List UInt8) (b : UInt8) : body (l ++ [b]) = body l ++ esc b := by simp [body]
def bL (s : ByteArray) (k : Nat) : List UInt8 := body (s.data.toList.take k)
theorem bL_step (s : ByteArray) (k : Nat) (h : k < s.size) : bL s (k + 1) = bL s k ++ esc (s[k]'h) := by
  unfold bL
  rw [List.take_succ_eq_append_getElem (by simpa using h), body_snoc]
  rfl
theorem esc_len (b : UInt8) : 1 ≤ (esc b).length ∧ (esc b).length ≤ 2 := by
  unfold esc; split <;> simp
theorem bL_len (s : ByteArray) : ∀ k, k ≤ s.size → k ≤ (bL s k).length ∧ (bL s k).length ≤ 2 * k
  | 0, _ => by simp [bL, body]
  | k + 1, h => by
    have ih := bL_len s k (by omega)
    have e := esc_len (s[k]'(by omega))
    rw [bL_step s k (by omega), List.length_append]
    omega
theorem esc34 : esc 34 = [92, 34] := rfl
theorem esc92 : esc 92 = [92, 92] := rfl
theorem esc_other {c : UInt8} (h1 : ¬ c = 34) (h2 : ¬ c = 92) : esc c = [c] := by unfold esc; rw [if_neg (by simp [h1, h2])]
theorem bL_mono (s : ByteArray) (k : Nat) (h : k < s.size) : (bL s (k + 1)).length ≤ (bL s s.size).length := by
  have key : ∀ d, k + 1 + d ≤ s.size → (bL s (k + 1)).length ≤ (bL s (k + 1 + d)).length := by
    intro d
    induction d with
    | zero => intro _; exact Nat.le_refl _
    | succ d ih =>
      intro hd
      have h1 := ih (by omega)
      have h2 := bL_step s (k + 1 + d) (by omega)
      rw [show k + 1 + (d + 1) = k + 1 + d + 1 by omega, h2, List.length_append]
      omega
  have := key (s.size - (k + 1)) (by omega)
  rw [show k + 1 + (s.size - (k + 1)) = s.size by omega] at this
  exact this
def byteCells (l : List UInt8) : List Value := l.map fun b => .int .u8 (b.toNat : Int)
structure InC (W : World) (n : Nat) (l : List UInt8) (w : World) : Prop where
  row : ∃ cur : Array Value, w.heap[W.heap.size]? = some (.cells cur 5 (0, 0)) ∧ cur.size = n ∧ cur.toList.take l.length = byteCells l
  below : Go.Den.Below W.heap.size W w
theorem InC.start (W : World) (n : Nat) : InC W n [] (W.alloc (.cells (madeCells #[.int .u8 0] n) 5)) :=
  ⟨⟨_, heap_alloc_new W _, size_madeCells _ _, rfl⟩, (Go.Den.Below.refl _ W).alloc (Nat.le_refl _) _⟩
theorem byteCells_len (l : List UInt8) : (byteCells l).length = l.length := by simp [byteCells]
theorem byteCells_one (l : List UInt8) : ∀ v ∈ byteCells l, v.oneCell' = true := by
  intro v hv
  simp only [byteCells, List.mem_map] at hv
  obtain ⟨b, _, rfl⟩ := hv
  rfl
theorem below_setRow {B : Nat} {W w : World} (h : Go.Den.Below B W w) {g : Nat} (hg : B ≤ g) (cur : Array Value) : Go.Den.Below B W (w.setRow g cur) := by
  refine ⟨h.os, h.tape, h.output, ?_, fun k hk => ?_, h.drawn⟩
  · have := h.size
    simpa [World.setRow] using this
  · rw [← h.block k hk]
    show (w.heap.modify g _)[k]? = _
    rw [Array.getElem?_modify, if_neg (by omega)]
theorem below_drew {B : Nat} {W w : World} (h : Go.Den.Below B W w) : Go.Den.Below B W w.drew := ⟨h.os, h.tape, h.output, h.size, h.block, Nat.le_trans h.drawn (Nat.le_succ _)⟩
theorem add_at (g i : Nat) : (⟨g, 0, none⟩ : Addr).add i = ⟨g, i, none⟩ := by unfold Addr.add; split <;> simp_all
theorem row_put {cur : Array Value} {n : Nat} {l m : List UInt8} (hs : cur.size = n) (ht : cur.toList.take l.length = byteCells l) (hn : l.length + m.length ≤ n) :
    (cur.toList.take l.length ++ byteCells m ++ cur.toList.drop (l.length + (byteCells m).length)).toArray.size = n ∧
      (cur.toList.take l.length ++ byteCells m ++ cur.toList.drop (l.length + (byteCells m).length)).take (l ++ m).length = byteCells (l ++ m) := by
  have hl : (byteCells m).length = m.length := byteCells_len m
  refine ⟨by simp [hl]; omega, ?_⟩
  rw [ht, List.take_append_of_le_length (by simp [byteCells]), List.take_of_length_le (by simp [byteCells])]
  simp [byteCells]
theorem copyIn {W w : World} {n : Nat} {l : List UInt8} (hI : InC W n l w) {j : Nat} (hj : j = l.length) (h2 : j + 2 ≤ n) (p : Addr) (c1 : Nat) (u : UInt8) (hp0 : w.cell? (p.add 0) = some (.int .u8 92)) (hp1 : w.cell? (p.add 1) = some (.int .u8 (u.toNat : Int))) :
    ∃ w', (Builtin.copy_ #[96, 96] 3 #[.slice (some ⟨W.heap.size, j, none⟩) (n - j) (n - j), .slice (some p) 2 c1]).run Tryz.prog w.drew = .ok (.int .i64 2) w' ∧ InC W n (l ++ [92, u]) w' := by
  subst hj
  obtain ⟨cur, hg, hs, ht⟩ := hI.row
  have hg' : w.drew.heap[W.heap.size]? = some (.cells cur 5 (0, 0)) := hg
  have := run_copy_row Tryz.prog w.drew 96 96 3 5 W.heap.size l.length (n - l.length) (n - l.length) p 2 c1 cur 5 (byteCells [92, u]) Tryz.underlying96 (by kernel_rfl) hg'
    (by rw [byteCells_len]; show 2 = min 2 (n - l.length); omega)
    (by
      intro i v hv
      match i, hv with
      | 0, hv => simp [byteCells] at hv; subst hv; exact hp0
      | 1, hv => simp [byteCells] at hv; subst hv; exact hp1)
    (by rw [byteCells_len]; simp; omega) (byteCells_one _)
  refine ⟨_, this, ⟨_, setRow_heap w.drew W.heap.size cur _ 5 (0, 0) hg', ?_⟩, below_setRow (below_drew hI.below) (Nat.le_refl _) _⟩
  exact row_put hs ht (m := [92, u]) (by simp; omega)
theorem setIn {W w : World} {n : Nat} {l : List UInt8} (hI : InC W n l w) {j : Nat} (hj : j = l.length) (h2 : j + 1 ≤ n) (u : UInt8) :
    (∃ v, w.cell? ⟨W.heap.size, j, none⟩ = some v) ∧ w.frozen? ⟨W.heap.size, j, none⟩ = false ∧ InC W n (l ++ [u]) (w.setCell ⟨W.heap.size, j, none⟩ (.int .u8 (u.toNat : Int))) := by
  subst hj
  obtain ⟨cur, hg, hs, ht⟩ := hI.row
  have hlt : l.length < cur.size := by omega
  refine ⟨⟨cur[l.length], by simp [World.cell?, hg, hlt]⟩, by simp [World.frozen?, hg], ?_⟩
  rw [setCell_eq_setRow w W.heap.size l.length cur 5 (0, 0) _ hg]
  refine ⟨⟨_, setRow_heap w W.heap.size cur _ 5 (0, 0) hg, by simpa using hs, ?_⟩, below_setRow hI.below (Nat.le_refl _) _⟩
  have e : (cur.setIfInBounds l.length (.int .u8 (u.toNat : Int))).toList = cur.toList.take l.length ++ byteCells [u] ++ cur.toList.drop (l.length + (byteCells [u]).length) := by
    rw [Array.toList_setIfInBounds, List.set_eq_take_append_cons_drop, if_pos (by simpa using hlt)]
    simp [byteCells]
  rw [e]
  exact (row_put hs ht (m := [u]) (by simp; omega)).2
theorem fold_push : ∀ (l : List UInt8) (a : Array UInt8), (l.map fun b => (b.toNat : Int)).foldl (fun (r : ByteArray) n => r.push (UInt8.ofNat n.toNat)) ⟨a⟩ = ⟨a ++ l.toArray⟩
  | [], a => by simp
  | b :: l, a => by
    rw [List.map_cons, List.foldl_cons]
    have : (ByteArray.mk a).push (UInt8.ofNat ((b.toNat : Int)).toNat) = ⟨a.push b⟩ := by
      show ByteArray.mk (a.push _) = _
      rw [Int.toNat_natCast, UInt8.ofNat_toNat]
    rw [this, fold_push l (a.push b)]
    simp
theorem convIn {W w : World} {n : Nat} {l : List UInt8} (hI : InC W n l w) (hn : n = l.length) :
    (convert 96 9 (.slice (some ⟨W.heap.size, 0, none⟩) n n)).run Tryz.prog w = .ok (.string ⟨l.toArray⟩) w := by
  subst hn
  obtain ⟨cur, hg, hs, ht⟩ := hI.row
  rw [run_convert_bytes_string w 96 9 5 _ _ _ Tryz.underlying96 Tryz.underlying5 Tryz.underlying9]
  have hl : (loadCells ⟨W.heap.size, 0, none⟩ l.length).run Tryz.prog w = .ok ((l.map fun b => (b.toNat : Int)).map (Value.int .u8)).toArray w := by
    have := run_loadCells_list (P := Tryz.prog) w ⟨W.heap.size, 0, none⟩ (byteCells l) (by
      intro i v hv
      have hi : i < l.length := by
        have := (List.getElem?_eq_some_iff.1 hv).1
        simpa [byteCells] using this
      rw [← ht, List.getElem?_take, if_pos hi] at hv
      rw [add_at]
      simp [World.cell?, hg]
      simpa using hv)
    rw [byteCells_len] at this
    rw [this]
    simp [byteCells, Function.comp_def]
  rw [run_bytesToString w _ _ _ _ hl]
  congr 2
  refine (fold_push l #[]).trans ?_
  simp
theorem body_len : ∀ l : List UInt8, (body l).length = l.length + l.count 34 + l.count 92
  | [] => rfl
  | a :: l => by
    have ih := body_len l
    show (esc a ++ body l).length = _
    rw [List.length_append, ih, List.length_cons, List.count_cons, List.count_cons]
    by_cases h1 : a = 34
    · subst h1; rw [esc34]; simp; omega
    · by_cases h2 : a = 92
      · subst h2; rw [esc92]; simp; omega
      · rw [esc_other h1 h2]; simp [h1, h2]; omega
theorem body_same : ∀ l : List UInt8, (body l).length = l.length → body l = l
  | [], _ => rfl
  | a :: l, h => by
    have ih := body_len l
    have e : body (a :: l) = esc a ++ body l := rfl
    have ha := esc_len a
    rw [e, List.length_append, List.length_cons] at h
    have h1 : ¬ a = 34 := by rintro rfl; rw [esc34] at h; simp at h; omega
    have h2 : ¬ a = 92 := by rintro rfl; rw [esc92] at h; simp at h; omega
    rw [e, esc_other h1 h2]
    show a :: body l = a :: l
    rw [body_same l (by rw [esc_other h1 h2] at h; simp at h; omega)]
theorem bL_all (s : ByteArray) : bL s s.size = body s.data.toList := by
  unfold bL
  rw [List.take_of_length_le (by simp)]
theorem bL_same (s : ByteArray) (h : (bL s s.size).length ≤ s.size) : ByteArray.mk (bL s s.size).toArray = s := by
  rw [bL_all] at *
  have h1 := body_len s.data.toList
  have h2 : s.data.toList.length = s.size := by simp
  rw [body_same _ (by omega)]
theorem count (s : ByteArray) (c : UInt8) (w : World) :
    Calls Tryz.prog 135 #[.string s, .string ⟨#[c]⟩] w fun e w' => e = .returned (.int .i64 (Lib.countByte s.data.toList c)) ∧ w' = w := by
  have mixed : Tryz.prog.follows .mixedOrders = true := by kernel_rfl
  go_enter Tryz.func135, Tryz.ntmps135
  go_wp2
  rw [run_callFunc_extern Tryz.func162 (by kernel_rfl) (by kernel_rfl) (by kernel_rfl) (e := Extern.BytealgCount.count) (by kernel_rfl), Lib.run_countString]
  simp only [Result.andThen]
  rw [Oper.upon_value]
  go_wp2
  go_ret
  exact ⟨rfl, rfl⟩
def cnt (s : ByteArray) : Nat → Nat
  | 0 => 0
  | 1 => Lib.countByte s.data.toList 34
  | _ => Lib.countByte s.data.toList 34 + Lib.countByte s.data.toList 92
theorem IsR.mono {b t cap x c1 y c2 : Nat} {w w' : World} (h : IsR b t cap x c1 y c2 w) (hb : Go.Den.Below w.heap.size w w') : IsR b t cap x c1 y c2 w' := by
  have k : ∀ {a : Addr} {v : Value}, w.cell? a = some v → w'.cell? a = some v := fun hv => (hb.cell (World.block_lt_of_cell? w _ hv)).trans hv
  exact ⟨k h.top, k h.t0, k h.t1, k h.q, k h.q0, k h.q1, k h.s, k h.s0, k h.s1, fun i h1 h2 h3 => k (h.other i h1 h2 h3)⟩
theorem replace (b t cap x c1 y c2 : Nat) (s : ByteArray) (w : World) (h : IsR b t cap x c1 y c2 w) (hs : s.size ≤ 200) :
    Calls Tryz.prog 230 #[.pointer (some ⟨b, 0, none⟩), .string s] w fun e w' => e = .returned (.string ⟨(body s.data.toList).toArray⟩) ∧ Go.Den.Below w.heap.size w w' := by
  have h256 := h.top
  have q34 := h.q
  have q92 := h.s
  have H := Aside0.mk h
  clear h
  go_enter Tryz.func230, Tryz.ntmps230
  have hn0 : ∀ (w : World), (binOp .neq 96 (.slice none 0 0) (.slice none 0 0)).run Tryz.prog w = .ok (.bool false) w := fun _ => by kernel_rfl
  have hn1 : ∀ (a : Addr) (n c : Nat) (w : World), (binOp .neq 96 (.slice (some a) n c) (.slice none 0 0)).run Tryz.prog w = .ok (.bool true) w := fun _ _ _ _ => by kernel_rfl
  have hz : ∀ (x : Bool) (w : World), (Op.unary .not (.bool x)).run Tryz.prog w = .ok (.bool (!x)) w := fun _ _ => rfl
  by_cases h16 : 16 ≤ s.size
  · have d16 : decide ((16 : Int) ≤ (s.size : Int)) = true := decide_eq_true (by omega)
    have mixed : Tryz.prog.follows .mixedOrders = true := by kernel_rfl
    have i34 : ((ByteArray.mk #[34])[0]'(by decide)).toNat = 34 := rfl
    have i92 : ((ByteArray.mk #[92])[0]'(by decide)).toNat = 92 := rfl
    have HC34 := Aside0.mk (show Lib.countByte s.data.toList 34 ≤ 200 from by have := List.count_le_length (a := (34 : UInt8)) (l := s.data.toList); unfold Lib.countByte; have h2 : s.data.toList.length = s.size := by simp
                                                                              omega)
    have HC92 := Aside0.mk (show Lib.countByte s.data.toList 92 ≤ 200 from by have := List.count_le_length (a := (92 : UInt8)) (l := s.data.toList); unfold Lib.countByte; have h2 : s.data.toList.length = s.size := by simp
                                                                              omega)
    have HB00 := Aside0.mk (Go.Den.Below.refl w.heap.size w)
    go_wp2
    clear h256 q34 q92
    go_loopw [5, 6, 32] (fun v5 v6 v32 w' => ∃ (i : Nat) (N : Int) (B : Bool), i ≤ 2 ∧ v5 = .int .i64 N ∧ v6 = .bool B ∧ v32 = .int .i64 i ∧ Aside0 (Go.Den.Below w.heap.size w w') ∧ Aside0 (N = s.size + cnt s i ∧ B = decide (0 < cnt s i))) (fun _ _ v32 _ => 2 - (intOf v32).toNat)
    case atStart => exact ⟨0, _, _, by omega, rfl, rfl, rfl, HB00, ⟨by simp [cnt], by simp [cnt]⟩⟩
    case round =>
      obtain ⟨i, N, B, hi, rfl, rfl, rfl, HB0, HN⟩ := hrel
      replace H := Aside0.mk (H.out.mono HB0.out)
      have h256 := H.out.top
      have q34 := H.out.q
      have q92 := H.out.s
      have qt0 := H.out.t0
      have qt1 := H.out.t1
      match i, hi with
      | 0, _ =>
        by_cases hz34 : (Lib.countByte s.data.toList 34 : Nat) = 0
        · have q34 : ((Lib.countByte s.data.toList 34 : Nat) : Int) = 0 := by omega
          have qq : (((Lib.countByte s.data.toList 34 : Nat) : Int) != 0) = false := by rw [q34]; rfl
          go_wp2_with (go_at_call 135; refine (count s 34 _).mono ?_; rintro e w' ⟨rfl, rfl⟩)
          exact ⟨⟨1, _, _, by omega, rfl, rfl, rfl, HB0, ⟨by rw [HN.out.1]; simp only [cnt]; omega, by rw [HN.out.2]; simp [cnt, hz34]⟩⟩, by simp [intOf]⟩
        · have q34 : ¬ ((Lib.countByte s.data.toList 34 : Nat) : Int) = 0 := by omega
          have qq : (((Lib.countByte s.data.toList 34 : Nat) : Int) != 0) = true := by simp; omega
          have HW1 := (show wrap64 ((Lib.countByte s.data.toList 34 : Nat) : Int) = ((Lib.countByte s.data.toList 34 : Nat) : Int) from by have := HC34.out; unfold wrap64; omega)
          have HW2 := (show wrap64 (N + ((Lib.countByte s.data.toList 34 : Nat) : Int)) = N + ((Lib.countByte s.data.toList 34 : Nat) : Int) from by have := HC34.out; have := HC34.out; have e := HN.out.1; simp only [cnt] at e; unfold wrap64; omega)
          go_wp2_with (go_at_call 135; refine (count s 34 _).mono ?_; rintro e w' ⟨rfl, rfl⟩)
          go_region_o
          go_wp2
          go_roundw
          case rel => exact ⟨1, _, _, by omega, rfl, rfl, by first | rfl | go_num, ⟨below_drew HB0.out⟩, ⟨by (first | rw [HW2, HN.out.1] | rw [HN.out.1]); simp only [cnt]; omega, (decide_eq_true (by simp only [cnt]; omega)).symm⟩⟩
          case measure => simp [intOf]
      | 1, _ =>
        by_cases hz92 : (Lib.countByte s.data.toList 92 : Nat) = 0
        · have q92 : ((Lib.countByte s.data.toList 92 : Nat) : Int) = 0 := by omega
          have qq : (((Lib.countByte s.data.toList 92 : Nat) : Int) != 0) = false := by rw [q92]; rfl
          go_wp2_with (go_at_call 135; refine (count s 92 _).mono ?_; rintro e w' ⟨rfl, rfl⟩)
          exact ⟨⟨2, _, _, by omega, rfl, rfl, rfl, HB0, ⟨by rw [HN.out.1]; simp only [cnt]; omega, by rw [HN.out.2]; simp [cnt, hz92]⟩⟩, by simp [intOf]⟩
        · have q92 : ¬ ((Lib.countByte s.data.toList 92 : Nat) : Int) = 0 := by omega
          have qq : (((Lib.countByte s.data.toList 92 : Nat) : Int) != 0) = true := by simp; omega
          have HW1 := (show wrap64 ((Lib.countByte s.data.toList 92 : Nat) : Int) = ((Lib.countByte s.data.toList 92 : Nat) : Int) from by have := HC92.out; unfold wrap64; omega)
          have HW2 := (show wrap64 (N + ((Lib.countByte s.data.toList 92 : Nat) : Int)) = N + ((Lib.countByte s.data.toList 92 : Nat) : Int) from by have := HC92.out; have := HC34.out; have e := HN.out.1; simp only [cnt] at e; unfold wrap64; omega)
          go_wp2_with (go_at_call 135; refine (count s 92 _).mono ?_; rintro e w' ⟨rfl, rfl⟩)
          go_region_o
          go_wp2
          go_roundw
          case rel => exact ⟨2, _, _, by omega, rfl, rfl, by first | rfl | go_num, ⟨below_drew HB0.out⟩, ⟨by (first | rw [HW2, HN.out.1] | rw [HN.out.1]); simp only [cnt]; omega, (decide_eq_true (by simp only [cnt]; omega)).symm⟩⟩
          case measure => simp [intOf]
      | 2, _ =>
        replace HN : Aside0 (N = (bL s s.size).length + (s.size - s.size : Nat) ∧ B = decide (s.size < (bL s s.size).length)) := ⟨by
          have e := HN.out.1
          have h1 := body_len s.data.toList
          have h2 : s.data.toList.length = s.size := by simp
          rw [bL_all, e]; simp only [cnt, Lib.countByte]; omega, by
          have e := HN.out.2
          have h1 := body_len s.data.toList
          have h2 : s.data.toList.length = s.size := by simp
          rw [e, bL_all]; exact decide_eq_decide.2 (by simp only [cnt, Lib.countByte]; omega)⟩
        have HL := Aside0.mk (bL_len s s.size (Nat.le_refl _))
        rename World => W0
        have HB9 := HB0
        clear HB0
        obtain ⟨n, hn⟩ : ∃ n : Nat, n = (bL s s.size).length := ⟨_, rfl⟩
        obtain rfl : N = (n : Int) := by rw [HN.out.1, hn]; omega
        have HB := Aside0.mk (show B = decide (s.size < n) by rw [HN.out.2, hn])
        have hn400 : n ≤ 400 := by have := HL.out; omega
        have Hn := Aside0.mk hn
        clear hn HN
        cases B with
        | false =>
          go_wp2
          go_ret
          refine ⟨?_, HB9.out⟩
          have h1 := of_decide_eq_false HB.out.symm
          have h2 := bL_same s (by rw [← Hn.out]; omega)
          rw [bL_all] at h2
          rw [h2]
          rfl
        | true =>
          have hmk : ∀ w : World, (Instr.makeSlice 96 (.int .i64 (n : Int)) (.int .i64 (n : Int))).run Tryz.prog w = .ok (.slice (some ⟨w.heap.size, 0, none⟩) n n) (w.alloc (.cells (madeCells #[.int .u8 0] n) 5)) := fun w => by
            obtain ⟨i0, hi, hz0, hz1, hz2⟩ := info_parts (show (Tryz.prog.info? 5).map (fun i => (i.zero, i.size, i.bytes)) = some (some (.int .u8 0), 1, 1) by kernel_rfl)
            have := run_make w 96 5 i0 (.int .u8 0) Tryz.underlying96 hi hz0 .i64 .i64 (n : Int) (n : Int) (by omega) (by omega) (by rw [hz2]; omega) (by omega)
            rw [this, hz1]
            simp only [Int.toNat_natCast, Nat.mul_one]
            rfl
          go_wp2
          have Hw := Aside0.mk (InC.start W0 n)
          go_loopw [13, 14] (fun v13 v14 w' => ∃ k j : Nat, k ≤ s.size ∧ v13 = .int .i64 j ∧ v14 = .int .i64 k ∧ Aside0 (j = (bL s k).length) ∧ Aside0 (InC W0 n (bL s k) w')) (fun _ v14 _ => s.size - (intOf v14).toNat)
          case atStart => exact ⟨0, 0, Nat.zero_le _, rfl, rfl, ⟨rfl⟩, Hw⟩
          case round =>
            obtain ⟨k, j, hk, rfl, rfl, HJ, HI⟩ := hrel
            by_cases hlt : k < s.size
            · have q : decide ((k : Int) < s.size) = true := decide_eq_true (by omega)
              have q2 : decide (k < s.size) = true := decide_eq_true (by omega)
              have HS := Aside0.mk (bL_step s k hlt)
              have HL := Aside0.mk (bL_len s k hk)
              have HT := Aside0.mk (bL_mono s k hlt)
              generalize hc : s[k]'hlt = c at *
              have h256' := c.toNat_lt
              replace q34 := (HI.out.below.cell (World.block_lt_of_cell? W0 _ q34)).trans q34
              replace q92 := (HI.out.below.cell (World.block_lt_of_cell? W0 _ q92)).trans q92
              have mixed : Tryz.prog.follows .mixedOrders = true := by kernel_rfl
              by_cases c34 : c = 34
              · have HV := Aside0.mk (show (bL s (k + 1)).length = (bL s k).length + 2 from by rw [HS.out, c34, esc34, List.length_append]; rfl)
                have hj : j + 2 ≤ n := by have := HV.out; have := HJ.out; have := HT.out; have := Hn.out; omega
                have q340 := (HI.out.below.cell (World.block_lt_of_cell? W0 _ H.out.q0)).trans H.out.q0
                have q341 := (HI.out.below.cell (World.block_lt_of_cell? W0 _ H.out.q1)).trans H.out.q1
                obtain ⟨w1, hcp, hi1⟩ := copyIn HI.out HJ.out hj ⟨x, 0, none⟩ c1 34 q340 q341
                have HI1 := Aside0.mk hi1
                clear hi1 q340 q341
                have HE := Aside0.mk (show bL s (k + 1) = bL s k ++ [92, 34] by rw [HS.out, c34, esc34])
                go_wp2
                go_region_o
                go_wp2
                go_roundw
                case rel => exact ⟨k + 1, j + 2, by omega, by go_num, by go_num, ⟨by rw [HE.out, List.length_append, ← HJ.out]; rfl⟩, ⟨by rw [HE.out]; exact HI1.out⟩⟩
                case measure => simp [intOf]; omega
              · by_cases c92 : c = 92
                · have HV := Aside0.mk (show (bL s (k + 1)).length = (bL s k).length + 2 from by rw [HS.out, c92, esc92, List.length_append]; rfl)
                  have hj : j + 2 ≤ n := by have := HV.out; have := HJ.out; have := HT.out; have := Hn.out; omega
                  have q340 := (HI.out.below.cell (World.block_lt_of_cell? W0 _ H.out.s0)).trans H.out.s0
                  have q341 := (HI.out.below.cell (World.block_lt_of_cell? W0 _ H.out.s1)).trans H.out.s1
                  obtain ⟨w1, hcp, hi1⟩ := copyIn HI.out HJ.out hj ⟨y, 0, none⟩ c2 92 q340 q341
                  have HI1 := Aside0.mk hi1
                  clear hi1 q340 q341
                  have HE := Aside0.mk (show bL s (k + 1) = bL s k ++ [92, 92] by rw [HS.out, c92, esc92])
                  go_wp2
                  go_region_o
                  go_wp2
                  go_roundw
                  case rel => exact ⟨k + 1, j + 2, by omega, by go_num, by go_num, ⟨by rw [HE.out, List.length_append, ← HJ.out]; rfl⟩, ⟨by rw [HE.out]; exact HI1.out⟩⟩
                  case measure => simp [intOf]; omega
                · have qc0 := H.out.other c.toNat (by omega) (fun h => c34 (UInt8.toNat_inj.1 h)) (fun h => c92 (UInt8.toNat_inj.1 h))
                  have qc := (HI.out.below.cell (World.block_lt_of_cell? W0 _ qc0)).trans qc0
                  have HV := Aside0.mk (show (bL s (k + 1)).length = (bL s k).length + 1 from by rw [HS.out, esc_other c34 c92, List.length_append]; rfl)
                  have hj : j + 1 ≤ n := by have := HV.out; have := HJ.out; have := HT.out; have := Hn.out; omega
                  have hj2 : j < n := by omega
                  obtain ⟨⟨v0, hv0⟩, hfz, hi1⟩ := setIn HI.out HJ.out hj c
                  have HI1 := Aside0.mk hi1
                  clear hi1 qc0
                  have HE := Aside0.mk (show bL s (k + 1) = bL s k ++ [c] by rw [HS.out, esc_other c34 c92])
                  go_wp2
                  go_roundw
                  case rel => exact ⟨k + 1, j + 1, by omega, by go_num, by go_num, ⟨by rw [HE.out, List.length_append, ← HJ.out]; rfl⟩, ⟨by rw [HE.out]; exact HI1.out⟩⟩
                  case measure => simp [intOf]; omega
            · have q : decide ((k : Int) < s.size) = false := decide_eq_false (by omega)
              obtain rfl : k = s.size := by omega
              have HC := convIn HI.out Hn.out
              go_wp2
              go_ret
              rw [bL_all] at HC
              exact ⟨by rw [bL_all]; rfl, HB9.out.trans (HI.out.below.mono HB9.out.size)⟩
  · have d16 : decide ((16 : Int) ≤ (s.size : Int)) = false := decide_eq_false (by omega)
    go_wp2
    go_loopw [5, 6, 10] (fun v5 v6 v10 w' => ∃ (k : Nat) (N : Int) (B : Bool), k ≤ s.size ∧ v5 = .int .i64 N ∧ v6 = .bool B ∧ v10 = .int .i64 k ∧ w' = w ∧ Aside0 (N = (bL s k).length + (s.size - k : Nat) ∧ B = decide (k < (bL s k).length))) (fun _ _ v10 _ => s.size - (intOf v10).toNat)
    case atStart => exact ⟨0, _, _, Nat.zero_le _, rfl, rfl, rfl, rfl, ⟨by simp [bL, body], by simp [bL, body]⟩⟩
    case round =>
      obtain ⟨k, N, B, hk, rfl, rfl, rfl, rfl, HN⟩ := hrel
      by_cases hlt : k < s.size
      · have q : decide ((k : Int) < s.size) = true := decide_eq_true (by omega)
        have q2 : decide (k < s.size) = true := decide_eq_true (by omega)
        have HS := Aside0.mk (bL_step s k hlt)
        have HL := Aside0.mk (bL_len s k hk)
        generalize hc : s[k]'hlt = c at *
        have h256' := c.toNat_lt
        have HW := (show wrap64 (N + 1) = N + 1 from by rw [HN.out.1]; have := HL.out; unfold wrap64; omega)
        by_cases c34 : c = 34
        · have HV := Aside0.mk (show (bL s (k + 1)).length = (bL s k).length + 2 from by rw [HS.out, c34, esc34, List.length_append]; rfl)
          go_wp2
          go_roundw
          case rel => exact ⟨k + 1, _, _, by omega, rfl, rfl, by go_num, by first | rfl | trivial, ⟨by (first | rw [HW, HN.out.1, HV.out] | rw [HN.out.1, HV.out]); omega, (decide_eq_true (by have := HV.out; have := HL.out; omega)).symm⟩⟩
          case measure => simp [intOf]; omega
        · by_cases c92 : c = 92
          · have HV := Aside0.mk (show (bL s (k + 1)).length = (bL s k).length + 2 from by rw [HS.out, c92, esc92, List.length_append]; rfl)
            go_wp2
            go_roundw
            case rel => exact ⟨k + 1, _, _, by omega, rfl, rfl, by go_num, by first | rfl | trivial, ⟨by (first | rw [HW, HN.out.1, HV.out] | rw [HN.out.1, HV.out]); omega, (decide_eq_true (by have := HV.out; have := HL.out; omega)).symm⟩⟩
            case measure => simp [intOf]; omega
          · have qc := H.out.other c.toNat (by omega) (fun h => c34 (UInt8.toNat_inj.1 h)) (fun h => c92 (UInt8.toNat_inj.1 h))
            have HE := Aside0.mk (show (bL s (k + 1)).length = (bL s k).length + 1 from by rw [HS.out, esc_other c34 c92, List.length_append]; rfl)
            go_wp2
            refine ⟨⟨k + 1, _, _, by omega, rfl, rfl, by go_num, trivial, ⟨by rw [HN.out.1, HE.out]; omega, ?_⟩⟩, ?_⟩
            · rw [HN.out.2, HE.out]; simp
            · simp [intOf]; omega
      · have q : decide ((k : Int) < s.size) = false := decide_eq_false (by omega)
        obtain rfl : k = s.size := by omega
        have HL := Aside0.mk (bL_len s s.size (Nat.le_refl _))
        rename World => W0
        obtain ⟨n, hn⟩ : ∃ n : Nat, n = (bL s s.size).length := ⟨_, rfl⟩
        obtain rfl : N = (n : Int) := by rw [HN.out.1, hn]; omega
        have HB := Aside0.mk (show B = decide (s.size < n) by rw [HN.out.2, hn])
        have hn400 : n ≤ 400 := by have := HL.out; omega
        have Hn := Aside0.mk hn
        clear hn HN
        cases B with
        | false =>
          go_wp2
          go_ret
          refine ⟨?_, Go.Den.Below.refl _ _⟩
          have h1 := of_decide_eq_false HB.out.symm
          have h2 := bL_same s (by rw [← Hn.out]; omega)
          rw [bL_all] at h2
          rw [h2]
          rfl
        | true =>
          have hmk : ∀ w : World, (Instr.makeSlice 96 (.int .i64 (n : Int)) (.int .i64 (n : Int))).run Tryz.prog w = .ok (.slice (some ⟨w.heap.size, 0, none⟩) n n) (w.alloc (.cells (madeCells #[.int .u8 0] n) 5)) := fun w => by
            obtain ⟨i0, hi, hz0, hz1, hz2⟩ := info_parts (show (Tryz.prog.info? 5).map (fun i => (i.zero, i.size, i.bytes)) = some (some (.int .u8 0), 1, 1) by kernel_rfl)
            have := run_make w 96 5 i0 (.int .u8 0) Tryz.underlying96 hi hz0 .i64 .i64 (n : Int) (n : Int) (by omega) (by omega) (by rw [hz2]; omega) (by omega)
            rw [this, hz1]
            simp only [Int.toNat_natCast, Nat.mul_one]
            rfl
          go_wp2
          have Hw := Aside0.mk (InC.start W0 n)
          go_loopw [13, 14] (fun v13 v14 w' => ∃ k j : Nat, k ≤ s.size ∧ v13 = .int .i64 j ∧ v14 = .int .i64 k ∧ Aside0 (j = (bL s k).length) ∧ Aside0 (InC W0 n (bL s k) w')) (fun _ v14 _ => s.size - (intOf v14).toNat)
          case atStart => exact ⟨0, 0, Nat.zero_le _, rfl, rfl, ⟨rfl⟩, Hw⟩
          case round =>
            obtain ⟨k, j, hk, rfl, rfl, HJ, HI⟩ := hrel
            by_cases hlt : k < s.size
            · have q : decide ((k : Int) < s.size) = true := decide_eq_true (by omega)
              have q2 : decide (k < s.size) = true := decide_eq_true (by omega)
              have HS := Aside0.mk (bL_step s k hlt)
              have HL := Aside0.mk (bL_len s k hk)
              have HT := Aside0.mk (bL_mono s k hlt)
              generalize hc : s[k]'hlt = c at *
              have h256' := c.toNat_lt
              replace q34 := (HI.out.below.cell (World.block_lt_of_cell? W0 _ q34)).trans q34
              replace q92 := (HI.out.below.cell (World.block_lt_of_cell? W0 _ q92)).trans q92
              have mixed : Tryz.prog.follows .mixedOrders = true := by kernel_rfl
              by_cases c34 : c = 34
              · have HV := Aside0.mk (show (bL s (k + 1)).length = (bL s k).length + 2 from by rw [HS.out, c34, esc34, List.length_append]; rfl)
                have hj : j + 2 ≤ n := by have := HV.out; have := HJ.out; have := HT.out; have := Hn.out; omega
                have q340 := (HI.out.below.cell (World.block_lt_of_cell? W0 _ H.out.q0)).trans H.out.q0
                have q341 := (HI.out.below.cell (World.block_lt_of_cell? W0 _ H.out.q1)).trans H.out.q1
                obtain ⟨w1, hcp, hi1⟩ := copyIn HI.out HJ.out hj ⟨x, 0, none⟩ c1 34 q340 q341
                have HI1 := Aside0.mk hi1
                clear hi1 q340 q341
                have HE := Aside0.mk (show bL s (k + 1) = bL s k ++ [92, 34] by rw [HS.out, c34, esc34])
                go_wp2
                go_region_o
                go_wp2
                go_roundw
                case rel => exact ⟨k + 1, j + 2, by omega, by go_num, by go_num, ⟨by rw [HE.out, List.length_append, ← HJ.out]; rfl⟩, ⟨by rw [HE.out]; exact HI1.out⟩⟩
                case measure => simp [intOf]; omega
              · by_cases c92 : c = 92
                · have HV := Aside0.mk (show (bL s (k + 1)).length = (bL s k).length + 2 from by rw [HS.out, c92, esc92, List.length_append]; rfl)
                  have hj : j + 2 ≤ n := by have := HV.out; have := HJ.out; have := HT.out; have := Hn.out; omega
                  have q340 := (HI.out.below.cell (World.block_lt_of_cell? W0 _ H.out.s0)).trans H.out.s0
                  have q341 := (HI.out.below.cell (World.block_lt_of_cell? W0 _ H.out.s1)).trans H.out.s1
                  obtain ⟨w1, hcp, hi1⟩ := copyIn HI.out HJ.out hj ⟨y, 0, none⟩ c2 92 q340 q341
                  have HI1 := Aside0.mk hi1
                  clear hi1 q340 q341
                  have HE := Aside0.mk (show bL s (k + 1) = bL s k ++ [92, 92] by rw [HS.out, c92, esc92])
                  go_wp2
                  go_region_o
                  go_wp2
                  go_roundw
                  case rel => exact ⟨k + 1, j + 2, by omega, by go_num, by go_num, ⟨by rw [HE.out, List.length_append, ← HJ.out]; rfl⟩, ⟨by rw [HE.out]; exact HI1.out⟩⟩
                  case measure => simp [intOf]; omega
                · have qc0 := H.out.other c.toNat (by omega) (fun h => c34 (UInt8.toNat_inj.1 h)) (fun h => c92 (UInt8.toNat_inj.1 h))
                  have qc := (HI.out.below.cell (World.block_lt_of_cell? W0 _ qc0)).trans qc0
                  have HV := Aside0.mk (show (bL s (k + 1)).length = (bL s k).length + 1 from by rw [HS.out, esc_other c34 c92, List.length_append]; rfl)
                  have hj : j + 1 ≤ n := by have := HV.out; have := HJ.out; have := HT.out; have := Hn.out; omega
                  have hj2 : j < n := by omega
                  obtain ⟨⟨v0, hv0⟩, hfz, hi1⟩ := setIn HI.out HJ.out hj c
                  have HI1 := Aside0.mk hi1
                  clear hi1 qc0
                  have HE := Aside0.mk (show bL s (k + 1) = bL s k ++ [c] by rw [HS.out, esc_other c34 c92])
                  go_wp2
                  go_roundw
                  case rel => exact ⟨k + 1, j + 1, by omega, by go_num, by go_num, ⟨by rw [HE.out, List.length_append, ← HJ.out]; rfl⟩, ⟨by rw [HE.out]; exact HI1.out⟩⟩
                  case measure => simp [intOf]; omega
            · have q : decide ((k : Int) < s.size) = false := decide_eq_false (by omega)
              obtain rfl : k = s.size := by omega
              have HC := convIn HI.out Hn.out
              go_wp2
              go_ret
              rw [bL_all] at HC
              exact ⟨by rw [bL_all]; rfl, HI.out.below⟩
theorem drawn_freeze (w : World) (p : Addr) (n : Nat) : (w.freeze p n).drawn = w.drawn := by
  unfold World.freeze
  split <;> rfl

/-- the replacer, while it is made: block t its row of texts, block t + 1 itself -/
structure InR (W : World) (f : Nat → Value) (n : Nat) (ts : List Value) (K : List (Addr × Value)) (w : World) : Prop where
  box : ∃ cur : Array Value, w.heap[W.heap.size + 1]? = some (.cells cur 184 (0, 0)) ∧ cur.size = 257 ∧ (∀ k : Nat, k < 256 → cur[k]? = some (f k)) ∧ cur[256]? = some (.slice (some ⟨W.heap.size, 0, none⟩) n 2)
  row : ∃ cur : Array Value, w.heap[W.heap.size]? = some (.cells cur 9 (0, 0)) ∧ cur.size = 2 ∧ ts.length ≤ 2 ∧ cur.toList.take ts.length = ts
  keep : ∀ p ∈ K, p.1.block ≠ W.heap.size ∧ p.1.block ≠ W.heap.size + 1 ∧ w.cell? p.1 = some p.2
  below : Go.Den.Below W.heap.size W w
theorem InR.size {W : World} {f : Nat → Value} {n : Nat} {ts : List Value} {K : List (Addr × Value)} {w : World} (h : InR W f n ts K w) : W.heap.size + 2 ≤ w.heap.size := by
  obtain ⟨cur, hg, _⟩ := h.box
  have := (Array.getElem?_eq_some_iff.1 hg).1
  omega
/-- what is only added to -/
theorem InR.grow {W : World} {f : Nat → Value} {n : Nat} {ts : List Value} {K : List (Addr × Value)} {w w' : World} (h : InR W f n ts K w) (hb : Go.Den.Below w.heap.size w w') : InR W f n ts K w' := by
  have hs := h.size
  refine ⟨?_, ?_, fun p hp => ?_, h.below.trans (hb.mono (by omega))⟩
  · rw [hb.block _ (by omega)]; exact h.box
  · rw [hb.block _ (by omega)]; exact h.row
  · obtain ⟨h1, h2, h3⟩ := h.keep p hp
    exact ⟨h1, h2, (hb.cell (World.block_lt_of_cell? w _ h3)).trans h3⟩
theorem InR.add {W : World} {f : Nat → Value} {n : Nat} {ts : List Value} {K : List (Addr × Value)} {w : World} (h : InR W f n ts K w) {a : Addr} {v : Value} (hv : w.cell? a = some v) (h1 : W.heap.size + 2 ≤ a.block) : InR W f n ts ((a, v) :: K) w :=
  ⟨h.box, h.row, fun p hp => by
    rcases List.mem_cons.1 hp with rfl | hp
    · exact ⟨by show a.block ≠ _; omega, by show a.block ≠ _; omega, hv⟩
    · exact h.keep p hp, h.below⟩
theorem InR.old {W : World} {f : Nat → Value} {n : Nat} {ts : List Value} {K : List (Addr × Value)} {w : World} (h : InR W f n ts K w) {a : Addr} {v : Value} (hv : W.cell? a = some v) : w.cell? a = some v :=
  (h.below.cell (World.block_lt_of_cell? W _ hv)).trans hv
theorem InR.at {W : World} {f : Nat → Value} {n : Nat} {ts : List Value} {K : List (Addr × Value)} {w : World} (h : InR W f n ts K w) (k : Nat) (hk : k < 256) : w.cell? ⟨W.heap.size + 1, k, none⟩ = some (f k) ∧ w.frozen? ⟨W.heap.size + 1, k, none⟩ = false := by
  obtain ⟨cur, hg, _, hc, _⟩ := h.box
  exact ⟨by rw [Lib.cell_of_heap hg]; exact hc k hk, Lib.frozen_of_heap hg k⟩
theorem InR.top {W : World} {f : Nat → Value} {n : Nat} {ts : List Value} {K : List (Addr × Value)} {w : World} (h : InR W f n ts K w) : w.cell? ⟨W.heap.size + 1, 256, none⟩ = some (.slice (some ⟨W.heap.size, 0, none⟩) n 2) ∧ w.frozen? ⟨W.heap.size + 1, 256, none⟩ = false := by
  obtain ⟨cur, hg, _, _, hc⟩ := h.box
  exact ⟨by rw [Lib.cell_of_heap hg]; exact hc, Lib.frozen_of_heap hg 256⟩
theorem setRow_at {w : World} {g k : Nat} (cur : Array Value) (h : k ≠ g) : (w.setRow g cur).heap[k]? = w.heap[k]? := by
  show (w.heap.modify g _)[k]? = _
  rw [Array.getElem?_modify, if_neg (Ne.symm h)]
theorem cell_setRow {w : World} {g : Nat} (cur : Array Value) {a : Addr} (h : a.block ≠ g) : (w.setRow g cur).cell? a = w.cell? a := by
  simp only [World.cell?, setRow_at cur h]
/-- a store into the replacer -/
theorem InR.put {W : World} {f : Nat → Value} {n : Nat} {ts : List Value} {K : List (Addr × Value)} {w : World} (h : InR W f n ts K w) (k : Nat) (hk : k < 256) (v : Value) : InR W (fun i => if i = k then v else f i) n ts K (w.setCell ⟨W.heap.size + 1, k, none⟩ v) := by
  obtain ⟨cur, hg, hs, hc, ht⟩ := h.box
  rw [setCell_eq_setRow w (W.heap.size + 1) k cur 184 (0, 0) v hg]
  refine ⟨⟨_, setRow_heap w _ cur _ 184 (0, 0) hg, by simpa using hs, fun i hi => ?_, ?_⟩, ?_, fun p hp => ?_, below_setRow h.below (by omega) _⟩
  · rw [Array.getElem?_setIfInBounds]
    by_cases hik : k = i
    · subst hik; rw [if_pos rfl, if_pos (by omega)]; simp
    · rw [if_neg hik, hc i hi]; simp [Ne.symm hik]
  · rw [Array.getElem?_setIfInBounds, if_neg (by omega)]; exact ht
  · rw [setRow_at _ (by omega)]; exact h.row
  · obtain ⟨h1, h2, h3⟩ := h.keep p hp
    exact ⟨h1, h2, by rw [cell_setRow _ h2]; exact h3⟩
theorem InR.putTop {W : World} {f : Nat → Value} {n : Nat} {ts : List Value} {K : List (Addr × Value)} {w : World} (h : InR W f n ts K w) (m : Nat) : InR W f m ts K (w.setCell ⟨W.heap.size + 1, 256, none⟩ (.slice (some ⟨W.heap.size, 0, none⟩) m 2)) := by
  obtain ⟨cur, hg, hs, hc, ht⟩ := h.box
  rw [setCell_eq_setRow w (W.heap.size + 1) 256 cur 184 (0, 0) _ hg]
  refine ⟨⟨_, setRow_heap w _ cur _ 184 (0, 0) hg, by simpa using hs, fun i hi => ?_, ?_⟩, ?_, fun p hp => ?_, below_setRow h.below (by omega) _⟩
  · rw [Array.getElem?_setIfInBounds, if_neg (by omega)]; exact hc i hi
  · rw [Array.getElem?_setIfInBounds, if_pos rfl, if_pos (by omega)]
  · rw [setRow_at _ (by omega)]; exact h.row
  · obtain ⟨h1, h2, h3⟩ := h.keep p hp
    exact ⟨h1, h2, by rw [cell_setRow _ h2]; exact h3⟩
/-- one text more -/
theorem InR.app {W : World} {f : Nat → Value} {n : Nat} {ts : List Value} {K : List (Addr × Value)} {w : World} (h : InR W f n ts K w) (hn : n = ts.length) (hn2 : n + 1 ≤ 2) (m : Addr) (c : Nat) (x : ByteArray) (hm : w.cell? (m.add 0) = some (.string x)) :
    ∃ w', (Builtin.append_ #[25, 25] 25 #[.slice (some ⟨W.heap.size, 0, none⟩) n 2, .slice (some m) 1 c]).run Tryz.prog w = .ok (.slice (some ⟨W.heap.size, 0, none⟩) (n + 1) 2) w' ∧ InR W f n (ts ++ [.string x]) K w' ∧ w'.heap.size = w.heap.size := by
  obtain ⟨i0, hi, hz0, hz1, hz2⟩ := info_parts (show (Tryz.prog.info? 9).map (fun i => (i.zero, i.size, i.bytes)) = some (some (.string ⟨#[]⟩), 1, 16) by kernel_rfl)
  obtain ⟨cur, hg, hs, hl, ht⟩ := h.row
  have hr := run_append_room (P := Tryz.prog) w 25 25 9 i0 Tryz.underlying25 hi W.heap.size n 2 cur hg m 1 c [.string x] (by rw [hz1]; rfl) (by
    intro j u hj
    match j, hj with
    | 0, hj => simp at hj; subst hj; exact hm) (by intro u hu; simp at hu; subst hu; rfl) hn2 (by rw [hz1]; simp; omega)
  refine ⟨_, hr, ⟨?_, ⟨_, setRow_heap w _ cur _ 9 (0, 0) hg, ?_⟩, fun p hp => ?_, below_setRow h.below (Nat.le_refl _) _⟩, by simp⟩
  · rw [setRow_at _ (by omega)]; exact h.box
  · rw [hz1, Nat.mul_one, hn, ht]
    refine ⟨by simp; omega, by simp; omega, ?_⟩
    rw [List.take_append_of_le_length (by simp), List.take_of_length_le (by simp)]
  · obtain ⟨h1, h2, h3⟩ := h.keep p hp
    exact ⟨h1, h2, by rw [cell_setRow _ h1]; exact h3⟩
/-- a text's bytes -/
theorem InR.conv {W : World} {f : Nat → Value} {n : Nat} {ts : List Value} {K : List (Addr × Value)} {w : World} (h : InR W f n ts K w) (s : ByteArray) :
    ∃ c w', (convert 9 96 (.string s)).run Tryz.prog w = .ok (.slice (some ⟨w.heap.size, 0, none⟩) s.size c) w' ∧ InR W f n ts K w' ∧ ∀ j, j < s.size → w'.cell? ⟨w.heap.size, j, none⟩ = some (.int .u8 (s.data.toList.getD j 0).toNat) := by
  refine ⟨_, _, Lib.run_convert_string_bytes w 9 96 5 s Tryz.underlying9 Tryz.underlying96 Tryz.underlying5, h.grow ?_, fun j hj => Lib.bytesWorld_cell w 5 s j hj⟩
  refine ⟨rfl, rfl, rfl, by rw [Lib.bytesWorld_size]; omega, fun k hk => Lib.bytesWorld_at_old w 5 s k hk, ?_⟩
  show w.drawn ≤ _
  unfold Lib.bytesWorld
  rw [drawn_freeze]
  exact Nat.le_succ _
theorem conv1 (c : UInt8) (w : World) : (convert 96 9 (.slice (some ⟨w.heap.size, 0, none⟩) 1 1)).run Tryz.prog (w.alloc (.cells #[.int .u8 (c.toNat : Int)] 5)) = .ok (.string ⟨#[c]⟩) (w.alloc (.cells #[.int .u8 (c.toNat : Int)] 5)) := by
  rw [run_convert_bytes_string _ 96 9 5 _ _ _ Tryz.underlying96 Tryz.underlying5 Tryz.underlying9]
  have hl : (loadCells ⟨w.heap.size, 0, none⟩ 1).run Tryz.prog (w.alloc (.cells #[.int .u8 (c.toNat : Int)] 5)) = .ok ([(c.toNat : Int)].map (Value.int .u8)).toArray (w.alloc (.cells #[.int .u8 (c.toNat : Int)] 5)) := by
    have := run_loadCells_list (P := Tryz.prog) (w.alloc (.cells #[.int .u8 (c.toNat : Int)] 5)) ⟨w.heap.size, 0, none⟩ [.int .u8 (c.toNat : Int)] (by
      intro i v hv
      match i, hv with
      | 0, hv => simp at hv; subst hv; rw [add_at]; simp)
    exact this
  rw [run_bytesToString _ _ _ _ _ hl]
  congr 2
  refine (fold_push [c] #[]).trans ?_
  simp

theorem wpList_app {P : Program} (w : World) {ops : Array Oper} {rest : List Oper} {o : Oper} {a : Act} {Q : Exit → Act → World → Prop} (hgd : o.guard = none) (s x : Operand) (t : TypeId)
    (ho : o.op = .call { callee := .builtin .append, args := #[s, x], argTypes := #[t, t] }) (vs vx v : Value) (w' : World) (hs : a.eval s = vs) (hx : a.eval x = vx)
    (hr : (Builtin.append_ #[t, t] o.type #[vs, vx]).run P w = .ok v w') (h : wpList P ops Q rest (a.put o.dst v) w') : wpList P ops Q (o :: rest) a w := by
  refine wpList_plain hgd fun _ hK => ?_
  unfold Oper.wp execOp
  simp only [ho, resolve, invoke, builtin, Sem.run_bind, Sem.run_pure, Result.andThen_ok, List.map_toArray, List.map_cons, List.map_nil, hs, hx, hr]
  exact hK _ _ h
theorem zc : Tryz.zeroCells184.toList = List.replicate 257 (.slice none 0 0) := by kernel_rfl
theorem InR.start (w : World) : InR w (fun _ => .slice none 0 0) 0 [] [] ((((w.alloc (.cells #[.string ⟨#[]⟩, .string ⟨#[]⟩] 9)).alloc (.cells Tryz.zeroCells184 184)).setRow (w.heap.size + 1) (Tryz.zeroCells184.toList.set 256 (.slice (some ⟨w.heap.size, 0, none⟩) 0 2)).toArray)) := by
  have hg : ((w.alloc (.cells #[.string ⟨#[]⟩, .string ⟨#[]⟩] 9)).alloc (.cells Tryz.zeroCells184 184)).heap[w.heap.size + 1]? = some (.cells Tryz.zeroCells184 184 (0, 0)) := by
    have z := heap_alloc_new (w.alloc (.cells #[.string ⟨#[]⟩, .string ⟨#[]⟩] 9)) (.cells Tryz.zeroCells184 184)
    simpa using z
  refine ⟨⟨_, setRow_heap _ _ _ _ 184 (0, 0) hg, by simp [zc], fun k hk => ?_, ?_⟩, ⟨#[.string ⟨#[]⟩, .string ⟨#[]⟩], ?_, rfl, by simp, rfl⟩, fun p hp => (by cases hp), below_setRow (((Go.Den.Below.refl _ w).alloc (Nat.le_refl _) _).alloc (by simp) _) (by omega) _⟩
  · rw [zc, List.getElem?_toArray, List.getElem?_set, if_neg (by omega), List.getElem?_replicate, if_pos (by omega)]
  · rw [zc, List.getElem?_toArray, List.getElem?_set, if_pos rfl, if_pos (by rw [List.length_replicate]; omega)]
  · rw [setRow_at _ (by omega)]
    have z := heap_alloc_new w (.cells #[.string ⟨#[]⟩, .string ⟨#[]⟩] 9)
    rw [Lib.alloc_old (w.alloc (.cells #[.string ⟨#[]⟩, .string ⟨#[]⟩] 9)) _ w.heap.size (by simp)]; exact z

theorem build (q o cap : Nat) (w : World) (hq : w.cell? ⟨q, 4, none⟩ = some (.slice (some ⟨o, 0, none⟩) 4 cap)) (hc : 4 ≤ cap)
    (h0 : w.cell? ⟨o, 0, none⟩ = some (.string ⟨#[92]⟩)) (h1 : w.cell? ⟨o, 1, none⟩ = some (.string ⟨#[92, 92]⟩)) (h2 : w.cell? ⟨o, 2, none⟩ = some (.string ⟨#[34]⟩)) (h3 : w.cell? ⟨o, 3, none⟩ = some (.string ⟨#[92, 34]⟩)) :
    Calls Tryz.prog 143 #[.pointer (some ⟨q, 0, none⟩)] w fun e w' => ∃ b t cap' x c1 y c2, e = .returned (.iface 185 (.pointer (some ⟨b, 0, none⟩))) ∧ IsR b t cap' x c1 y c2 w' ∧ Go.Den.Below w.heap.size w w' ∧ w.heap.size ≤ b ∧ w.heap.size ≤ t ∧ w.heap.size ≤ x ∧ w.heap.size ≤ y := by
  go_enter Tryz.func143, Tryz.ntmps143
  have hz : ∀ (x : Bool) (w : World), (Op.unary .not (.bool x)).run Tryz.prog w = .ok (.bool (!x)) w := fun _ _ => rfl
  have d4 : (4 : Nat) ≤ cap := hc
  have hmk : ∀ w : World, (Instr.makeSlice 25 (.int .i64 0) (.int .i64 2)).run Tryz.prog w = .ok (.slice (some ⟨w.heap.size, 0, none⟩) 0 2) (w.alloc (.cells #[.string ⟨#[]⟩, .string ⟨#[]⟩] 9)) := fun w => by kernel_rfl
  have hz90 : Tryz.zeroCells184.size = 257 := by kernel_rfl
  have hone90 : ∀ v ∈ Tryz.zeroCells184.toList, v.oneCell' = true := by
    intro v hv
    have : Tryz.zeroCells184.toList.all Value.oneCell' = true := by kernel_rfl
    exact List.all_eq_true.1 this v hv
  have hst : ∀ (w : World) (N : Nat) (x : Value), w.heap[N]? = some (.cells Tryz.zeroCells184 184 (0, 0)) → x.oneCell' = true →
      (storeCells ⟨N, 0, none⟩ (Tryz.zeroCells184.toList.set 256 x)).run Tryz.prog w = .ok () (w.setRow N (Tryz.zeroCells184.toList.set 256 x).toArray) := fun w N x hN hx => by
    have h := run_storeCells_at Tryz.prog N 0 184 (Tryz.zeroCells184.toList.set 256 x) 0 Tryz.zeroCells184 w hN (by simp [hz90]) (fun v hv => by
      rcases List.mem_or_eq_of_mem_set hv with h | h
      · exact hone90 v h
      · rw [h]; exact hx)
    rw [h]
    rw [Nat.add_zero, List.take_zero, List.nil_append, List.drop_of_length_le (by simp [hz90]), List.append_nil]
  go_wp2
  refine wp_loop_rounds 4 ?_
  rw [rounds_succ]
  go_wp2
  rw [rounds_succ]
  go_wp2
  rw [rounds_succ]
  go_wp2
  rw [hst _ _ _ (by have z := heap_alloc_new (w.alloc (.cells #[.string ⟨#[]⟩, .string ⟨#[]⟩] 9)) (.cells Tryz.zeroCells184 184); simpa using z) rfl]
  simp only [Result.andThen]
  have hq0 : ∀ (w : World), (binOp .eql 96 (.slice none 0 0) (.slice none 0 0)).run Tryz.prog w = .ok (.bool true) w := fun _ => by kernel_rfl
  have i34 : ((ByteArray.mk #[34])[0]'(by decide)).toNat = 34 := rfl
  have i92 : ((ByteArray.mk #[92])[0]'(by decide)).toNat = 92 := rfl
  have HI := Aside0.mk (InR.start w)
  go_wp2
  clear hst hone90 hmk
  generalize (((w.alloc (.cells #[.string ⟨#[]⟩, .string ⟨#[]⟩] 9)).alloc (.cells Tryz.zeroCells184 184)).setRow (w.heap.size + 1) (Tryz.zeroCells184.toList.set 256 (.slice (some ⟨w.heap.size, 0, none⟩) 0 2)).toArray) = w1 at *
  have HIa := HI
  clear HI
  refine wp_loop_rounds 4 ?_
  rw [rounds_succ]
  have ya0 := HIa.out.old h2
  have ya1 := HIa.out.old h3
  have xta := HIa.out.top.1
  have fta := HIa.out.top.2
  have xaa : w1.cell? ⟨w.heap.size + 1, 34, none⟩ = some (.slice none 0 0) := (HIa.out.at 34 (by decide)).1
  have hcva : (convert 96 9 (.slice (some ⟨w1.heap.size, 0, none⟩) 1 1)).run Tryz.prog (w1.alloc (.cells #[.int .u8 34] 5)) = .ok (.string ⟨#[34]⟩) (w1.alloc (.cells #[.int .u8 34] 5)) := conv1 34 w1
  have HJa := Aside0.mk (HIa.out.grow (((Go.Den.Below.refl _ w1).alloc (Nat.le_refl _) (.cells #[.int .u8 34] 5)).alloc (by simp) (.cells #[.string ⟨#[34]⟩] 9)))
  obtain ⟨va, happa, hi3, hsza⟩ := HJa.out.app rfl (by decide) ⟨w1.heap.size + 1, 0, none⟩ 1 ⟨#[34]⟩ (by
    rw [add_at]
    have z := heap_alloc_new (w1.alloc (.cells #[.int .u8 34] 5)) (.cells #[.string ⟨#[34]⟩] 9)
    rw [show (w1.alloc (.cells #[.int .u8 34] 5)).heap.size = w1.heap.size + 1 by simp] at z
    rw [Lib.cell_of_heap z]; rfl)
  have xt2a := hi3.top.1
  have ft2a := hi3.top.2
  have HKa := Aside0.mk (hi3.putTop 1)
  clear hi3
  obtain ⟨cca, ua, hcba, hi5, hcells⟩ := HKa.out.conv ⟨#[92, 34]⟩
  have hX : w.heap.size + 2 ≤ (va.setCell ⟨w.heap.size + 1, 256, none⟩ (.slice (some ⟨w.heap.size, 0, none⟩) 1 2)).heap.size := HKa.out.size
  generalize hXe : (va.setCell ⟨w.heap.size + 1, 256, none⟩ (.slice (some ⟨w.heap.size, 0, none⟩) 1 2)).heap.size = Xa at *
  have HLa := Aside0.mk ((hi5.add (hcells 0 (show 0 < 2 by decide)) hX).add (hcells 1 (show 1 < 2 by decide)) hX)
  clear hi5 hcells
  have xba : ua.cell? ⟨w.heap.size + 1, 34, none⟩ = some (.slice none 0 0) := (HLa.out.at 34 (by decide)).1
  have fba := (HLa.out.at 34 (by decide)).2
  have HMa := Aside0.mk (HLa.out.put 34 (by decide) (.slice (some ⟨Xa, 0, none⟩) 2 cca))
  go_wp2_with (at_builtin; refine wpList_app _ rfl _ _ 25 rfl _ _ _ _ rfl rfl happa ?_)
  have HIb := HMa
  clear HMa HIa HJa HKa HLa happa hcva hcba xta fta xaa xt2a ft2a xba fba
  generalize (ua.setCell ⟨w.heap.size + 1, 34, none⟩ (.slice (some ⟨Xa, 0, none⟩) 2 cca)) = w2 at *
  rw [rounds_succ]
  have yb0 := HIb.out.old h0
  have yb1 := HIb.out.old h1
  have xtb := HIb.out.top.1
  have ftb := HIb.out.top.2
  have xab : w2.cell? ⟨w.heap.size + 1, 92, none⟩ = some (.slice none 0 0) := (HIb.out.at 92 (by decide)).1
  have hcvb : (convert 96 9 (.slice (some ⟨w2.heap.size, 0, none⟩) 1 1)).run Tryz.prog (w2.alloc (.cells #[.int .u8 92] 5)) = .ok (.string ⟨#[92]⟩) (w2.alloc (.cells #[.int .u8 92] 5)) := conv1 92 w2
  have HJb := Aside0.mk (HIb.out.grow (((Go.Den.Below.refl _ w2).alloc (Nat.le_refl _) (.cells #[.int .u8 92] 5)).alloc (by simp) (.cells #[.string ⟨#[92]⟩] 9)))
  obtain ⟨vb, happb, hi3, hszb⟩ := HJb.out.app rfl (by decide) ⟨w2.heap.size + 1, 0, none⟩ 1 ⟨#[92]⟩ (by
    rw [add_at]
    have z := heap_alloc_new (w2.alloc (.cells #[.int .u8 92] 5)) (.cells #[.string ⟨#[92]⟩] 9)
    rw [show (w2.alloc (.cells #[.int .u8 92] 5)).heap.size = w2.heap.size + 1 by simp] at z
    rw [Lib.cell_of_heap z]; rfl)
  have xt2b := hi3.top.1
  have ft2b := hi3.top.2
  have HKb := Aside0.mk (hi3.putTop 2)
  clear hi3
  obtain ⟨ccb, ub, hcbb, hi5, hcells⟩ := HKb.out.conv ⟨#[92, 92]⟩
  have hX : w.heap.size + 2 ≤ (vb.setCell ⟨w.heap.size + 1, 256, none⟩ (.slice (some ⟨w.heap.size, 0, none⟩) 2 2)).heap.size := HKb.out.size
  generalize hXe : (vb.setCell ⟨w.heap.size + 1, 256, none⟩ (.slice (some ⟨w.heap.size, 0, none⟩) 2 2)).heap.size = Xb at *
  have HLb := Aside0.mk ((hi5.add (hcells 0 (show 0 < 2 by decide)) hX).add (hcells 1 (show 1 < 2 by decide)) hX)
  clear hi5 hcells
  have xbb : ub.cell? ⟨w.heap.size + 1, 92, none⟩ = some (.slice none 0 0) := (HLb.out.at 92 (by decide)).1
  have fbb := (HLb.out.at 92 (by decide)).2
  have HMb := Aside0.mk (HLb.out.put 92 (by decide) (.slice (some ⟨Xb, 0, none⟩) 2 ccb))
  go_wp2_with (at_builtin; refine wpList_app _ rfl _ _ 25 rfl _ _ _ _ rfl rfl happb ?_)
  have HZ := HMb
  clear HMb HIb HJb HKb HLb happb hcvb hcbb xtb ftb xab xt2b ft2b xbb fbb
  generalize (ub.setCell ⟨w.heap.size + 1, 92, none⟩ (.slice (some ⟨Xb, 0, none⟩) 2 ccb)) = w3 at *
  rw [rounds_succ]
  go_wp2
  go_ret
  have hz := HZ.out
  have hk := hz.keep
  obtain ⟨cur, hg, hs2, _, ht⟩ := hz.row
  have e1 : cur.toList = [.string ⟨#[34]⟩, .string ⟨#[92]⟩] := by
    have h2 : cur.toList.length = 2 := by simpa using hs2
    rw [List.take_of_length_le (by rw [h2]; exact Nat.le_refl _)] at ht
    exact ht
  have hcell : ∀ (j : Nat) v, [Value.string ⟨#[34]⟩, .string ⟨#[92]⟩][j]? = some v → w3.cell? ⟨w.heap.size, j, none⟩ = some v := fun j v hv => by
    rw [Lib.cell_of_heap hg, ← Array.getElem?_toList, e1]; exact hv
  refine ⟨w.heap.size + 1, w.heap.size, 2, Xa, cca, Xb, ccb, rfl, ⟨hz.top.1, hcell 0 _ rfl, hcell 1 _ rfl, (hz.at 34 (by decide)).1, ?_, ?_, (hz.at 92 (by decide)).1, ?_, ?_, fun k h1 h2 h3 => ?_⟩, hz.below, by omega, Nat.le_refl _, by omega, by omega⟩
  · exact (hk _ (by simp; exact .inr (.inr (.inr rfl)))).2.2
  · exact (hk _ (by simp; exact .inr (.inr (.inl rfl)))).2.2
  · exact (hk _ (by simp; exact .inr (.inl rfl))).2.2
  · exact (hk _ (by simp; exact .inl rfl)).2.2
  · have := (hz.at k h1).1
    rw [if_neg h3, if_neg h2] at this
    exact this
theorem IsR.set {b t cap x c1 y c2 : Nat} {w : World} (h : IsR b t cap x c1 y c2 w) {q : Addr} (v : Value) (hb : q.block ≠ b) (ht : q.block ≠ t) (hx : q.block ≠ x) (hy : q.block ≠ y) : IsR b t cap x c1 y c2 (w.setCell q v) := by
  have k : ∀ {a : Addr} {u : Value}, q.block ≠ a.block → w.cell? a = some u → (w.setCell q v).cell? a = some u := fun hne hu => (World.cell?_setCell_other _ _ _ _ (fun h => hne (by rw [h]))).trans hu
  exact ⟨k hb h.top, k ht h.t0, k ht h.t1, k hb h.q, k hx h.q0, k hx h.q1, k hb h.s, k hy h.s0, k hy h.s1, fun i h1 h2 h3 => k hb (h.other i h1 h2 h3)⟩
theorem below_set {B : Nat} {W w : World} (h : Go.Den.Below B W w) {q : Addr} (hq : B ≤ q.block) (v : Value) : Go.Den.Below B W (w.setCell q v) := by
  have := (Go.RowKit.Below.refl B w).setCell (p := q) hq v
  exact h.trans ⟨this.os, this.tape, this.output, this.size, this.block, Nat.le_of_eq (by rfl)⟩
structure OfR (q : Nat) (w : World) : Prop where
  r : ∃ v, w.cell? ⟨q, 3, none⟩ = some v
  o : ∃ o cap, 4 ≤ cap ∧ w.cell? ⟨q, 4, none⟩ = some (.slice (some ⟨o, 0, none⟩) 4 cap) ∧ o ≠ q ∧ w.cell? ⟨o, 0, none⟩ = some (.string ⟨#[92]⟩) ∧ w.cell? ⟨o, 1, none⟩ = some (.string ⟨#[92, 92]⟩) ∧ w.cell? ⟨o, 2, none⟩ = some (.string ⟨#[34]⟩) ∧ w.cell? ⟨o, 3, none⟩ = some (.string ⟨#[92, 34]⟩)
  fz : ∀ j, w.frozen? ⟨q, j, none⟩ = false
theorem frozen_below {B : Nat} {w w' : World} (h : Go.Den.Below B w w') {p : Addr} (hp : p.block < B) : w'.frozen? p = w.frozen? p := by
  simp only [World.frozen?, h.block _ hp]
structure OfQ (q : Nat) (w : World) : Prop extends OfR q w where
  done : w.cell? ⟨q, 0, none⟩ = some (.int .u32 0)
  m : w.cell? ⟨q, 1, none⟩ = some (.int .i32 0)
theorem OfR.set {q : Nat} {w : World} (h : OfR q w) (v : Value) : OfR q (w.setCell ⟨q, 1, none⟩ v) := by
  obtain ⟨u, hu⟩ := h.r
  obtain ⟨o, cap, hc, hq, hne, h0, h1, h2, h3⟩ := h.o
  have k : ∀ {j : Nat} {x : Value}, w.cell? ⟨o, j, none⟩ = some x → (w.setCell ⟨q, 1, none⟩ v).cell? ⟨o, j, none⟩ = some x := fun hx => (World.cell?_setCell_other _ _ _ _ (fun h => hne (by have := congrArg Addr.block h; simpa using this.symm))).trans hx
  exact ⟨⟨u, (World.cell?_setCell_other _ ⟨q, 1, none⟩ ⟨q, 3, none⟩ _ (by simp)).trans hu⟩, ⟨o, cap, hc, (World.cell?_setCell_other _ ⟨q, 1, none⟩ ⟨q, 4, none⟩ _ (by simp)).trans hq, hne, k h0, k h1, k h2, k h3⟩, fun j => by simp [h.fz]⟩
theorem buildOnce (q : Nat) (w : World) (h : OfR q w) :
    Calls Tryz.prog 118 #[.pointer (some ⟨q, 0, none⟩)] w fun e w' => e = .returned (.tuple #[]) ∧ ∃ b t cap' x c1 y c2 wb, IsR b t cap' x c1 y c2 wb ∧ Go.Den.Below w.heap.size w wb ∧ (w.heap.size ≤ b ∧ w.heap.size ≤ t ∧ w.heap.size ≤ x ∧ w.heap.size ≤ y) ∧ w' = (wb.setCell ⟨q, 3, none⟩ (.iface 185 (.pointer (some ⟨b, 0, none⟩)))).setCell ⟨q, 4, none⟩ (.slice none 0 0) := by
  obtain ⟨o, cap, hc, hq, _, h0, h1, h2, h3⟩ := h.o
  obtain ⟨v3, h33⟩ := h.r
  have hf := h.fz
  clear h
  go_enter Tryz.func118, Tryz.ntmps118
  go_wp2_with (go_at_call 143; refine (build q o cap _ hq hc h0 h1 h2 h3).mono ?_; rintro e wb ⟨b, t, cap', x, c1, y, c2, rfl, hR, hB, hle⟩; have HR := Aside0.mk (And.intro hR (And.intro hB hle)); have k3 := (hB.cell (World.block_lt_of_cell? _ _ h33)).trans h33; have k4 := (hB.cell (World.block_lt_of_cell? _ _ hq)).trans hq; have f3 := (frozen_below hB (World.block_lt_of_cell? _ _ h33)).trans (hf 3); have f4 := (frozen_below hB (World.block_lt_of_cell? _ _ hq)).trans (hf 4); clear hR hB hle)
  go_end0
  exact ⟨rfl, b, t, cap', x, c1, y, c2, wb, HR.out.1, HR.out.2.1, HR.out.2.2, rfl⟩

structure DoneQ (B q : Nat) (W w' : World) (t cap x c1 y c2 b : Nat) : Prop where
  isr : IsR b t cap x c1 y c2 w'
  r : w'.cell? ⟨q, 3, none⟩ = some (.iface 185 (.pointer (some ⟨b, 0, none⟩)))
  below : Go.Den.Below B W w'
  ne : q ≠ b ∧ q ≠ t ∧ q ≠ x ∧ q ≠ y
theorem DoneQ.set {B q : Nat} {W w : World} {t cap x c1 y c2 b : Nat} (h : DoneQ B q W w t cap x c1 y c2 b) (hq : B ≤ q) (j : Nat) (hj : j ≠ 3) (v : Value) : DoneQ B q W (w.setCell ⟨q, j, none⟩ v) t cap x c1 y c2 b :=
  ⟨h.isr.set v h.ne.1 h.ne.2.1 h.ne.2.2.1 h.ne.2.2.2, (World.cell?_setCell_other _ ⟨q, j, none⟩ ⟨q, 3, none⟩ _ (by simpa using hj)).trans h.r, below_set h.below hq v, h.ne⟩
theorem DoneQ.drew {B q : Nat} {W w : World} {t cap x c1 y c2 b : Nat} (h : DoneQ B q W w t cap x c1 y c2 b) : DoneQ B q W w.drew t cap x c1 y c2 b :=
  ⟨⟨h.isr.top, h.isr.t0, h.isr.t1, h.isr.q, h.isr.q0, h.isr.q1, h.isr.s, h.isr.s0, h.isr.s1, h.isr.other⟩, h.r, below_drew h.below, h.ne⟩
theorem slow (B q : Nat) (w : World) (hBq : B ≤ q) (hBw : B ≤ w.heap.size) (h : OfQ q w) :
    Calls Tryz.prog 142 #[.pointer (some ⟨q, 0, none⟩), .func (.func 118) #[.pointer (some ⟨q, 0, none⟩)] #[]] w fun e w' => e = .returned (.tuple #[]) ∧ ∃ b t cap x c1 y c2, DoneQ B q w w' t cap x c1 y c2 b := by
  have h0 := h.done
  have h1 := h.m
  have f0 := h.fz 0
  have f1 := h.fz 1
  have H := Aside0.mk h
  clear h
  have hl := run_call_load (P := Tryz.prog) Tryz.func166 (by kernel_rfl) (by kernel_rfl) (by kernel_rfl) .u32 (by kernel_rfl) (w := w.setCell ⟨q, 1, none⟩ (.int .i32 1)) (a := ⟨q, 0, none⟩) (x := 0) ((World.cell?_setCell_other _ ⟨q, 1, none⟩ ⟨q, 0, none⟩ _ (by simp)).trans h0)
  have hnot : ∀ (x : Bool) (w : World), (Op.unary .not (.bool x)).run Tryz.prog w = .ok (.bool (!x)) w := fun _ _ => rfl
  go_enter_defers Tryz.func142, Tryz.ntmps142
  have hR := H.out.toOfR.set (.int .i32 1)
  have hq : q < w.heap.size := World.block_lt_of_cell? _ _ h0
  go_wp2_with (first | (go_at_call 167; refine (Once.lock_free ⟨q, 1, none⟩ _ (by go_simp) (by go_simp)).mono ?_; rintro e w' ⟨rfl, rfl⟩) | (go_at_call 118; refine (buildOnce q _ hR).mono ?_; rintro e w' ⟨rfl, b, t, cap, x, c1, y, c2, wb, hI, hB, hle, rfl⟩; have HB := Aside0.mk (And.intro hI (And.intro hB hle)); clear hI hB hle) | go_in)
  have hsz : (w.setCell ⟨q, 1, none⟩ (.int .i32 1)).heap.size = w.heap.size := by simp
  have hb := HB.out
  rw [hsz] at hb
  have k : ∀ (j : Nat) (v : Value), (w.setCell ⟨q, 1, none⟩ (.int .i32 1)).cell? ⟨q, j, none⟩ = some v → wb.cell? ⟨q, j, none⟩ = some v := fun j v hv => (hb.2.1.cell (by exact hq)).trans hv
  have e0 : wb.cell? ⟨q, 0, none⟩ = some (.int .u32 0) := k 0 _ ((World.cell?_setCell_other _ ⟨q, 1, none⟩ ⟨q, 0, none⟩ _ (by simp)).trans h0)
  have e1 : wb.cell? ⟨q, 1, none⟩ = some (.int .i32 1) := k 1 _ (World.cell?_setCell_same _ _ _ h1)
  have e3 : ∃ v, wb.cell? ⟨q, 3, none⟩ = some v := by
    obtain ⟨v, hv⟩ := hR.r
    exact ⟨v, k 3 v hv⟩
  have z : ∀ j, wb.frozen? ⟨q, j, none⟩ = false := fun j => (frozen_below hb.2.1 (by exact hq)).trans (hR.fz j)
  have hne : q ≠ b ∧ q ≠ t ∧ q ≠ x ∧ q ≠ y := by omega
  have HD := Aside0.mk (show DoneQ B q w ((wb.setCell ⟨q, 3, none⟩ (.iface 185 (.pointer (some ⟨b, 0, none⟩)))).setCell ⟨q, 4, none⟩ (.slice none 0 0)) t cap x c1 y c2 b from by
    obtain ⟨v3, hv3⟩ := e3
    have hw0 : Go.Den.Below B w (w.setCell ⟨q, 1, none⟩ (.int .i32 1)) := below_set (Go.Den.Below.refl _ _) hBq _
    have hwb := hw0.trans (hb.2.1.mono hBw)
    exact DoneQ.set ⟨hb.1.set _ hne.1 hne.2.1 hne.2.2.1 hne.2.2.2, World.cell?_setCell_same _ _ _ hv3, below_set hwb hBq _, hne⟩ hBq 4 (by decide) _)
  have d0 : ((wb.setCell ⟨q, 3, none⟩ (.iface 185 (.pointer (some ⟨b, 0, none⟩)))).setCell ⟨q, 4, none⟩ (.slice none 0 0)).cell? ⟨q, 0, none⟩ = some (.int .u32 0) :=
    (World.cell?_setCell_other _ ⟨q, 4, none⟩ ⟨q, 0, none⟩ _ (by simp)).trans ((World.cell?_setCell_other _ ⟨q, 3, none⟩ ⟨q, 0, none⟩ _ (by simp)).trans e0)
  have d1 : ((wb.setCell ⟨q, 3, none⟩ (.iface 185 (.pointer (some ⟨b, 0, none⟩)))).setCell ⟨q, 4, none⟩ (.slice none 0 0)).cell? ⟨q, 1, none⟩ = some (.int .i32 1) :=
    (World.cell?_setCell_other _ ⟨q, 4, none⟩ ⟨q, 1, none⟩ _ (by simp)).trans ((World.cell?_setCell_other _ ⟨q, 3, none⟩ ⟨q, 1, none⟩ _ (by simp)).trans e1)
  have dz : ∀ j, ((wb.setCell ⟨q, 3, none⟩ (.iface 185 (.pointer (some ⟨b, 0, none⟩)))).setCell ⟨q, 4, none⟩ (.slice none 0 0)).frozen? ⟨q, j, none⟩ = false := fun j => by simp [z]
  clear hb k e0 e1 e3 z HB
  generalize ((wb.setCell ⟨q, 3, none⟩ (.iface 185 (.pointer (some ⟨b, 0, none⟩)))).setCell ⟨q, 4, none⟩ (.slice none 0 0)) = W2 at *
  refine leaves_cons (f := 169) (args := #[.pointer (some ⟨q, 0, none⟩), .bool true]) (by simp) (by simp [go_sem]) ?_
  refine (Once.store_deferred ⟨q, 0, none⟩ (.int .u32 0) .returning _ d0 (dz 0)).mono ?_
  rintro e u' w'' ⟨rfl, rfl, rfl⟩
  refine leaves_cons (f := 168) (args := #[.pointer (some ⟨q, 1, none⟩)]) (by simp [settle]) (by simp [go_sem]) ?_
  refine (Once.unlock_deferred ⟨q, 1, none⟩ _ _ ?_ (by simp [dz])).mono ?_
  · refine (World.cell?_setCell_other _ ⟨q, 0, none⟩ ⟨q, 1, none⟩ _ (by simp)).trans ?_
    rw [World.cell?_drew]
    exact d1
  rintro e u' w'' ⟨rfl, rfl, rfl⟩
  simp [Leaves, settle, results, Tryz.results142]
  exact ⟨b, t, cap, x, c1, y, c2, (HD.out.drew.set hBq 0 (by decide) _).set hBq 1 (by decide) _⟩
theorem once (B q : Nat) (w : World) (hBq : B ≤ q) (hBw : B ≤ w.heap.size) (h : OfQ q w) :
    Calls Tryz.prog 117 #[.pointer (some ⟨q, 0, none⟩), .func (.func 118) #[.pointer (some ⟨q, 0, none⟩)] #[]] w fun e w' => e = .returned (.tuple #[]) ∧ ∃ b t cap x c1 y c2, DoneQ B q w w' t cap x c1 y c2 b := by
  have hl := run_call_load (P := Tryz.prog) Tryz.func166 (by kernel_rfl) (by kernel_rfl) (by kernel_rfl) .u32 (by kernel_rfl) h.done
  have hnot : ∀ (x : Bool) (w : World), (Op.unary .not (.bool x)).run Tryz.prog w = .ok (.bool (!x)) w := fun _ _ => rfl
  have H := Aside0.mk h
  clear h
  go_enter Tryz.func117, Tryz.ntmps117
  go_wp2_with (first | (go_at_call 142; refine (slow B q _ hBq hBw H.out).mono ?_; rintro e w' ⟨rfl, b, t, cap, x, c1, y, c2, HD⟩; have HD := Aside0.mk HD) | go_in)
  go_end0
  exact ⟨rfl, b, t, cap, x, c1, y, c2, HD.out⟩
theorem Replace (B q : Nat) (s : ByteArray) (hs : s.size ≤ 200) (w : World) (hBq : B ≤ q) (hBw : B ≤ w.heap.size) (h : OfQ q w) :
    Calls Tryz.prog 84 #[.pointer (some ⟨q, 0, none⟩), .string s] w fun e w' => e = .returned (.string ⟨(body s.data.toList).toArray⟩) ∧ Go.Den.Below B w w' := by
  have hmf : ∀ (fn : Fn) (first cap : Array Value) (w : World), (Instr.makeFunc fn first cap).run Tryz.prog w = .ok (.func fn first cap) w := fun _ _ _ _ => rfl
  have H := Aside0.mk h
  clear h
  have hmth : ∀ (b : Nat) (w : World), (method 355 185 (.pointer (some ⟨b, 0, none⟩)) "Replace").run Tryz.prog w = .ok (230, .pointer (some ⟨b, 0, none⟩)) w := fun _ _ => by kernel_rfl
  have hen : ∀ args w, (callFunc 230 args).run Tryz.prog w = .ok (.enter 230 args) w := enters_of Tryz.func230 (by kernel_rfl) rfl
  go_enter Tryz.func84, Tryz.ntmps84
  go_wp2_with (first | (go_at_call 117; refine (once B q _ hBq hBw H.out).mono ?_; rintro e w' ⟨rfl, b, t, cap, x, c1, y, c2, HD⟩; have hr := HD.r; replace HD := Aside0.mk HD) | (go_at_call 230; refine (replace b t cap x c1 y c2 s _ HD.out.isr hs).mono ?_; rintro e w2 ⟨rfl, hb⟩; have HE := Aside0.mk (HD.out.below.trans (hb.mono (Nat.le_trans hBw HD.out.below.size))); clear hb))
  go_ret
  exact ⟨rfl, HE.out⟩
theorem wpList_append_own_d {P : Program} (w : World) {ops : Array Oper} {rest : List Oper} {o : Oper} {a : Act} {Q : Exit → Act → World → Prop} (hgd : o.guard = none) (s x : Operand) (t : TypeId)
    (ho : o.op = .call { callee := .builtin .append, args := #[s, x], argTypes := #[t, t] })
    (base : Nat) (e : TypeId) (i : TypeInfo) (z : Value) (size bytes : Nat) (ht : P.underlying t = some (.slice e)) (hi : P.info? e = some i) (hz : i.zero = some z)
    (hsize : i.size = size) (hby : i.bytes = bytes) (hzs : z.cells.size = size) (hsz : 0 < size)
    (v : Value) (n : Nat) (xs : List Value) (hs : a.eval s = v) (hown : w.ownsRow base e size v n xs)
    (ad : Addr) (m c : Nat) (news : List Value) (hx : a.eval x = .slice (some ad) m c) (hl : news.length = m * size) (hnews : ∀ (j : Nat) u, news[j]? = some u → w.cell? (ad.add j) = some u) (h1 : ∀ u ∈ news, u.oneCell' = true)
    (h63 : n + m ≤ maxLen) (hbytes : (n + m) * bytes ≤ 140737488355328) (hbase : base ≤ w.heap.size) (hb2 : (n + m) * bytes ≤ 35184372088832) (hn2 : n + m ≤ 35184372088832)
    (h : ∀ v' w', w'.ownsRow base e size v' (n + m) (xs ++ news) → w.grownBy w' v.ownBlock → (v' = .slice none 0 0 ↔ v = .slice none 0 0 ∧ m = 0) → w.drawn ≤ w'.drawn → wpList P ops Q rest (a.put o.dst v') w') : wpList P ops Q (o :: rest) a w := by
  obtain ⟨v', w', hr, h2, h3, h4⟩ := run_append_own (P := P) w base t o.type e i z size bytes ht hi hz hsize hby hzs hsz v n xs hown ad m c news hl hnews h1 h63 hbytes hbase
  obtain ⟨v2, w2, e2, hr2, _, hG, _⟩ := Go.Den.append_ok (P := P) (w := w) base t o.type e e i z size ht hi hz hsize hzs hsz v n xs (Go.Den.OwnR.of hown) (some ad) m c news hl (.inr ⟨ad, rfl, hnews⟩) h1 (by rw [hby]; exact hb2) hn2 hbase
  have e1 := hr.symm.trans hr2
  injection e1 with e1 e3
  subst e1 e3
  refine wpList_plain hgd fun _ hK => ?_
  unfold Oper.wp execOp
  simp only [ho, resolve, invoke, builtin, Sem.run_bind, Sem.run_pure, Result.andThen_ok, List.map_toArray, List.map_cons, List.map_nil, hs, hx, hr]
  exact hK _ _ (h v' w' h2 h3 h4 hG.drawn)
structure Four (m : Nat) (w : World) : Prop where
  h0 : w.cell? ⟨m, 0, none⟩ = some (.string ⟨#[92]⟩)
  h1 : w.cell? ⟨m, 1, none⟩ = some (.string ⟨#[92, 92]⟩)
  h2 : w.cell? ⟨m, 2, none⟩ = some (.string ⟨#[34]⟩)
  h3 : w.cell? ⟨m, 3, none⟩ = some (.string ⟨#[92, 34]⟩)
theorem newReplacer (m : Nat) (w : World) (h : Four m w) :
    Calls Tryz.prog 83 #[.slice (some ⟨m, 0, none⟩) 4 4] w fun e w' => ∃ q, e = .returned (.pointer (some ⟨q, 0, none⟩)) ∧ w.heap.size ≤ q ∧ OfQ q w' ∧ Go.Den.Below w.heap.size w w' := by
  obtain ⟨i0, hi, hz0, hz1, hz2⟩ := info_parts (show (Tryz.prog.info? 9).map (fun i => (i.zero, i.size, i.bytes)) = some (some (.string ⟨#[]⟩), 1, 16) by kernel_rfl)
  go_enter Tryz.func83, Tryz.ntmps83
  go_wp2_with (at_builtin; refine wpList_append_own_d _ rfl _ _ 25 rfl w.heap.size 9 i0 (.string ⟨#[]⟩) 1 16 Tryz.underlying25 hi hz0 hz1 hz2 rfl (by decide) _ 0 [] rfl (World.ownsRow_nil _ _ _ _) ⟨m, 0, none⟩ 4 4 [.string ⟨#[92]⟩, .string ⟨#[92, 92]⟩, .string ⟨#[34]⟩, .string ⟨#[92, 34]⟩] rfl rfl ?c1 ?c2 ?c3 ?c4 ?c5 ?c6 ?c7 ?_)
  case c1 =>
    intro j u hj
    rw [add_at]
    match j, hj with
    | 0, hj => simp at hj; subst hj; exact h.h0
    | 1, hj => simp at hj; subst hj; exact h.h1
    | 2, hj => simp at hj; subst hj; exact h.h2
    | 3, hj => simp at hj; subst hj; exact h.h3
  case c2 => intro u hu; simp at hu; rcases hu with rfl | rfl | rfl | rfl <;> rfl
  case c3 => decide
  case c4 => decide
  case c5 => exact Nat.le_refl _
  case c6 => decide
  case c7 => decide
  intro v' w2 hown hgrow _ hd2
  obtain ⟨g, cap, cur, rfl, hbg, hg, hnc, hcm, hcs, htake⟩ : ∃ g cap cur, v' = .slice (some ⟨g, 0, none⟩) (0 + 4) cap ∧ w.heap.size ≤ g ∧ w2.heap[g]? = some (.cells cur 9 (0, 0)) ∧ 0 + 4 ≤ cap ∧ cap ≤ maxLen ∧ cur.size = cap * 1 ∧ cur.toList.take ((0 + 4) * 1) = [] ++ [.string ⟨#[92]⟩, .string ⟨#[92, 92]⟩, .string ⟨#[34]⟩, .string ⟨#[92, 34]⟩] := by
    rcases hown.2 with ⟨_, h0⟩ | h
    · omega
    · exact h
  have hcell : ∀ (j : Nat) v, [Value.string ⟨#[92]⟩, .string ⟨#[92, 92]⟩, .string ⟨#[34]⟩, .string ⟨#[92, 34]⟩][j]? = some v → w2.cell? ⟨g, j, none⟩ = some v := fun j v hv => by
    rw [Lib.cell_of_heap hg, ← Array.getElem?_toList]
    have hj : j < 4 := (List.getElem?_eq_some_iff.1 hv).1
    rw [List.nil_append] at htake
    rw [← htake, List.getElem?_take, if_pos (by omega)] at hv
    exact hv
  have hlt : g < w2.heap.size := by
    rcases Nat.lt_or_ge g w2.heap.size with h' | h'
    · exact h'
    · simp [Array.getElem?_eq_none h'] at hg
  have hb2 : Go.Den.Below w.heap.size w w2 := ⟨hgrow.os, hgrow.tape, hgrow.output, hgrow.size, fun k hk => hgrow.block k hk (by simp [Value.ownBlock]), hd2⟩
  have HB := Aside0.mk hb2
  clear hb2 hgrow hown
  go_wp2
  go_ret
  have z := heap_alloc_new w2 (.cells #[.int .u32 0, .int .i32 0, .int .u32 0, .nilIface, .slice (some ⟨g, 0, none⟩) 4 cap] 133)
  have hz : ∀ (j : Nat) v, w2.cell? ⟨g, j, none⟩ = some v → (w2.alloc (.cells #[.int .u32 0, .int .i32 0, .int .u32 0, .nilIface, .slice (some ⟨g, 0, none⟩) 4 cap] 133)).cell? ⟨g, j, none⟩ = some v := fun j v hv => by
    rw [World.cell?_alloc_past _ _ _ hlt]; exact hv
  refine ⟨w2.heap.size, rfl, HB.out.size, ⟨⟨⟨.nilIface, ?_⟩, ⟨g, cap, by omega, ?_, by omega, hz 0 _ (hcell 0 _ rfl), hz 1 _ (hcell 1 _ rfl), hz 2 _ (hcell 2 _ rfl), hz 3 _ (hcell 3 _ rfl)⟩, fun j => Lib.frozen_of_heap z j⟩, ?_, ?_⟩, HB.out.alloc HB.out.size _⟩ <;> (rw [Lib.cell_of_heap z]; rfl)
theorem quote (s : ByteArray) (hs : s.size ≤ 200) (w : World) :
    Calls Tryz.prog 43 #[.string s] w fun e w' => e = .returned (.string ⟨(34 :: (body s.data.toList ++ [34])).toArray⟩) ∧ Go.Den.Below w.heap.size w w' := by
  have z := heap_alloc_new w (.cells #[.string ⟨#[92]⟩, .string ⟨#[92, 92]⟩, .string ⟨#[34]⟩, .string ⟨#[92, 34]⟩] 9)
  have h4 : Four w.heap.size (w.alloc (.cells #[.string ⟨#[92]⟩, .string ⟨#[92, 92]⟩, .string ⟨#[34]⟩, .string ⟨#[92, 34]⟩] 9)) := ⟨by rw [Lib.cell_of_heap z]; rfl, by rw [Lib.cell_of_heap z]; rfl, by rw [Lib.cell_of_heap z]; rfl, by rw [Lib.cell_of_heap z]; rfl⟩
  have H4 := Aside0.mk h4
  have HA := Aside0.mk ((Go.Den.Below.refl w.heap.size w).alloc (Nat.le_refl _) (.cells #[.string ⟨#[92]⟩, .string ⟨#[92, 92]⟩, .string ⟨#[34]⟩, .string ⟨#[92, 34]⟩] 9))
  clear z h4
  have hlen : (body s.data.toList).length ≤ 400 := by
    have := (bL_len s s.size (Nat.le_refl _)).2
    rw [bL_all] at this
    omega
  have n1 : ¬ 9223372036854775807 < 1 + (body s.data.toList).length := by omega
  have n2 : ¬ 9223372036854775807 < 1 + (body s.data.toList).length + 1 := by omega
  go_enter Tryz.func43, Tryz.ntmps43
  go_wp2_with (first | (go_at_call 83; refine (newReplacer w.heap.size _ H4.out).mono ?_; rintro e w1 ⟨q, rfl, hq, hQ, hW⟩; have HQ := Aside0.mk hQ; have HW := Aside0.mk (HA.out.trans (hW.mono HA.out.size)); have HL := Aside0.mk (show w.heap.size ≤ q from Nat.le_trans HA.out.size hq); clear hQ hW hq) | (go_at_call 84; refine (Replace w.heap.size q s hs _ HL.out HW.out.size HQ.out).mono ?_; rintro e w3 ⟨rfl, hb⟩; have HF := Aside0.mk (HW.out.trans hb); clear hb))
  go_ret
  refine ⟨?_, HF.out⟩
  have e : (ByteArray.mk #[34] ++ ByteArray.mk (body s.data.toList).toArray ++ ByteArray.mk #[34]) = ⟨(34 :: (body s.data.toList ++ [34])).toArray⟩ := by
    apply ByteArray.ext
    simp
  rw [← e]
  rfl
theorem quoE (s : ByteArray) (hs : s.size ≤ 200) (w : World) : Calls Tryz.prog 43 #[.string s] w fun e w' => e = .returned (.string (quoteS s)) ∧ Go.Den.Below w.heap.size w w' := quote s hs w
end Yq
theorem quoH {T : Go.Den.Tbls} (s : ByteArray) (w : World) (hs : s.size ≤ 200) (_ : Go.Den.Tbl T w) : Calls Tryz.prog 43 #[.string s] w fun e w' => e = .returned (.string (quoteS s)) ∧ Go.Den.Below w.heap.size w w' := Yq.quoE s hs w
end Go.Proofs.YtaejbcahfnlggaaGreatDoor.PU
