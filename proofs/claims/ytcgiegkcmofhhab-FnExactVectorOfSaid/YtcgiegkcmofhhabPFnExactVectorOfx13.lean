-- Written for this claim by a program of this session, which goes by the kit's print and takes contracts proved by hand.
import Derived.Test.YtcgiegkcmofhhabPFnExactVectorOfx0
import Derived.Test.YtcgiegkcmofhhabPFnExactVectorOfx2
import Derived.Test.YtcgiegkcmofhhabPFnExactVectorOfx12
namespace Go.Proofs.Ytcgiegkcmofhhab.PFnExactVectorOf
open Go.RowKit Go.Proofs.YtcgiegkcmofhhabW.PrintWords Go.Proofs.YtcgiegkcmofhhabW.PrintLast Go.Proofs.YtcgiegkcmofhhabW.PrintMore
attribute [local go_sem] max2_int min2_int max_two min_two max_three min_three max_four min_four   -- for this text's walks alone
set_option linter.unusedVariables false
set_option linter.unusedSimpArgs false

/-! ### impl_VectorOf: function 26 -/
/-! ### a map of the call's own, told by what its look-ups give -/
structure MapI (P : Program) (k e : TypeId) {κ ε : Type} (kl : κ → Lit) (el : ε → DataW Unit) (z : ε) (w : World) (b n : Nat) (f : κ → ε) : Prop where
 ex : ∃ D : DataW Unit, w.ownsMap P k (plainElem P e) b n D ∧ Go.Maps.IsMap D ∧ ∀ a, D.atKey (kl a) (el z) = el (f a)
theorem MapI.made {P : Program} {k e : TypeId} {κ ε : Type} {kl : κ → Lit} {el : ε → DataW Unit} {z : ε} (w : World) : MapI P k e kl el z (w.alloc (.map #[] 0)) w.heap.size 0 (fun _ => z) :=
 ⟨.map [], World.ownsMap_made _ _ _ _, ⟨[], rfl⟩, fun _ => rfl⟩
theorem MapI.kept {P : Program} {k e : TypeId} {κ ε : Type} {kl : κ → Lit} {el : ε → DataW Unit} {z : ε} {w w' : World} {b n : Nat} {f : κ → ε} {row : Option Nat} (h : MapI P k e kl el z w b n f) (hg : w.grownBy w' row) (hne : some b ≠ row) : MapI P k e kl el z w' b n f := by
 obtain ⟨D, h1, h2, h3⟩ := h
 exact ⟨D, h1.kept hg hne, h2, h3⟩
theorem MapI.lt {P : Program} {k e : TypeId} {κ ε : Type} {kl : κ → Lit} {el : ε → DataW Unit} {z : ε} {w : World} {b n : Nat} {f : κ → ε} (h : MapI P k e kl el z w b n f) : b < w.heap.size := by
 obtain ⟨D, h1, _⟩ := h
 exact h1.lt
theorem MapI.below {P : Program} {k e : TypeId} {κ ε : Type} {kl : κ → Lit} {el : ε → DataW Unit} {z : ε} {w w' : World} {b n : Nat} {f : κ → ε} (h : MapI P k e kl el z w b n f) (hg : Below w.heap.size w w') : MapI P k e kl el z w' b n f :=
 h.kept (grown_of_below hg none) (by simp)
theorem MapI.look {κ ε : Type} {kl : κ → Lit} {el : ε → DataW Unit} {z : ε} {P : Program} {w : World} {k e t : TypeId} {b n : Nat} {f : κ → ε} (hown : MapI P k e kl el z w b n f) (K : Go.Maps.Keyed P k) (ht : P.underlying t = some (.map k e)) (ev : ε → Value) (hz : (zeroValue e).run P w = .ok (ev z) w) (hez : plainElem P e (ev z) = some (el z, []))
  (hinv : ∀ v y ps, plainElem P e v = some (el y, ps) → v = ev y) {kv : Value} {key : κ} (hkey : keyOf P k kv = some (kl key)) : (Instr.lookup t (.map (some b)) kv false).run P w = .ok (ev (f key)) w := by
 obtain ⟨D, h1, _, h3⟩ := hown
 obtain ⟨v, ps, hrun, hv⟩ := h1.lookup K ht hz hez hkey
 rw [h3] at hv
 obtain rfl := hinv _ _ _ hv
 exact hrun
theorem wpList_lookup_mapI {κ ε : Type} {kl : κ → Lit} {el : ε → DataW Unit} {z : ε} {P : Program} (w : World) {ops : Array Oper} {rest : List Oper} {o : Oper} {a : Act} {Q : Exit → Act → World → Prop}
  (hg : o.guard = none) (m x : Operand) (t : TypeId) (hop : o.op = Op.lookup t m x false)
  (k e : TypeId) (K : Go.Maps.Keyed P k) (ht : P.underlying t = some (.map k e)) (ev : ε → Value) (hz : (zeroValue e).run P w = .ok (ev z) w) (hez : plainElem P e (ev z) = some (el z, []))
  (hinv : ∀ v y ps, plainElem P e v = some (el y, ps) → v = ev y) (b n : Nat) (f : κ → ε)
  (hm : a.eval m = .map (some b)) (hown : MapI P k e kl el z w b n f) (kv : Value) (key : κ) (hx : a.eval x = kv) (hkey : keyOf P k kv = some (kl key))
  (hK : wpList P ops Q rest (a.put o.dst (ev (f key))) w) :
  wpList P ops Q (o :: rest) a w := by
 refine wpList_plain hg fun K' hK' => ?_
 obtain ⟨D, h1, _, h3⟩ := hown
 obtain ⟨v, ps, hrun, hv⟩ := h1.lookup K ht hz hez hkey
 rw [h3] at hv
 obtain rfl := hinv _ _ _ hv
 unfold Oper.wp
 simp [execOp, hop, hm, hx, hrun, Result.andThen]
 exact hK' _ _ hK
theorem MapI.upd {κ ε : Type} [DecidableEq κ] {kl : κ → Lit} {el : ε → DataW Unit} {z : ε} {P : Program} {w : World} {k e t : TypeId} {b n : Nat} {f : κ → ε} (hown : MapI P k e kl el z w b n f) (K : Go.Maps.Keyed P k) (ht : P.underlying t = some (.map k e)) (hkl : ∀ a, WideAt.IsKeyLit (kl a)) (hinj : ∀ a b, kl a = kl b → a = b) (hn : n < maxLen)
  {kv val : Value} {key : κ} {y : ε} (hkey : keyOf P k kv = some (kl key)) (hval : plainElem P e val = some (el y, [])) :
  ∃ w', (Instr.mapUpdate t (.map (some b)) kv val).run P w = .ok () w' ∧ MapI P k e kl el z w' b (n + 1) (fun c => if c = key then y else f c) ∧ w.grownBy w' (some b) := by
 obtain ⟨D, h1, h2, h3⟩ := hown
 obtain ⟨w', hrun, r1, r2⟩ := h1.update K ht hn hkey hval
 refine ⟨w', hrun, ⟨_, r1, h2.put _ _, fun c => ?_⟩, r2⟩
 show _ = el (if c = key then y else f c)
 split
 ·rename_i h; subst h; exact Go.Maps.atKey_put_same h2 (hkl _) _ _
 ·rename_i h; rw [Go.Maps.atKey_put_other (fun q => h (hinj _ _ q))]; exact h3 c
theorem wpList_mapUpdate_mapI {κ ε : Type} [DecidableEq κ] {kl : κ → Lit} {el : ε → DataW Unit} {z : ε} {P : Program} (w : World) {ops : Array Oper} {rest : List Oper} {o : Oper} {a : Act} {Q : Exit → Act → World → Prop}
  (hg : o.guard = none) (m x v : Operand) (t : TypeId) (hop : o.op = Op.mapUpdate t m x v)
  (k e : TypeId) (K : Go.Maps.Keyed P k) (ht : P.underlying t = some (.map k e)) (hkl : ∀ a, WideAt.IsKeyLit (kl a)) (hinj : ∀ a b, kl a = kl b → a = b) (b n : Nat) (f : κ → ε)
  (hm : a.eval m = .map (some b)) (hown : MapI P k e kl el z w b n f) (hn : n < maxLen) (kv val : Value) (key : κ) (y : ε) (hx : a.eval x = kv) (hv : a.eval v = val) (hkey : keyOf P k kv = some (kl key))
  (hval : plainElem P e val = some (el y, []))
  (hK : ∀ w', MapI P k e kl el z w' b (n + 1) (fun c => if c = key then y else f c) → w.grownBy w' (some b) → wpList P ops Q rest (a.put o.dst undef) w') :
  wpList P ops Q (o :: rest) a w := by
 obtain ⟨D, h1, h2, h3⟩ := hown
 refine wpList_mapUpdate_own w hg m x v t hop k e K ht _ b n D hm h1 hn kv val (kl key) hx hv hkey (el y) [] hval fun w' r1 r2 => hK w' ⟨_, r1, h2.put _ _, fun c => ?_⟩ r2
 show _ = el (if c = key then y else f c)
 split
 ·rename_i h; subst h; exact Go.Maps.atKey_put_same h2 (hkl _) _ _
 ·rename_i h; rw [Go.Maps.atKey_put_other (fun q => h (hinj _ _ q))]; exact h3 c
def klI (a : Int) : Lit := .int .i64 a
def klS (a : ByteArray) : Lit := .string a.data.toList
def elI (a : Int) : DataW Unit := .lit (.int .i64 a)
def elB (a : Bool) : DataW Unit := .lit (.bool a)
theorem klI_inj : ∀ a b, klI a = klI b → a = b := fun a b h => by simpa [klI] using h
theorem klS_inj : ∀ a b, klS a = klS b → a = b := fun a b h => by
 have h : a.data.toList = b.data.toList := by simpa [klS] using h
 cases a; cases b; simp at h; simp [h]
theorem klI_key : ∀ a, WideAt.IsKeyLit (klI a) := fun _ => trivial
theorem klS_key : ∀ a, WideAt.IsKeyLit (klS a) := fun _ => trivial
theorem elB_inv {P : Program} {e : TypeId} (he : P.underlying e = some .bool) : ∀ v y ps, plainElem P e v = some (elB y, ps) → v = .bool y := fun v y ps h => by
 unfold plainElem at h
 rw [he] at h
 cases v <;> simp [elB] at h
 rw [h.1]
theorem elI_inv {P : Program} {e : TypeId} (he : P.underlying e = some (.int .i64)) : ∀ v y ps, plainElem P e v = some (elI y, ps) → v = .int .i64 y := fun v y ps h => by
 obtain ⟨c, rfl, h2, _⟩ := plainElem_int_inv he h
 simp [elI] at h2
 rw [h2.1]
abbrev rdV (l : List S95) (k : Nat) : S95 := rd_T95 l (k : Int)
def mostV (l : List S95) : Nat → Int → Int
 | 0 => fun _ => 0
 | k + 1 => fun a => if a = (rdV l k).f0.f1 then (rdV l k).f0.f0 else mostV l k a
def okV (l : List S95) : Nat → Bool
 | 0 => true
 | k + 1 => okV l k && (decide (-1000000000000 ≤ (rdV l k).f0.f0) && (decide ((rdV l k).f0.f0 ≤ 1000000000000) && (decide (-1000000000000 ≤ (rdV l k).f0.f1) && decide ((rdV l k).f0.f1 ≤ 1000000000000))))
def outV (l : List S95) : Nat → List S25
 | 0 => []
 | i + 1 => if 0 < mostV l l.length (i : Int) then outV l i ++ [⟨mostV l l.length (i : Int), (i : Int)⟩] else outV l i
def impl_VectorOf.f (k : Nat) (l0 : List S95) : Option (List S25) := (impl_GoodLog.f k l0).bind fun t => (if t = true then (if (okV l0 l0.length && decide (l0.length ≤ 1048576)) = true then some (outV l0 100) else none) else some [])
theorem impl_VectorOf.mono : ∀ a0 k, LeO (impl_VectorOf.f k a0) (impl_VectorOf.f (k + 1) a0) := by
 intro a0 k
 unfold impl_VectorOf.f
 exact LeO.bind (impl_GoodLog.mono _ _) fun _ => LeO.refl _
theorem okV_at (l : List S95) : ∀ n, okV l n = true → ∀ i, i < n → (-1000000000000 ≤ (rdV l i).f0.f0 ∧ (rdV l i).f0.f0 ≤ 1000000000000 ∧ -1000000000000 ≤ (rdV l i).f0.f1 ∧ (rdV l i).f0.f1 ≤ 1000000000000)
 | 0, _, i, h => absurd h (Nat.not_lt_zero _)
 | n + 1, h, i, hi => by
  simp only [okV, Bool.and_eq_true, decide_eq_true_eq] at h
  by_cases e : i = n
  ·subst e; exact h.2
  ·exact okV_at l n h.1 i (by omega)
theorem mostV_wf (l : List S95) (n : Nat) (h : okV l n = true) : ∀ i, i ≤ n → ∀ a, -1000000000000 ≤ mostV l i a ∧ mostV l i a ≤ 1000000000000
 | 0, _, a => by unfold mostV; omega
 | i + 1, hi, a => by
  unfold mostV
  have h1 := okV_at l n h i (by omega)
  show -1000000000000 ≤ (if a = (rdV l i).f0.f1 then (rdV l i).f0.f0 else mostV l i a) ∧ (if a = (rdV l i).f0.f1 then (rdV l i).f0.f0 else mostV l i a) ≤ 1000000000000
  split
  ·exact ⟨h1.1, h1.2.1⟩
  ·exact mostV_wf l n h i (by omega) a
theorem outV_len (l : List S95) : ∀ i, (outV l i).length ≤ i
 | 0 => Nat.le_refl _
 | i + 1 => by
  have := outV_len l i
  unfold outV
  split
  ·rw [List.length_append]; simp; omega
  ·omega
theorem measV {n i : Nat} {x : Int} (hx : x = (i : Int) + 1) (hi : i < n) : n - (intOf (.int .i64 x)).toNat < n - (intOf (.int .i64 (i : Int))).toNat := by
 subst hx
 show n - ((i : Int) + 1).toNat < n - (i : Int).toNat
 omega
theorem lawV : Go.Maps.Keyed Try.prog 3 := Go.Maps.int_keyed Try.underlying3
theorem zeroV (w : World) : (zeroValue 3).run Try.prog w = .ok (.int .i64 0) w := by kernel_rfl
abbrev MV (w : World) (b n : Nat) (f : Int → Int) : Prop := MapI Try.prog 3 3 klI elI 0 w b n f
set_option maxHeartbeats 8000000 in
set_option maxRecDepth 100000 in
theorem impl_VectorOf.calls (k : Nat) (A0 : Option Addr) (c0 : Nat) (l0 : List S95) (r : List S25) (w : World) (hr0 : Kd.C k95 w A0 l0.length l0) (hc0 : l0.length ≤ c0) (h : impl_VectorOf.f k l0 = some r) :
  Calls Try.prog 26 #[.slice A0 l0.length c0] w fun e w' => ∃ v0_ : Value, e = .returned (v0_) ∧ Kd.R k25 25 w' w.heap.size (fun _ => True) v0_ r ∧ Below w.heap.size w w' := by
 have hu95 := Try.underlying95
 have hu25 := Try.underlying25
 have hmm := @run_makeMap Try.prog
 have HR0 := Aside0.mk hr0
 have HC0 := Aside0.mk hc0
 clear hr0 hc0
 unfold impl_VectorOf.f at h
 rw [Option.bind_eq_some_iff] at h
 obtain ⟨t, hg, h⟩ := h
 have HG := Aside0.mk hg
 clear hg
 by_cases ht : t = true
 ·subst ht
  rw [if_pos rfl] at h
  by_cases hok : (okV l0 l0.length && decide (l0.length ≤ 1048576)) = true
  ·rw [if_pos hok] at h
   obtain rfl := Option.some.inj h
   clear h
   simp only [Bool.and_eq_true, decide_eq_true_eq] at hok
   have HK := Aside0.mk hok
   clear hok
   go_enter Try.func26, Try.ntmps26
   go_wp2_with (first | (go_at_call 49; (with_reducible refine (impl_GoodLog.calls k _ _ l0 true _ HR0.out HC0.out HG.out).mono ?_); rintro e w1 ⟨rfl, hb1⟩))
   have HB1 := Aside0.mk hb1
   clear hb1
   have HLT := Aside0.mk HB1.out.size
   go_loopw [14] (fun v14 w' => ∃ i : Nat, i ≤ l0.length ∧ v14 = .int .i64 i ∧ Aside0 (MV w' w1.heap.size i (mostV l0 i)) ∧ Aside0 (Below w.heap.size w w')) (fun v14 _ => l0.length - (intOf v14).toNat)
   case atStart => exact ⟨0, Nat.zero_le _, rfl, ⟨MapI.made w1⟩, ⟨below_alloc HB1.out _⟩⟩
   case round =>
    obtain ⟨i, hi, rfl, HM, HB⟩ := hrel
    by_cases hlt : i < l0.length
    ·have q1 := eq_true (show (i : Int) < l0.length by omega)
     have hN := HK.out.2
     have hW : wrap64 ((i : Int) + 1) = (i : Int) + 1 := by unfold wrap64; omega
     have hV := okV_at l0 l0.length HK.out.1 i hlt
     obtain ⟨ad, e1, hx0, hx1, hx2, hx3, hx4, hx5, hx6, hx7, hx8⟩ := at_T95 HR0.out (i : Int) (by omega) (by omega)
     cases e1
     replace hx0 := (HB.out.cell (World.block_lt_of_cell? w _ hx0)).trans hx0
     replace hx1 := (HB.out.cell (World.block_lt_of_cell? w _ hx1)).trans hx1
     replace hx2 := (HB.out.cell (World.block_lt_of_cell? w _ hx2)).trans hx2
     replace hx3 := (HB.out.cell (World.block_lt_of_cell? w _ hx3)).trans hx3
     replace hx4 := (HB.out.cell (World.block_lt_of_cell? w _ hx4)).trans hx4
     replace hx5 := (HB.out.cell (World.block_lt_of_cell? w _ hx5)).trans hx5
     replace hx6 := (HB.out.cell (World.block_lt_of_cell? w _ hx6)).trans hx6
     replace hx7 := (HB.out.cell (World.block_lt_of_cell? w _ hx7)).trans hx7
     replace hx8 := (HB.out.cell (World.block_lt_of_cell? w _ hx8)).trans hx8
     rw [Int.toNat_natCast] at hx0 hx1 hx2 hx3 hx4 hx5 hx6 hx7 hx8
     have HM1 := fun (cs : Array Value) => HM.out.kept (World.grownBy_alloc wr (.cells cs 95) none) (by simp)
     have HB2 := fun (cs : Array Value) => below_alloc HB.out (.cells cs 95)
     have HM2 := Aside0.mk HM1
     have HB3 := Aside0.mk HB2
     clear HM1 HB2
     obtain ⟨w2, hrun, HM3, hg1⟩ := (HM2.out #[.int .i64 (rd_T95 l0 (i : Int)).f0.f0, .int .i64 (rd_T95 l0 (i : Int)).f0.f1, .int .i64 (rd_T95 l0 (i : Int)).f1, .int .i64 (rd_T95 l0 (i : Int)).f2, .int .i64 (rd_T95 l0 (i : Int)).f3, .string (rd_T95 l0 (i : Int)).f4.f0, .string (rd_T95 l0 (i : Int)).f4.f1, .string (rd_T95 l0 (i : Int)).f5, .string (rd_T95 l0 (i : Int)).f6]).upd (t := 116) lawV Try.underlying116 klI_key klI_inj (by unfold maxLen; omega) (key := (rd_T95 l0 (i : Int)).f0.f1) (y := (rd_T95 l0 (i : Int)).f0.f0) (Go.Maps.keyOf_int_mk Try.underlying3 (WalkArith.wf_i64 (by unfold rdV at hV; omega))) (plainElem_int Try.underlying3 (WalkArith.wf_i64 (by unfold rdV at hV; omega)))
     have HM4 := Aside0.mk HM3
     have HG1 := Aside0.mk hg1
     clear HM3 hg1
     go_wp2
     go_roundw
     case rel => exact ⟨i + 1, by omega, by go_num, HM4, ⟨(HB3.out _).grown HG1.out (below_size (HB3.out _)) (fun j hj => by cases hj; exact HLT.out)⟩⟩
     case measure => exact measV (by with_reducible first | assumption | rfl) hlt
    ·obtain rfl : i = l0.length := by omega
     have HMF := Aside0.mk HM.out.lt
     go_wp2
     go_loopw [6, 26] (fun v6 v26 w' => ∃ j : Nat, j ≤ 100 ∧ v26 = .int .i64 j ∧ Aside0 (MV w' w1.heap.size l0.length (mostV l0 l0.length)) ∧ Aside0 (Kd.R k25 25 w' w.heap.size (fun k_ => k_ ≠ w1.heap.size) v6 (outV l0 j)) ∧ Aside0 (Below w.heap.size w w')) (fun _ v26 _ => 100 - (intOf v26).toNat)
     case atStart => exact ⟨0, Nat.zero_le _, rfl, HM, ⟨Kd.R_nil _ _ _ _ _⟩, HB⟩
     case round =>
      clear HM HB HMF
      obtain ⟨j, hj, rfl, HM, HO, HB⟩ := hrel
      by_cases hlt : j < 100
      ·have q1 := eq_true (show (j : Int) < 100 by omega)
       have hW : wrap64 ((j : Int) + 1) = (j : Int) + 1 := by unfold wrap64; omega
       have hwf := mostV_wf l0 l0.length HK.out.1 l0.length (Nat.le_refl _) (j : Int)
       have HL := HM.out.look (t := 116) lawV Try.underlying116 (fun b => .int .i64 b) (zeroV _) (plainElem_int Try.underlying3 (WalkArith.wf_i64 (by omega))) (elI_inv Try.underlying3) (key := (j : Int)) (Go.Maps.keyOf_int_mk Try.underlying3 (WalkArith.wf_i64 (by omega)))
       by_cases hp : 0 < mostV l0 l0.length (j : Int)
       ·have hpb : decide (0 < mostV l0 l0.length (j : Int)) = true := decide_eq_true hp
        have HST := Aside0.mk (show outV l0 (j + 1) = outV l0 j ++ [⟨mostV l0 l0.length (j : Int), (j : Int)⟩] from by simp only [outV]; rw [if_pos hp])
        clear hp
        have HOL := Aside0.mk (outV_len l0 j)
        have HMLT := Aside0.mk HM.out.lt
        go_wp2_with (first | ((with_reducible refine gate_builtin (b := .append) (xs := #[.tmp 33, .tmp 39]) rfl ?_); at_builtin; refine Kd.R_append k25 (w0 := w) w.heap.size rfl (.tmp 33) (.tmp 39) 51 25 (.agg #[(.int .i64 0), (.int .i64 0)]) 16 rfl Try.underlying51 info25 rfl (by decide) (by omega) u6 (outV l0 j) (⟨mostV l0 l0.length (j : Int), (j : Int)⟩ : S25) [.int .i64 (mostV l0 l0.length (j : Int)), .int .i64 (j : Int)] (fun k_ => k_ ≠ w1.heap.size) (fun _ => False) rfl rfl ?aP (fun _ hk => hk.elim) ?aF ?aO ?aB ?aS ?aL ?_; (case aP => exact k25_mkM _ _ _ (⟨mostV l0 l0.length (j : Int), (j : Int)⟩ : S25)); (case aB => exact HB.out); (case aF => exact (fun k hk e => by have := HMLT.out; omega)); (case aO => exact HO.out); (case aS => exact (below_size HB.out)); (case aL => have := HOL.out; omega); intro v2 w2 ho hb hg hat; have n0_ := Aside0.mk hb; have n1_ := Aside0.mk ho; have n2_ := Aside0.mk (HM.out.kept hg (fun e => HO.out.1 _ e.symm rfl)); clear ho hb hg hat))
        go_roundw
        case rel => exact ⟨j + 1, by omega, by go_num, n2_, ⟨by rw [HST.out]; exact n1_.out⟩, n0_⟩
        case measure => exact measV (by with_reducible first | assumption | rfl) hlt
       ·have hpb : decide (0 < mostV l0 l0.length (j : Int)) = false := decide_eq_false hp
        have HST := Aside0.mk (show outV l0 (j + 1) = outV l0 j from by simp only [outV]; rw [if_neg hp])
        clear hp
        go_wp2
        go_roundw
        case rel => exact ⟨j + 1, by omega, by go_num, HM, ⟨by rw [HST.out]; exact HO.out⟩, HB⟩
        case measure => exact measV (by with_reducible first | assumption | rfl) hlt
      ·obtain rfl : j = 100 := by omega
       go_wp2
       go_ret
       exact ⟨_, rfl, Kd.R_mono HO.out (fun _ _ => trivial), HB.out⟩
  ·rw [if_neg hok] at h; exact absurd h (by simp)
 ·rw [if_neg ht] at h
  obtain rfl := Option.some.inj h
  obtain rfl := Bool.eq_false_iff.mpr ht
  go_enter Try.func26, Try.ntmps26
  go_wp2_with (first | (go_at_call 49; (with_reducible refine (impl_GoodLog.calls k _ _ l0 false _ HR0.out HC0.out HG.out).mono ?_); rintro e w1 ⟨rfl, hb1⟩))
  go_ret
  exact ⟨_, rfl, Kd.R_nil _ _ _ _ _, hb1⟩

/-! ### laws_eqStampS: function 27 -/
def laws_eqStampS.l0 : Nat → List (S25) → List (S25) → Int → Option (Bool)
 | 0, _, _, _ => none
 | k + 1, x0, x1, x5 => if x5 < (x0.length : Int) then (if 0 ≤ x5 then (if x5 < (x1.length : Int) then ((laws_eqStamp.f ((rd_T25 x0 x5).f0) ((rd_T25 x0 x5).f1) ((rd_T25 x1 x5).f0) ((rd_T25 x1 x5).f1)).bind fun t203 => (if t203 = true then (laws_eqStampS.l0 k x0 x1 (wrap64 (x5 + 1))) else (some false))) else (none)) else (none)) else (some true)
def laws_eqStampS.f (k : Nat) (l0 : List (S25)) (l1 : List (S25)) : Option (Bool) := if (l0.length : Int) = (l1.length : Int) then (laws_eqStampS.l0 k l0 l1 0) else (some false)
theorem laws_eqStampS.mono_l : ∀ k, (∀ y0 y1 y2, LeO (laws_eqStampS.l0 k y0 y1 y2) (laws_eqStampS.l0 (k + 1) y0 y1 y2))
 | 0 => fun _ _ _ r h => by simp [laws_eqStampS.l0] at h
 | k + 1 => by
  have ih0 := laws_eqStampS.mono_l k
  ·intro y0 y1 y2
   unfold laws_eqStampS.l0
   repeat' first
   | (with_reducible exact ih0 _ _ _)
   | (with_reducible exact LeO.refl _)
   | (with_reducible exact LeO.none _)
   | (with_reducible refine LeO.ite ?_ ?_)
   | (with_reducible refine LeO.bind ?_ (fun _ => ?_))
   | exact ih0 _ _ _
   | exact LeO.none _
   | refine LeO.ite ?_ ?_
   | refine LeO.bind ?_ (fun _ => ?_)
theorem laws_eqStampS.mono : ∀ a0 a1 k, LeO (laws_eqStampS.f k a0 a1) (laws_eqStampS.f (k + 1) a0 a1) := by
 intro a0 a1 k
 have ih0 := laws_eqStampS.mono_l k
 unfold laws_eqStampS.f
 repeat' first
   | (with_reducible exact ih0 _ _ _)
   | (with_reducible exact LeO.refl _)
   | (with_reducible exact LeO.none _)
   | (with_reducible refine LeO.ite ?_ ?_)
   | (with_reducible refine LeO.bind ?_ (fun _ => ?_))
   | exact ih0 _ _ _
   | exact LeO.none _
   | refine LeO.ite ?_ ?_
   | refine LeO.bind ?_ (fun _ => ?_)
def laws_eqStampS.T6 : Bool × List (List Nat × List Nat) := (true, [([], []), ([], []), ([0, 1], [0, 1]), ([2], [2]), ([], []), ([], []), ([4, 5], [4, 5]), ([6], [6]), ([3, 7], [3, 7]), ([8], [8])])
def laws_eqStampS.B6 : List Nat := [0, 0, 3, 7, 0, 0, 48, 112, 255, 511]
theorem laws_eqStampS.tab6 : rtab .any (opsOf Try.f27 6) = laws_eqStampS.T6 := by kernel_rfl
theorem laws_eqStampS.bits6 : waitsOk laws_eqStampS.T6.2 laws_eqStampS.B6 = true := by kernel_rfl
set_option maxHeartbeats 8000000 in
set_option maxRecDepth 100000 in
theorem laws_eqStampS.calls (k : Nat) (A0 : Option Addr) (c0 : Nat) (l0 : List (S25)) (A1 : Option Addr) (c1 : Nat) (l1 : List (S25)) (r : Bool) (w : World) (hr0 : Kd.C k25 w A0 l0.length l0) (hc0 : l0.length ≤ c0) (hr1 : Kd.C k25 w A1 l1.length l1) (hc1 : l1.length ≤ c1) (h : laws_eqStampS.f k l0 l1 = some r) :
  Calls Try.prog 27 #[.slice A0 l0.length c0, .slice A1 l1.length c1] w fun e w' => e = .returned (.bool r) ∧ Below w.heap.size w w' := by
 have hu25 := Try.underlying25
 have HR0 := Aside0.mk hr0
 have HC0 := Aside0.mk hc0
 clear hr0 hc0
 have HR1 := Aside0.mk hr1
 have HC1 := Aside0.mk hc1
 clear hr1 hc1
 have HB := Aside0.mk (Below.refl w.heap.size w)
 have H : (if (l0.length : Int) = (l1.length : Int) then (laws_eqStampS.l0 k l0 l1 0) else (some false)) = some r := h
 clear h
 by_cases c3 : (l0.length : Int) = (l1.length : Int)
 ·rw [if_pos c3] at H
  have c3b0 : ((l0.length : Int) == (l1.length : Int)) = true := beq_iff_eq.mpr c3
  have c3b1 : ((l0.length : Int) != (l1.length : Int)) = false := bne_eq_false_iff_eq.mpr c3
  have c3b2 : (l0.length == l1.length) = true := by first | simpa using c3 | (simp at c3 ⊢; omega)
  clear c3
  have H' := Aside0.mk H
  clear H
  go_enter Try.func27, Try.ntmps27
  go_wp2
  go_loopg [5] k (fun kq v5 w' => ∃ (x5_1 : Int), v5 = .int .i64 x5_1 ∧ Aside0 (laws_eqStampS.l0 kq l0 l1 x5_1 = some r) ∧ Aside0 (kq ≤ k) ∧ Aside0 (Below w.heap.size w w'))
  case atStart => exact ⟨(0), (by first | rfl | (simp; done) | (simp [pw_ne_nil, pw_eq_nil]; done) | (simp [*]; done)), H', ⟨Nat.le_refl _⟩, ⟨by repeat (first | (with_reducible first | exact HB.out | apply below_alloc | apply pw_below_drewN | apply below_drew1) | exact HB.out)⟩⟩
  case round =>
   clear H'
   try clear c1
   try clear c2
   try clear p2
   try clear c3
   try clear c3b0
   try clear c3b1
   try clear c3b2
   obtain ⟨x5_1, rfl, HA, HK1, HB⟩ := hrel
   cases gk with
   | zero => exact absurd HA.out (by simp [laws_eqStampS.l0])
   | succ k1 =>
    have H := HA.out
    clear HA
    simp only [laws_eqStampS.l0] at H
    by_cases c4 : x5_1 < (l0.length : Int)
    ·rw [if_pos c4] at H
     have c4b0 : decide (x5_1 < (l0.length : Int)) = true := decide_eq_true c4
     clear c4
     by_cases c5 : 0 ≤ x5_1
     ·rw [if_pos c5] at H
      have c5b0 : decide (0 ≤ x5_1) = true := decide_eq_true c5
      clear c5
      by_cases c6 : x5_1 < (l1.length : Int)
      ·rw [if_pos c6] at H
       have c6b0 : decide (x5_1 < (l1.length : Int)) = true := decide_eq_true c6
       clear c6
       replace H := Option.bind_eq_some_iff.mp H
       obtain ⟨t203, A70, H⟩ := H
       replace H : (if t203 = true then (laws_eqStampS.l0 k1 l0 l1 (wrap64 (x5_1 + 1))) else (some false)) = some r := H
       have A7 := Aside0.mk A70
       clear A70
       by_cases c8 : t203 = true
       ·subst c8
        have H1 : (laws_eqStampS.l0 k1 l0 l1 (wrap64 (x5_1 + 1))) = some r := by rw [if_pos rfl] at H; exact H
        clear H
        have H := H1
        clear H1
        have H' := Aside0.mk H
        clear H
        try go_wp2
        have n0_ := Aside0.mk (below_drew1 HB.out)
        clear HB
        have HB := n0_
        clear n0_
        have p201 : 0 ≤ (x5_1 : Int) := of_decide_eq_true (by first | (with_reducible assumption) | assumption)
        have q201 : x5_1 < (l0.length : Int) := of_decide_eq_true (by first | (with_reducible assumption) | assumption)
        obtain ⟨ad201, e201, hx201_0, hx201_1⟩ := at_T25 HR0.out x5_1 p201 q201
        have hw201_1 := hx201_1
        have hw201_0 := hx201_0
        cases e201
        replace hx201_0 := (HB.out.cell (World.block_lt_of_cell? w _ hx201_0)).trans hx201_0
        replace hx201_1 := (HB.out.cell (World.block_lt_of_cell? w _ hx201_1)).trans hx201_1
        replace p201 := eq_true p201
        replace q201 := eq_true q201
        have p202 : 0 ≤ (x5_1 : Int) := of_decide_eq_true (by first | (with_reducible assumption) | assumption)
        have q202 : x5_1 < (l1.length : Int) := of_decide_eq_true (by first | (with_reducible assumption) | assumption)
        obtain ⟨ad202, e202, hx202_0, hx202_1⟩ := at_T25 HR1.out x5_1 p202 q202
        have hw202_1 := hx202_1
        have hw202_0 := hx202_0
        cases e202
        replace hx202_0 := (HB.out.cell (World.block_lt_of_cell? w _ hx202_0)).trans hx202_0
        replace hx202_1 := (HB.out.cell (World.block_lt_of_cell? w _ hx202_1)).trans hx202_1
        replace p202 := eq_true p202
        replace q202 := eq_true q202
        refine start_ (n := 10) (S := fun w' => w'.cell? (ad201.add ((x5_1).toNat * 2)) = some (.int .i64 ((rd_T25 l0 x5_1).f0)) ∧ w'.cell? ⟨(ad201.add ((x5_1).toNat * 2)).block, (ad201.add ((x5_1).toNat * 2)).off + 1, none⟩ = some (.int .i64 ((rd_T25 l0 x5_1).f1)) ∧ w'.cell? (ad202.add ((x5_1).toNat * 2)) = some (.int .i64 ((rd_T25 l1 x5_1).f0)) ∧ w'.cell? ⟨(ad202.add ((x5_1).toNat * 2)).block, (ad202.add ((x5_1).toNat * 2)).off + 1, none⟩ = some (.int .i64 ((rd_T25 l1 x5_1).f1))) (ds := []) #[false, false, false, false, false, false, false, false, false, false] (by kernel_rfl) rfl rfl ⟨((HB.out.cell (World.block_lt_of_cell? w _ hw201_0)).trans hw201_0), ((HB.out.cell (World.block_lt_of_cell? w _ hw201_1)).trans hw201_1), ((HB.out.cell (World.block_lt_of_cell? w _ hw202_0)).trans hw202_0), ((HB.out.cell (World.block_lt_of_cell? w _ hw202_1)).trans hw202_1)⟩ (fun hHeld => ?_); refine with_tabW laws_eqStampS.tab6 laws_eqStampS.bits6 (fun HT_ HW_ => ?_)
        generalize wr.drew = w9 at HB hx201_0 hx201_1 hx202_0 hx202_1 hHeld ⊢
        refine pure_ (i := 0) (N := some 17) (v := ?_) (a' := ?_) #[true, false, false, false, false, false, false, false, false, false] rfl rfl (any_of HT_.out (by kernel_rfl)) (fun _ _ _ h => h) (Or.inl ⟨by rfl, ?_⟩) ?_ ?_
        rotate_left
        ·intro w'
         go_simp
         with_reducible rfl
        rotate_left
        ·simp only [Act.put, List.setIfInBounds_toArray, List.set_cons_zero, List.set_cons_succ, i64_w, i32_w]
         rfl
        refine pure_ (i := 1) (N := some 18) (v := ?_) (a' := ?_) #[true, true, false, false, false, false, false, false, false, false] rfl rfl (any_of HT_.out (by kernel_rfl)) (fun _ _ _ h => h) (Or.inl ⟨by rfl, ?_⟩) ?_ ?_
        rotate_left
        ·intro w'
         go_simp
         with_reducible rfl
        rotate_left
        ·simp only [Act.put, List.setIfInBounds_toArray, List.set_cons_zero, List.set_cons_succ, i64_w, i32_w]
         rfl
        refine pure_ (i := 2) (N := some 19) (v := ?_) (a' := ?_) #[true, true, true, false, false, false, false, false, false, false] rfl rfl (any_of HT_.out (by kernel_rfl)) (fun _ _ _ h => h) (Or.inl ⟨by rfl, ?_⟩) ?_ ?_
        rotate_left
        ·intro w'
         go_simp
         with_reducible rfl
        rotate_left
        ·simp only [Act.put, List.setIfInBounds_toArray, List.set_cons_zero, List.set_cons_succ, i64_w, i32_w]
         rfl
        refine pure_ (i := 4) (N := some 21) (v := ?_) (a' := ?_) #[true, true, true, false, true, false, false, false, false, false] rfl rfl (any_of HT_.out (by kernel_rfl)) (fun _ _ _ h => h) (Or.inl ⟨by rfl, ?_⟩) ?_ ?_
        rotate_left
        ·intro w'
         go_simp
         with_reducible rfl
        rotate_left
        ·simp only [Act.put, List.setIfInBounds_toArray, List.set_cons_zero, List.set_cons_succ, i64_w, i32_w]
         rfl
        refine pure_ (i := 5) (N := some 22) (v := ?_) (a' := ?_) #[true, true, true, false, true, true, false, false, false, false] rfl rfl (any_of HT_.out (by kernel_rfl)) (fun _ _ _ h => h) (Or.inl ⟨by rfl, ?_⟩) ?_ ?_
        rotate_left
        ·intro w'
         go_simp
         with_reducible rfl
        rotate_left
        ·simp only [Act.put, List.setIfInBounds_toArray, List.set_cons_zero, List.set_cons_succ, i64_w, i32_w]
         rfl
        refine pure_ (i := 6) (N := some 23) (v := ?_) (a' := ?_) #[true, true, true, false, true, true, true, false, false, false] rfl rfl (any_of HT_.out (by kernel_rfl)) (fun _ _ _ h => h) (Or.inl ⟨by rfl, ?_⟩) ?_ ?_
        rotate_left
        ·intro w'
         go_simp
         with_reducible rfl
        rotate_left
        ·simp only [Act.put, List.setIfInBounds_toArray, List.set_cons_zero, List.set_cons_succ, i64_w, i32_w]
         rfl
        refine take_ (i := 3) (N := some 20) (v := ?_) (a' := ?_) #[true, true, true, true, true, true, true, false, false, false] rfl rfl (take_ofW HT_.out HW_.out (by kernel_rfl)) (fun _ _ _ h => h) (Or.inl ⟨by rfl, ?_⟩) hHeld ?_ ?_
        rotate_left
        ·rintro w' ⟨s0, s1, s2, s3⟩
         go_simp
         with_reducible rfl
        rotate_left
        ·simp only [Act.put, List.setIfInBounds_toArray, List.set_cons_zero, List.set_cons_succ, i64_w, i32_w]
         rfl
        refine take_ (i := 7) (N := some 24) (v := ?_) (a' := ?_) #[true, true, true, true, true, true, true, true, false, false] rfl rfl (take_ofW HT_.out HW_.out (by kernel_rfl)) (fun _ _ _ h => h) (Or.inl ⟨by rfl, ?_⟩) hHeld ?_ ?_
        rotate_left
        ·rintro w' ⟨s0, s1, s2, s3⟩
         go_simp
         with_reducible rfl
        rotate_left
        ·simp only [Act.put, List.setIfInBounds_toArray, List.set_cons_zero, List.set_cons_succ, i64_w, i32_w]
         rfl
        refine one_ (i := 8) (N := some 25) #[true, true, true, true, true, true, true, true, true, false] rfl rfl (one_of HT_.out (by kernel_rfl)) (by decide) (fun K hK => ?_)
        refine goes_ Try.func13 (by kernel_rfl) rfl #[.agg #[.int .i64 ((rd_T25 l0 x5_1).f0), .int .i64 ((rd_T25 l0 x5_1).f1)], .agg #[.int .i64 ((rd_T25 l1 x5_1).f0), .int .i64 ((rd_T25 l1 x5_1).f1)]] (by rfl) rfl rfl (by (try simp only [List.map_toArray, List.map_cons, List.map_nil]); first | done | rfl | (simp only [List.length_drop, List.length_take]; rfl)) ?_
        with_reducible refine (laws_eqStamp.calls ((rd_T25 l0 x5_1).f0) ((rd_T25 l0 x5_1).f1) ((rd_T25 l1 x5_1).f0) ((rd_T25 l1 x5_1).f1) true _ A7.out).mono ?_
        rintro e w10 ⟨rfl, hb⟩
        refine ⟨_, rfl, ?_⟩
        have n0_ := Aside0.mk (below_step (by repeat (first | (with_reducible first | exact HB.out | apply below_alloc | apply pw_below_drewN | apply below_drew1) | exact HB.out)) hb)
        clear HB
        have HB := n0_
        clear n0_
        (try clear hb)
        (try clear hb2)
        (try clear hk)
        (try clear hi)
        refine hK.out _ _ ⟨((HB.out.cell (World.block_lt_of_cell? w _ hw201_0)).trans hw201_0), ((HB.out.cell (World.block_lt_of_cell? w _ hw201_1)).trans hw201_1), ((HB.out.cell (World.block_lt_of_cell? w _ hw202_0)).trans hw202_0), ((HB.out.cell (World.block_lt_of_cell? w _ hw202_1)).trans hw202_1)⟩ (fun hHeld => ?_)
        clear hK K
        refine norm_ (a' := ?_) ?_ ?_
        rotate_left
        ·show Act.put _ (some 25) _ = _
         simp only [Act.put, List.setIfInBounds_toArray, List.set_cons_zero, List.set_cons_succ, i64_w, i32_w]
         rfl
        refine pure_ (i := 9) (N := some 26) (v := ?_) (a' := ?_) #[true, true, true, true, true, true, true, true, true, true] rfl rfl (any_of HT_.out (by kernel_rfl)) (fun _ _ _ h => h) (Or.inl ⟨by rfl, ?_⟩) ?_ ?_
        rotate_left
        ·intro w'
         go_simp
         with_reducible rfl
        rotate_left
        ·simp only [Act.put, List.setIfInBounds_toArray, List.set_cons_zero, List.set_cons_succ, i64_w, i32_w]
         rfl
        refine done_ (done_of HT_.out (by kernel_rfl)) ?_
        try go_wp2
        go_roundg k1
        case measure => have := HK1.out; omega
        case rel => exact ⟨(wrap64 (x5_1 + 1)), (by first | rfl | (simp; done) | (simp [pw_ne_nil, pw_eq_nil]; done) | (simp [*]; done)), H', ⟨by have := HK1.out; omega⟩, ⟨by repeat (first | (with_reducible first | exact HB.out | apply below_alloc | apply pw_below_drewN | apply below_drew1) | exact HB.out)⟩⟩
       ·replace c8 := Bool.eq_false_iff.mpr c8
        subst c8
        have H1 : (some false) = some r := by rw [if_neg (show ¬ (false = true) by decide)] at H; exact H
        clear H
        have H := H1
        clear H1
        obtain rfl := Option.some.inj H
        try go_wp2
        have n0_ := Aside0.mk (below_drew1 HB.out)
        clear HB
        have HB := n0_
        clear n0_
        have p201 : 0 ≤ (x5_1 : Int) := of_decide_eq_true (by first | (with_reducible assumption) | assumption)
        have q201 : x5_1 < (l0.length : Int) := of_decide_eq_true (by first | (with_reducible assumption) | assumption)
        obtain ⟨ad201, e201, hx201_0, hx201_1⟩ := at_T25 HR0.out x5_1 p201 q201
        have hw201_1 := hx201_1
        have hw201_0 := hx201_0
        cases e201
        replace hx201_0 := (HB.out.cell (World.block_lt_of_cell? w _ hx201_0)).trans hx201_0
        replace hx201_1 := (HB.out.cell (World.block_lt_of_cell? w _ hx201_1)).trans hx201_1
        replace p201 := eq_true p201
        replace q201 := eq_true q201
        have p202 : 0 ≤ (x5_1 : Int) := of_decide_eq_true (by first | (with_reducible assumption) | assumption)
        have q202 : x5_1 < (l1.length : Int) := of_decide_eq_true (by first | (with_reducible assumption) | assumption)
        obtain ⟨ad202, e202, hx202_0, hx202_1⟩ := at_T25 HR1.out x5_1 p202 q202
        have hw202_1 := hx202_1
        have hw202_0 := hx202_0
        cases e202
        replace hx202_0 := (HB.out.cell (World.block_lt_of_cell? w _ hx202_0)).trans hx202_0
        replace hx202_1 := (HB.out.cell (World.block_lt_of_cell? w _ hx202_1)).trans hx202_1
        replace p202 := eq_true p202
        replace q202 := eq_true q202
        refine start_ (n := 10) (S := fun w' => w'.cell? (ad201.add ((x5_1).toNat * 2)) = some (.int .i64 ((rd_T25 l0 x5_1).f0)) ∧ w'.cell? ⟨(ad201.add ((x5_1).toNat * 2)).block, (ad201.add ((x5_1).toNat * 2)).off + 1, none⟩ = some (.int .i64 ((rd_T25 l0 x5_1).f1)) ∧ w'.cell? (ad202.add ((x5_1).toNat * 2)) = some (.int .i64 ((rd_T25 l1 x5_1).f0)) ∧ w'.cell? ⟨(ad202.add ((x5_1).toNat * 2)).block, (ad202.add ((x5_1).toNat * 2)).off + 1, none⟩ = some (.int .i64 ((rd_T25 l1 x5_1).f1))) (ds := []) #[false, false, false, false, false, false, false, false, false, false] (by kernel_rfl) rfl rfl ⟨((HB.out.cell (World.block_lt_of_cell? w _ hw201_0)).trans hw201_0), ((HB.out.cell (World.block_lt_of_cell? w _ hw201_1)).trans hw201_1), ((HB.out.cell (World.block_lt_of_cell? w _ hw202_0)).trans hw202_0), ((HB.out.cell (World.block_lt_of_cell? w _ hw202_1)).trans hw202_1)⟩ (fun hHeld => ?_); refine with_tabW laws_eqStampS.tab6 laws_eqStampS.bits6 (fun HT_ HW_ => ?_)
        generalize wr.drew = w11 at HB hx201_0 hx201_1 hx202_0 hx202_1 hHeld ⊢
        refine pure_ (i := 0) (N := some 17) (v := ?_) (a' := ?_) #[true, false, false, false, false, false, false, false, false, false] rfl rfl (any_of HT_.out (by kernel_rfl)) (fun _ _ _ h => h) (Or.inl ⟨by rfl, ?_⟩) ?_ ?_
        rotate_left
        ·intro w'
         go_simp
         with_reducible rfl
        rotate_left
        ·simp only [Act.put, List.setIfInBounds_toArray, List.set_cons_zero, List.set_cons_succ, i64_w, i32_w]
         rfl
        refine pure_ (i := 1) (N := some 18) (v := ?_) (a' := ?_) #[true, true, false, false, false, false, false, false, false, false] rfl rfl (any_of HT_.out (by kernel_rfl)) (fun _ _ _ h => h) (Or.inl ⟨by rfl, ?_⟩) ?_ ?_
        rotate_left
        ·intro w'
         go_simp
         with_reducible rfl
        rotate_left
        ·simp only [Act.put, List.setIfInBounds_toArray, List.set_cons_zero, List.set_cons_succ, i64_w, i32_w]
         rfl
        refine pure_ (i := 2) (N := some 19) (v := ?_) (a' := ?_) #[true, true, true, false, false, false, false, false, false, false] rfl rfl (any_of HT_.out (by kernel_rfl)) (fun _ _ _ h => h) (Or.inl ⟨by rfl, ?_⟩) ?_ ?_
        rotate_left
        ·intro w'
         go_simp
         with_reducible rfl
        rotate_left
        ·simp only [Act.put, List.setIfInBounds_toArray, List.set_cons_zero, List.set_cons_succ, i64_w, i32_w]
         rfl
        refine pure_ (i := 4) (N := some 21) (v := ?_) (a' := ?_) #[true, true, true, false, true, false, false, false, false, false] rfl rfl (any_of HT_.out (by kernel_rfl)) (fun _ _ _ h => h) (Or.inl ⟨by rfl, ?_⟩) ?_ ?_
        rotate_left
        ·intro w'
         go_simp
         with_reducible rfl
        rotate_left
        ·simp only [Act.put, List.setIfInBounds_toArray, List.set_cons_zero, List.set_cons_succ, i64_w, i32_w]
         rfl
        refine pure_ (i := 5) (N := some 22) (v := ?_) (a' := ?_) #[true, true, true, false, true, true, false, false, false, false] rfl rfl (any_of HT_.out (by kernel_rfl)) (fun _ _ _ h => h) (Or.inl ⟨by rfl, ?_⟩) ?_ ?_
        rotate_left
        ·intro w'
         go_simp
         with_reducible rfl
        rotate_left
        ·simp only [Act.put, List.setIfInBounds_toArray, List.set_cons_zero, List.set_cons_succ, i64_w, i32_w]
         rfl
        refine pure_ (i := 6) (N := some 23) (v := ?_) (a' := ?_) #[true, true, true, false, true, true, true, false, false, false] rfl rfl (any_of HT_.out (by kernel_rfl)) (fun _ _ _ h => h) (Or.inl ⟨by rfl, ?_⟩) ?_ ?_
        rotate_left
        ·intro w'
         go_simp
         with_reducible rfl
        rotate_left
        ·simp only [Act.put, List.setIfInBounds_toArray, List.set_cons_zero, List.set_cons_succ, i64_w, i32_w]
         rfl
        refine take_ (i := 3) (N := some 20) (v := ?_) (a' := ?_) #[true, true, true, true, true, true, true, false, false, false] rfl rfl (take_ofW HT_.out HW_.out (by kernel_rfl)) (fun _ _ _ h => h) (Or.inl ⟨by rfl, ?_⟩) hHeld ?_ ?_
        rotate_left
        ·rintro w' ⟨s0, s1, s2, s3⟩
         go_simp
         with_reducible rfl
        rotate_left
        ·simp only [Act.put, List.setIfInBounds_toArray, List.set_cons_zero, List.set_cons_succ, i64_w, i32_w]
         rfl
        refine take_ (i := 7) (N := some 24) (v := ?_) (a' := ?_) #[true, true, true, true, true, true, true, true, false, false] rfl rfl (take_ofW HT_.out HW_.out (by kernel_rfl)) (fun _ _ _ h => h) (Or.inl ⟨by rfl, ?_⟩) hHeld ?_ ?_
        rotate_left
        ·rintro w' ⟨s0, s1, s2, s3⟩
         go_simp
         with_reducible rfl
        rotate_left
        ·simp only [Act.put, List.setIfInBounds_toArray, List.set_cons_zero, List.set_cons_succ, i64_w, i32_w]
         rfl
        refine one_ (i := 8) (N := some 25) #[true, true, true, true, true, true, true, true, true, false] rfl rfl (one_of HT_.out (by kernel_rfl)) (by decide) (fun K hK => ?_)
        refine goes_ Try.func13 (by kernel_rfl) rfl #[.agg #[.int .i64 ((rd_T25 l0 x5_1).f0), .int .i64 ((rd_T25 l0 x5_1).f1)], .agg #[.int .i64 ((rd_T25 l1 x5_1).f0), .int .i64 ((rd_T25 l1 x5_1).f1)]] (by rfl) rfl rfl (by (try simp only [List.map_toArray, List.map_cons, List.map_nil]); first | done | rfl | (simp only [List.length_drop, List.length_take]; rfl)) ?_
        with_reducible refine (laws_eqStamp.calls ((rd_T25 l0 x5_1).f0) ((rd_T25 l0 x5_1).f1) ((rd_T25 l1 x5_1).f0) ((rd_T25 l1 x5_1).f1) false _ A7.out).mono ?_
        rintro e w12 ⟨rfl, hb⟩
        refine ⟨_, rfl, ?_⟩
        have n0_ := Aside0.mk (below_step (by repeat (first | (with_reducible first | exact HB.out | apply below_alloc | apply pw_below_drewN | apply below_drew1) | exact HB.out)) hb)
        clear HB
        have HB := n0_
        clear n0_
        (try clear hb)
        (try clear hb2)
        (try clear hk)
        (try clear hi)
        refine hK.out _ _ ⟨((HB.out.cell (World.block_lt_of_cell? w _ hw201_0)).trans hw201_0), ((HB.out.cell (World.block_lt_of_cell? w _ hw201_1)).trans hw201_1), ((HB.out.cell (World.block_lt_of_cell? w _ hw202_0)).trans hw202_0), ((HB.out.cell (World.block_lt_of_cell? w _ hw202_1)).trans hw202_1)⟩ (fun hHeld => ?_)
        clear hK K
        refine norm_ (a' := ?_) ?_ ?_
        rotate_left
        ·show Act.put _ (some 25) _ = _
         simp only [Act.put, List.setIfInBounds_toArray, List.set_cons_zero, List.set_cons_succ, i64_w, i32_w]
         rfl
        refine pure_ (i := 9) (N := some 26) (v := ?_) (a' := ?_) #[true, true, true, true, true, true, true, true, true, true] rfl rfl (any_of HT_.out (by kernel_rfl)) (fun _ _ _ h => h) (Or.inl ⟨by rfl, ?_⟩) ?_ ?_
        rotate_left
        ·intro w'
         go_simp
         with_reducible rfl
        rotate_left
        ·simp only [Act.put, List.setIfInBounds_toArray, List.set_cons_zero, List.set_cons_succ, i64_w, i32_w]
         rfl
        refine done_ (done_of HT_.out (by kernel_rfl)) ?_
        try go_wp2
        go_ret
        exact ⟨by first | rfl | (simp [errW_none, errW_some] <;> rfl) | (simp [*, errW_none, errW_some] <;> rfl), by repeat (first | (with_reducible first | exact HB.out | apply below_alloc | apply pw_below_drewN | apply below_drew1) | exact HB.out)⟩
      ·rw [if_neg c6] at H
       exact absurd H (by simp)
     ·rw [if_neg c5] at H
      exact absurd H (by simp)
    ·rw [if_neg c4] at H
     have c4b0 : decide (x5_1 < (l0.length : Int)) = false := decide_eq_false c4
     clear c4
     obtain rfl := Option.some.inj H
     go_wp2
     go_ret
     exact ⟨by first | rfl | (simp [errW_none, errW_some] <;> rfl) | (simp [*, errW_none, errW_some] <;> rfl), by repeat (first | (with_reducible first | exact HB.out | apply below_alloc | apply pw_below_drewN | apply below_drew1) | exact HB.out)⟩
 ·rw [if_neg c3] at H
  have c3b0 : ((l0.length : Int) == (l1.length : Int)) = false := beq_eq_false_iff_ne.mpr c3
  have c3b1 : ((l0.length : Int) != (l1.length : Int)) = true := bne_iff_ne.mpr c3
  have c3b2 : (l0.length == l1.length) = false := by first | simpa using c3 | (simp at c3 ⊢; omega)
  obtain rfl := Option.some.inj H
  go_enter Try.func27, Try.ntmps27
  go_wp2
  go_ret
  exact ⟨by first | rfl | (simp [errW_none, errW_some] <;> rfl) | (simp [*, errW_none, errW_some] <;> rfl), by repeat (first | (with_reducible first | exact HB.out | apply below_alloc | apply pw_below_drewN | apply below_drew1) | exact HB.out)⟩

/-! ### laws_markText: function 67 -/
def laws_markText.l0 : Nat → Int → ByteArray → Option (ByteArray)
 | 0, _, _ => none
 | k + 1, x0, x3 => if x0 > 0 then ((some (([(wrap64 (48 + (Int.tmod x0 10))) % 256] : List Int) : List Int)).bind fun y204 => (if (strOfNums y204).size + x3.size ≤ 9223372036854775807 then (laws_markText.l0 k (wrap64 (Int.tdiv x0 10)) ((strOfNums y204) ++ x3)) else (none))) else (if 1 + x3.size ≤ 9223372036854775807 then (some ((⟨#[109]⟩ : ByteArray) ++ x3)) else (none))
def laws_markText.f (k : Nat) (a0 : Int) : Option (ByteArray) := if a0 ≤ 0 then (some (⟨#[109, 48]⟩ : ByteArray)) else (laws_markText.l0 k a0 (⟨#[]⟩ : ByteArray))
theorem laws_markText.mono_l : ∀ k, (∀ y0 y1, LeO (laws_markText.l0 k y0 y1) (laws_markText.l0 (k + 1) y0 y1))
 | 0 => fun _ _ r h => by simp [laws_markText.l0] at h
 | k + 1 => by
  have ih0 := laws_markText.mono_l k
  ·intro y0 y1
   unfold laws_markText.l0
   repeat' first
   | (with_reducible exact ih0 _ _)
   | (with_reducible exact LeO.refl _)
   | (with_reducible exact LeO.none _)
   | (with_reducible refine LeO.ite ?_ ?_)
   | (with_reducible refine LeO.bind ?_ (fun _ => ?_))
   | exact ih0 _ _
   | exact LeO.none _
   | refine LeO.ite ?_ ?_
   | refine LeO.bind ?_ (fun _ => ?_)
theorem laws_markText.mono : ∀ a0 k, LeO (laws_markText.f k a0) (laws_markText.f (k + 1) a0) := by
 intro a0 k
 have ih0 := laws_markText.mono_l k
 unfold laws_markText.f
 repeat' first
   | (with_reducible exact ih0 _ _)
   | (with_reducible exact LeO.refl _)
   | (with_reducible exact LeO.none _)
   | (with_reducible refine LeO.ite ?_ ?_)
   | (with_reducible refine LeO.bind ?_ (fun _ => ?_))
   | exact ih0 _ _
   | exact LeO.none _
   | refine LeO.ite ?_ ?_
   | refine LeO.bind ?_ (fun _ => ?_)
set_option maxHeartbeats 8000000 in
set_option maxRecDepth 100000 in
theorem laws_markText.calls (k : Nat) (a0 : Int) (r : ByteArray) (w : World) (h : laws_markText.f k a0 = some r) :
  Calls Try.prog 67 #[.int .i64 a0] w fun e w' => e = .returned (.string r) ∧ Below w.heap.size w w' := by
 have HB := Aside0.mk (Below.refl w.heap.size w)
 have H : (if a0 ≤ 0 then (some (⟨#[109, 48]⟩ : ByteArray)) else (laws_markText.l0 k a0 (⟨#[]⟩ : ByteArray))) = some r := h
 clear h
 by_cases c2 : a0 ≤ 0
 ·rw [if_pos c2] at H
  have c2b0 : decide (a0 ≤ 0) = true := decide_eq_true c2
  clear c2
  obtain rfl := Option.some.inj H
  go_enter Try.func67, Try.ntmps67
  go_wp2
  go_ret
  exact ⟨by first | rfl | (simp [errW_none, errW_some] <;> rfl) | (simp [*, errW_none, errW_some] <;> rfl), by repeat (first | (with_reducible first | exact HB.out | apply below_alloc | apply pw_below_drewN | apply below_drew1) | exact HB.out)⟩
 ·rw [if_neg c2] at H
  have c2b0 : decide (a0 ≤ 0) = false := decide_eq_false c2
  clear c2
  have H' := Aside0.mk H
  clear H
  go_enter Try.func67, Try.ntmps67
  go_wp2
  go_loopg [0, 3] k (fun kq v0 v3 w' => ∃ (x0_1 : Int) (x3_1 : ByteArray), v0 = .int .i64 x0_1 ∧ v3 = .string x3_1 ∧ Aside0 (laws_markText.l0 kq x0_1 x3_1 = some r) ∧ Aside0 (kq ≤ k) ∧ Aside0 (Below w.heap.size w w'))
  case atStart => exact ⟨(a0), ((⟨#[]⟩ : ByteArray)), (by first | rfl | (simp; done) | (simp [pw_ne_nil, pw_eq_nil]; done) | (simp [*]; done)), (by first | rfl | (simp; done) | (simp [pw_ne_nil, pw_eq_nil]; done) | (simp [*]; done)), H', ⟨Nat.le_refl _⟩, ⟨by repeat (first | (with_reducible first | exact HB.out | apply below_alloc | apply pw_below_drewN | apply below_drew1) | exact HB.out)⟩⟩
  case round =>
   clear H'
   try clear c2
   try clear c2b0
   try clear p2
   obtain ⟨x0_1, x3_1, rfl, rfl, HA, HK1, HB⟩ := hrel
   cases gk with
   | zero => exact absurd HA.out (by simp [laws_markText.l0])
   | succ k1 =>
    have H := HA.out
    clear HA
    simp only [laws_markText.l0] at H
    by_cases c3 : x0_1 > 0
    ·rw [if_pos c3] at H
     have c3b0 : decide (0 < x0_1) = true := decide_eq_true c3
     clear c3
     obtain ⟨y204, hy204⟩ : ∃ y_ : List Int, y_ = (([(wrap64 (48 + (Int.tmod x0_1 10))) % 256] : List Int)) := ⟨_, rfl⟩
     replace H : (if (strOfNums y204).size + x3_1.size ≤ 9223372036854775807 then (laws_markText.l0 k1 (wrap64 (Int.tdiv x0_1 10)) ((strOfNums y204) ++ x3_1)) else (none)) = some r := by first | (rw [hy204]; with_reducible exact H) | (have H2_ := (Option.bind_some _ _).symm.trans H; rw [hy204]; with_reducible exact H2_) | (have H2_ := (Option.bind_some _ _).symm.trans H; with_reducible exact H2_) | with_reducible exact H | (rw [hy204]; exact H) | exact H
     have Ny204 := Aside0.mk hy204
     clear hy204
     by_cases c4 : (strOfNums y204).size + x3_1.size ≤ 9223372036854775807
     ·rw [if_pos c4] at H
      have c4b0 := eq_true c4
      have c4b1 : decide ((strOfNums y204).size + x3_1.size ≤ 9223372036854775807) = true := decide_eq_true c4
      try have c4b2 : (9223372036854775807 < (strOfNums y204).size + x3_1.size) = False := eq_false (Nat.not_lt.2 c4)
      have H' := Aside0.mk H
      clear H
      go_wp2_with (first | ((with_reducible refine gate_dst (N := 12) rfl ?_); refine Kd.R_lit (Kd.int .u8) _ 5 ?hg (N := 12) ?hd (xs := ([(wrap64 (48 + (Int.tmod x0_1 10))) % 256] : List Int)) (inner := [.int .u8 ((wrap64 (48 + (Int.tmod x0_1 10))) % 256)]) (ok := fun _ => True) (okp := fun _ => True) ?hr ?hp (fun _ hk => hk) trivial (Below.refl _ _) (Nat.le_refl _) (by simp) ?_; (case hd => rfl); (case hg => rfl); (case hr => first | (go_simp; done) | (go_simp; rfl)); (case hp => exact (Reps.one (show Kd.M (Kd.int .u8) _ _ _ ((wrap64 (48 + (Int.tmod x0_1 10))) % 256) [.int .u8 ((wrap64 (48 + (Int.tmod x0_1 10))) % 256)] from rfl) (Reps.none _ _))); intro v205 w5 ho6 hb hg_ hnew_; clear hg_ hnew_; (first | rw [← Ny204.out] at ho6 | (simp only [Int.reduceToNat] at ho6; rw [← Ny204.out] at ho6)); have n0_ := Aside0.mk (Kd.R_lower ho6 (below_size (by repeat (first | (with_reducible first | exact HB.out | apply below_alloc | apply pw_below_drewN | apply below_drew1) | exact HB.out)))); have n1_ := Aside0.mk (below_step (by repeat (first | (with_reducible first | exact HB.out | apply below_alloc | apply pw_below_drewN | apply below_drew1) | exact HB.out)) hb); clear HB; have HO206 := n0_; have HB := n1_; clear n0_ n1_; clear hb ho6; have hcv7 := own_string (P := Try.prog) Try.underlying109 Try.underlying5 Try.underlying9 (Kd.own_of_R HO206.out)))
      go_roundg k1
      case measure => have := HK1.out; omega
      case rel => exact ⟨(wrap64 (Int.tdiv x0_1 10)), ((strOfNums y204) ++ x3_1), (by first | rfl | (simp; done) | (simp [pw_ne_nil, pw_eq_nil]; done) | (simp [*]; done)), (by first | rfl | (simp; done) | (simp [pw_ne_nil, pw_eq_nil]; done) | (simp [*]; done)), H', ⟨by have := HK1.out; omega⟩, ⟨by repeat (first | (with_reducible first | exact HB.out | apply below_alloc | apply pw_below_drewN | apply below_drew1) | exact HB.out)⟩⟩
     ·rw [if_neg c4] at H
      exact absurd H (by simp)
    ·rw [if_neg c3] at H
     have c3b0 : decide (0 < x0_1) = false := decide_eq_false c3
     clear c3
     by_cases c8 : 1 + x3_1.size ≤ 9223372036854775807
     ·rw [if_pos c8] at H
      have c8b0 := eq_true c8
      have c8b1 : decide (1 + x3_1.size ≤ 9223372036854775807) = true := decide_eq_true c8
      try have c8b2 : (9223372036854775807 < 1 + x3_1.size) = False := eq_false (Nat.not_lt.2 c8)
      obtain rfl := Option.some.inj H
      go_wp2
      go_ret
      exact ⟨by first | rfl | (simp [errW_none, errW_some] <;> rfl) | (simp [*, errW_none, errW_some] <;> rfl), by repeat (first | (with_reducible first | exact HB.out | apply below_alloc | apply pw_below_drewN | apply below_drew1) | exact HB.out)⟩
     ·rw [if_neg c8] at H
      exact absurd H (by simp)

end Go.Proofs.Ytcgiegkcmofhhab.PFnExactVectorOf
