import Derived.Test.YtaejbcahfnlggaaDoorDenW
import Derived.Test.YtaejbcahfnlggaaDoorDenDr
import Derived.Laws.CopyRow
import Derived.Lib.AppendZerosOnto
import Derived.Laws.Externs
import Derived.Lib.Bytealg
import Derived.Lib.ItoaNum
import Derived.Lib.Join
import Derived.Lib.AppendStr
namespace Go.Den
open Go.Proofs
set_option linter.unusedVariables false
set_option linter.unusedSimpArgs false
/-! slices.Insert, as a call that is handed a row. -/
def insMode (t : Sh) : Mode := ⟨[0], 1, [.ref 1], [.gone, .row t], none⟩
/-- .. what it gives -/
def insL {α : Type} (l : List α) (i : Int) (vs : List α) : List α := l.take i.toNat ++ vs ++ l.drop i.toNat
def insEq (t : Sh) (l : List (sem t)) (i : Int) (vs : List (sem t)) : Option (List (sem t) × Unit) :=
  if 0 ≤ i ∧ i ≤ l.length ∧ 0 < vs.length ∧ l.length + vs.length ≤ 1000000 then some (insL l i vs, ()) else none
def insRun (t : Sh) : List AV → Option (List (sem t) × Unit)
  | [.agg [.d (.list t') l true], .ref 0, .d (.int .i64) i _, .d (.list t2) vs _] => match cast? (.list t') (.list t) l, cast? (.list t2) (.list t) vs with
    | some l, some vs => insEq t l i vs
    | _, _ => none
  | _ => none
def insAny (t : Sh) (xs : List AV) (τ : Sh) : Option (sem τ) := match insRun t xs with | some r => cast? (.pair (.list t) .unit) τ r | none => none
/-- .. as it stands in an equation -/
def insEqC (t : Sh) (l : List (sem t)) (i : Int) (vs : List (sem t)) : Option (List (sem t) × Unit) :=
  match insEq t l i vs with | some r => cast? (.pair (.list t) .unit) (.pair (.list t) .unit) r | none => none
theorem insEqC_eq (t : Sh) (l : List (sem t)) (i : Int) (vs : List (sem t)) : insEqC t l i vs = insEq t l i vs := by
  unfold insEqC
  split
  · rename_i r h; rw [h]; exact cast?_self (.pair (.list t) .unit) r
  · rename_i h; exact h.symm
/-- what is asked of the function -/
structure InsOk (P : Program) (f : Nat) (t : Sh) : Prop where
  lt : f < 1000000
  tup : retTup P f = false
  flat : t.flat = true
  pos : 0 < t.size
  ent : ∀ args w, (callFunc f args).run P w = .ok (.enter f args) w
  run : ∀ (w : World) (base : Nat) (e1 : TypeId) (v : Value) (n : Nat) (xs : List Value) (i m : Nat) (vb voff vc : Nat) (ys : List Value), OwnR w base e1 t.size v n xs → base ≤ w.heap.size → i ≤ n → 0 < m → m ≤ vc → n + m ≤ 1000000 →
    ys.length = m * t.size → (∀ (j : Nat) u, ys[j]? = some u → w.cell? ⟨vb, voff + j, none⟩ = some u) → (∀ u ∈ xs, u.oneCell' = true) → (∀ u ∈ ys, u.oneCell' = true) → rowBlk v ≠ some vb →
    Calls P f #[v, .int .i64 i, .slice (some ⟨vb, voff, none⟩) m vc] w fun e w' => ∃ v' e2, e = .returned v' ∧ OwnR w' base e2 t.size v' (n + m) (xs.take (i * t.size) ++ ys ++ xs.drop (i * t.size)) ∧ Grown w w' (rowBlk v) ∧ ∀ b, rowBlk v' = some b → rowBlk v = some b ∨ w.heap.size ≤ b
theorem flatMap_take {α : Type} (enc : α → List Value) (k : Nat) (hk : ∀ x, (enc x).length = k) : ∀ (l : List α) (i : Nat), (l.flatMap enc).take (i * k) = (l.take i).flatMap enc
  | [], i => by simp
  | a :: l, 0 => by simp
  | a :: l, i + 1 => by
    rw [List.flatMap_cons, List.take_succ_cons, List.flatMap_cons, List.take_append, hk, Nat.add_mul, Nat.one_mul, List.take_of_length_le (by rw [hk]; omega), Nat.add_sub_cancel, flatMap_take enc k hk l i]
theorem flatMap_drop {α : Type} (enc : α → List Value) (k : Nat) (hk : ∀ x, (enc x).length = k) : ∀ (l : List α) (i : Nat), (l.flatMap enc).drop (i * k) = (l.drop i).flatMap enc
  | [], i => by simp
  | a :: l, 0 => by simp
  | a :: l, i + 1 => by
    rw [List.flatMap_cons, List.drop_succ_cons, List.drop_append, hk, Nat.add_mul, Nat.one_mul, List.drop_of_length_le (by rw [hk]; omega), List.nil_append, Nat.add_sub_cancel, flatMap_drop enc k hk l i]
theorem ins_core {T : Tbls} {P : Program} {t : Sh} {f : Nat} (hS : InsOk P f t) {l vs : List (sem t)} {i : Nat} (hi : i ≤ l.length) (hv : 0 < vs.length) (hmax : l.length + vs.length ≤ 1000000) {frv : Bool} {w : World} {gg : Gh}
    (hW : WF (Ent.mp T w gg [.row t l true]) gg [.row t l true] w) (hfn : ∀ b o, gg.fn b o = none) {v2 : Value} (hv2 : Rel gg [.row t l true] (.d (.list t) vs frv) v2) :
    Calls P f #[gg.rv 0, .int .i64 i, v2] w (PostM P f (insMode t) (Ent.mp T w gg [.row t l true]) (l.take i ++ vs ++ l.drop i, ())) := by
  have hn0 : gg.n0 = 0 := hW.nn
  have hout : (insMode t).outM (l.take i ++ vs ++ l.drop i, ()) = [.gone, .row t (l.take i ++ vs ++ l.drop i) t.flat] := rfl
  have hresR : (insMode t).outR (l.take i ++ vs ++ l.drop i, ()) = [.ref 1] := rfl
  have hlen : ∀ x : sem t, (cellsV t x).length = t.size := fun x => cellsV_len t x hS.flat
  obtain ⟨hpos, e1, xs, hown, hrep⟩ := hW.own 0 _ rfl
  have hxs := repL_flat hS.flat l xs hrep
  have one : ∀ (q : List (sem t)), ∀ u ∈ q.flatMap (cellsV t), u.oneCell' = true := fun q => RepL.one (fun x c h => RepC.one (fz := fun _ _ => none) t x c h) q _ (repL_of hS.flat q)
  obtain ⟨a, cap, rfl, hcap, hrv⟩ := hv2.list_inv
  rcases hrv with rfl | ⟨vb, voff, ys, rfl, hry, hyz⟩
  · simp at hv
  have hys := repL_flat hS.flat vs ys hry
  have hfz : ∀ b o v, gg.sel frv b o = some v → gg.fz b o = some v := fun b o v h => sel_fz (fun b o v h => (hW.fnz b o v h).1) h
  have hyl : ys.length = vs.length * t.size := by
    rw [hys]
    exact RepL.len (fun x c h => RepC.len (fz := fun _ _ => none) t x c h) vs _ (repL_of hS.flat vs)
  have hne : rowBlk (gg.rv 0) ≠ some vb := fun hb => by
    have h0 : 0 < ys.length := by rw [hyl]; exact Nat.mul_pos hv hpos
    have h1 := hfz _ _ _ (hyz 0 _ (List.getElem?_eq_getElem h0))
    have h2 := (hW.apart 0 _ vb rfl hb).1 (voff + 0)
    rw [h1] at h2; cases h2
  refine (hS.run w gg.n0 e1 (gg.rv 0) l.length xs i vs.length vb voff cap ys hown hW.base hi hv hcap hmax hyl (fun j u hu => hW.fzc _ _ _ (hfz _ _ _ (hyz j u hu))) (by rw [hxs]; exact one l) (by rw [hys]; exact one vs) hne).mono ?_
  rintro en w' ⟨v', e2, rfl, hown', hg, hb'⟩
  have hcells : xs.take (i * t.size) ++ ys ++ xs.drop (i * t.size) = (l.take i ++ vs ++ l.drop i).flatMap (cellsV t) := by
    rw [hxs, hys, flatMap_take _ _ hlen, flatMap_drop _ _ hlen, List.flatMap_append, List.flatMap_append]
  have hL : (l.take i ++ vs ++ l.drop i).length = l.length + vs.length := by
    rw [List.length_append, List.length_append, List.length_take, List.length_drop]; omega
  rw [hcells] at hown'
  refine ⟨v', { gg with fz := fun _ _ => none, rv := upd gg.rv 1 v' }, rfl, ?_, ?_, hfn, fun _ b o => rfl, fun h => ?_, fun id o ho => ?_⟩
  · rw [hout, hS.flat]
    refine ⟨hW.nn, hW.pvn, (fun b o v hv => by cases hv), hW.below.trans ⟨hg.os, hg.tape, hg.output, hg.size, fun k hk => ?_, hg.drawn⟩, Nat.le_trans hW.base hg.size, (fun b o v hv => by cases hv), fun b o v hv => ?_, fun id o ho => ?_, fun id o b ho hb => ⟨fun _ => rfl, fun id' o' hne' ho' => ?_⟩, fun k hk hio => ?_, fun id o b ho hb => ?_, hW.tbl⟩
    · have hk : k < gg.n0 := hk
      omega
    · have hv : gg.fn b o = some v := hv
      rw [hfn] at hv; cases hv
    · match id, ho with
      | 0, ho => cases ho; trivial
      | 1, ho =>
        cases ho
        refine ⟨hpos, e2, _, ?_, repL_of hS.flat _⟩
        rw [hL]
        exact hown'
      | id + 2, ho => simp at ho
    · match id, ho, id', ho' with
      | 0, ho, _, _ => cases ho; exact hb.elim
      | 1, _, 0, ho' => cases ho'; exact fun h => h.elim
      | 1, _, 1, _ => exact absurd rfl hne'
      | 1, _, n + 2, ho' => simp at ho'
      | n + 2, ho, _, _ => simp at ho
    · have hk : k < w.heap.size := hk
      refine hg.block k hk (fun e => ?_)
      rcases hW.mine 0 _ k rfl e.symm with z | z
      · have z : w.heap.size ≤ k := z
        omega
      · have hio : (Ent.mp T w gg [.row t l true]).io k = false := hio
        rw [z] at hio; cases hio
    · match id, ho with
      | 0, ho => cases ho; exact hb.elim
      | 1, ho =>
        cases ho
        have hb : rowBlk (upd gg.rv 1 v' 1) = some b := hb
        rw [upd_same] at hb
        rcases hb' b hb with z | z
        · exact hW.mine 0 _ b rfl z
        · exact .inl z
      | id + 2, ho => simp at ho
  · rw [if_neg (by rw [hS.tup]; exact Bool.false_ne_true)]
    refine ⟨_, hresR, ?_⟩
    rw [hout]
    unfold Rel
    refine ⟨hown'.one, .row t _ t.flat, rfl, ?_⟩
    show v' = upd gg.rv 1 v' 1
    rw [upd_same]
  · have : (insMode t).flat = t.flat := by simp [insMode, Mode.flat, TV.shsL, TV.shs, TO.flat]
    rw [this, hS.flat] at h; cases h
  · have ho : [AO.row t l true][id]? = some o := ho
    cases id with
    | zero => exact ⟨.gone, by rw [hout]; rfl, trivial⟩
    | succ i => simp at ho
theorem ins_ok {T : Tbls} {P : Program} {t : Sh} {f : Nat} (hS : InsOk P f t) : SoundM T P f (insMode t) (fun _ => insAny t) := by
  intro k objs xs0 r h
  have h : (match insRun t (AV.agg objs :: xs0) with | some r => cast? (.pair (.list t) .unit) (insMode t).sh r | none => none) = some r := h
  split at h
  · rename_i q hq
    have hr : cast? (.pair (.list t) .unit) (.pair (.list t) .unit) q = some r := h
    have hr : q = r := Option.some.inj ((cast?_self (.pair (.list t) .unit) q).symm.trans hr)
    subst hr
    clear h
    unfold insRun at hq
    split at hq
    · rename_i t' l i fi t2 vs fv hargs
      simp only [List.cons.injEq, AV.agg.injEq] at hargs
      obtain ⟨rfl, rfl⟩ := hargs
      split at hq
      · rename_i l2 vs2 hl hvs
        obtain ⟨e0, e1⟩ := cast?_some hl
        cases e0
        cases e1
        obtain ⟨e0, e1⟩ := cast?_some hvs
        cases e0
        cases e1
        unfold insEq at hq
        split at hq
        · rename_i hg
          obtain ⟨h0, h1, h2, h3⟩ := hg
          cases hq
          refine ⟨hS.ent, fun w gg vs0 hW hfn hR => ?_⟩
          have hm : [AV.d (.list t) l true].map decO = [AO.row t l true] := rfl
          rw [hm] at hW hR ⊢
          unfold Rels at hR
          obtain ⟨v, rest, e1, hv, hR⟩ := hR
          unfold Rels at hR
          obtain ⟨v2, rest, rfl, hv2, hR⟩ := hR
          unfold Rels at hR
          obtain ⟨v3, rest, rfl, hv3, hR⟩ := hR
          unfold Rels at hR
          subst hR
          have evs : vs0 = #[v, v2, v3] := by cases vs0; simp_all
          subst evs
          unfold Rel at hv
          obtain ⟨hv1, o, ho, hvv⟩ := hv
          cases ho
          have hvv : v = gg.rv 0 := hvv
          subst hvv
          obtain rfl := hv2.int_inv
          obtain ⟨i, rfl⟩ := Int.eq_ofNat_of_zero_le h0
          have h1' : i ≤ List.length l := by have : ((i : Nat) : Int) ≤ (List.length l : Nat) := h1; omega
          exact ins_core hS h1' h2 h3 hW hfn hv3
        · cases hq
      · cases hq
    · cases hq
  · cases h
theorem insX {T : Tbls} {P : Program} {frs : Frs} {t : Sh} {f : Nat} (hS : InsOk P f t) (hm : frs.mode f = some (insMode t)) : SoundX T P (f + 1000000) (fun _ => insAny t) frs :=
  ⟨fun h => absurd h (by omega), fun _ M hM => by
    rw [Nat.add_sub_cancel] at hM ⊢
    rw [hm] at hM
    cases hM
    exact ins_ok hS⟩
/-! ### functions whose results are data of one spelling, told by hand -/
theorem sound_one {T : Tbls} {P : Program} {f : Nat} {F : List AV → (τ : Sh) → Option (sem τ)} {fresh : Bool} (hent : ∀ args w, (callFunc f args).run P w = .ok (.enter f args) w) (htup : retTup P f = false)
    (h : ∀ xs0 τ r, F xs0 τ = some r → ∀ (w : World) (vs : Array Value) (fz : Fz), Tbl T w → (∀ b o v, fz b o = some v → w.cell? ⟨b, o, none⟩ = some v) → Rels (G0 w.heap.size fz) [] xs0 vs.toList → Calls P f vs w fun e w' => Below w.heap.size w w' ∧ ∃ v, e = .returned v ∧ ∀ fz, RepV fz τ r v) : Sound T P f (fun _ => F) fresh := by
  intro k xs0 τ r hr
  refine ⟨hent, fun w vs fz htb hfz hR => (h xs0 τ r hr w vs fz htb hfz hR).mono ?_⟩
  rintro e w' ⟨hb, v, rfl, hv⟩
  refine ⟨v, fz, rfl, hb, fun b o x hx => cell_below hb (hfz b o x hx), fun _ _ _ h => h, fun _ _ _ h => .inl h, ?_⟩
  unfold RepR
  rw [htup]
  exact hv _
/-- where a byte stands first in a text; -1 if nowhere -/
def idxB (s : ByteArray) (c : Int) : Int := Lib.indexByte s.data.toList c.toNat.toUInt8
def idxAny (xs : List AV) (τ : Sh) : Option (sem τ) := match xs with
  | [.d .str s _, .d (.int .u8) c _] => cast? (.int .i64) τ (idxB s c)
  | _ => none
theorem idxX {T : Tbls} {P : Program} {frs : Frs} {f : Nat} (hlt : f < 1000000) (hent : ∀ args w, (callFunc f args).run P w = .ok (.enter f args) w) (htup : retTup P f = false)
    (h : ∀ (s : ByteArray) (c : Int) (w : World), Calls P f #[.string s, .int .u8 c] w fun e w' => e = .returned (.int .i64 (idxB s c)) ∧ Below w.heap.size w w') : SoundX T P f (fun _ => idxAny) frs := by
  refine ⟨fun _ => sound_one hent htup fun xs0 τ r hr w vs fz _ _ hR => ?_, fun hge => absurd hge (by omega)⟩
  unfold idxAny at hr
  split at hr
  · rename_i s fs c fc
    obtain ⟨e0, e1⟩ := cast?_some hr
    cases e0
    cases e1
    unfold Rels at hR
    obtain ⟨v, rest, e1, hv, hR⟩ := hR
    unfold Rels at hR
    obtain ⟨v2, rest, rfl, hv2, hR⟩ := hR
    unfold Rels at hR
    subst hR
    have evs : vs = #[v, v2] := by cases vs; simp_all
    subst evs
    obtain rfl := hv.str_inv
    obtain rfl := hv2.int_inv
    refine (h s c w).mono ?_
    rintro e w' ⟨rfl, hb⟩
    exact ⟨hb, _, rfl, fun fz => rfl⟩
  · cases hr
/-- a whole number's text -/
def inI64 (n : Int) : Prop := -9223372036854775808 ≤ n ∧ n ≤ 9223372036854775807
instance decI64 (n : Int) : Decidable (inI64 n) := inferInstanceAs (Decidable (_ ∧ _))
def itoaS (n : Int) : ByteArray := ⟨(Go.Lib.itoa n).toArray⟩
def itoaAny (xs : List AV) (τ : Sh) : Option (sem τ) := match xs with
  | [.d (.int .i64) n _] => @ite _ (inI64 n) (decI64 n) (cast? .str τ (itoaS n)) none
  | _ => none
theorem itoaX {T : Tbls} {P : Program} {frs : Frs} {f : Nat} (hlt : f < 1000000) (hent : ∀ args w, (callFunc f args).run P w = .ok (.enter f args) w) (htup : retTup P f = false)
    (h : ∀ (n : Int) (w : World), -9223372036854775808 ≤ n → n ≤ 9223372036854775807 → Tbl T w → Calls P f #[.int .i64 n] w fun e w' => e = .returned (.string (itoaS n)) ∧ Below w.heap.size w w') : SoundX T P f (fun _ => itoaAny) frs := by
  refine ⟨fun _ => sound_one hent htup fun xs0 τ r hr w vs fz htb _ hR => ?_, fun hge => absurd hge (by omega)⟩
  unfold itoaAny at hr
  split at hr
  · rename_i n fn
    split at hr
    · rename_i hn
      obtain ⟨e0, e1⟩ := cast?_some hr
      cases e0
      cases e1
      unfold Rels at hR
      obtain ⟨v, rest, e1, hv, hR⟩ := hR
      unfold Rels at hR
      subst hR
      have evs : vs = #[v] := by cases vs; simp_all
      subst evs
      obtain rfl := hv.int_inv
      refine (h n w hn.1 hn.2 htb).mono ?_
      rintro e w' ⟨rfl, hb⟩
      exact ⟨hb, _, rfl, fun fz => rfl⟩
    · cases hr
  · cases hr
/-- a whole number's digits, base 10 (strconv.FormatUint) -/
def inU64 (n b : Int) : Prop := 0 ≤ n ∧ n < 18446744073709551616 ∧ b = 10
instance decU64 (n b : Int) : Decidable (inU64 n b) := inferInstanceAs (Decidable (_ ∧ _))
def digS (n : Int) : ByteArray := ⟨(Go.Lib.decDigits n.toNat).toArray⟩
def fmtAny (xs : List AV) (τ : Sh) : Option (sem τ) := match xs with
  | [.d (.int .u64) n _, .d (.int .i64) b _] => @ite _ (inU64 n b) (decU64 n b) (cast? .str τ (digS n)) none
  | _ => none
theorem fmtX {T : Tbls} {P : Program} {frs : Frs} {f : Nat} (hlt : f < 1000000) (hent : ∀ args w, (callFunc f args).run P w = .ok (.enter f args) w) (htup : retTup P f = false)
    (h : ∀ (u : Nat) (w : World), u < 18446744073709551616 → Tbl T w → Calls P f #[.int .u64 (u : Int), .int .i64 10] w fun e w' => e = .returned (.string (digS u)) ∧ Below w.heap.size w w') : SoundX T P f (fun _ => fmtAny) frs := by
  refine ⟨fun _ => sound_one hent htup fun xs0 τ r hr w vs fz htb _ hR => ?_, fun hge => absurd hge (by omega)⟩
  unfold fmtAny at hr
  split at hr
  · rename_i n fn b fb
    split at hr
    · rename_i hn
      obtain ⟨e0, e1⟩ := cast?_some hr
      cases e0
      cases e1
      unfold Rels at hR
      obtain ⟨v, rest, e1, hv, hR⟩ := hR
      unfold Rels at hR
      obtain ⟨v2, rest, rfl, hv2, hR⟩ := hR
      unfold Rels at hR
      subst hR
      have evs : vs = #[v, v2] := by cases vs; simp_all
      subst evs
      obtain rfl := hv.int_inv
      obtain rfl := hv2.int_inv
      obtain ⟨hn0, hn1, hb⟩ := hn
      have eb : b = (10 : Int) := hb
      have en : n = ((Int.toNat n : Nat) : Int) := (Int.toNat_of_nonneg hn0).symm
      have hlt2 : Int.toNat n < 18446744073709551616 := (Int.toNat_lt hn0).2 hn1
      have key := h (Int.toNat n) w hlt2 htb
      rw [← en, ← eb] at key
      refine key.mono ?_
      rintro e w' ⟨rfl, hb⟩
      exact ⟨hb, _, rfl, fun fz => rfl⟩
    · cases hr
  · cases hr
/-- a text made of a text -/
def strAny (F : ByteArray → ByteArray) (m : Nat) (xs : List AV) (τ : Sh) : Option (sem τ) := match xs with
  | [.d .str s _] => if ByteArray.size s ≤ m then cast? .str τ (F s) else none
  | _ => none
theorem strX {T : Tbls} {P : Program} {frs : Frs} {f m : Nat} {F : ByteArray → ByteArray} (hlt : f < 1000000) (hent : ∀ args w, (callFunc f args).run P w = .ok (.enter f args) w) (htup : retTup P f = false)
    (h : ∀ (s : ByteArray) (w : World), s.size ≤ m → Tbl T w → Calls P f #[.string s] w fun e w' => e = .returned (.string (F s)) ∧ Below w.heap.size w w') : SoundX T P f (fun _ => strAny F m) frs := by
  refine ⟨fun _ => sound_one hent htup fun xs0 τ r hr w vs fz htb _ hR => ?_, fun hge => absurd hge (by omega)⟩
  unfold strAny at hr
  split at hr
  · rename_i s fs
    split at hr
    · rename_i hn
      obtain ⟨e0, e1⟩ := cast?_some hr
      cases e0
      cases e1
      unfold Rels at hR
      obtain ⟨v, rest, e1, hv, hR⟩ := hR
      unfold Rels at hR
      subst hR
      have evs : vs = #[v] := by cases vs; simp_all
      subst evs
      obtain rfl := hv.str_inv
      refine (h s w hn htb).mono ?_
      rintro e w' ⟨rfl, hb⟩
      exact ⟨hb, _, rfl, fun fz => rfl⟩
    · cases hr
  · cases hr
/-- a text made of a row of bytes -/
def armAny (F : List Int → ByteArray) (xs : List AV) (τ : Sh) : Option (sem τ) := match xs with
  | [.d (.list (.int .u8)) l _] => if List.length (l : List Int) ≤ 20000 then cast? .str τ (F l) else none
  | _ => none
theorem bytes_cells {fz : Fz} {w : World} (hfz : ∀ b o v, fz b o = some v → w.cell? ⟨b, o, none⟩ = some v) {l : List Int} {v : Value} (h : RepV fz (.list (.int .u8)) l v) :
    ∃ A c, v = .slice A l.length c ∧ l.length ≤ c ∧ ∀ i : Nat, i < l.length → ∃ ad, A = some ad ∧ w.cell? (ad.add i) = some (.int .u8 (l.getD i 0)) := by
  have h : RepC fz (.list (.int .u8)) l [v] := h
  obtain ⟨A, c, e, hle, hr⟩ := h
  cases e
  refine ⟨A, c, rfl, hle, fun i hi => ?_⟩
  rcases hr with e | ⟨b, o, xs, rfl, hx, hz⟩
  · have e : l = ([] : List Int) := e
    subst e
    simp at hi
  · have hxs := bytes_rep l xs hx
    subst hxs
    refine ⟨_, rfl, ?_⟩
    rw [addr_add]
    refine hfz _ _ _ (hz i _ ?_)
    rw [List.getElem?_map, List.getElem?_eq_getElem hi, List.getD_eq_getElem?_getD, List.getElem?_eq_getElem hi]
    rfl
theorem armX {T : Tbls} {P : Program} {frs : Frs} {f : Nat} {F : List Int → ByteArray} (hlt : f < 1000000) (hent : ∀ args w, (callFunc f args).run P w = .ok (.enter f args) w) (htup : retTup P f = false)
    (h : ∀ (A : Option Addr) (c : Nat) (l : List Int) (w : World), (∀ i : Nat, i < l.length → ∃ ad, A = some ad ∧ w.cell? (ad.add i) = some (.int .u8 (l.getD i 0))) → l.length ≤ c → l.length ≤ 20000 →
      Calls P f #[.slice A l.length c] w fun e w' => e = .returned (.string (F l)) ∧ Below w.heap.size w w') : SoundX T P f (fun _ => armAny F) frs := by
  refine ⟨fun _ => sound_one hent htup fun xs0 τ r hr w vs fz _ hfz hR => ?_, fun hge => absurd hge (by omega)⟩
  unfold armAny at hr
  split at hr
  · rename_i l fl
    split at hr
    · rename_i hn
      obtain ⟨e0, e1⟩ := cast?_some hr
      cases e0
      cases e1
      unfold Rels at hR
      obtain ⟨v, rest, e1, hv, hR⟩ := hR
      unfold Rels at hR
      subst hR
      have evs : vs = #[v] := by cases vs; simp_all
      subst evs
      unfold Rel at hv
      obtain ⟨A, c, rfl, hle, hc⟩ := bytes_cells (w := w) (l := l) hfz (hv.mono (fun b o x hx => sel_fz (fun b o v hv => by cases hv) hx))
      refine (h A c l w hc hle hn).mono ?_
      rintro e w' ⟨rfl, hb⟩
      exact ⟨hb, _, rfl, fun fz => rfl⟩
    · cases hr
  · cases hr
/-! ### functions from flat data to flat data, told by hand -/
def datas : (ts : List Sh) → List AV → Option (sem (prodSh ts))
  | [], [] => some ()
  | t :: ts, a :: l => match data t a, datas ts l with | some (x, _), some r => some (x, r) | _, _ => none
  | _, _ => none
def valsV : (ts : List Sh) → sem (prodSh ts) → List Value
  | [], _ => []
  | t :: ts, x => valV t x.1 :: valsV ts x.2
theorem datas_rel {g : Gh} (hf : ∀ b o v, g.fn b o = some v → g.fz b o = some v) {m : List AO} : ∀ (ts : List Sh) (l : List AV) (x : sem (prodSh ts)), ts.all Sh.flat = true → datas ts l = some x → ∀ vs, Rels g m l vs → vs = valsV ts x
  | [], [], x, _, h, vs, hr => by unfold Rels at hr; exact hr
  | [], _ :: _, x, _, h, vs, hr => by simp [datas] at h
  | _ :: _, [], x, _, h, vs, hr => by simp [datas] at h
  | t :: ts, a :: l, x, hfl, h, vs, hr => by
    simp only [List.all_cons, Bool.and_eq_true] at hfl
    unfold datas at h
    split at h
    · rename_i y f r h1 h2
      cases h
      unfold Rels at hr
      obtain ⟨v, rs, rfl, hv, hrs⟩ := hr
      rw [(data_rel hf h1 hv).flat_eq hfl.1, datas_rel hf ts l r hfl.2 h2 rs hrs]
      rfl
    · cases h
def tupSh : Sh → Bool
  | .unit => true | .pair _ b => tupSh b | _ => false
theorem tupV_rep {fz : Fz} : ∀ (t : Sh) (x : sem t), t.flat = true → tupSh t = true → RepT fz t x (tupV t x)
  | .unit, _, _, _ => rfl
  | .pair a b, x, hf, ht => by
    simp only [Sh.flat, Bool.and_eq_true] at hf
    exact ⟨_, _, rfl, valV_cells a x.1 hf.1 fz, tupV_rep b x.2 hf.2 ht⟩
  | .int _, _, _, h => by cases h
  | .bool, _, _, h => by cases h
  | .str, _, _, h => by cases h
  | .list _, _, _, h => by cases h
  | .rose _, _, _, h => by cases h
def flatAny (ts : List Sh) (τ0 : Sh) (G : sem (prodSh ts) → Option (sem τ0)) (xs : List AV) (τ : Sh) : Option (sem τ) := match datas ts xs with
  | some x => (match G x with | some r => cast? τ0 τ r | none => none)
  | none => none
theorem flatX {T : Tbls} {P : Program} {frs : Frs} {f : Nat} (ts : List Sh) (τ0 : Sh) {G : sem (prodSh ts) → Option (sem τ0)} (hlt : f < 1000000) (hts : ts.all Sh.flat = true) (h0 : τ0.flat = true) (hent : ∀ args w, (callFunc f args).run P w = .ok (.enter f args) w) (htup : retTup P f = true → tupSh τ0 = true)
    (h : ∀ (x : sem (prodSh ts)) (r : sem τ0) (w : World), G x = some r → Tbl T w → Calls P f (valsV ts x).toArray w fun e w' => e = .returned (resV (retTup P f) τ0 r) ∧ Below w.heap.size w w') : SoundX T P f (fun _ => flatAny ts τ0 G) frs := by
  refine ⟨fun _ => ?_, fun hge => absurd hge (by omega)⟩
  intro k xs0 τ r hr
  refine ⟨hent, fun w vs fz htb hfz hR => ?_⟩
  have hr : flatAny ts τ0 G xs0 τ = some r := hr
  unfold flatAny at hr
  split at hr
  · rename_i x hx
    split at hr
    · rename_i r0 hG
      obtain ⟨e0, e1⟩ := cast?_some hr
      subst e0
      subst e1
      have hvs := datas_rel (fun b o v hv => by cases hv) ts xs0 x hts hx vs.toList hR
      have evs : vs = (valsV ts x).toArray := by rw [← hvs]
      subst evs
      refine (h x r0 w hG htb).mono ?_
      rintro e w' ⟨rfl, hb⟩
      refine ⟨_, fz, rfl, hb, fun b o x hx => cell_below hb (hfz b o x hx), fun _ _ _ h => h, fun _ _ _ h => .inl h, ?_⟩
      unfold RepR resV
      cases htt : retTup P f with
      | true => exact ⟨_, rfl, tupV_rep τ0 r0 h0 (htup htt)⟩
      | false => exact valV_cells τ0 r0 h0 _
    · cases hr
  · cases hr
/-- the same, its condition told apart -/
def flatC (ts : List Sh) (τ0 : Sh) (c : sem (prodSh ts) → Bool) (G : sem (prodSh ts) → sem τ0) (xs : List AV) (τ : Sh) : Option (sem τ) := match datas ts xs with
  | some x => if c x = true then cast? τ0 τ (G x) else none
  | none => none
theorem flatC_any (ts : List Sh) (τ0 : Sh) (c : sem (prodSh ts) → Bool) (G : sem (prodSh ts) → sem τ0) : flatC ts τ0 c G = flatAny ts τ0 fun x => if c x = true then some (G x) else none := by
  funext xs τ
  unfold flatC flatAny
  cases datas ts xs with
  | none => rfl
  | some x => dsimp only; split <;> rfl
theorem flatCX {T : Tbls} {P : Program} {frs : Frs} {f : Nat} (ts : List Sh) (τ0 : Sh) {c : sem (prodSh ts) → Bool} {G : sem (prodSh ts) → sem τ0} (hlt : f < 1000000) (hts : ts.all Sh.flat = true) (h0 : τ0.flat = true) (hent : ∀ args w, (callFunc f args).run P w = .ok (.enter f args) w) (htup : retTup P f = true → tupSh τ0 = true)
    (h : ∀ (x : sem (prodSh ts)) (w : World), c x = true → Tbl T w → Calls P f (valsV ts x).toArray w fun e w' => e = .returned (resV (retTup P f) τ0 (G x)) ∧ Below w.heap.size w w') : SoundX T P f (fun _ => flatC ts τ0 c G) frs := by
  rw [flatC_any]
  refine flatX ts τ0 hlt hts h0 hent htup fun x r w hG hT => ?_
  split at hG
  · rename_i hc
    cases hG
    exact h x w hc hT
  · cases hG
/-! strings.Join -/
def joinS (l : List ByteArray) (s : ByteArray) : ByteArray := ⟨(Lib.join (l.map (·.data.toList)) s.data.toList).toArray⟩
def joinAny (xs : List AV) (τ : Sh) : Option (sem τ) := match xs with
  | [.d (.list .str) l _, .d .str s _] => if List.length (l : List ByteArray) ≤ 1000000 ∧ (joinS l s).size ≤ 1000000 then cast? .str τ (joinS l s) else none
  | _ => none
theorem strs_rep {fz : Fz} : ∀ (l : List ByteArray) (xs : List Value), RepL (RepC fz .str) l xs → xs = l.map Value.string
  | [], xs, h => h
  | x :: l, xs, ⟨c1, c2, e, h1, h2⟩ => by
    have h1 : c1 = [.string x] := h1
    rw [e, h1, strs_rep l c2 h2]; rfl
theorem join_run {P : Program} {f : Nat} {w : World} {fz : Fz} (hfz : ∀ b o v, fz b o = some v → w.cell? ⟨b, o, none⟩ = some v) (l : List ByteArray) (s : ByteArray) (v : Value) (hv : RepC fz (.list .str) l [v]) (hn1 : l.length ≤ 1000000) (hn2 : (joinS l s).size ≤ 1000000)
    (h0 : ∀ (a : Option Addr) (c : Nat) (s : ByteArray) (w : World), Calls P f #[.slice a 0 c, .string s] w fun e w' => e = .returned (.string ⟨#[]⟩) ∧ w' = w)
    (h : ∀ (bk o c : Nat) (xs : List ByteArray) (s : ByteArray) (w : World), (∀ (j : Nat) x, xs[j]? = some x → w.cell? ⟨bk, o + j, none⟩ = some (.string x)) → bk < w.heap.size → xs.length ≤ 140737488355328 → xs.length ≤ c →
      (Lib.join (xs.map (·.data.toList)) s.data.toList).length ≤ 140737488355328 → Calls P f #[.slice (some ⟨bk, o, none⟩) xs.length c, .string s] w fun e w' => e = .returned (.string ⟨(Lib.join (xs.map (·.data.toList)) s.data.toList).toArray⟩) ∧ Below w.heap.size w w') :
    Calls P f #[v, .string s] w fun e w' => Below w.heap.size w w' ∧ e = .returned (.string (joinS l s)) := by
  obtain ⟨A, c, e, hle, hc⟩ := hv
  cases e
  have nil : ∀ A : Option Addr, l = [] → Calls P f #[.slice A l.length c, .string s] w fun e w' => Below w.heap.size w w' ∧ e = .returned (.string (joinS l s)) := fun A e => by
    subst e
    refine (h0 A c s w).mono ?_
    rintro e w' ⟨rfl, rfl⟩
    exact ⟨Below.refl _ _, rfl⟩
  rcases hc with e | ⟨b, o, xs, rfl, hx, hz⟩
  · exact nil _ e
  · have hxs := strs_rep l xs hx
    subst hxs
    have hcell : ∀ (j : Nat) x, l[j]? = some x → w.cell? ⟨b, o + j, none⟩ = some (.string x) := fun j x hj => hfz _ _ _ (hz j _ (by rw [List.getElem?_map, hj]; rfl))
    by_cases hl : l = []
    · exact nil _ hl
    · obtain ⟨x0, hx0⟩ : ∃ x0, l[0]? = some x0 := by
        cases hq : l with
        | nil => exact absurd hq hl
        | cons a r => exact ⟨a, rfl⟩
      have hbk := World.block_lt_of_cell? w _ (hcell 0 x0 hx0)
      have hlen : (Lib.join (l.map (·.data.toList)) s.data.toList).length ≤ 140737488355328 := by
        have h2 : (Lib.join (l.map (·.data.toList)) s.data.toList).length ≤ 1000000 := by
          have := hn2
          unfold joinS at this
          simpa [ByteArray.size] using this
        omega
      refine (h b o c l s w hcell hbk (by omega) hle hlen).mono ?_
      rintro e w' ⟨rfl, hb⟩
      exact ⟨hb, rfl⟩
theorem joinX {T : Tbls} {P : Program} {frs : Frs} {f : Nat} (hlt : f < 1000000) (hent : ∀ args w, (callFunc f args).run P w = .ok (.enter f args) w) (htup : retTup P f = false)
    (h0 : ∀ (a : Option Addr) (c : Nat) (s : ByteArray) (w : World), Calls P f #[.slice a 0 c, .string s] w fun e w' => e = .returned (.string ⟨#[]⟩) ∧ w' = w)
    (h : ∀ (bk o c : Nat) (xs : List ByteArray) (s : ByteArray) (w : World), (∀ (j : Nat) x, xs[j]? = some x → w.cell? ⟨bk, o + j, none⟩ = some (.string x)) → bk < w.heap.size → xs.length ≤ 140737488355328 → xs.length ≤ c →
      (Lib.join (xs.map (·.data.toList)) s.data.toList).length ≤ 140737488355328 → Calls P f #[.slice (some ⟨bk, o, none⟩) xs.length c, .string s] w fun e w' => e = .returned (.string ⟨(Lib.join (xs.map (·.data.toList)) s.data.toList).toArray⟩) ∧ Below w.heap.size w w') : SoundX T P f (fun _ => joinAny) frs := by
  refine ⟨fun _ => sound_one hent htup fun xs0 τ r hr w vs fz _ hfz hR => ?_, fun hge => absurd hge (by omega)⟩
  unfold joinAny at hr
  split at hr
  · rename_i l fl s fs
    split at hr
    · rename_i hn
      obtain ⟨e0, e1⟩ := cast?_some hr
      cases e0
      cases e1
      unfold Rels at hR
      obtain ⟨v, rest, e1, hv, hR⟩ := hR
      unfold Rels at hR
      obtain ⟨v2, rest, rfl, hv2, hR⟩ := hR
      unfold Rels at hR
      subst hR
      have evs : vs = #[v, v2] := by cases vs; simp_all
      subst evs
      obtain rfl := hv2.str_inv
      unfold Rel at hv
      have hv : RepV fz (.list .str) l v := hv.mono (fun b o x hx => sel_fz (fun b o v hv => by cases hv) hx)
      refine (join_run hfz l s v hv hn.1 hn.2 h0 h).mono ?_
      rintro e w' ⟨hb, rfl⟩
      exact ⟨hb, _, rfl, fun fz => rfl⟩
    · cases hr
  · cases hr
theorem append_str_drawn {P : Program} {w w' : World} {v v' : Value} {t u ty e : TypeId} {i : TypeInfo} {n : Nat} {xs : List Value} {base : Nat} {s : ByteArray} (ht : P.underlying t = some (.slice e)) (hu : P.underlying u = some .string) (hi : P.info? e = some i) (hz : i.zero = some (.int .u8 0))
    (hsize : i.size = 1) (hby : i.bytes = 1) (hown : w.ownsRow base e 1 v n xs) (h63 : n + s.size ≤ maxLen) (hbytes : n + s.size ≤ 140737488355328)
    (hr : (Builtin.append_ #[t, u] ty #[v, .string s]).run P w = .ok v' w') : w.drawn ≤ w'.drawn := by
  have hxl : xs.length = n := by simpa using hown.1
  have hsmall : n + s.size ≤ 9223372036854775807 := by simp only [maxLen] at h63; omega
  rcases hown.2 with ⟨rfl, rfl⟩ | ⟨g, cap, cur, rfl, hbg, hg, hnc, hcm, hcs, htake⟩
  · by_cases hm : s.size = 0
    · have hf := Lib.run_firstCells_string (P := P) w 1 s
      rw [hm] at hf
      have h2 : (Builtin.append_ #[t, u] ty #[.slice none 0 0, .string s]).run P w = .ok (.slice none 0 0) w := by
        simp [Builtin.append_, run_underlying ht, run_underlying hu, sizeOf, typeInfo, hi, hsize, Builtin.lenOf, hm, hf]
      have e := hr.symm.trans h2
      injection e with _ e
      rw [e]; exact Nat.le_refl _
    · have h2 := run_append_nil_string (P := P) w t u ty e i (.int .u8 0) ht hu hi hz s (by omega) (by omega) (by rw [hby]; omega)
      have e := hr.symm.trans h2
      injection e with _ e
      rw [e]; exact Nat.le_succ _
  · by_cases hroom : n + s.size ≤ cap
    · have hcs' : cur.size = cap := by simpa using hcs
      have h2 := Lib.run_append_room_string (P := P) w t u ty e i ht hu hi hsize g n cap cur hg s hroom (by omega)
      have e := hr.symm.trans h2
      injection e with _ e
      rw [e]; exact Nat.le_refl _
    · have holds : ∀ j u, xs[j]? = some u → w.cell? ((⟨g, 0, none⟩ : Addr).add j) = some u := hown.cells (g := g) rfl
      have h2 := Lib.run_append_grow_string (P := P) w t u ty e i (.int .u8 0) ht hu hi hz ⟨g, 0, none⟩ n cap xs (by rw [hsize]; simpa using hxl) holds s (by omega) (by omega) (by rw [hby]; exact growslice_fits (by omega) (by omega))
      have e := hr.symm.trans h2
      injection e with _ e
      rw [e]; exact Nat.le_succ _
/-- .. with the draws -/
theorem wpList_append_own_string_d {P : Program} (w : World) {ops : Array Oper} {rest : List Oper} {o : Oper} {a : Act} {Q : Exit → Act → World → Prop} (hgd : o.guard = none) (sl x : Operand) (t u : TypeId)
    (ho : o.op = .call { callee := .builtin .append, args := #[sl, x], argTypes := #[t, u] })
    (base : Nat) (e : TypeId) (i : TypeInfo) (ht : P.underlying t = some (.slice e)) (hu : P.underlying u = some .string) (hi : P.info? e = some i) (hz : i.zero = some (.int .u8 0))
    (hsize : i.size = 1) (hby : i.bytes = 1)
    (v : Value) (n : Nat) (xs : List Value) (hs : a.eval sl = v) (hown : w.ownsRow base e 1 v n xs) (s : ByteArray) (hx : a.eval x = .string s)
    (h63 : n + s.size ≤ maxLen) (hbytes : n + s.size ≤ 140737488355328) (hbase : base ≤ w.heap.size)
    (h : ∀ v' w', w'.ownsRow base e 1 v' (n + s.size) (xs ++ Lib.strCells s) → w.grownBy w' v.ownBlock → w.drawn ≤ w'.drawn → wpList P ops Q rest (a.put o.dst v') w') : wpList P ops Q (o :: rest) a w := by
  refine wpList_plain hgd fun K hK => ?_
  obtain ⟨v', w', hr, h2, h3, h4⟩ := Lib.run_append_own_string (P := P) w base t u o.type e i ht hu hi hz hsize hby v n xs hown s h63 hbytes hbase
  have hd := append_str_drawn ht hu hi hz hsize hby hown h63 hbytes hr
  unfold Oper.wp execOp
  simp only [ho, resolve, invoke, builtin, Sem.run_bind, Sem.run_pure, Result.andThen_ok, List.map_toArray, List.map_cons, List.map_nil, hs, hx, hr]
  exact hK _ _ (h v' w' h2 h3 hd)
/-! ### what its code does with cells -/
section
variable {P : Program}
/-- slices.overlaps at a row of one's own and memory of another block -/
theorem run_overlaps_plain (w : World) (tS tR e : TypeId) (ht : P.underlying tS = some (.slice e)) (size : Nat) (hz : ∀ w, (Go.sizeOf e).run P w = .ok size w)
    (a b : Addr) (la ca lb cb : Nat) (hne : a.block ≠ b.block) {u : Value} {o : Nat} (hca : w.cell? ⟨a.block, o, none⟩ = some u) {cur : Array Value} {e2 : TypeId} (hb : w.heap[b.block]? = some (.cells cur e2 (0, 0))) :
    (Extern.SlicesOverlaps.overlaps #[tS, tS] #[tR] #[.slice (some a) la ca, .slice (some b) lb cb]).run P w = .ok (.bool false) w := by
  have hnb : (a.block != b.block) = true := by simpa using hne
  have hnb' : (a.block == b.block) = false := by simpa using hne
  obtain ⟨k1, k2, hsa⟩ : ∃ k1 k2, w.shape? a.block = some (k1, k2 + 1) := by
    unfold World.cell? at hca
    split at hca
    · rename_i c t3 f3 hh
      simp only [Option.isSome_none, Bool.false_eq_true, if_false] at hca
      have : o < c.size := (Array.getElem?_eq_some_iff.1 hca).1
      refine ⟨t3, c.size - 1, ?_⟩
      unfold World.shape?
      rw [hh, Nat.sub_add_cancel (by omega)]
    · cases hca
  have hsb : w.shape? b.block = some (e2, cur.size) := by unfold World.shape?; rw [hb]
  have hfb : ∀ o sp, w.frozen? ⟨b.block, o, sp⟩ = false := fun o sp => by simp [World.frozen?, hb]
  have hfb2 : w.frozen? b = false := hfb _ _
  delta Extern.SlicesOverlaps.overlaps Extern.SlicesOverlaps.overlaps.match_4 Extern.SlicesOverlaps.overlaps._sparseCasesOn_4
  dsimp only
  by_cases h0 : la = 0 ∨ lb = 0 ∨ size = 0
  · simp [Array.getLit, run_underlying ht, hz, h0]
  · cases hfa : w.frozen? a <;> cases hfk : w.frozen? { block := a.block, off := k2 + 1 } <;>
      simp [Array.getLit, run_underlying ht, hz, h0, hnb, hnb', frozen, noView, viewAt, mayBeOne, stringish, shape, Sem.run, hsa, hsb, hfb, hfb2, hfa, hfk]
/-- copy between rows -/
theorem run_copy_rows (w : World) (dT sT ty elem : TypeId) (size : Nat) (g o dLen dCap : Nat) (a : Addr) (sLen sCap : Nat) (cur : Array Value) (t : TypeId) (cs : List Value)
    (hu : P.underlying dT = some (.slice elem)) (hs : (P.info? elem).map (·.size) = some size)
    (hg : w.heap[g]? = some (.cells cur t (0, 0))) (hn : cs.length = Nat.min sLen dLen * size)
    (hsrc : ∀ (j : Nat) v, cs[j]? = some v → w.cell? (a.add j) = some v) (hfit : o + cs.length ≤ cur.size) (h1 : ∀ v ∈ cs, v.oneCell' = true) :
    (Builtin.copy_ #[dT, sT] ty #[.slice (some ⟨g, o, none⟩) dLen dCap, .slice (some a) sLen sCap]).run P w =
      .ok (goInt (Nat.min sLen dLen)) (w.setRow g (cur.toList.take o ++ cs ++ cur.toList.drop (o + cs.length)).toArray) := by
  have hf := run_firstCells_some (P := P) w size (Nat.min sLen dLen) a sLen sCap cs hn hsrc
  have hst := run_storeCells_at P g o t cs 0 cur w hg (by simpa using hfit) h1
  simp only [Nat.add_zero] at hst
  cases hq : P.info? elem with
  | none => simp [hq] at hs
  | some i =>
    have hi : i.size = size := by simpa [hq] using hs
    simp [Builtin.copy_, run_underlying hu, Builtin.lenOf, sizeOf, typeInfo, hq, hi, hf, hst]
theorem copy_wp (w : World) {o : Oper} {a : Act} {K : Act → World → Prop} {Q : Exit → Act → World → Prop} (d s : Operand) (t t' : TypeId)
    (ho : o.op = .call { callee := .builtin .copy, args := #[d, s], argTypes := #[t, t'] }) (v u : Value) (hd : a.eval d = v) (hs : a.eval s = u) {v' : Value} {w' : World}
    (hr : (Builtin.copy_ #[t, t'] o.type #[v, u]).run P w = .ok v' w') (h : K (a.put o.dst v') w') : o.wp P a w K Q := by
  unfold Oper.wp execOp
  simp only [ho, resolve, invoke, builtin, Sem.run_bind, Sem.run_pure, Result.andThen_ok, List.map_toArray, List.map_cons, List.map_nil, hd, hs, hr]
  exact h
theorem copy_list (w : World) {ops : Array Oper} {rest : List Oper} {o : Oper} {a : Act} {Q : Exit → Act → World → Prop} (hgd : o.guard = none) (d s : Operand) (t t' : TypeId)
    (ho : o.op = .call { callee := .builtin .copy, args := #[d, s], argTypes := #[t, t'] }) (v u : Value) (hd : a.eval d = v) (hs : a.eval s = u) {v' : Value} {w' : World}
    (hr : (Builtin.copy_ #[t, t'] o.type #[v, u]).run P w = .ok v' w') (h : wpList P ops Q rest (a.put o.dst v') w') : wpList P ops Q (o :: rest) a w :=
  wpList_plain hgd fun _ hK => copy_wp w d s t t' ho v u hd hs hr (hK _ _ h)
theorem copy_step {ops : Array Oper} {o : Oper} {a : Act} {w : World} {K : Act → World → Prop} {Q : Exit → Act → World → Prop} {E : Prop}
    (hg : o.guard = none) (d x : Operand) (dT sT : TypeId) (hop : o.op = Op.call { callee := Callee.builtin Builtin.copy, args := #[d, x], argTypes := #[dT, sT] })
    (v u : Value) (hd : a.eval d = v) (hx : a.eval x = u) {v' : Value} {w' : World} (hr : (Builtin.copy_ #[dT, sT] o.type #[v, u]).run P w = .ok v' w') (hK : K (a.put o.dst v') w') :
    if Region.wanted o (yielded ops a.tmps) = true then Oper.wp P o a w K Q else E := by
  have hw : Region.wanted o (yielded ops a.tmps) = true := by simp [Region.wanted, hg]
  rw [if_pos hw]
  exact copy_wp w d x dT sT hop v u hd hx hr hK
end
theorem shift_cells (cur cs ys : List Value) (I J : Nat) (hJ : J = I + ys.length) (hl : J + cs.length ≤ cur.length) :
    ((cur.take J ++ cs ++ cur.drop (J + cs.length)).take I ++ ys ++ (cur.take J ++ cs ++ cur.drop (J + cs.length)).drop (I + ys.length)) = cur.take I ++ ys ++ cs ++ cur.drop (J + cs.length) := by
  rw [← hJ, List.append_assoc (cur.take J), List.take_append_of_le_length (by rw [List.length_take]; omega), List.take_take, Nat.min_eq_left (by omega), List.drop_append, List.length_take, Nat.min_eq_left (by omega), Nat.sub_self, List.drop_zero, List.drop_of_length_le (by rw [List.length_take]; omega)]
  simp
theorem shift_cells2 (cur cs ys : List Value) (I J : Nat) (hJ : J = I + ys.length) (hl : J + cs.length ≤ cur.length) :
    ((cur.take I ++ ys ++ cur.drop J).take J ++ cs ++ (cur.take I ++ ys ++ cur.drop J).drop (J + cs.length)) = cur.take I ++ ys ++ cs ++ cur.drop (J + cs.length) := by
  have e : (cur.take I ++ ys).length = J := by rw [List.length_append, List.length_take]; omega
  rw [List.take_append_of_le_length (by omega), List.take_of_length_le (by omega), List.drop_append, e, Nat.add_sub_cancel_left, List.drop_of_length_le (by omega), List.nil_append, List.drop_drop]
end Go.Den
