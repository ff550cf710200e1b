import Derived.Test.YtacfnpnaeiagnabDoorDenW
import Derived.Laws.CopyRow
import Derived.Lib.AppendZerosOnto
import Derived.Laws.Externs
import Derived.Lib.Bytealg
import Derived.Lib.ItoaNum
namespace Go.Den
open Go.Proofs
set_option linter.unusedVariables false
set_option linter.unusedSimpArgs false
/-! slices.Insert, as a call that is handed a row. -/
def insMode (t : Sh) : Mode := ⟨[0], 1, [.ref 1], [.gone, .row t], false⟩
/-- .. what it gives -/
def insL {α : Type} (l : List α) (i : Int) (vs : List α) : List α := l.take i.toNat ++ vs ++ l.drop i.toNat
def insEq (t : Sh) (l : List (sem t)) (i : Int) (vs : List (sem t)) : Option (List (sem t) × Unit) :=
  if 0 ≤ i ∧ i ≤ l.length ∧ 0 < vs.length ∧ l.length + vs.length ≤ 1000000 then some (insL l i vs, ()) else none
def insRun (t : Sh) : List AV → Option (List (sem t) × Unit)
  | [.agg [.d (.list t') l true], .ref 0, .d (.int .i64) i _, .d (.list t2) vs _] => match cast? (.list t') (.list t) l, cast? (.list t2) (.list t) vs with
    | some l, some vs => insEq t l i vs
    | _, _ => none
  | _ => none
def insAny (t : Sh) (xs : List AV) (τ : Sh) : Option (sem τ) := match insRun t xs with | some r => cast? (.pair (.list t) .unit) τ r | none => none
/-- .. as it stands in an equation -/
def insEqC (t : Sh) (l : List (sem t)) (i : Int) (vs : List (sem t)) : Option (List (sem t) × Unit) :=
  match insEq t l i vs with | some r => cast? (.pair (.list t) .unit) (.pair (.list t) .unit) r | none => none
theorem insEqC_eq (t : Sh) (l : List (sem t)) (i : Int) (vs : List (sem t)) : insEqC t l i vs = insEq t l i vs := by
  unfold insEqC
  split
  · rename_i r h; rw [h]; exact cast?_self (.pair (.list t) .unit) r
  · rename_i h; exact h.symm
/-- what is asked of the function -/
structure InsOk (P : Program) (f : Nat) (t : Sh) : Prop where
  lt : f < 1000000
  tup : retTup P f = false
  flat : t.flat = true
  pos : 0 < t.size
  ent : ∀ args w, (callFunc f args).run P w = .ok (.enter f args) w
  run : ∀ (w : World) (base : Nat) (e1 : TypeId) (v : Value) (n : Nat) (xs : List Value) (i m : Nat) (vb voff vc : Nat) (ys : List Value), OwnR w base e1 t.size v n xs → base ≤ w.heap.size → i ≤ n → 0 < m → m ≤ vc → n + m ≤ 1000000 →
    ys.length = m * t.size → (∀ (j : Nat) u, ys[j]? = some u → w.cell? ⟨vb, voff + j, none⟩ = some u) → (∀ u ∈ xs, u.oneCell' = true) → (∀ u ∈ ys, u.oneCell' = true) → rowBlk v ≠ some vb →
    Calls P f #[v, .int .i64 i, .slice (some ⟨vb, voff, none⟩) m vc] w fun e w' => ∃ v' e2, e = .returned v' ∧ OwnR w' base e2 t.size v' (n + m) (xs.take (i * t.size) ++ ys ++ xs.drop (i * t.size)) ∧ Grown w w' (rowBlk v) ∧ ∀ b, rowBlk v' = some b → rowBlk v = some b ∨ w.heap.size ≤ b
theorem flatMap_take {α : Type} (enc : α → List Value) (k : Nat) (hk : ∀ x, (enc x).length = k) : ∀ (l : List α) (i : Nat), (l.flatMap enc).take (i * k) = (l.take i).flatMap enc
  | [], i => by simp
  | a :: l, 0 => by simp
  | a :: l, i + 1 => by
    rw [List.flatMap_cons, List.take_succ_cons, List.flatMap_cons, List.take_append, hk, Nat.add_mul, Nat.one_mul, List.take_of_length_le (by rw [hk]; omega), Nat.add_sub_cancel, flatMap_take enc k hk l i]
theorem flatMap_drop {α : Type} (enc : α → List Value) (k : Nat) (hk : ∀ x, (enc x).length = k) : ∀ (l : List α) (i : Nat), (l.flatMap enc).drop (i * k) = (l.drop i).flatMap enc
  | [], i => by simp
  | a :: l, 0 => by simp
  | a :: l, i + 1 => by
    rw [List.flatMap_cons, List.drop_succ_cons, List.drop_append, hk, Nat.add_mul, Nat.one_mul, List.drop_of_length_le (by rw [hk]; omega), List.nil_append, Nat.add_sub_cancel, flatMap_drop enc k hk l i]
theorem ins_core {T : Tbls} {P : Program} {t : Sh} {f : Nat} (hS : InsOk P f t) {l vs : List (sem t)} {i : Nat} (hi : i ≤ l.length) (hv : 0 < vs.length) (hmax : l.length + vs.length ≤ 1000000) {frv : Bool} {w : World} {gg : Gh}
    (hW : WF (Ent.mp T w gg [.row t l true]) gg [.row t l true] w) (hfn : ∀ b o, gg.fn b o = none) {v2 : Value} (hv2 : Rel gg [.row t l true] (.d (.list t) vs frv) v2) :
    Calls P f #[gg.rv 0, .int .i64 i, v2] w (PostM P f (insMode t) (Ent.mp T w gg [.row t l true]) (l.take i ++ vs ++ l.drop i, ())) := by
  have hn0 : gg.n0 = 0 := hW.nn
  have hout : (insMode t).outM (l.take i ++ vs ++ l.drop i, ()) = [.gone, .row t (l.take i ++ vs ++ l.drop i) t.flat] := rfl
  have hresR : (insMode t).outR (l.take i ++ vs ++ l.drop i, ()) = [.ref 1] := rfl
  have hlen : ∀ x : sem t, (cellsV t x).length = t.size := fun x => cellsV_len t x hS.flat
  obtain ⟨hpos, e1, xs, hown, hrep⟩ := hW.own 0 _ rfl
  have hxs := repL_flat hS.flat l xs hrep
  have one : ∀ (q : List (sem t)), ∀ u ∈ q.flatMap (cellsV t), u.oneCell' = true := fun q => RepL.one (fun x c h => RepC.one (fz := fun _ _ => none) t x c h) q _ (repL_of hS.flat q)
  obtain ⟨a, cap, rfl, hcap, hrv⟩ := hv2.list_inv
  rcases hrv with rfl | ⟨vb, voff, ys, rfl, hry, hyz⟩
  · simp at hv
  have hys := repL_flat hS.flat vs ys hry
  have hfz : ∀ b o v, gg.sel frv b o = some v → gg.fz b o = some v := fun b o v h => sel_fz (fun b o v h => (hW.fnz b o v h).1) h
  have hyl : ys.length = vs.length * t.size := by
    rw [hys]
    exact RepL.len (fun x c h => RepC.len (fz := fun _ _ => none) t x c h) vs _ (repL_of hS.flat vs)
  have hne : rowBlk (gg.rv 0) ≠ some vb := fun hb => by
    have h0 : 0 < ys.length := by rw [hyl]; exact Nat.mul_pos hv hpos
    have h1 := hfz _ _ _ (hyz 0 _ (List.getElem?_eq_getElem h0))
    have h2 := (hW.apart 0 _ vb rfl hb).1 (voff + 0)
    rw [h1] at h2; cases h2
  refine (hS.run w gg.n0 e1 (gg.rv 0) l.length xs i vs.length vb voff cap ys hown hW.base hi hv hcap hmax hyl (fun j u hu => hW.fzc _ _ _ (hfz _ _ _ (hyz j u hu))) (by rw [hxs]; exact one l) (by rw [hys]; exact one vs) hne).mono ?_
  rintro en w' ⟨v', e2, rfl, hown', hg, hb'⟩
  have hcells : xs.take (i * t.size) ++ ys ++ xs.drop (i * t.size) = (l.take i ++ vs ++ l.drop i).flatMap (cellsV t) := by
    rw [hxs, hys, flatMap_take _ _ hlen, flatMap_drop _ _ hlen, List.flatMap_append, List.flatMap_append]
  have hL : (l.take i ++ vs ++ l.drop i).length = l.length + vs.length := by
    rw [List.length_append, List.length_append, List.length_take, List.length_drop]; omega
  rw [hcells] at hown'
  refine ⟨v', { gg with fz := fun _ _ => none, rv := upd gg.rv 1 v' }, rfl, ?_, ?_, hfn, fun _ b o => rfl, fun h => ?_, fun id o ho => ?_⟩
  · rw [hout, hS.flat]
    refine ⟨hW.nn, hW.pvn, (fun b o v hv => by cases hv), hW.below.trans ⟨hg.os, hg.tape, hg.output, hg.size, fun k hk => ?_, hg.drawn⟩, Nat.le_trans hW.base hg.size, (fun b o v hv => by cases hv), fun b o v hv => ?_, fun id o ho => ?_, fun id o b ho hb => ⟨fun _ => rfl, fun id' o' hne' ho' => ?_⟩, fun k hk hio => ?_, fun id o b ho hb => ?_, hW.tbl⟩
    · have hk : k < gg.n0 := hk
      omega
    · have hv : gg.fn b o = some v := hv
      rw [hfn] at hv; cases hv
    · match id, ho with
      | 0, ho => cases ho; trivial
      | 1, ho =>
        cases ho
        refine ⟨hpos, e2, _, ?_, repL_of hS.flat _⟩
        rw [hL]
        exact hown'
      | id + 2, ho => simp at ho
    · match id, ho, id', ho' with
      | 0, ho, _, _ => cases ho; exact hb.elim
      | 1, _, 0, ho' => cases ho'; exact fun h => h.elim
      | 1, _, 1, _ => exact absurd rfl hne'
      | 1, _, n + 2, ho' => simp at ho'
      | n + 2, ho, _, _ => simp at ho
    · have hk : k < w.heap.size := hk
      refine hg.block k hk (fun e => ?_)
      rcases hW.mine 0 _ k rfl e.symm with z | z
      · have z : w.heap.size ≤ k := z
        omega
      · have hio : (Ent.mp T w gg [.row t l true]).io k = false := hio
        rw [z] at hio; cases hio
    · match id, ho with
      | 0, ho => cases ho; exact hb.elim
      | 1, ho =>
        cases ho
        have hb : rowBlk (upd gg.rv 1 v' 1) = some b := hb
        rw [upd_same] at hb
        rcases hb' b hb with z | z
        · exact hW.mine 0 _ b rfl z
        · exact .inl z
      | id + 2, ho => simp at ho
  · rw [if_neg (by rw [hS.tup]; exact Bool.false_ne_true)]
    refine ⟨_, hresR, ?_⟩
    rw [hout]
    unfold Rel
    refine ⟨hown'.one, .row t _ t.flat, rfl, ?_⟩
    show v' = upd gg.rv 1 v' 1
    rw [upd_same]
  · have : (insMode t).flat = t.flat := by simp [insMode, Mode.flat, TV.shsL, TV.shs, TO.flat]
    rw [this, hS.flat] at h; cases h
  · have ho : [AO.row t l true][id]? = some o := ho
    cases id with
    | zero => exact ⟨.gone, by rw [hout]; rfl, trivial⟩
    | succ i => simp at ho
theorem ins_ok {T : Tbls} {P : Program} {t : Sh} {f : Nat} (hS : InsOk P f t) : SoundM T P f (insMode t) (fun _ => insAny t) := by
  intro k objs xs0 r h
  have h : (match insRun t (AV.agg objs :: xs0) with | some r => cast? (.pair (.list t) .unit) (insMode t).sh r | none => none) = some r := h
  split at h
  · rename_i q hq
    have hr : cast? (.pair (.list t) .unit) (.pair (.list t) .unit) q = some r := h
    have hr : q = r := Option.some.inj ((cast?_self (.pair (.list t) .unit) q).symm.trans hr)
    subst hr
    clear h
    unfold insRun at hq
    split at hq
    · rename_i t' l i fi t2 vs fv hargs
      simp only [List.cons.injEq, AV.agg.injEq] at hargs
      obtain ⟨rfl, rfl⟩ := hargs
      split at hq
      · rename_i l2 vs2 hl hvs
        obtain ⟨e0, e1⟩ := cast?_some hl
        cases e0
        cases e1
        obtain ⟨e0, e1⟩ := cast?_some hvs
        cases e0
        cases e1
        unfold insEq at hq
        split at hq
        · rename_i hg
          obtain ⟨h0, h1, h2, h3⟩ := hg
          cases hq
          refine ⟨hS.ent, fun w gg vs0 hW hfn hR => ?_⟩
          have hm : [AV.d (.list t) l true].map decO = [AO.row t l true] := rfl
          rw [hm] at hW hR ⊢
          unfold Rels at hR
          obtain ⟨v, rest, e1, hv, hR⟩ := hR
          unfold Rels at hR
          obtain ⟨v2, rest, rfl, hv2, hR⟩ := hR
          unfold Rels at hR
          obtain ⟨v3, rest, rfl, hv3, hR⟩ := hR
          unfold Rels at hR
          subst hR
          have evs : vs0 = #[v, v2, v3] := by cases vs0; simp_all
          subst evs
          unfold Rel at hv
          obtain ⟨hv1, o, ho, hvv⟩ := hv
          cases ho
          have hvv : v = gg.rv 0 := hvv
          subst hvv
          obtain rfl := hv2.int_inv
          obtain ⟨i, rfl⟩ := Int.eq_ofNat_of_zero_le h0
          have h1' : i ≤ List.length l := by have : ((i : Nat) : Int) ≤ (List.length l : Nat) := h1; omega
          exact ins_core hS h1' h2 h3 hW hfn hv3
        · cases hq
      · cases hq
    · cases hq
  · cases h
theorem insX {T : Tbls} {P : Program} {frs : Frs} {t : Sh} {f : Nat} (hS : InsOk P f t) (hm : frs.mode f = some (insMode t)) : SoundX T P (f + 1000000) (fun _ => insAny t) frs :=
  ⟨fun h => absurd h (by omega), fun _ M hM => by
    rw [Nat.add_sub_cancel] at hM ⊢
    rw [hm] at hM
    cases hM
    exact ins_ok hS⟩
/-! ### functions whose results are data of one spelling, told by hand -/
theorem sound_one {T : Tbls} {P : Program} {f : Nat} {F : List AV → (τ : Sh) → Option (sem τ)} {fresh : Bool} (hent : ∀ args w, (callFunc f args).run P w = .ok (.enter f args) w) (htup : retTup P f = false)
    (h : ∀ xs0 τ r, F xs0 τ = some r → ∀ (w : World) (vs : Array Value) (fz : Fz), Tbl T w → (∀ b o v, fz b o = some v → w.cell? ⟨b, o, none⟩ = some v) → Rels (G0 w.heap.size fz) [] xs0 vs.toList → Calls P f vs w fun e w' => Below w.heap.size w w' ∧ ∃ v, e = .returned v ∧ ∀ fz, RepV fz τ r v) : Sound T P f (fun _ => F) fresh := by
  intro k xs0 τ r hr
  refine ⟨hent, fun w vs fz htb hfz hR => (h xs0 τ r hr w vs fz htb hfz hR).mono ?_⟩
  rintro e w' ⟨hb, v, rfl, hv⟩
  refine ⟨v, fz, rfl, hb, fun b o x hx => cell_below hb (hfz b o x hx), fun _ _ _ h => h, fun _ _ _ h => .inl h, ?_⟩
  unfold RepR
  rw [htup]
  exact hv _
/-- where a byte stands first in a text; -1 if nowhere -/
def idxB (s : ByteArray) (c : Int) : Int := Lib.indexByte s.data.toList c.toNat.toUInt8
def idxAny (xs : List AV) (τ : Sh) : Option (sem τ) := match xs with
  | [.d .str s _, .d (.int .u8) c _] => cast? (.int .i64) τ (idxB s c)
  | _ => none
theorem idxX {T : Tbls} {P : Program} {frs : Frs} {f : Nat} (hlt : f < 1000000) (hent : ∀ args w, (callFunc f args).run P w = .ok (.enter f args) w) (htup : retTup P f = false)
    (h : ∀ (s : ByteArray) (c : Int) (w : World), Calls P f #[.string s, .int .u8 c] w fun e w' => e = .returned (.int .i64 (idxB s c)) ∧ Below w.heap.size w w') : SoundX T P f (fun _ => idxAny) frs := by
  refine ⟨fun _ => sound_one hent htup fun xs0 τ r hr w vs fz _ _ hR => ?_, fun hge => absurd hge (by omega)⟩
  unfold idxAny at hr
  split at hr
  · rename_i s fs c fc
    obtain ⟨e0, e1⟩ := cast?_some hr
    cases e0
    cases e1
    unfold Rels at hR
    obtain ⟨v, rest, e1, hv, hR⟩ := hR
    unfold Rels at hR
    obtain ⟨v2, rest, rfl, hv2, hR⟩ := hR
    unfold Rels at hR
    subst hR
    have evs : vs = #[v, v2] := by cases vs; simp_all
    subst evs
    obtain rfl := hv.str_inv
    obtain rfl := hv2.int_inv
    refine (h s c w).mono ?_
    rintro e w' ⟨rfl, hb⟩
    exact ⟨hb, _, rfl, fun fz => rfl⟩
  · cases hr
/-- a whole number's text -/
def inI64 (n : Int) : Prop := -9223372036854775808 ≤ n ∧ n ≤ 9223372036854775807
instance decI64 (n : Int) : Decidable (inI64 n) := inferInstanceAs (Decidable (_ ∧ _))
def itoaS (n : Int) : ByteArray := ⟨(Go.Lib.itoa n).toArray⟩
def itoaAny (xs : List AV) (τ : Sh) : Option (sem τ) := match xs with
  | [.d (.int .i64) n _] => @ite _ (inI64 n) (decI64 n) (cast? .str τ (itoaS n)) none
  | _ => none
theorem itoaX {T : Tbls} {P : Program} {frs : Frs} {f : Nat} (hlt : f < 1000000) (hent : ∀ args w, (callFunc f args).run P w = .ok (.enter f args) w) (htup : retTup P f = false)
    (h : ∀ (n : Int) (w : World), -9223372036854775808 ≤ n → n ≤ 9223372036854775807 → Tbl T w → Calls P f #[.int .i64 n] w fun e w' => e = .returned (.string (itoaS n)) ∧ Below w.heap.size w w') : SoundX T P f (fun _ => itoaAny) frs := by
  refine ⟨fun _ => sound_one hent htup fun xs0 τ r hr w vs fz htb _ hR => ?_, fun hge => absurd hge (by omega)⟩
  unfold itoaAny at hr
  split at hr
  · rename_i n fn
    split at hr
    · rename_i hn
      obtain ⟨e0, e1⟩ := cast?_some hr
      cases e0
      cases e1
      unfold Rels at hR
      obtain ⟨v, rest, e1, hv, hR⟩ := hR
      unfold Rels at hR
      subst hR
      have evs : vs = #[v] := by cases vs; simp_all
      subst evs
      obtain rfl := hv.int_inv
      refine (h n w hn.1 hn.2 htb).mono ?_
      rintro e w' ⟨rfl, hb⟩
      exact ⟨hb, _, rfl, fun fz => rfl⟩
    · cases hr
  · cases hr
/-- a text made of a row of bytes -/
def armAny (F : List Int → ByteArray) (xs : List AV) (τ : Sh) : Option (sem τ) := match xs with
  | [.d (.list (.int .u8)) l _] => if List.length (l : List Int) ≤ 20000 then cast? .str τ (F l) else none
  | _ => none
theorem bytes_cells {fz : Fz} {w : World} (hfz : ∀ b o v, fz b o = some v → w.cell? ⟨b, o, none⟩ = some v) {l : List Int} {v : Value} (h : RepV fz (.list (.int .u8)) l v) :
    ∃ A c, v = .slice A l.length c ∧ l.length ≤ c ∧ ∀ i : Nat, i < l.length → ∃ ad, A = some ad ∧ w.cell? (ad.add i) = some (.int .u8 (l.getD i 0)) := by
  have h : RepC fz (.list (.int .u8)) l [v] := h
  obtain ⟨A, c, e, hle, hr⟩ := h
  cases e
  refine ⟨A, c, rfl, hle, fun i hi => ?_⟩
  rcases hr with e | ⟨b, o, xs, rfl, hx, hz⟩
  · have e : l = ([] : List Int) := e
    subst e
    simp at hi
  · have hxs := bytes_rep l xs hx
    subst hxs
    refine ⟨_, rfl, ?_⟩
    rw [addr_add]
    refine hfz _ _ _ (hz i _ ?_)
    rw [List.getElem?_map, List.getElem?_eq_getElem hi, List.getD_eq_getElem?_getD, List.getElem?_eq_getElem hi]
    rfl
theorem armX {T : Tbls} {P : Program} {frs : Frs} {f : Nat} {F : List Int → ByteArray} (hlt : f < 1000000) (hent : ∀ args w, (callFunc f args).run P w = .ok (.enter f args) w) (htup : retTup P f = false)
    (h : ∀ (A : Option Addr) (c : Nat) (l : List Int) (w : World), (∀ i : Nat, i < l.length → ∃ ad, A = some ad ∧ w.cell? (ad.add i) = some (.int .u8 (l.getD i 0))) → l.length ≤ c → l.length ≤ 20000 →
      Calls P f #[.slice A l.length c] w fun e w' => e = .returned (.string (F l)) ∧ Below w.heap.size w w') : SoundX T P f (fun _ => armAny F) frs := by
  refine ⟨fun _ => sound_one hent htup fun xs0 τ r hr w vs fz _ hfz hR => ?_, fun hge => absurd hge (by omega)⟩
  unfold armAny at hr
  split at hr
  · rename_i l fl
    split at hr
    · rename_i hn
      obtain ⟨e0, e1⟩ := cast?_some hr
      cases e0
      cases e1
      unfold Rels at hR
      obtain ⟨v, rest, e1, hv, hR⟩ := hR
      unfold Rels at hR
      subst hR
      have evs : vs = #[v] := by cases vs; simp_all
      subst evs
      unfold Rel at hv
      obtain ⟨A, c, rfl, hle, hc⟩ := bytes_cells (w := w) (l := l) hfz (hv.mono (fun b o x hx => sel_fz (fun b o v hv => by cases hv) hx))
      refine (h A c l w hc hle hn).mono ?_
      rintro e w' ⟨rfl, hb⟩
      exact ⟨hb, _, rfl, fun fz => rfl⟩
    · cases hr
  · cases hr
/-! ### what its code does with cells -/
section
variable {P : Program}
/-- slices.overlaps at a row of one's own and memory of another block -/
theorem run_overlaps_plain (w : World) (tS tR e : TypeId) (ht : P.underlying tS = some (.slice e)) (size : Nat) (hz : ∀ w, (Go.sizeOf e).run P w = .ok size w)
    (a b : Addr) (la ca lb cb : Nat) (hne : a.block ≠ b.block) {u : Value} {o : Nat} (hca : w.cell? ⟨a.block, o, none⟩ = some u) {cur : Array Value} {e2 : TypeId} (hb : w.heap[b.block]? = some (.cells cur e2 (0, 0))) :
    (Extern.SlicesOverlaps.overlaps #[tS, tS] #[tR] #[.slice (some a) la ca, .slice (some b) lb cb]).run P w = .ok (.bool false) w := by
  have hnb : (a.block != b.block) = true := by simpa using hne
  have hnb' : (a.block == b.block) = false := by simpa using hne
  obtain ⟨k1, k2, hsa⟩ : ∃ k1 k2, w.shape? a.block = some (k1, k2 + 1) := by
    unfold World.cell? at hca
    split at hca
    · rename_i c t3 f3 hh
      simp only [Option.isSome_none, Bool.false_eq_true, if_false] at hca
      have : o < c.size := (Array.getElem?_eq_some_iff.1 hca).1
      refine ⟨t3, c.size - 1, ?_⟩
      unfold World.shape?
      rw [hh, Nat.sub_add_cancel (by omega)]
    · cases hca
  have hsb : w.shape? b.block = some (e2, cur.size) := by unfold World.shape?; rw [hb]
  have hfb : ∀ o sp, w.frozen? ⟨b.block, o, sp⟩ = false := fun o sp => by simp [World.frozen?, hb]
  have hfb2 : w.frozen? b = false := hfb _ _
  delta Extern.SlicesOverlaps.overlaps Extern.SlicesOverlaps.overlaps.match_4 Extern.SlicesOverlaps.overlaps._sparseCasesOn_4
  dsimp only
  by_cases h0 : la = 0 ∨ lb = 0 ∨ size = 0
  · simp [Array.getLit, run_underlying ht, hz, h0]
  · cases hfa : w.frozen? a <;> cases hfk : w.frozen? { block := a.block, off := k2 + 1 } <;>
      simp [Array.getLit, run_underlying ht, hz, h0, hnb, hnb', frozen, noView, viewAt, mayBeOne, stringish, shape, Sem.run, hsa, hsb, hfb, hfb2, hfa, hfk]
/-- copy between rows -/
theorem run_copy_rows (w : World) (dT sT ty elem : TypeId) (size : Nat) (g o dLen dCap : Nat) (a : Addr) (sLen sCap : Nat) (cur : Array Value) (t : TypeId) (cs : List Value)
    (hu : P.underlying dT = some (.slice elem)) (hs : (P.info? elem).map (·.size) = some size)
    (hg : w.heap[g]? = some (.cells cur t (0, 0))) (hn : cs.length = Nat.min sLen dLen * size)
    (hsrc : ∀ (j : Nat) v, cs[j]? = some v → w.cell? (a.add j) = some v) (hfit : o + cs.length ≤ cur.size) (h1 : ∀ v ∈ cs, v.oneCell' = true) :
    (Builtin.copy_ #[dT, sT] ty #[.slice (some ⟨g, o, none⟩) dLen dCap, .slice (some a) sLen sCap]).run P w =
      .ok (goInt (Nat.min sLen dLen)) (w.setRow g (cur.toList.take o ++ cs ++ cur.toList.drop (o + cs.length)).toArray) := by
  have hf := run_firstCells_some (P := P) w size (Nat.min sLen dLen) a sLen sCap cs hn hsrc
  have hst := run_storeCells_at P g o t cs 0 cur w hg (by simpa using hfit) h1
  simp only [Nat.add_zero] at hst
  cases hq : P.info? elem with
  | none => simp [hq] at hs
  | some i =>
    have hi : i.size = size := by simpa [hq] using hs
    simp [Builtin.copy_, run_underlying hu, Builtin.lenOf, sizeOf, typeInfo, hq, hi, hf, hst]
theorem copy_wp (w : World) {o : Oper} {a : Act} {K : Act → World → Prop} {Q : Exit → Act → World → Prop} (d s : Operand) (t t' : TypeId)
    (ho : o.op = .call { callee := .builtin .copy, args := #[d, s], argTypes := #[t, t'] }) (v u : Value) (hd : a.eval d = v) (hs : a.eval s = u) {v' : Value} {w' : World}
    (hr : (Builtin.copy_ #[t, t'] o.type #[v, u]).run P w = .ok v' w') (h : K (a.put o.dst v') w') : o.wp P a w K Q := by
  unfold Oper.wp execOp
  simp only [ho, resolve, invoke, builtin, Sem.run_bind, Sem.run_pure, Result.andThen_ok, List.map_toArray, List.map_cons, List.map_nil, hd, hs, hr]
  exact h
theorem copy_list (w : World) {ops : Array Oper} {rest : List Oper} {o : Oper} {a : Act} {Q : Exit → Act → World → Prop} (hgd : o.guard = none) (d s : Operand) (t t' : TypeId)
    (ho : o.op = .call { callee := .builtin .copy, args := #[d, s], argTypes := #[t, t'] }) (v u : Value) (hd : a.eval d = v) (hs : a.eval s = u) {v' : Value} {w' : World}
    (hr : (Builtin.copy_ #[t, t'] o.type #[v, u]).run P w = .ok v' w') (h : wpList P ops Q rest (a.put o.dst v') w') : wpList P ops Q (o :: rest) a w :=
  wpList_plain hgd fun _ hK => copy_wp w d s t t' ho v u hd hs hr (hK _ _ h)
theorem copy_step {ops : Array Oper} {o : Oper} {a : Act} {w : World} {K : Act → World → Prop} {Q : Exit → Act → World → Prop} {E : Prop}
    (hg : o.guard = none) (d x : Operand) (dT sT : TypeId) (hop : o.op = Op.call { callee := Callee.builtin Builtin.copy, args := #[d, x], argTypes := #[dT, sT] })
    (v u : Value) (hd : a.eval d = v) (hx : a.eval x = u) {v' : Value} {w' : World} (hr : (Builtin.copy_ #[dT, sT] o.type #[v, u]).run P w = .ok v' w') (hK : K (a.put o.dst v') w') :
    if Region.wanted o (yielded ops a.tmps) = true then Oper.wp P o a w K Q else E := by
  have hw : Region.wanted o (yielded ops a.tmps) = true := by simp [Region.wanted, hg]
  rw [if_pos hw]
  exact copy_wp w d x dT sT hop v u hd hx hr hK
end
theorem shift_cells (cur cs ys : List Value) (I J : Nat) (hJ : J = I + ys.length) (hl : J + cs.length ≤ cur.length) :
    ((cur.take J ++ cs ++ cur.drop (J + cs.length)).take I ++ ys ++ (cur.take J ++ cs ++ cur.drop (J + cs.length)).drop (I + ys.length)) = cur.take I ++ ys ++ cs ++ cur.drop (J + cs.length) := by
  rw [← hJ, List.append_assoc (cur.take J), List.take_append_of_le_length (by rw [List.length_take]; omega), List.take_take, Nat.min_eq_left (by omega), List.drop_append, List.length_take, Nat.min_eq_left (by omega), Nat.sub_self, List.drop_zero, List.drop_of_length_le (by rw [List.length_take]; omega)]
  simp
theorem shift_cells2 (cur cs ys : List Value) (I J : Nat) (hJ : J = I + ys.length) (hl : J + cs.length ≤ cur.length) :
    ((cur.take I ++ ys ++ cur.drop J).take J ++ cs ++ (cur.take I ++ ys ++ cur.drop J).drop (J + cs.length)) = cur.take I ++ ys ++ cs ++ cur.drop (J + cs.length) := by
  have e : (cur.take I ++ ys).length = J := by rw [List.length_append, List.length_take]; omega
  rw [List.take_append_of_le_length (by omega), List.take_of_length_le (by omega), List.drop_append, e, Nat.add_sub_cancel_left, List.drop_of_length_le (by omega), List.nil_append, List.drop_drop]
end Go.Den
