import Derived.Test.YtaejbcahfnlggaaDoorDenU
import Derived.Shelf.SlSortCmp.WholeK
namespace Go.Den
open Go.Sort Go.Proofs
set_option linter.unusedVariables false
set_option linter.unusedSimpArgs false
/-! slices.SortFunc: the kit's own contract, as a call that is handed a row. -/
/-- an order of a row's elements, told by a function -/
def SortsBy {α : Type} (c : α → α → Option Int) (l : List α) (cf : {x // x ∈ l} → {x // x ∈ l} → Int) : Prop := (∀ x y, c x.1 y.1 = some (cf x y)) ∧ SWO (ltOf cf)
open Classical in
noncomputable def sortF {α : Type} (c : α → α → Option Int) (l : List α) : Option (List α) :=
  if h : ∃ cf, SortsBy c l cf then
    if hl : l = [] then some [] else
      haveI : Inhabited {x // x ∈ l} := ⟨⟨l.head hl, List.head_mem hl⟩⟩
      some ((pdq (ltOf (Classical.choose h)) l.attach.toArray 0 l.attach.toArray.size (Lib.bitLen l.attach.toArray.size) true true).toList.map Subtype.val)
  else none
def sortMode (t : Sh) : Mode := ⟨[0], 1, [], [.row t], none⟩
noncomputable def sortRun (t : Sh) (Ψ : Nat → List AV → (τ : Sh) → Option (sem τ)) : List AV → Option (List (sem t) × Unit)
  | [.agg [.d (.list t') l true], .ref 0, .fn g []] => match cast? (.list t') (.list t) l with
    | some l => if g < 1000000 ∧ l.length < lim then (sortF (fun x y => Ψ g [.d t x true, .d t y true] (.int .i64)) l).bind fun l => some (l, ()) else none
    | none => none
  | _ => none
noncomputable def sortAny (t : Sh) (Ψ : Nat → List AV → (τ : Sh) → Option (sem τ)) (xs : List AV) (τ : Sh) : Option (sem τ) :=
  match sortRun t Ψ xs with | some r => cast? (.pair (.list t) .unit) τ r | none => none
/-- .. as it stands in an equation -/
noncomputable def sortEq (t : Sh) (c : sem t → sem t → Option Int) (g : Nat) (l : List (sem t)) : Option (List (sem t) × Unit) :=
  match (if g < 1000000 ∧ l.length < lim then (sortF c l).bind fun l => some (l, ()) else none) with | some r => cast? (.pair (.list t) .unit) (.pair (.list t) .unit) r | none => none
theorem sortEq_ok {t : Sh} {c : sem t → sem t → Option Int} {g : Nat} {l l2 : List (sem t)} (hg : g < 1000000) (hl : l.length < lim) (h : sortF c l = some l2) : sortEq t c g l = some (l2, ()) := by
  unfold sortEq
  rw [if_pos ⟨hg, hl⟩, h]
  exact cast?_self (.pair (.list t) .unit) (l2, ())
/-- what is asked of the function: a sort, laid by the kit -/
structure SortOk (P : Program) (f : Nat) (t : Sh) : Prop where
  lt : f < 1000000
  tup : retTup P f = true
  flat : t.flat = true
  isP : t.isP = true
  pos : 0 < t.size
  ent : ∀ args w, (callFunc f args).run P w = .ok (.enter f args) w
  nil0 : ∀ (p : Option Addr) (cap : Nat) (fv : Value) (w : World), Calls P f #[.slice p 0 cap, fv] w fun e w' => e = .returned (.tuple #[]) ∧ w' = w
  run : ∀ (α : Type) [Inhabited α] (enc : α → List Value), (∀ x, (enc x).length = t.size) → (∀ x, ∀ v ∈ enc x, v.oneCell' = true) → ∀ (cf : α → α → Int), SWO (ltOf cf) → ∀ (g blk cap : Nat) (d : Array α) (w : World),
    (∀ args w, (callFunc g args).run P w = .ok (.enter g args) w) → CmpLays P g #[] enc t.size cf blk 0 d.size w → HoldsK enc t.size w blk 0 d → blk < w.heap.size → d.size < 4611686018427387904 →
    Calls P f #[.slice (some ⟨blk, 0, none⟩) d.size cap, .func (.func g) #[] #[]] w fun e w' => e = .returned (.tuple #[]) ∧ ∃ n os, w' = sortWorldK enc t.size w blk 0 n (pdq (ltOf cf) d 0 d.size (Lib.bitLen d.size) true true) os
theorem grow_of_below {w w' : World} (h : Below w.heap.size w w') : ∃ q os', w' = grow (w.drewN q) os' := by
  refine ⟨w'.drawn - w.drawn, w'.heap.extract w.heap.size w'.heap.size, ?_⟩
  have e1 : w'.heap = w.heap ++ w'.heap.extract w.heap.size w'.heap.size := by
    apply Array.ext_getElem?
    intro k
    rw [Array.getElem?_append]
    split
    · rename_i hk; exact h.block k hk
    · rename_i hk
      rw [Array.getElem?_extract, Nat.min_self]
      have hs := h.size
      by_cases hk2 : k < w'.heap.size
      · rw [if_pos (by omega), show w.heap.size + (k - w.heap.size) = k by omega]
      · rw [if_neg (by omega), Array.getElem?_eq_none (by omega)]
  have e2 := h.drawn
  have e3 := h.os
  have e4 := h.tape
  have e5 := h.output
  obtain ⟨h1, t1, d1, o1, u1⟩ := w
  obtain ⟨h2, t2, d2, o2, u2⟩ := w'
  simp only at e1 e2 e3 e4 e5
  subst e3 e4 e5
  unfold grow World.drewN
  simp only [World.mk.injEq, true_and, and_true]
  exact ⟨e1, by show d2 = d1 + (d2 - d1); omega⟩
theorem cellsV_rep {fz : Fz} : ∀ (t : Sh) (x : sem t), t.flat = true → RepC fz t x (cellsV t x)
  | .int _, _, _ => rfl
  | .bool, _, _ => rfl
  | .str, _, _ => rfl
  | .unit, _, _ => rfl
  | .list _, _, h => by simp [Sh.flat] at h
  | .rose _, _, h => by simp [Sh.flat] at h
  | .pair a b, x, h => by
    simp only [Sh.flat, Bool.and_eq_true] at h
    exact ⟨_, _, rfl, cellsV_rep a x.1 h.1, cellsV_rep b x.2 h.2⟩
theorem repL_flat {fz : Fz} {t : Sh} (hf : t.flat = true) : ∀ (l : List (sem t)) (xs : List Value), RepL (RepC fz t) l xs → xs = l.flatMap (cellsV t)
  | [], xs, h => h
  | x :: l, xs, ⟨c1, c2, e, h1, h2⟩ => by rw [e, RepC.flat_eq _ _ _ hf h1, repL_flat hf l c2 h2]; rfl
theorem repL_of {fz : Fz} {t : Sh} (hf : t.flat = true) : ∀ (l : List (sem t)), RepL (RepC fz t) l (l.flatMap (cellsV t))
  | [] => rfl
  | x :: l => ⟨_, _, rfl, cellsV_rep t x hf, repL_of hf l⟩
theorem get_flatMap {α : Type} (enc : α → List Value) (k : Nat) (hk : ∀ x, (enc x).length = k) (h0 : 0 < k) : ∀ (l : List α) (j : Nat) (h : j / k < l.length), (l.flatMap enc)[j]? = (enc l[j / k])[j % k]?
  | [], j, h => absurd h (Nat.not_lt_zero _)
  | a :: l, j, h => by
    rw [List.flatMap_cons]
    by_cases hj : j < k
    · rw [List.getElem?_append_left (by rw [hk]; exact hj)]
      simp only [Nat.div_eq_of_lt hj, Nat.mod_eq_of_lt hj, List.getElem_cons_zero]
    · have e : j / k = (j - k) / k + 1 := by rw [← Nat.add_div_right _ h0, Nat.sub_add_cancel (by omega)]
      have e2 : j % k = (j - k) % k := by rw [← Nat.add_mod_right (j - k) k, Nat.sub_add_cancel (by omega)]
      have h : (j - k) / k < l.length := by rw [e, List.length_cons] at h; omega
      rw [List.getElem?_append_right (by rw [hk]; omega), hk, get_flatMap enc k hk h0 l (j - k) h]
      simp only [e, e2, List.getElem_cons_succ]
theorem flatK_list {α : Type} [Inhabited α] (enc : α → List Value) (k : Nat) (hk : ∀ x, (enc x).length = k) (h0 : 0 < k) (d : Array α) : (flatK enc k d).toList = d.toList.flatMap enc := by
  apply List.ext_getElem?
  intro j
  by_cases hj : j < d.size * k
  · have h1 : j / k < d.toList.length := by rw [Array.length_toList]; exact (Nat.div_lt_iff_lt_mul h0).2 hj
    rw [get_flatMap enc k hk h0 _ _ h1]
    have h2 := get_flatK enc k d j hj
    have h3 : j < (flatK enc k d).size := by rw [size_flatK]; exact hj
    rw [getElem!_pos (flatK enc k d) j h3] at h2
    have h4 : d[j / k]! = d.toList[j / k] := by rw [getElem!_pos d (j / k) (by simpa using h1)]; simp
    have h5 : j % k < (enc d.toList[j / k]).length := by rw [hk]; exact Nat.mod_lt _ h0
    rw [h4, getElem!_pos (enc d.toList[j / k]) (j % k) h5] at h2
    rw [List.getElem?_eq_getElem (by rw [Array.length_toList]; exact h3), List.getElem?_eq_getElem h5, ← h2]
    simp
  · have h1 : (d.toList.flatMap enc).length = d.size * k := by
      have : ∀ l : List α, (l.flatMap enc).length = l.length * k := fun l => by
        induction l with
        | nil => simp
        | cons a l ih => rw [List.flatMap_cons, List.length_append, hk, ih, List.length_cons, Nat.add_mul, Nat.one_mul, Nat.add_comm]
      rw [this, Array.length_toList]
    rw [List.getElem?_eq_none (by rw [Array.length_toList, size_flatK]; omega), List.getElem?_eq_none (by omega)]
theorem val_flatMap {α : Type} {p : α → Prop} (enc : α → List Value) (l : List {x // p x}) : (l.map Subtype.val).flatMap enc = l.flatMap fun x => enc x.1 := by
  rw [List.flatMap_map]
theorem sortF_some {α : Type} {c : α → α → Option Int} {l l2 : List α} (h : sortF c l = some l2) :
    (l = [] ∧ l2 = []) ∨ ∃ (hl : l ≠ []) (cf : {x // x ∈ l} → {x // x ∈ l} → Int), SortsBy c l cf ∧
      l2 = (@pdq {x // x ∈ l} ⟨⟨l.head hl, List.head_mem hl⟩⟩ (ltOf cf) l.attach.toArray 0 l.attach.toArray.size (Lib.bitLen l.attach.toArray.size) true true).toList.map Subtype.val := by
  unfold sortF at h
  split at h
  · rename_i hc
    split at h
    · rename_i hl
      exact .inl ⟨hl, (Option.some.inj h).symm⟩
    · rename_i hl
      exact .inr ⟨hl, _, Classical.choose_spec hc, (Option.some.inj h).symm⟩
  · cases h
theorem mkWF {w0 : Ent} {gg : Gh} {t : Sh} {l l2 : List (sem t)} {w w' : World} (hW : WF w0 gg [.row t l true] w) (hf : t.flat = true) (hfn : ∀ b o, gg.fn b o = none) (hpos : 0 < t.size) (hbel : Below gg.n0 w w') (hx : ∀ k, k < w.heap.size → rowBlk (gg.rv 0) ≠ some k → w'.heap[k]? = w.heap[k]?)
    {e : TypeId} (hown : OwnR w' gg.n0 e t.size (gg.rv 0) l2.length (l2.flatMap (cellsV t))) : WF w0 { gg with fz := fun _ _ => none } [.row t l2 true] w' where
  nn := hW.nn
  pvn := hW.pvn
  ext := fun b o v hv => by cases hv
  below := hW.below.trans hbel
  base := Nat.le_trans hW.base hbel.size
  fzc := fun b o v hv => by cases hv
  fnz := fun b o v hv => by
    have hv : gg.fn b o = some v := hv
    rw [hfn] at hv; cases hv
  own := fun id o ho => by
    cases id with
    | zero =>
      cases ho
      exact ⟨hpos, e, _, hown, repL_of hf l2⟩
    | succ i => simp at ho
  apart := fun id o b ho hb => ⟨fun _ => rfl, fun id' o' hne ho' => by
    cases id with
    | zero => cases id' with
      | zero => exact absurd rfl hne
      | succ i => simp at ho'
    | succ i => simp at ho⟩
  tbl := hW.tbl
  bx := fun k hk hio => (hx k (Nat.lt_of_lt_of_le hk hW.below.size) (fun q => by
    rcases hW.mine 0 _ k rfl q with z | z
    · omega
    · rw [z] at hio; cases hio)).trans (hW.bx k hk hio)
  mine := fun id o b ho hb => by
    cases id with
    | zero => cases ho; exact hW.mine 0 _ b rfl hb
    | succ i => simp at ho
theorem sort_core {P : Program} {frs : Frs} {t : Sh} {f : Nat} (hS : SortOk P f t) {Ψ : Nat → List AV → (τ : Sh) → Option (sem τ)} {T : Tbls} (hT : ∀ b, T b = none) (hΨ : ∀ g, SoundX T P g (fun _ => Ψ g) frs) {g : Nat} (hg : g < 1000000) {l l2 : List (sem t)} (hmax : l.length < 4611686018427387904)
    (hl2 : sortF (fun x y => Ψ g [.d t x true, .d t y true] (.int .i64)) l = some l2) {w : World} {gg : Gh} (hW : WF (Ent.mp T w gg [.row t l true]) gg [.row t l true] w) (hfn : ∀ b o, gg.fn b o = none) :
    Calls P f #[gg.rv 0, .func (.func g) #[] #[]] w (PostM P f (sortMode t) (Ent.mp T w gg [.row t l true]) (l2, ())) := by
  have hout : (sortMode t).outM (l2, ()) = [.row t l2 t.flat] := rfl
  have hresR : (sortMode t).outR (l2, ()) = [] := rfl
  obtain ⟨hpos, e, xs, hown, hrep⟩ := hW.own 0 _ rfl
  have post : ∀ (w' : World), WF (Ent.mp T w gg [.row t l true]) { gg with fz := fun _ _ => none } [.row t l2 true] w' → l2.length = l.length → PostM P f (sortMode t) (Ent.mp T w gg [.row t l true]) (l2, ()) (.returned (.tuple #[])) w' := fun w' hW' hlen => by
    refine ⟨_, { gg with fz := fun _ _ => none }, rfl, by rw [hout, hS.flat]; exact hW', ?_, hfn, fun _ b o => rfl, fun h => ?_, fun id o ho => ?_⟩
    · rw [if_pos hS.tup, hresR]
      exact ⟨#[], rfl, Rels.nil⟩
    · have : (sortMode t).flat = t.flat := by simp [sortMode, Mode.flat, TV.shsL, TO.flat]
      rw [this, hS.flat] at h; cases h
    · have ho : [AO.row t l true][id]? = some o := ho
      cases id with
      | zero =>
        cases ho
        rw [hout]
        exact ⟨_, rfl, rfl, hlen, rfl⟩
      | succ i => simp at ho
  rcases sortF_some hl2 with ⟨rfl, rfl⟩ | ⟨hl0, cf, ⟨c1, c2⟩, hl2⟩
  · clear hl2
    have hv0 : ∃ ad cap, gg.rv 0 = .slice ad 0 cap := by
      rcases hown.2 with ⟨_, a, h⟩ | ⟨q, cap, cur, h, _⟩
      · exact ⟨_, _, h⟩
      · exact ⟨_, _, h⟩
    obtain ⟨ad, cap, hv0⟩ := hv0
    have hxs : xs = [] := hrep
    subst hxs
    rw [hv0]
    refine (hS.nil0 ad cap _ w).mono ?_
    rintro en w' ⟨rfl, rfl⟩
    exact post _ (mkWF hW hS.flat hfn hpos (Below.refl _ _) (fun _ _ _ => rfl) (e := e) hown) rfl
  · rcases hown.2 with ⟨hn, _⟩ | ⟨q, cap, cur, hv0, hq1, hq2, hq3, hq4, hq5, hq6⟩
    · exact absurd (List.eq_nil_of_length_eq_zero hn) hl0
    have hxs := repL_flat hS.flat l xs hrep
    letI : Inhabited {x // x ∈ l} := ⟨⟨l.head hl0, List.head_mem hl0⟩⟩
    generalize hd : l.attach.toArray = d at hl2
    have hds : d.size = l.length := by rw [← hd]; simp
    have hdl : d.toList.map Subtype.val = l := by rw [← hd]; simp
    have hk : ∀ x : {x // x ∈ l}, ((fun x : {x // x ∈ l} => cellsV t x.1) x).length = t.size := fun x => cellsV_len t x.1 hS.flat
    have h1 : ∀ x : {x // x ∈ l}, ∀ v ∈ (fun x : {x // x ∈ l} => cellsV t x.1) x, v.oneCell' = true := fun x => RepC.one (fz := fun _ _ => none) t x.1 _ (cellsV_rep t x.1 hS.flat)
    have hfl : ∀ d2 : Array {x // x ∈ l}, (flatK (fun x : {x // x ∈ l} => cellsV t x.1) t.size d2).toList = (d2.toList.map Subtype.val).flatMap (cellsV t) := fun d2 => by
      rw [flatK_list _ _ hk hpos, val_flatMap]
    have hfd := hfl d
    rw [hdl, ← hxs, ← hq6] at hfd
    have hsd : (flatK (fun x : {x // x ∈ l} => cellsV t x.1) t.size d).size = l.length * t.size := by rw [size_flatK, hds]
    have hNle : l.length * t.size ≤ cur.size := by rw [hq5]; exact Nat.mul_le_mul_right _ hq3
    have hqlt := (Array.getElem?_eq_some_iff.1 hq2).1
    have hH : HoldsK (fun x : {x // x ∈ l} => cellsV t x.1) t.size w q 0 d := by
      intro j hj
      have hj' : j < l.length * t.size := by rw [← hsd]; exact hj
      have e3 : cur[j]? = some ((flatK (fun x : {x // x ∈ l} => cellsV t x.1) t.size d)[j]!) := by
        have := congrArg (fun l => l[j]?) hfd
        simp only [List.getElem?_take, if_pos hj', Array.getElem?_toList] at this
        rw [← this, Array.getElem?_eq_getElem hj, getElem!_pos (flatK (fun x : {x // x ∈ l} => cellsV t x.1) t.size d) j hj]
      refine ⟨?_, ?_⟩
      · simp only [World.cell?, hq2, Nat.zero_add, Option.isSome_none, Bool.false_eq_true, if_false]
        exact e3
      · simp [World.frozen?, hq2]
    have hcmp : CmpLays P g #[] (fun x : {x // x ∈ l} => cellsV t x.1) t.size cf q 0 d.size w := fun m os dk _ x y => by
      obtain ⟨_, hg2⟩ := (hΨ g).1 hg 0 [.d t x.1 true, .d t y.1 true] (.int .i64) _ (c1 x y)
      refine (hg2 _ #[.agg (cellsV t x.1).toArray, .agg (cellsV t y.1).toArray] (fun _ _ => none) (fun b cs h => (by rw [hT] at h; cases h)) (fun b o v h => by cases h) (Rels.cons ?_ (Rels.cons ?_ Rels.nil))).mono ?_
      · unfold Rel RepV
        rw [if_pos hS.isP]
        exact ⟨_, rfl, cellsV_rep t x.1 hS.flat⟩
      · unfold Rel RepV
        rw [if_pos hS.isP]
        exact ⟨_, rfl, cellsV_rep t y.1 hS.flat⟩
      · rintro en w' ⟨v, fz', rfl, hb, _, _, _, hR⟩
        refine ⟨?_, grow_of_below hb⟩
        unfold RepR at hR
        split at hR
        · obtain ⟨vs, _, hT⟩ := hR
          exact hT.elim
        · rw [RepV.flat_eq (t := .int .i64) rfl hR]; rfl
    have heg : ∀ args w, (callFunc g args).run P w = .ok (.enter g args) w := ((hΨ g).1 hg 0 _ (.int .i64) _ (c1 default default)).1
    have hmaxl : d.size < 4611686018427387904 := by rw [hds]; exact hmax
    have hrun := hS.run _ (fun x : {x // x ∈ l} => cellsV t x.1) hk h1 cf c2 g q (cap + 1) d w heg hcmp hH hqlt hmaxl
    rw [hds, ← hv0] at hrun
    have hps := (pdq_sorts (ltOf cf) c2 d 0 d.size (Lib.bitLen d.size) true true (Nat.zero_le _) (Nat.le_refl _) (Or.inl rfl)).1.1
    rw [← hds] at hrun
    generalize hd' : pdq (ltOf cf) d 0 d.size (Lib.bitLen d.size) true true = d' at hrun hps hl2
    have hl2' : l2 = d'.toList.map Subtype.val := hl2
    have hlen2 : l2.length = l.length := by rw [hl2', List.length_map, Array.length_toList, hps, hds]
    refine hrun.mono ?_
    rintro en w' ⟨rfl, n, os, rfl⟩
    have hF := hfl d'
    rw [← hl2'] at hF
    generalize hFF : flatK (fun x : {x // x ∈ l} => cellsV t x.1) t.size d' = F at hF
    have hFs : F.size = l.length * t.size := by rw [← hFF, size_flatK, hps, hds]
    have hheap : ∀ k, k < w.heap.size → (sortWorldK (fun x : {x // x ∈ l} => cellsV t x.1) t.size w q 0 n d' os).heap[k]? = if q = k then (w.heap[k]?).map (onCells (putCells id 0 F)) else w.heap[k]? := fun k hk => by
      show ((w.heap.modify q (onCells (putCells id 0 (flatK (fun x : {x // x ∈ l} => cellsV t x.1) t.size d')))) ++ os)[k]? = _
      rw [hFF, Array.getElem?_append_left (by simpa using hk), Array.getElem?_modify]
    refine post _ (mkWF hW hS.flat hfn hpos ⟨rfl, rfl, rfl, ?_, fun k hk => ?_, Nat.le_add_right _ _⟩ (fun k hk hne => ?_) (e := e) ?_) hlen2
    · show w.heap.size ≤ ((w.heap.modify q _) ++ os).size
      simp
    · rw [hheap k (by have := hW.base; omega), if_neg (by omega)]
    · rw [hheap k hk, if_neg (fun e => hne (by rw [hv0, ← e]; rfl))]
    · refine ⟨by rw [← hF, Array.length_toList, hFs, hlen2], .inr ⟨q, cap, putCells id 0 F cur, by rw [hlen2]; exact hv0, hq1, ?_, by rw [hlen2]; exact hq3, hq4, by simp [putCells, hq5], ?_⟩⟩
      · rw [hheap q hqlt, if_pos rfl, hq2]; rfl
      · rw [hlen2, ← hF]
        apply List.ext_getElem?
        intro j
        rw [List.getElem?_take]
        by_cases hj : j < l.length * t.size
        · rw [if_pos hj, Array.getElem?_toList, Array.getElem?_toList, putCells, Array.getElem?_mapIdx, Array.getElem?_eq_getElem (show j < cur.size by omega), Array.getElem?_eq_getElem (show j < F.size by omega)]
          simp only [Option.map_some]
          rw [if_pos (by omega), Nat.sub_zero, getElem!_pos F j (show j < F.size by omega)]; rfl
        · rw [if_neg hj, List.getElem?_eq_none (by rw [Array.length_toList]; omega)]
theorem sort_ok {P : Program} {frs : Frs} {t : Sh} {f : Nat} (hS : SortOk P f t) {Ψ : Nat → List AV → (τ : Sh) → Option (sem τ)} {T : Tbls} (hT : ∀ b, T b = none) (hΨ : ∀ g, SoundX T P g (fun _ => Ψ g) frs) : SoundM T P f (sortMode t) (fun _ => sortAny t Ψ) := by
  intro k objs xs0 r h
  have h : (match sortRun t Ψ (AV.agg objs :: xs0) with | some r => cast? (.pair (.list t) .unit) (sortMode t).sh r | none => none) = some r := h
  split at h
  · rename_i q hq
    have hr : cast? (.pair (.list t) .unit) (.pair (.list t) .unit) q = some r := h
    have hr : q = r := Option.some.inj ((cast?_self (.pair (.list t) .unit) q).symm.trans hr)
    subst hr
    clear h
    unfold sortRun at hq
    split at hq
    · rename_i t' l g hargs
      simp only [List.cons.injEq, AV.agg.injEq] at hargs
      obtain ⟨rfl, rfl⟩ := hargs
      split at hq
      · rename_i l2 hl
        obtain ⟨e0, e1⟩ := cast?_some hl
        cases e0
        cases e1
        split at hq
        · rename_i hg
          rw [Option.bind_eq_some_iff] at hq
          obtain ⟨l2, hl2, hq⟩ := hq
          cases hq
          refine ⟨hS.ent, fun w gg vs hW hfn hR => ?_⟩
          have hm : [AV.d (.list t) l true].map decO = [AO.row t l true] := rfl
          rw [hm] at hW hR ⊢
          unfold Rels at hR
          obtain ⟨v, rest, e1, hv, hR⟩ := hR
          unfold Rels at hR
          obtain ⟨v2, rest, rfl, hv2, hR⟩ := hR
          unfold Rels at hR
          subst hR
          have evs : vs = #[v, v2] := by cases vs; simp_all
          subst evs
          unfold Rel at hv hv2
          obtain ⟨hv1, o, ho, hvv⟩ := hv
          cases ho
          have hvv : v = gg.rv 0 := hvv
          subst hvv
          have hl2 : sortF (α := sem t) (fun x y => Ψ g [.d t x true, .d t y true] (.int .i64)) l = some l2 := hl2
          obtain ⟨vs2, rfl, hR2⟩ := hv2
          unfold Rels at hR2
          have e2 : vs2 = #[] := by cases vs2; simp_all
          subst e2
          exact sort_core hS hT hΨ hg.1 hg.2 hl2 hW hfn
        · cases hq
      · cases hq
    · cases hq
  · cases h
end Go.Den
