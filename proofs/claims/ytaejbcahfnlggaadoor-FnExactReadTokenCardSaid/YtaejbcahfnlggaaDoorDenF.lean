import Derived.Test.YtaejbcahfnlggaaDoorDenE
namespace Go.Den
open Go.RowKit (wrap64)
set_option linter.unusedVariables false
set_option linter.unusedSimpArgs false
/-! Calls: what a function is said to give, and what is handed to it. -/
def RepT (fz : Fz) : (t : Sh) → sem t → List Value → Prop
  | .unit, _, l => l = []
  | .pair a b, x, l => ∃ v rest, l = v :: rest ∧ RepV fz a x.1 v ∧ RepT fz b x.2 rest
  | _, _, _ => False
def RepR (tup : Bool) (fz : Fz) (t : Sh) (x : sem t) (v : Value) : Prop :=
  if tup then ∃ vs : Array Value, v = .tuple vs ∧ RepT fz t x vs.toList else RepV fz t x v
/-- the ghost that a callee begins with -/
def G0 (n : Nat) (fz : Fz) : Gh := ⟨n, Pin.no, fz, fun _ _ => none, fun _ => 0, fun _ => undef, fun _ => undef⟩
def Sound (T : Tbls) (P : Program) (f : Nat) (F : Nat → List AV → (τ : Sh) → Option (sem τ)) (fresh : Bool) : Prop :=
  ∀ k as τ r, F k as τ = some r →
    (∀ args w, (callFunc f args).run P w = .ok (.enter f args) w) ∧
    ∀ (w : World) (vs : Array Value) (fz : Fz), Tbl T w → (∀ b o v, fz b o = some v → w.cell? ⟨b, o, none⟩ = some v) → Rels (G0 w.heap.size fz) [] as vs.toList →
      Calls P f vs w fun e w' => ∃ v fz', e = .returned v ∧ Below w.heap.size w w' ∧ (∀ b o x, fz' b o = some x → w'.cell? ⟨b, o, none⟩ = some x) ∧
        (∀ b o x, fz b o = some x → fz' b o = some x) ∧ (∀ b o x, fz' b o = some x → fz b o = some x ∨ w.heap.size ≤ b) ∧
        RepR (retTup P f) (if fresh then fun b o => if w.heap.size ≤ b then fz' b o else none else fz') τ r v

/-- the objects that a call is handed, as it begins -/
def pinOf (g : Gh) (m : List AO) : Pin := ⟨m, g.bl, g.rv, g.fz⟩
noncomputable def ioOf (g : Gh) (m : List AO) : Nat → Bool := fun b => by
  classical
  exact decide (∃ (id : Nat) (o : AO), m[id]? = some o ∧ o.has g id b)
noncomputable def Ent.mp (T : Tbls) (w : World) (g : Gh) (m : List AO) : Ent := ⟨w, g.fz, 0, ioOf g m, pinOf g m, T⟩
def Mode.outR (M : Mode) (r : sem M.sh) : List AV := (TV.fills M.res (spreadF M.sh r)).1
def Mode.outM (M : Mode) (r : sem M.sh) : List AO := TO.fills M.nin 0 M.mem (TV.fills M.res (spreadF M.sh r)).2
def PostM (P : Program) (f : Nat) (M : Mode) (E0 : Ent) (r : sem M.sh) : Ending → World → Prop := fun e w' =>
  ∃ v g', e = .returned v ∧ WF E0 g' (M.outM r) w' ∧ (if retTup P f = true then ∃ vs : Array Value, v = .tuple vs ∧ Rels g' (M.outM r) (M.outR r) vs.toList else ∃ a, M.outR r = [a] ∧ Rel g' (M.outM r) a v) ∧
    (∀ b o, g'.fn b o = none) ∧ (M.flat = true → ∀ b o, g'.fz b o = none) ∧ (M.flat = false → ∀ b o x, E0.fz b o = some x → g'.fz b o = some x) ∧
    ∀ (id : Nat) o, E0.pv.m[id]? = some o → ∃ o', (M.outM r)[id]? = some o' ∧ o.goes E0.pv.gh g' id id o'
def SoundM (T : Tbls) (P : Program) (f : Nat) (M : Mode) (F : Nat → List AV → (τ : Sh) → Option (sem τ)) : Prop :=
  ∀ k objs as (r : sem M.sh), F k (.agg objs :: as) M.sh = some r → (∀ args w, (callFunc f args).run P w = .ok (.enter f args) w) ∧
    ∀ (w : World) (g : Gh) (vs : Array Value), WF (Ent.mp T w g (objs.map decO)) g (objs.map decO) w → (∀ b o, g.fn b o = none) → Rels g (objs.map decO) as vs.toList → Calls P f vs w (PostM P f M (Ent.mp T w g (objs.map decO)) r)
/-- what is asked of each index of the table of callees: the function; the function to which memory is handed over -/
def SoundX (T : Tbls) (P : Program) (f : Nat) (F : Nat → List AV → (τ : Sh) → Option (sem τ)) (frs : Frs) : Prop :=
  (f < 1000000 → Sound T P f F (frs.contains f)) ∧ (1000000 ≤ f → ∀ M, frs.mode (f - 1000000) = some M → SoundM T P (f - 1000000) M F)

/-! #### flat data has one spelling -/
def cellsV : (t : Sh) → sem t → List Value
  | .int k, x => [.int k x] | .bool, x => [.bool x] | .str, x => [.string x] | .unit, _ => [] | .list _, _ => [] | .rose _, _ => []
  | .pair a b, x => cellsV a x.1 ++ cellsV b x.2
theorem RepC.flat_eq {fz : Fz} : ∀ (t : Sh) (x : sem t) (l : List Value), t.flat = true → RepC fz t x l → l = cellsV t x
  | .int _, _, _, _, e => e
  | .bool, _, _, _, e => e
  | .str, _, _, _, e => e
  | .unit, _, _, _, e => e
  | .list t, _, _, hf, _ => by simp [Sh.flat] at hf
  | .rose t, _, _, hf, _ => by simp [Sh.flat] at hf
  | .pair a b, _, _, hf, ⟨l1, l2, e, h1, h2⟩ => by
    simp only [Sh.flat, Bool.and_eq_true] at hf
    rw [e, RepC.flat_eq a _ _ hf.1 h1, RepC.flat_eq b _ _ hf.2 h2]; rfl
def valV (t : Sh) (x : sem t) : Value := if t.isP then .agg (cellsV t x).toArray else (cellsV t x).headD undef
theorem RepV.flat_eq {fz : Fz} {t : Sh} {x : sem t} {v : Value} (hf : t.flat = true) (h : RepV fz t x v) : v = valV t x := by
  unfold RepV at h
  unfold valV
  split at h
  · rename_i hp
    obtain ⟨vs, rfl, hc⟩ := h
    rw [if_pos hp, ← hc.flat_eq _ _ _ hf]
  · rename_i hp
    rw [if_neg hp, ← RepC.flat_eq _ _ _ hf h]; rfl
theorem RepV.flat {fz fz' : Fz} {t : Sh} {x : sem t} {v : Value} (hf : t.flat = true) (h : RepV fz t x v) : RepV fz' t x v := by
  unfold RepV at *
  split
  · rename_i hp
    rw [if_pos hp] at h
    obtain ⟨vs, rfl, hc⟩ := h
    exact ⟨vs, rfl, RepC.flat _ _ _ hf hc⟩
  · rename_i hp
    rw [if_neg hp] at h
    exact RepC.flat _ _ _ hf h
def tupV : (t : Sh) → sem t → List Value
  | .pair a b, x => valV a x.1 :: tupV b x.2 | _, _ => []
theorem RepT.flat_eq {fz : Fz} : ∀ (t : Sh) (x : sem t) (l : List Value), t.flat = true → RepT fz t x l → l = tupV t x
  | .unit, _, _, _, e => e
  | .pair a b, _, _, hf, ⟨v, rest, e, h1, h2⟩ => by
    simp only [Sh.flat, Bool.and_eq_true] at hf
    rw [e, h1.flat_eq hf.1, RepT.flat_eq b _ _ hf.2 h2]; rfl
  | .int _, _, _, _, e => e.elim
  | .bool, _, _, _, e => e.elim
  | .str, _, _, _, e => e.elim
  | .list _, _, _, _, e => e.elim
  | .rose _, _, _, _, e => e.elim
def resV (tup : Bool) (t : Sh) (x : sem t) : Value := if tup then .tuple (tupV t x).toArray else valV t x
theorem RepR.flat_eq {tup : Bool} {fz : Fz} {t : Sh} {x : sem t} {v : Value} (hf : t.flat = true) (h : RepR tup fz t x v) : v = resV tup t x := by
  unfold RepR at h
  unfold resV
  split at h
  · rename_i hp
    obtain ⟨vs, rfl, hc⟩ := h
    rw [if_pos hp, ← hc.flat_eq _ _ _ hf]
  · rename_i hp
    rw [if_neg hp]; exact h.flat_eq hf
theorem RepT.flat {fz fz' : Fz} : ∀ (t : Sh) (x : sem t) (l : List Value), t.flat = true → RepT fz t x l → RepT fz' t x l
  | .unit, _, _, _, e => e
  | .pair a b, _, _, hf, ⟨v, rest, e, h1, h2⟩ => by
    simp only [Sh.flat, Bool.and_eq_true] at hf
    exact ⟨v, rest, e, h1.flat hf.1, RepT.flat b _ _ hf.2 h2⟩
  | .int _, _, _, _, e => e.elim
  | .bool, _, _, _, e => e.elim
  | .str, _, _, _, e => e.elim
  | .list _, _, _, _, e => e.elim
  | .rose _, _, _, _, e => e.elim
theorem RepR.flat {tup : Bool} {fz fz' : Fz} {t : Sh} {x : sem t} {v : Value} (hf : t.flat = true) (h : RepR tup fz t x v) : RepR tup fz' t x v := by
  unfold RepR at *
  split
  · rename_i hp
    rw [if_pos hp] at h
    obtain ⟨vs, rfl, hc⟩ := h
    exact ⟨vs, rfl, RepT.flat _ _ _ hf hc⟩
  · rename_i hp
    rw [if_neg hp] at h
    exact RepV.flat hf h
theorem spread_rel {g : Gh} {m : List AO} (fr : Bool) : ∀ (t : Sh) (x : sem t) (l : List Value), RepT (g.sel fr) t x l → Rels g m (spread t x fr) l
  | .unit, _, _, e => by rw [show _ = _ from e]; exact Rels.nil
  | .pair a b, _, _, ⟨v, rest, e, h1, h2⟩ => by rw [e]; exact Rels.cons (mkD_rel h1) (spread_rel fr b _ _ h2)
  | .int _, _, _, e => e.elim
  | .bool, _, _, e => e.elim
  | .str, _, _, e => e.elim
  | .list _, _, _, e => e.elim
  | .rose _, _, _, e => e.elim
theorem res_rel {g : Gh} {m : List AO} {fr tup : Bool} {t : Sh} {x : sem t} {v : Value} (h : RepR tup (g.sel fr) t x v) : Rel g m (if tup then .tup (spread t x fr) else mkD t x fr) v := by
  unfold RepR at h
  cases tup with
  | true =>
    simp only [if_true] at h ⊢
    obtain ⟨vs, rfl, hc⟩ := h
    unfold Rel
    exact ⟨vs, rfl, spread_rel fr _ _ _ hc⟩
  | false =>
    simp only [Bool.false_eq_true, if_false] at h ⊢
    exact mkD_rel h

/-! #### what is lent -/
/-- all that the state's own objects hold may be read through F -/
structure Lends (g : Gh) (m : List AO) (F : Fz) : Prop where
  fz : ∀ b o v, g.fz b o = some v → F b o = some v
  fn : ∀ b o v, g.fn b o = some v → F b o = some v
  box : ∀ id l, m[id]? = some (.box l) → ∃ cs, Rels g m l cs ∧ (∀ u ∈ cs, u.oneCell' = true) ∧ ∀ (j : Nat) u, cs[j]? = some u → F (g.bl id) j = some u
  row : ∀ id t l fr, m[id]? = some (.row t l fr) → ∃ a cap, g.rv id = .slice a l.length cap ∧ l.length ≤ cap ∧
    (l = [] ∨ ∃ b xs, a = some ⟨b, 0, none⟩ ∧ RepL (RepC (g.sel fr) t) l xs ∧ ∀ (j : Nat) u, xs[j]? = some u → F b j = some u)
theorem Lends.sel {g : Gh} {m : List AO} {F : Fz} (h : Lends g m F) (fr : Bool) : ∀ b o v, g.sel fr b o = some v → F b o = some v := by
  cases fr
  · exact h.fz
  · exact h.fn
theorem lent_d {g : Gh} {F : Fz} {n : Nat} {t : Sh} {x : sem t} {v : Value} (h : RepV F t x v) : Rel (G0 n F) [] (.d t x t.flat) v := by
  unfold Rel Gh.sel
  cases hf : t.flat with
  | true => exact h.flat hf
  | false => exact h
theorem lent_fp {F : Fz} {n : Nat} {t : Sh} {x : sem t} {cs : List Value} (h : RepC F t x cs) : RepC ((G0 n F).sel t.flat) t x cs := by
  unfold Gh.sel
  cases hf : t.flat with
  | true => exact h.flat _ _ _ hf
  | false => exact h
mutual
theorem lend_rel {g : Gh} {m : List AO} {F : Fz} (h : Lends g m F) (n : Nat) : ∀ (a : AV) (v : Value), Rel g m a v → Rel (G0 n F) [] (a.lend m) v
  | .undef, v, e => by unfold AV.lend; exact Rel.undef
  | .c c, v, e => by unfold AV.lend; rw [e.cd_inv]; exact Rel.cd (c := .bv c.val)
  | .d t x fr, v, e => by
    unfold AV.lend
    unfold Rel at e
    exact lent_d (g := g) (e.mono (h.sel fr))
  | .agg l, v, e => by
    unfold AV.lend
    unfold Rel at *
    obtain ⟨vs, rfl, hl, h1⟩ := e
    exact ⟨vs, rfl, lends_rel h n l _ hl, h1⟩
  | .tup l, v, e => by unfold AV.lend; exact Rel.undef
  | .ptr id off, v, e => by unfold AV.lend; exact Rel.undef
  | .fp t x off fr, v, e => by
    unfold AV.lend
    unfold Rel at *
    obtain ⟨b, o, cs, rfl, hr, hz⟩ := e
    exact ⟨b, o, cs, rfl, lent_fp (hr.mono (h.sel fr)), fun j u hu => h.fz _ _ _ (hz j u hu)⟩
  | .fb l off, v, e => by
    unfold AV.lend
    unfold Rel at *
    obtain ⟨b, o, cs, rfl, hr, h1, hz⟩ := e
    exact ⟨b, o, cs, rfl, lends_rel h n l _ hr, h1, fun j u hu => h.fz _ _ _ (hz j u hu)⟩
  | .ref id, v, e => by
    unfold AV.lend
    split
    · rename_i t l fr ho
      have hm : m[id]? = some (.row t l fr) := obj_some (σ := ⟨[], m, 0⟩) ho (by simp)
      unfold Rel at e
      obtain ⟨_, o, ho', e⟩ := e
      rw [hm] at ho'; cases ho'
      simp only at e
      subst e
      obtain ⟨a, cap, e1, hle, hr⟩ := h.row id t l fr hm
      rw [e1]
      refine lent_d (g := g) (t := .list t) (x := l) ?_
      show RepC F (.list t) l [_]
      refine ⟨a, cap, rfl, hle, hr.imp (fun q => q) ?_⟩
      rintro ⟨b, xs, rfl, hx, hz⟩
      exact ⟨b, 0, xs, rfl, hx.imp (fun x c hc => RepC.mono (h.sel fr) t x c hc) _ _, fun j u hu => by rw [Nat.zero_add]; exact hz j u hu⟩
    · exact Rel.undef
  | .rp id i off, v, e => by
    unfold AV.lend
    split
    · rename_i t l fr ho
      have hm : m[id]? = some (.row t l fr) := obj_some (σ := ⟨[], m, 0⟩) ho (by simp)
      unfold Rel at e
      obtain ⟨_, o, ho', e⟩ := e
      rw [hm] at ho'; cases ho'
      simp only at e
      obtain ⟨h0, hi, b, hb, rfl⟩ := e
      obtain ⟨a, cap, e1, hle, hr⟩ := h.row id t l fr hm
      have hil : i.toNat < l.length := by omega
      rcases hr with rfl | ⟨b', xs, rfl, hx, hz⟩
      · simp at hil
      · rw [e1] at hb
        have hb' : b' = b := (rowBlk_new hb).symm
        subst hb'
        unfold Rel
        refine ⟨b', i.toNat * t.size, (xs.drop (i.toNat * t.size)).take t.size, rfl, lent_fp ?_, fun j u hu => ?_⟩
        · rw [show rd (dflt t) l i = l[i.toNat] by simp [rd, hil]]
          exact (RepL.get (fun x c h => RepC.len t x c h) l xs hx i.toNat hil).mono (h.sel fr)
        · rw [List.getElem?_take] at hu
          split at hu
          · rw [List.getElem?_drop] at hu
            exact hz _ _ hu
          · cases hu
    · exact Rel.undef
  | .nil, v, e => by unfold AV.lend; unfold Rel at *; exact e
  | .nilp, v, e => by unfold AV.lend; unfold Rel at *; exact e
  | .nilm, v, e => by unfold AV.lend; unfold Rel at *; exact e
  | .itr id, v, e => by unfold AV.lend; exact Rel.undef
  | .sub id i n, v, e => by
    unfold AV.lend
    split
    · rename_i t l fr ho
      have hm : m[id]? = some (.row t l fr) := obj_some (σ := ⟨[], m, 0⟩) ho (by simp)
      unfold Rel at e
      obtain ⟨_, o, ho', e⟩ := e
      rw [hm] at ho'; cases ho'
      simp only at e
      obtain ⟨h0, h1, h2, rfl⟩ := e
      obtain ⟨a, cap, e1, hle, hr⟩ := h.row id t l fr hm
      have hcut : (cut l i (addI i n)).length = n.toNat := by rw [cut_len (α := sem t) l (by unfold addI; omega)]; unfold addI; omega
      rw [e1]
      refine lent_d (g := g) (t := .list t) (x := cut l i (addI i n)) ?_
      show RepC F (.list t) (cut l i (addI i n)) [_]
      refine ⟨_, _, (by show [Value.slice _ n.toNat _] = [Value.slice _ (List.length (cut l i (addI i n))) _]; rw [hcut]), (by show List.length (cut l i (addI i n)) ≤ _; rw [hcut]; omega), ?_⟩
      rcases hr with hl | ⟨b, xs, rfl, hx, hz⟩
      · refine .inl (List.eq_nil_of_length_eq_zero ?_)
        have : List.length l = 0 := by rw [hl]; rfl
        show List.length (cut l i (addI i n)) = 0
        rw [hcut]; omega
      · by_cases he : cap = i.toNat
        · refine .inl (List.eq_nil_of_length_eq_zero ?_)
          show List.length (cut l i (addI i n)) = 0
          rw [hcut]; omega
        · refine .inr ⟨b, i.toNat * t.size, (xs.take ((addI i n).toNat * t.size)).drop (i.toNat * t.size), by rw [if_neg he]; simp [addr_add], ?_, fun j u hu => ?_⟩
          · exact (RepL.drop (fun x c h => RepC.len t x c h) _ _ (RepL.take (fun x c h => RepC.len t x c h) l xs hx (addI i n).toNat) i.toNat).imp (fun x c hc => RepC.mono (h.sel fr) t x c hc) _ _
          · rw [List.getElem?_drop, List.getElem?_take] at hu
            split at hu
            · exact hz _ u hu
            · cases hu
    · exact Rel.undef
  | .fn f l, v, e => by
    unfold AV.lend
    unfold Rel at *
    obtain ⟨vs, rfl, hl⟩ := e
    exact ⟨vs, rfl, lends_rel h n l _ hl⟩
theorem lends_rel {g : Gh} {m : List AO} {F : Fz} (h : Lends g m F) (n : Nat) : ∀ (l : List AV) (vs : List Value), Rels g m l vs → Rels (G0 n F) [] (AV.lends m l) vs
  | [], vs, e => by unfold AV.lends; unfold Rels at *; exact e
  | a :: l, vs, e => by
    unfold AV.lends
    unfold Rels at *
    obtain ⟨v, rs, rfl, h1, h2⟩ := e
    exact ⟨v, rs, rfl, lend_rel h n a v h1, lends_rel h n l rs h2⟩
end
theorem lendP_rel {g : Gh} {m : List AO} {F : Fz} (h : Lends g m F) (n : Nat) (a : AV) (v : Value) (e : Rel g m a v) : Rel (G0 n F) [] (a.lendP m) v := by
  unfold AV.lendP
  split
  · rename_i id off
    split
    · rename_i l ho
      have hm : m[id]? = some (.box l) := obj_some (σ := ⟨[], m, 0⟩) ho (by simp)
      unfold Rel at e
      obtain ⟨_, o, ho', e⟩ := e
      rw [hm] at ho'; cases ho'
      simp only at e
      subst e
      obtain ⟨cs, hr, h1, hz⟩ := h.box id l hm
      unfold Rel
      exact ⟨g.bl id, 0, cs, by rw [Nat.zero_add], lends_rel h n l _ hr, h1, fun j u hu => by rw [Nat.zero_add]; exact hz j u hu⟩
    · exact Rel.undef
  · exact lend_rel h n a v e
theorem lendPs_rel {g : Gh} {m : List AO} {F : Fz} (h : Lends g m F) (n : Nat) : ∀ (l : List AV) (vs : List Value), Rels g m l vs → Rels (G0 n F) [] (AV.lendPs m l) vs
  | [], vs, e => by unfold AV.lendPs; unfold Rels at *; exact e
  | a :: l, vs, e => by
    unfold AV.lendPs
    unfold Rels at *
    obtain ⟨v, rs, rfl, h1, h2⟩ := e
    exact ⟨v, rs, rfl, lendP_rel h n a v h1, lendPs_rel h n l rs h2⟩
theorem lendA_rel {g : Gh} {m : List AO} {F : Fz} (h : Lends g m F) (n : Nat) (a : AV) (v : Value) (e : Rel g m a v) : Rel (G0 n F) [] (a.lendA m) v := by
  unfold AV.lendA
  split
  · rename_i f l
    unfold Rel at *
    obtain ⟨vs, rfl, hl⟩ := e
    exact ⟨vs, rfl, lendPs_rel h n l _ hl⟩
  · exact lendP_rel h n a v e
theorem lendAs_rel {g : Gh} {m : List AO} {F : Fz} (h : Lends g m F) (n : Nat) : ∀ (l : List AV) (vs : List Value), Rels g m l vs → Rels (G0 n F) [] (AV.lendAs m l) vs
  | [], vs, e => by unfold AV.lendAs; unfold Rels at *; exact e
  | a :: l, vs, e => by
    unfold AV.lendAs
    unfold Rels at *
    obtain ⟨v, rs, rfl, h1, h2⟩ := e
    exact ⟨v, rs, rfl, lendA_rel h n a v h1, lendAs_rel h n l rs h2⟩

/-- a world read as it stands -/
def allOf (w : World) : Fz := fun b o => w.cell? ⟨b, o, none⟩
theorem WF.lends {w0 : Ent} {w : World} {g : Gh} {m : List AO} (h : WF w0 g m w) : Lends g m (allOf w) where
  fz := h.fzc
  fn := fun b o v hv => h.fzc b o v (h.fnz b o v hv).1
  box := fun id l hm => by
    obtain ⟨_, c, T, hh, hr, h1⟩ := h.own id _ hm
    exact ⟨c.toList, hr, h1, fun j u hu => by simpa [allOf, World.cell?, hh] using hu⟩
  row := fun id t l fr hm => by
    obtain ⟨_, e, xs, hown, hr⟩ := h.own id _ hm
    rcases hown.2 with ⟨e2, a0, e1⟩ | ⟨q, cap, cur, e1, _, hg, hle, _⟩
    · refine ⟨a0, 0, by rw [e1, e2], by omega, .inl (List.eq_nil_of_length_eq_zero e2)⟩
    · exact ⟨_, _, e1, hle, .inr ⟨q, xs, rfl, hr, fun j u hu => hown.cells (q := q) (by rw [e1]; rfl) j u hu⟩⟩
mutual
theorem noId_rel {g : Gh} {m m' : List AO} : ∀ (a : AV), a.noId = true → ∀ (v : Value), Rel g m a v → Rel g m' a v
  | .undef, _, _, _ => Rel.undef
  | .c _, _, _, e => by unfold Rel at *; exact e
  | .d t x fr, _, _, e => by unfold Rel at *; exact e
  | .agg l, hn, _, e => by
    unfold AV.noId at hn
    unfold Rel at *
    obtain ⟨vs, rfl, hl, h1⟩ := e
    exact ⟨vs, rfl, noIds_rel l hn _ hl, h1⟩
  | .tup l, hn, _, e => by
    unfold AV.noId at hn
    unfold Rel at *
    obtain ⟨vs, rfl, hl⟩ := e
    exact ⟨vs, rfl, noIds_rel l hn _ hl⟩
  | .ptr _ _, hn, _, _ => by simp [AV.noId] at hn
  | .ref _, hn, _, _ => by simp [AV.noId] at hn
  | .rp _ _ _, hn, _, _ => by simp [AV.noId] at hn
  | .fp t x off fr, _, _, e => by unfold Rel at *; exact e
  | .fb l off, hn, _, e => by
    unfold AV.noId at hn
    unfold Rel at *
    obtain ⟨b, o, cs, rfl, hr, h1, hz⟩ := e
    exact ⟨b, o, cs, rfl, noIds_rel l hn _ hr, h1, hz⟩
  | .nil, _, _, e => by unfold Rel at *; exact e
  | .nilp, _, _, e => by unfold Rel at *; exact e
  | .nilm, _, _, e => by unfold Rel at *; exact e
  | .itr _, hn, _, _ => by simp [AV.noId] at hn
  | .sub _ _ _, hn, _, _ => by simp [AV.noId] at hn
  | .fn f l, hn, _, e => by
    unfold AV.noId at hn
    unfold Rel at *
    obtain ⟨vs, rfl, hl⟩ := e
    exact ⟨vs, rfl, noIds_rel l hn _ hl⟩
theorem noIds_rel {g : Gh} {m m' : List AO} : ∀ (l : List AV), AV.noIds l = true → ∀ (vs : List Value), Rels g m l vs → Rels g m' l vs
  | [], _, vs, e => by unfold Rels at *; exact e
  | a :: l, hn, vs, e => by
    unfold AV.noIds at hn
    simp only [Bool.and_eq_true] at hn
    unfold Rels at *
    obtain ⟨v, rs, rfl, h1, h2⟩ := e
    exact ⟨v, rs, rfl, noId_rel a hn.1 v h1, noIds_rel l hn.2 rs h2⟩
end
theorem lends_none {g : Gh} (hf : ∀ b o v, g.fn b o = some v → g.fz b o = some v) : Lends g [] g.fz where
  fz := fun _ _ _ h => h
  fn := hf
  box := fun id l h => by simp at h
  row := fun id t l fr h => by simp at h
end Go.Den
