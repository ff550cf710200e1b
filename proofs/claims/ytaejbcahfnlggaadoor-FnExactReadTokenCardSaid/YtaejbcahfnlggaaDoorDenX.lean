import Derived.Test.YtaejbcahfnlggaaDoorDenO
namespace Go.Den
open Go.RowKit (wrap64)
set_option linter.unusedVariables false
set_option linter.unusedSimpArgs false
/-! Calls that hand memory over: the caller's side. -/
section
variable {P : Program} {g : Gh} {ω : Type} {r : ω} {w0 : Ent} {w : World} {Φ : Nat → Nat → List AV → (τ : Sh) → Option (sem τ)} {frs : Frs}
mutual
theorem rel_pv {g : Gh} {m : List AO} (n : Nat) (x : Pin) : ∀ (a : AV) (v : Value), Rel g m a v → Rel { g with n0 := n, pv := x } m a v
  | .undef, v, e => Rel.undef
  | .c c, v, e => by unfold Rel at *; exact e
  | .d t x fr, v, e => by unfold Rel at *; exact e
  | .agg l, v, e => by
    unfold Rel at *
    obtain ⟨vs, rfl, hl, h1⟩ := e
    exact ⟨vs, rfl, rels_pv n x l _ hl, h1⟩
  | .tup l, v, e => by
    unfold Rel at *
    obtain ⟨vs, rfl, hl⟩ := e
    exact ⟨vs, rfl, rels_pv n x l _ hl⟩
  | .ptr id off, v, e => by unfold Rel at *; exact e
  | .fp t x off fr, v, e => by unfold Rel at *; exact e
  | .fb l off, v, e => by
    unfold Rel at *
    obtain ⟨b, o, cs, rfl, hr, h1, hz⟩ := e
    exact ⟨b, o, cs, rfl, rels_pv n x l _ hr, h1, hz⟩
  | .ref id, v, e => by unfold Rel at *; exact e
  | .rp id i off, v, e => by unfold Rel at *; exact e
  | .nil, v, e => by unfold Rel at *; exact e
  | .nilp, v, e => by unfold Rel at *; exact e
  | .nilm, v, e => by unfold Rel at *; exact e
  | .itr id, v, e => by unfold Rel at *; exact e
  | .sub id i n, v, e => by unfold Rel at *; exact e
  | .fn f l, v, e => by
    unfold Rel at *
    obtain ⟨vs, rfl, hl⟩ := e
    exact ⟨vs, rfl, rels_pv n x l _ hl⟩
theorem rels_pv {g : Gh} {m : List AO} (n : Nat) (x : Pin) : ∀ (l : List AV) (vs : List Value), Rels g m l vs → Rels { g with n0 := n, pv := x } m l vs
  | [], vs, e => by unfold Rels at *; exact e
  | a :: l, vs, e => by
    unfold Rels at *
    obtain ⟨v, rs, rfl, h1, h2⟩ := e
    exact ⟨v, rs, rfl, rel_pv n x a v h1, rels_pv n x l rs h2⟩
end
/-- what is lent is read in every memory -/
theorem lent_any {n : Nat} {F : Fz} {g' : Gh} {m' : List AO} (hfz : g'.fz = F) {l : List AV} {vs : List Value} (h : Rels (G0 n F) [] l vs) : Rels g' m' l vs := by
  subst hfz
  refine Rels.mono (g := { G0 n g'.fz with n0 := g'.n0, pv := g'.pv }) (g' := g') (m := []) (m' := m') ⟨rfl, fun b o v hv => hv, fun b o v hv => (by cases hv), fun id o ho => (by simp at ho)⟩ _ _ (rels_pv _ _ _ _ h)
/-! a new empty row or map for nil -/
theorem newNil_ok {σ : St} {a : Act} (hE : EnvR g σ a) (hW : WF w0 g σ.mem w) {t : Sh} (ht : t.size ≠ 0) (fr : Bool) : ∃ g', EnvR g' (σ.new (.row t [] fr)) a ∧ WF w0 g' (σ.new (.row t [] fr)).mem w ∧ Stays g g' σ.mem (σ.new (.row t [] fr)).mem ∧ Rel g' (σ.new (.row t [] fr)).mem (.ref σ.mem.length) (.slice none 0 0) := by
  have hs : Stays g { g with rv := upd g.rv σ.mem.length (.slice none 0 0) } σ.mem (σ.mem ++ [.row t [] fr]) := Stays.row _ _ _ rfl
  have hself : Grown w w none := ⟨rfl, rfl, rfl, Nat.le_refl _, fun _ _ _ => rfl, Nat.le_refl _⟩
  refine ⟨_, hE.step (σ' := σ.new (.row t [] fr)) hs rfl, hW.pushRow hself (t := t) (l := []) (fr := fr) (v' := .slice none 0 0) (xs := []) (by simp) (by simp) (OwnR.nil w g.n0 0 t.size none) rfl (Nat.pos_of_ne_zero ht) (fun b hb => by simp [rowBlk] at hb), hs, ?_⟩
  unfold Rel
  refine ⟨rfl, .row t [] fr, by simp [St.new], ?_⟩
  show Value.slice none 0 0 = upd g.rv σ.mem.length (.slice none 0 0) σ.mem.length
  rw [upd_same]
theorem newNilm_ok {σ : St} {a : Act} (hE : EnvR g σ a) (hW : WF w0 g σ.mem w) {k v : Sh} (hk : k.flat = true) : ∃ g', EnvR g' (σ.new (.map k v false [] 0 [] none)) a ∧ WF w0 g' (σ.new (.map k v false [] 0 [] none)).mem w ∧ Stays g g' σ.mem (σ.new (.map k v false [] 0 [] none)).mem ∧ Rel g' (σ.new (.map k v false [] 0 [] none)).mem (.ref σ.mem.length) (.map none) := by
  have hs : Stays g { g with rv := upd g.rv σ.mem.length (.map none) } σ.mem (σ.mem ++ [.map k v false [] 0 [] none]) := Stays.row _ _ _ rfl
  have hself : Grown w w none := ⟨rfl, rfl, rfl, Nat.le_refl _, fun _ _ _ => rfl, Nat.le_refl _⟩
  refine ⟨_, hE.step (σ' := σ.new (.map k v false [] 0 [] none)) hs rfl, hW.push (row := none) hself hs rfl rfl rfl (fun j hj => ⟨rfl, upd_ne _ _ (by omega), rfl⟩) (by simp) (by simp) ⟨hk, .inl ⟨rfl, by decide, upd_same _ _ _, rfl⟩⟩ (fun b hb => ?_), hs, ?_⟩
  · rcases hb with hb | ⟨h, _⟩
    · have hb : mapBlk (upd g.rv σ.mem.length (.map none) σ.mem.length) = some b := hb
      rw [upd_same] at hb; cases hb
    · cases h
  · unfold Rel
    refine ⟨rfl, .map k v false [] 0 [] none, by simp [St.new], ?_⟩
    show Value.map none = upd g.rv σ.mem.length (.map none) σ.mem.length
    rw [upd_same]
theorem nilArg_ok {σ : St} {a : Act} (hE : EnvR g σ a) (hW : WF w0 g σ.mem w) (x : AV) (ts : List TypeId) {v : Value} (h1 : Rel g σ.mem x v) :
    ∃ g', EnvR g' (nilArg P σ x ts).1 a ∧ WF w0 g' (nilArg P σ x ts).1.mem w ∧ Stays g g' σ.mem (nilArg P σ x ts).1.mem ∧ Rel g' (nilArg P σ x ts).1.mem (nilArg P σ x ts).2 v := by
  unfold nilArg
  split
  · split
    · rename_i s hs
      obtain ⟨e, _, _, hok⟩ := elemSh_some hs
      obtain ⟨_, _, _, _, _, _, hpos, _⟩ := elemOk_some hok
      have : v = .slice none 0 0 := by unfold Rel at h1; exact h1
      subst this
      exact newNil_ok hE hW (by omega) true
    · exact ⟨g, hE, hW, Stays.refl _ _, h1⟩
  · exact ⟨g, hE, hW, Stays.refl _ _, h1⟩
theorem nilArgs_ok {a : Act} (mv : List Nat) : ∀ (args : List AV) (i : Nat) (ts : List TypeId) {g : Gh} {σ : St} (vs : List Value), EnvR g σ a → WF w0 g σ.mem w → Rels g σ.mem args vs →
    ∃ g', EnvR g' (nilArgs P mv i ts σ args).1 a ∧ WF w0 g' (nilArgs P mv i ts σ args).1.mem w ∧ Stays g g' σ.mem (nilArgs P mv i ts σ args).1.mem ∧ Rels g' (nilArgs P mv i ts σ args).1.mem (nilArgs P mv i ts σ args).2 vs
  | [], i, ts, g, σ, vs, hE, hW, hr => ⟨g, hE, hW, Stays.refl _ _, hr⟩
  | x :: args, i, ts, g, σ, vs, hE, hW, hr => by
    unfold Rels at hr
    obtain ⟨v, rs, rfl, h1, h2⟩ := hr
    have key : ∃ g', EnvR g' (if mv.contains i then nilArg P σ x ts else (σ, x) : St × AV).1 a ∧ WF w0 g' (if mv.contains i then nilArg P σ x ts else (σ, x) : St × AV).1.mem w ∧ Stays g g' σ.mem (if mv.contains i then nilArg P σ x ts else (σ, x) : St × AV).1.mem ∧
        Rel g' (if mv.contains i then nilArg P σ x ts else (σ, x) : St × AV).1.mem (if mv.contains i then nilArg P σ x ts else (σ, x) : St × AV).2 v := by
      split
      · exact nilArg_ok hE hW x ts h1
      · exact ⟨g, hE, hW, Stays.refl _ _, h1⟩
    unfold nilArgs
    dsimp only
    generalize (if mv.contains i then nilArg P σ x ts else (σ, x) : St × AV) = q at key ⊢
    obtain ⟨g1, hE1, hW1, hs1, hr1⟩ := key
    obtain ⟨g2, hE2, hW2, hs2, hr2⟩ := nilArgs_ok mv args (i + 1) ts.tail rs hE1 hW1 (Rels.mono hs1 _ _ h2)
    exact ⟨g2, hE2, hW2, hs1.trans hs2, Rels.cons (Rel.mono hs2 _ _ hr1) hr2⟩
theorem nilAt_ok {σ : St} {a : Act} (hE : EnvR g σ a) (hW : WF w0 g σ.mem w) (x : AV) (o : Option TO) {v : Value} (h1 : Rel g σ.mem x v) :
    ∃ g', EnvR g' (nilAt σ x o).1 a ∧ WF w0 g' (nilAt σ x o).1.mem w ∧ Stays g g' σ.mem (nilAt σ x o).1.mem ∧ Rel g' (nilAt σ x o).1.mem (nilAt σ x o).2 v := by
  unfold nilAt
  split
  · split
    · exact ⟨g, hE, hW, Stays.refl _ _, h1⟩
    · rename_i hs
      have : v = .slice none 0 0 := by unfold Rel at h1; exact h1
      subst this
      exact newNil_ok hE hW hs true
  · split
    · rename_i hk
      have : v = .map none := by unfold Rel at h1; exact h1
      subst this
      exact newNilm_ok hE hW hk
    · exact ⟨g, hE, hW, Stays.refl _ _, h1⟩
  · exact ⟨g, hE, hW, Stays.refl _ _, h1⟩
theorem nilAt_pre (σ : St) (x : AV) (o : Option TO) : ∃ s, (nilAt σ x o).1.mem = σ.mem ++ s := by
  unfold nilAt
  split
  · split
    · exact ⟨[], by simp⟩
    · exact ⟨_, rfl⟩
  · split
    · exact ⟨_, rfl⟩
    · exact ⟨[], by simp⟩
  · exact ⟨[], by simp⟩
theorem nilIn_ok {a : Act} (T : List TO) : ∀ (ts : List TV) (l : List AV) {g : Gh} {σ : St} (vs : List Value), EnvR g σ a → WF w0 g σ.mem w → Rels g σ.mem l vs →
    ∃ g', EnvR g' (nilIn T ts l σ).1 a ∧ WF w0 g' (nilIn T ts l σ).1.mem w ∧ Stays g g' σ.mem (nilIn T ts l σ).1.mem ∧ Rels g' (nilIn T ts l σ).1.mem (nilIn T ts l σ).2 vs
  | [], l, g, σ, vs, hE, hW, hr => by unfold nilIn; exact ⟨g, hE, hW, Stays.refl _ _, hr⟩
  | t :: ts, [], g, σ, vs, hE, hW, hr => by cases t <;> (unfold nilIn; exact ⟨g, hE, hW, Stays.refl _ _, hr⟩)
  | t :: ts, x :: l, g, σ, vs, hE, hW, hr => by
    unfold Rels at hr
    obtain ⟨v, rs, rfl, h1, h2⟩ := hr
    have plain : ∃ g', EnvR g' (nilIn T ts l σ).1 a ∧ WF w0 g' (nilIn T ts l σ).1.mem w ∧ Stays g g' σ.mem (nilIn T ts l σ).1.mem ∧ Rels g' (nilIn T ts l σ).1.mem (x :: (nilIn T ts l σ).2) (v :: rs) := by
      obtain ⟨g2, hE2, hW2, hs2, hr2⟩ := nilIn_ok T ts l rs hE hW h2
      exact ⟨g2, hE2, hW2, hs2, Rels.cons (Rel.mono hs2 _ _ h1) hr2⟩
    cases t with
    | ref q =>
      obtain ⟨g1, hE1, hW1, hs1, hr1⟩ := nilAt_ok hE hW x T[q]? h1
      unfold nilIn
      dsimp only
      obtain ⟨g2, hE2, hW2, hs2, hr2⟩ := nilIn_ok T ts l rs hE1 hW1 (Rels.mono hs1 _ _ h2)
      exact ⟨g2, hE2, hW2, hs1.trans hs2, Rels.cons (Rel.mono hs2 _ _ hr1) hr2⟩
    | _ => unfold nilIn; exact plain
theorem nilInA_ok {a : Act} (T : List TO) : ∀ (ts : List TV) (l : List AV) {g : Gh} {σ : St} (vs : List Value), EnvR g σ a → WF w0 g σ.mem w → Rels g σ.mem l vs →
    ∃ g', EnvR g' (nilInA T ts l σ).1 a ∧ WF w0 g' (nilInA T ts l σ).1.mem w ∧ Stays g g' σ.mem (nilInA T ts l σ).1.mem ∧ Rels g' (nilInA T ts l σ).1.mem (nilInA T ts l σ).2 vs
  | [], l, g, σ, vs, hE, hW, hr => by unfold nilInA; exact ⟨g, hE, hW, Stays.refl _ _, hr⟩
  | t :: ts, [], g, σ, vs, hE, hW, hr => by cases t <;> (unfold nilInA; exact ⟨g, hE, hW, Stays.refl _ _, hr⟩)
  | t :: ts, x :: l, g, σ, vs, hE, hW, hr => by
    unfold Rels at hr
    obtain ⟨v, rs, rfl, h1, h2⟩ := hr
    have plain : ∃ g', EnvR g' (nilInA T ts l σ).1 a ∧ WF w0 g' (nilInA T ts l σ).1.mem w ∧ Stays g g' σ.mem (nilInA T ts l σ).1.mem ∧ Rels g' (nilInA T ts l σ).1.mem (x :: (nilInA T ts l σ).2) (v :: rs) := by
      obtain ⟨g2, hE2, hW2, hs2, hr2⟩ := nilInA_ok T ts l rs hE hW h2
      exact ⟨g2, hE2, hW2, hs2, Rels.cons (Rel.mono hs2 _ _ h1) hr2⟩
    cases t with
    | ref q =>
      obtain ⟨g1, hE1, hW1, hs1, hr1⟩ := nilAt_ok hE hW x T[q]? h1
      unfold nilInA
      dsimp only
      obtain ⟨g2, hE2, hW2, hs2, hr2⟩ := nilInA_ok T ts l rs hE1 hW1 (Rels.mono hs1 _ _ h2)
      exact ⟨g2, hE2, hW2, hs1.trans hs2, Rels.cons (Rel.mono hs2 _ _ hr1) hr2⟩
    | agg us =>
      cases x with
      | agg bs =>
        unfold Rel at h1
        obtain ⟨ws, rfl, hb, hone⟩ := h1
        obtain ⟨g1, hE1, hW1, hs1, hr1⟩ := nilIn_ok T us bs ws.toList hE hW hb
        unfold nilInA
        dsimp only
        obtain ⟨g2, hE2, hW2, hs2, hr2⟩ := nilInA_ok T ts l rs hE1 hW1 (Rels.mono hs1 _ _ h2)
        refine ⟨g2, hE2, hW2, hs1.trans hs2, Rels.cons (Rel.mono hs2 _ _ ?_) hr2⟩
        unfold Rel
        exact ⟨ws, rfl, hr1, hone⟩
      | _ => unfold nilInA; exact plain
    | _ => unfold nilInA; exact plain
theorem nilIn_pre (T : List TO) : ∀ (ts : List TV) (l : List AV) (σ : St), ∃ s, (nilIn T ts l σ).1.mem = σ.mem ++ s
  | [], l, σ => ⟨[], by unfold nilIn; simp⟩
  | t :: ts, [], σ => ⟨[], by cases t <;> simp [nilIn]⟩
  | t :: ts, x :: l, σ => by
    have plain := nilIn_pre T ts l σ
    cases t with
    | ref q =>
      unfold nilIn
      dsimp only
      obtain ⟨s, hs⟩ := nilAt_pre σ x T[q]?
      obtain ⟨s', hs'⟩ := nilIn_pre T ts l (nilAt σ x T[q]?).1
      exact ⟨s ++ s', by rw [hs', hs, List.append_assoc]⟩
    | _ => unfold nilIn; exact plain
theorem nilBoxes_ok {a : Act} (T : List TO) : ∀ (os : List TO) (ids : List Nat) {g : Gh} {σ : St}, EnvR g σ a → WF w0 g σ.mem w →
    ∃ g', EnvR g' (nilBoxes T os ids σ) a ∧ WF w0 g' (nilBoxes T os ids σ).mem w ∧ Stays g g' σ.mem (nilBoxes T os ids σ).mem
  | [], ids, g, σ, hE, hW => by unfold nilBoxes; exact ⟨g, hE, hW, Stays.refl _ _⟩
  | o :: os, [], g, σ, hE, hW => by cases o <;> (unfold nilBoxes; exact ⟨g, hE, hW, Stays.refl _ _⟩)
  | o :: os, id :: ids, g, σ, hE, hW => by
    have plain := nilBoxes_ok T os ids hE hW
    cases o with
    | box ts =>
      unfold nilBoxes
      split
      · rename_i l ho
        have hm := obj_some ho (by simp)
        obtain ⟨hb, c, T', hh, hr, h1⟩ := hW.own id _ hm
        obtain ⟨g1, hE1, hW1, hs1, hr1⟩ := nilIn_ok T ts l c.toList hE hW hr
        dsimp only
        obtain ⟨s, hpre⟩ := nilIn_pre T ts l σ
        generalize nilIn T ts l σ = q at hE1 hW1 hs1 hr1 hpre ⊢
        have ho' : q.1.mem[id]? = some (.box l) := by rw [hpre, List.getElem?_append_left (List.getElem?_eq_some_iff.1 hm).1]; exact hm
        obtain ⟨o', ho2, hg'⟩ := hs1.mem id _ hm
        have hbl : g1.bl id = g.bl id := by rw [ho'] at ho2; cases ho2; exact hg'
        · have hs : Stays g1 g1 q.1.mem (q.1.setObj id (.box q.2)).mem := ⟨rfl, fun _ _ _ h => h, fun _ _ _ h => h, fun j p hj => by
            by_cases e : j = id
            · subst e
              rw [ho'] at hj
              cases hj
              exact ⟨_, by show (List.set _ j _)[j]? = _; rw [List.getElem?_set_self (List.getElem?_eq_some_iff.1 ho').1], by simp [AO.stays, AO.goes]⟩
            · exact ⟨p, by show (List.set _ id _)[j]? = _; rw [List.getElem?_set_ne (fun q => e q.symm)]; exact hj, AO.goes.refl _ _ _⟩⟩
          have hW2 : WF w0 g1 (q.1.setObj id (.box q.2)).mem w := hW1.write ho' (by simp [AO.stays, AO.goes]) (fun _ _ _ => rfl) (Nat.le_refl _) rfl rfl rfl (Nat.le_refl _)
            ⟨((hW1.own id _ ho').has_lt (b := g1.bl id) rfl).1, c, T', by rw [hbl]; exact hh, Rels.mono hs _ _ hr1, h1⟩ (fun _ h => h)
          obtain ⟨g2, hE2, hW3, hs3⟩ := nilBoxes_ok T os ids (hE1.step (σ' := q.1.setObj id (.box q.2)) hs rfl) hW2
          exact ⟨g2, hE2, hW3, (hs1.trans hs).trans hs3⟩
      · exact plain
    | _ => unfold nilBoxes; exact plain
/-! #### into the callee -/
/-- an object as it is handed over -/
def AO.kin (g g' : Gh) (i j : Nat) : AO → AO → Prop
  | _, .gone => True
  | .box _, .box _ => g'.bl j = g.bl i
  | .row t l _, .row t' l' _ => t' = t ∧ l'.length = l.length ∧ g'.rv j = g.rv i
  | .map k v _ _ _ _ _, .map k' v' _ _ _ _ _ => k' = k ∧ v' = v ∧ g'.rv j = g.rv i
  | _, _ => False
structure Into (f : Nat → Option Nat) (g g' : Gh) (m m' : List AO) : Prop where
  fz : ∀ fr b o v, g.sel fr b o = some v → g'.fz b o = some v
  mem : ∀ (i j : Nat) o, f i = some j → m[i]? = some o → ∃ o', m'[j]? = some o' ∧ o.kin g g' i j o'
theorem low_d {g g' : Gh} {m' : List AO} {fr : Bool} (hfz : ∀ b o v, g.sel fr b o = some v → g'.fz b o = some v) {t : Sh} {x : sem t} {v : Value} (h : RepV (g.sel fr) t x v) : Rel g' m' (.d t x t.flat) v := by
  unfold Rel Gh.sel
  cases hf : t.flat with
  | true => exact h.flat hf
  | false => exact h.mono hfz
theorem low_c {g g' : Gh} {fr : Bool} (hfz : ∀ b o v, g.sel fr b o = some v → g'.fz b o = some v) {t : Sh} {x : sem t} {cs : List Value} (h : RepC (g.sel fr) t x cs) : RepC (g'.sel t.flat) t x cs := by
  unfold Gh.sel
  cases hf : t.flat with
  | true => exact RepC.flat _ _ _ hf h
  | false => exact h.mono hfz
mutual
theorem into_rel {f : Nat → Option Nat} {g g' : Gh} {m m' : List AO} (hI : Into f g g' m m') : ∀ (a : AV) (v : Value), Rel g m a v → Rel g' m' ((a.ren f).low) v
  | .undef, v, e => by unfold AV.ren AV.low; exact Rel.undef
  | .c c, v, e => by unfold AV.ren AV.low; rw [e.cd_inv]; exact Rel.cd (c := .bv c.val)
  | .d t x fr, v, e => by unfold AV.ren AV.low; unfold Rel at e; exact low_d (hI.fz fr) e
  | .agg l, v, e => by
    unfold AV.ren AV.low
    unfold Rel at *
    obtain ⟨vs, rfl, hl, h1⟩ := e
    exact ⟨vs, rfl, intoL_rel hI l _ hl, h1⟩
  | .tup l, v, e => by
    unfold AV.ren AV.low
    unfold Rel at *
    obtain ⟨vs, rfl, hl⟩ := e
    exact ⟨vs, rfl, intoL_rel hI l _ hl⟩
  | .fp t x off fr, v, e => by
    unfold AV.ren AV.low
    unfold Rel at *
    obtain ⟨b, o, cs, rfl, hr, hz⟩ := e
    exact ⟨b, o, cs, rfl, low_c (hI.fz fr) hr, fun j u hu => hI.fz false _ _ _ (hz j u hu)⟩
  | .fb l off, v, e => by
    unfold AV.ren AV.low
    unfold Rel at *
    obtain ⟨b, o, cs, rfl, hr, h1, hz⟩ := e
    exact ⟨b, o, cs, rfl, intoL_rel hI l _ hr, h1, fun j u hu => hI.fz false _ _ _ (hz j u hu)⟩
  | .nil, v, e => by unfold AV.ren AV.low; unfold Rel at *; exact e
  | .nilp, v, e => by unfold AV.ren AV.low; unfold Rel at *; exact e
  | .nilm, v, e => by unfold AV.ren AV.low; unfold Rel at *; exact e
  | .fn f l, v, e => by
    unfold AV.ren AV.low
    unfold Rel at *
    obtain ⟨vs, rfl, hl⟩ := e
    exact ⟨vs, rfl, intoL_rel hI l _ hl⟩
  | .ptr id off, v, e => by
    unfold AV.ren
    split
    · rename_i j hj
      unfold AV.low
      unfold Rel at *
      obtain ⟨h1, o, ho, e⟩ := e
      obtain ⟨o', ho', hg⟩ := hI.mem id j o hj ho
      refine ⟨h1, o', ho', ?_⟩
      cases o' <;> cases o <;> simp only [AO.kin] at hg e ⊢
      rw [hg]; exact e
    · unfold AV.low; exact Rel.undef
  | .ref id, v, e => by
    unfold AV.ren
    split
    · rename_i j hj
      unfold AV.low
      unfold Rel at *
      obtain ⟨h1, o, ho, e⟩ := e
      obtain ⟨o', ho', hg⟩ := hI.mem id j o hj ho
      refine ⟨h1, o', ho', ?_⟩
      cases o' <;> cases o <;> simp only [AO.kin] at hg e ⊢
      · rw [hg.2.2]; exact e
      · rw [hg.2.2]; exact e
    · unfold AV.low; exact Rel.undef
  | .itr id, v, e => by
    unfold AV.ren
    split
    · unfold AV.low; exact Rel.undef
    · unfold AV.low; exact Rel.undef
  | .sub id i n, v, e => by
    unfold AV.ren
    split
    · unfold AV.low; exact Rel.undef
    · unfold AV.low; exact Rel.undef
  | .rp id i off, v, e => by
    unfold AV.ren
    split
    · rename_i j hj
      unfold AV.low
      unfold Rel at *
      obtain ⟨h1, o, ho, e⟩ := e
      obtain ⟨o', ho', hg⟩ := hI.mem id j o hj ho
      refine ⟨h1, o', ho', ?_⟩
      cases o' <;> cases o <;> simp only [AO.kin] at hg e ⊢
      obtain ⟨rfl, h2, h3⟩ := hg
      rw [h2, h3]; exact e
    · unfold AV.low; exact Rel.undef
theorem intoL_rel {f : Nat → Option Nat} {g g' : Gh} {m m' : List AO} (hI : Into f g g' m m') : ∀ (l : List AV) (vs : List Value), Rels g m l vs → Rels g' m' (AV.lowL (AV.renL f l)) vs
  | [], vs, e => by unfold AV.renL AV.lowL; unfold Rels at *; exact e
  | a :: l, vs, e => by
    unfold AV.renL AV.lowL
    unfold Rels at *
    obtain ⟨v, rs, rfl, h1, h2⟩ := e
    exact ⟨v, rs, rfl, into_rel hI a v h1, intoL_rel hI l rs h2⟩
end
def AO.fresh : AO → AO
  | .map k v nn l _ _ _ => .map k v nn l 0 [] none | o => o
theorem dec_enc (o : AO) : decO (encO o) = o.fresh := by
  cases o with
  | map k v nn l st rem cur => cases nn <;> rfl
  | _ => rfl
/-- the objects as the callee gets them -/
def entM (m : List AO) (ord : List Nat) : List AO := (ord.map fun i => encO (((m.getD i .gone).ren (newId ord)).low)).map decO
theorem entM_some {m : List AO} {ord : List Nat} {j : Nat} {o : AO} (h : (entM m ord)[j]? = some o) : ∃ i, ord[j]? = some i ∧ o = (((m.getD i .gone).ren (newId ord)).low).fresh := by
  unfold entM at h
  rw [List.getElem?_map, List.getElem?_map] at h
  cases hj : ord[j]? with
  | none => rw [hj] at h; cases h
  | some i => rw [hj] at h; exact ⟨i, rfl, by rw [← dec_enc]; exact (Option.some.inj h).symm⟩
theorem entM_at {m : List AO} {ord : List Nat} {j i : Nat} (h : ord[j]? = some i) : (entM m ord)[j]? = some ((((m.getD i .gone).ren (newId ord)).low).fresh) := by
  unfold entM
  rw [List.getElem?_map, List.getElem?_map, h, ← dec_enc]; rfl
theorem entM_length (m : List AO) (ord : List Nat) : (entM m ord).length = ord.length := by simp [entM]
theorem ent_kin {g ge : Gh} {f : Nat → Option Nat} {i j : Nat} (hb : ge.bl j = g.bl i) (hr : ge.rv j = g.rv i) (o : AO) : o.kin g ge i j (((o.ren f).low).fresh) := by
  cases o <;> simp [AO.kin, AO.ren, AO.low, AO.fresh, hb, hr]
theorem ent_has {g ge : Gh} {f : Nat → Option Nat} {i j : Nat} (hb : ge.bl j = g.bl i) (hr : ge.rv j = g.rv i) (o : AO) {b : Nat} (h : AO.has ge j (((o.ren f).low).fresh) b) : o.has g i b := by
  cases o with
  | gone => exact h
  | box l => have h : ge.bl j = b := h; rw [hb] at h; exact h
  | row t l fr => have h : rowBlk (ge.rv j) = some b := h; rw [hr] at h; exact h
  | map k v nn l st rem cur =>
    rcases h with h | ⟨h, _⟩
    · rw [hr] at h; exact .inl h
    · cases h
theorem ent_own {g ge : Gh} {m m0 : List AO} {f : Nat → Option Nat} {i j : Nat} {o : AO} (h : OwnO g m w i o) (hI : Into f g ge m m0) (hb : ge.bl j = g.bl i) (hr : ge.rv j = g.rv i) (hn : ge.n0 = 0) : OwnO ge m0 w j (((o.ren f).low).fresh) := by
  cases o with
  | gone => trivial
  | box l =>
    obtain ⟨h1, c, T, hh, hrs, h2⟩ := h
    exact ⟨by rw [hn]; exact Nat.zero_le _, c, T, by rw [hb]; exact hh, intoL_rel hI _ _ hrs, h2⟩
  | row t l fr =>
    obtain ⟨h1, e, xs, ho, hrs⟩ := h
    exact ⟨h1, e, xs, by rw [hr, hn]; exact ho.base (fun _ _ => Nat.zero_le _), hrs.imp (fun x c hc => low_c (hI.fz fr) hc) _ _⟩
  | map k v nn l st rem cur =>
    obtain ⟨h0, h⟩ := h
    refine ⟨h0, ?_⟩
    rw [hr, hn]
    rcases h with ⟨q1, _, q3, q4⟩ | ⟨b, es, clock, e, _, hh, hs, hl, _⟩
    · exact .inl ⟨q1, by decide, q3, q4⟩
    · exact .inr ⟨b, es, clock, e, Nat.zero_le _, hh, hs, hl.mono (hI.fz false), fun h => by cases h⟩
theorem ioOf_true {g : Gh} {m : List AO} {b : Nat} : ioOf g m b = true ↔ ∃ (id : Nat) (o : AO), m[id]? = some o ∧ o.has g id b := by
  unfold ioOf; simp
theorem ioOf_false {g : Gh} {m : List AO} {b : Nat} (h : ioOf g m b = false) {id : Nat} {o : AO} (hm : m[id]? = some o) : ¬ o.has g id b := fun q => by
  have := ioOf_true.2 ⟨id, o, hm, q⟩
  rw [h] at this; cases this
theorem mpEntry_ok {m : List AO} (hW : WF w0 g m w) {ord : List Nat} (hn : nodupB ord = true) (flat : Bool) :
    ∃ ge : Gh, WF (Ent.mp w0.tb w ge (entM m ord)) ge (entM m ord) w ∧ (∀ b o, ge.fn b o = none) ∧ (∀ (j i : Nat), ord[j]? = some i → ge.bl j = g.bl i ∧ ge.rv j = g.rv i) ∧
      ge.fz = (if flat then (fun b o => if ioOf ge (entM m ord) b = true then none else w.cell? ⟨b, o, none⟩) else g.fz) ∧
      (∀ b, ioOf ge (entM m ord) b = true → ∃ (j i : Nat) (o : AO), ord[j]? = some i ∧ m[i]? = some o ∧ o.has g i b) ∧
      Into (newId ord) g ge m (entM m ord) := by
  let g1 : Gh := ⟨0, Pin.no, fun _ _ => none, fun _ _ => none, fun j => g.bl (ord.getD j 0), fun j => g.rv (ord.getD j 0), fun _ => undef⟩
  let io := ioOf g1 (entM m ord)
  let F : Fz := if flat then (fun b o => if io b = true then none else w.cell? ⟨b, o, none⟩) else g.fz
  let ge : Gh := { g1 with fz := F, pv := ⟨entM m ord, g1.bl, g1.rv, F⟩ }
  have hio : ioOf ge (entM m ord) = io := by
    funext b
    rw [Bool.eq_iff_iff]
    show ioOf ge (entM m ord) b = true ↔ ioOf g1 (entM m ord) b = true
    rw [ioOf_true, ioOf_true]
    exact ⟨fun ⟨i, o, h1, h2⟩ => ⟨i, o, h1, (has_cong o rfl rfl rfl b).1 h2⟩, fun ⟨i, o, h1, h2⟩ => ⟨i, o, h1, (has_cong o rfl rfl rfl b).2 h2⟩⟩
  have hat : ∀ (j i : Nat), ord[j]? = some i → ge.bl j = g.bl i ∧ ge.rv j = g.rv i := fun j i h => by
    have e := getD_some h
    exact ⟨by show g.bl (ord.getD j 0) = _; rw [e], by show g.rv (ord.getD j 0) = _; rw [e]⟩
  have hown : ∀ b, io b = true → ∃ (j i : Nat) (o : AO), ord[j]? = some i ∧ m[i]? = some o ∧ o.has g i b := fun b hb => by
    obtain ⟨j, o, h1, h2⟩ := ioOf_true.1 hb
    obtain ⟨i, hi, rfl⟩ := entM_some h1
    have h3 := ent_has (g := g) (i := i) (hat j i hi).1 (hat j i hi).2 _ ((has_cong _ rfl rfl rfl b).1 h2)
    rcases obj_cases ⟨[], m, 0⟩ i with hg | hm
    · have hg : m.getD i .gone = .gone := hg
      rw [hg] at h3; exact h3.elim
    · exact ⟨j, i, _, hi, hm, h3⟩
  have htbio : ∀ b cs, w0.tb b = some cs → ioOf ge (entM m ord) b = false := fun b cs e => by
    cases hq : ioOf ge (entM m ord) b with
    | false => rfl
    | true =>
      obtain ⟨_, i, q, _, h2, h3⟩ := hown b (by rw [← hio]; exact hq)
      obtain ⟨_, _, _, hh, _⟩ := hW.tbl.1 b cs e
      have hlt := (Array.getElem?_eq_some_iff.1 hh).1
      rcases hW.mine i q b h2 h3 with z | z
      · omega
      · rw [hW.tbl.2 b cs e] at z; cases z
  have hfzio : ∀ b, io b = true → ∀ o, g.fz b o = none := fun b hb o => by
    obtain ⟨j, i, q, _, h2, h3⟩ := hown b hb
    exact (hW.apart i q b h2 h3).1 o
  have hI : Into (newId ord) g ge m (entM m ord) := by
    refine ⟨fun fr b o v hv => ?_, fun i j o hf ho => ?_⟩
    · have hv : g.fz b o = some v := sel_fz (fun b o v hv => (hW.fnz b o v hv).1) hv
      show (if flat then (fun b o => if io b = true then none else w.cell? ⟨b, o, none⟩) else g.fz) b o = some v
      cases flat with
      | false => exact hv
      | true =>
        simp only [if_true]
        rw [if_neg (fun q => by rw [hfzio b q o] at hv; cases hv)]
        exact hW.fzc b o v hv
    · have hoj := newId_some hf
      have := ent_kin (g := g) (ge := ge) (f := newId ord) (hat j i hoj).1 (hat j i hoj).2 o
      refine ⟨_, entM_at hoj, ?_⟩
      rw [show m.getD i .gone = o by rw [List.getD_eq_getElem?_getD, ho]; rfl]
      exact this
  refine ⟨ge, ⟨rfl, rfl, fun b o v hv => .inl hv, Below.refl _ _, Nat.zero_le _, fun b o v hv => ?_, (fun b o v hv => by cases hv), fun j o hj => ?_, fun j o b hj hb => ?_, (fun _ _ _ => rfl), fun j o b hj hb => .inr (ioOf_true.2 ⟨j, o, hj, hb⟩), hW.tab, fun b cs e => htbio b cs e⟩, (fun _ _ => rfl), hat, ?_, fun b hb => hown b (by rw [← hio]; exact hb), hI⟩
  · have hv : (if flat then (fun b o => if io b = true then none else w.cell? ⟨b, o, none⟩) else g.fz) b o = some v := hv
    cases flat with
    | false => exact hW.fzc b o v hv
    | true =>
      simp only [if_true] at hv
      split at hv
      · cases hv
      · exact hv
  · obtain ⟨i, hi, rfl⟩ := entM_some hj
    rcases obj_cases ⟨[], m, 0⟩ i with hg | hm
    · have hg : m.getD i .gone = .gone := hg
      rw [hg]; trivial
    · exact ent_own (hW.own i _ hm) hI (hat j i hi).1 (hat j i hi).2 rfl
  · have hiob : io b = true := by rw [← hio]; exact ioOf_true.2 ⟨j, o, hj, hb⟩
    refine ⟨fun off => ?_, fun j' o' hne hj' hb' => ?_⟩
    · show (if flat then (fun b o => if io b = true then none else w.cell? ⟨b, o, none⟩) else g.fz) b off = none
      cases flat with
      | false => exact hfzio b hiob off
      | true => simp only [if_true]; rw [if_pos hiob]
    · obtain ⟨i, hi, rfl⟩ := entM_some hj
      obtain ⟨i', hi', rfl⟩ := entM_some hj'
      have h1 := ent_has (g := g) (i := i) (hat j i hi).1 (hat j i hi).2 _ hb
      have h2 := ent_has (g := g) (i := i') (hat j' i' hi').1 (hat j' i' hi').2 _ hb'
      have hii : i' ≠ i := fun e => by subst e; exact hne (nodupB_ne hn hi' hi)
      rcases obj_cases ⟨[], m, 0⟩ i with hg | hm
      · have hg : m.getD i .gone = .gone := hg
        rw [hg] at h1; exact h1.elim
      · rcases obj_cases ⟨[], m, 0⟩ i' with hg | hm'
        · have hg : m.getD i' .gone = .gone := hg
          rw [hg] at h2; exact h2.elim
        · exact (hW.apart i _ b hm h1).2 i' _ hii hm' h2
  · show (if flat then (fun b o => if io b = true then none else w.cell? ⟨b, o, none⟩) else g.fz) = _
    rw [hio]
/-! #### back to the caller -/
theorem back_place {ord : List Nat} {base j i : Nat} (hn : nodupB ord = true) (hl : ∀ (j i : Nat), ord[j]? = some i → i < base) (h : backId ord base j = some i) : place ord base i = some j := by
  unfold backId at h
  unfold place
  split at h
  · rename_i hj
    rw [if_pos (hl j i h)]
    cases hf : newId ord i with
    | none =>
      unfold newId at hf
      rw [List.findIdx?_eq_none_iff] at hf
      have := hf i (List.mem_of_getElem? h)
      simp at this
    | some j' => rw [nodupB_ne hn (newId_some hf) h]
  · rename_i hj
    cases h
    rw [if_neg (by omega)]
    congr 1; omega
theorem joined_length (ord : List Nat) (m os : List AO) : (joined ord m os).length = m.length + (os.length - ord.length) := by simp [joined]
theorem joined_some {ord : List Nat} {m os : List AO} {i : Nat} {o : AO} (h : (joined ord m os)[i]? = some o) : i < m.length + (os.length - ord.length) ∧ o = match place ord m.length i with | some j => os.getD j .gone | none => m.getD i .gone := by
  unfold joined at h
  rw [List.getElem?_map] at h
  obtain ⟨k, hk, e⟩ := Option.map_eq_some_iff.1 h
  obtain ⟨hlt, e2⟩ := List.getElem?_eq_some_iff.1 hk
  rw [List.getElem_range] at e2
  rw [List.length_range] at hlt
  subst e2
  exact ⟨hlt, e.symm⟩
theorem joined_at {ord : List Nat} {m os : List AO} {i : Nat} (h : i < m.length + (os.length - ord.length)) : (joined ord m os)[i]? = some (match place ord m.length i with | some j => os.getD j .gone | none => m.getD i .gone) := by
  unfold joined
  rw [List.getElem?_map, List.getElem?_range h]; rfl
theorem mpExit_ok {m : List AO} (hW : WF w0 g m w) {ord : List Nat} (hn : nodupB ord = true) (hl : ∀ (j i : Nat), ord[j]? = some i → i < m.length) {flat : Bool} {ge : Gh}
    (hat : ∀ (j i : Nat), ord[j]? = some i → ge.bl j = g.bl i ∧ ge.rv j = g.rv i) (hgz : flat = false → ge.fz = g.fz) (hio : ∀ b, ioOf ge (entM m ord) b = true → ∃ (j i : Nat) (o : AO), ord[j]? = some i ∧ m[i]? = some o ∧ o.has g i b)
    (hio2 : ∀ b, (∃ (j i : Nat) (o : AO), ord[j]? = some i ∧ m[i]? = some o ∧ (((o.ren (newId ord)).low).fresh).has ge j b) → ioOf ge (entM m ord) b = true)
    {out : List AO} {g' : Gh} {w' : World} (hO : WF (Ent.mp w0.tb w ge (entM m ord)) g' out w') (hfn : ∀ b o, g'.fn b o = none) (hz1 : flat = true → ∀ b o, g'.fz b o = none) (hz2 : flat = false → ∀ b o v, ge.fz b o = some v → g'.fz b o = some v)
    (hpin : ∀ (id : Nat) o, (entM m ord)[id]? = some o → ∃ o', out[id]? = some o' ∧ o.goes (pinOf ge (entM m ord)).gh g' id id o') (hst : ∀ (j : Nat) k v nn l st rem cur, j < ord.length → out[j]? = some (.map k v nn l st rem cur) → st = 2) :
    ∃ g3 : Gh, WF w0 g3 (joined ord m (out.map (AO.ren (backId ord m.length)))) w' ∧ Stays g g3 m (joined ord m (out.map (AO.ren (backId ord m.length)))) ∧ ∀ a v, Rel g' out a v → Rel g3 (joined ord m (out.map (AO.ren (backId ord m.length)))) (a.ren (backId ord m.length)) v := by
  let back := backId ord m.length
  let os := out.map (AO.ren back)
  let sel {α : Type} (F G : Nat → α) : Nat → α := fun i => match place ord m.length i with | some j => F j | none => G i
  let g3 : Gh := ⟨g.n0, g.pv, if flat then g.fz else g'.fz, g.fn, sel g'.bl g.bl, sel g'.rv g.rv, sel g'.iv g.iv⟩
  have hnin : ord.length ≤ out.length := by
    cases hlen : ord.length with
    | zero => omega
    | succ k =>
      have hk : k < (entM m ord).length := by rw [entM_length]; omega
      obtain ⟨o', ho', _⟩ := hpin k _ (List.getElem?_eq_getElem hk)
      have := (List.getElem?_eq_some_iff.1 ho').1
      omega
  have hosl : os.length = out.length := by simp [os]
  have hosj : ∀ (j : Nat) o, out[j]? = some o → os.getD j .gone = o.ren back := fun j o h => by
    rw [List.getD_eq_getElem?_getD, List.getElem?_map, h]; rfl
  -- what place says
  have hplace_lt : ∀ (i j : Nat), i < m.length + (os.length - ord.length) → place ord m.length i = some j → j < out.length ∧ back j = some i := fun i j hi hp => by
    unfold place at hp
    split at hp
    · have := newId_some hp
      have hj := (List.getElem?_eq_some_iff.1 this).1
      exact ⟨by omega, by show backId ord m.length j = _; unfold backId; rw [if_pos hj]; exact this⟩
    · cases hp
      rename_i hlt
      rw [hosl] at hi
      refine ⟨by omega, ?_⟩
      show backId ord m.length _ = _
      unfold backId
      rw [if_neg (by omega)]
      congr 1; omega
  have hback_lt : ∀ (j i : Nat), j < out.length → back j = some i → i < m.length + (os.length - ord.length) := fun j i hj hb => by
    have hb : backId ord m.length j = some i := hb
    unfold backId at hb
    split at hb
    · have := hl j i hb; omega
    · cases hb; rw [hosl]; omega
  have hmoved : ∀ (i : Nat) (o : AO) (b : Nat), m[i]? = some o → place ord m.length i = none → o.has g i b → ioOf ge (entM m ord) b = false := fun i o b hm hp hb => by
    cases hq : ioOf ge (entM m ord) b with
    | false => rfl
    | true =>
      obtain ⟨j, i', o', h1, h2, h3⟩ := hio b hq
      have hne : i ≠ i' := fun e => by
        subst e
        have hlt := hl j i h1
        unfold place at hp
        rw [if_pos hlt] at hp
        unfold newId at hp
        rw [List.findIdx?_eq_none_iff] at hp
        have := hp i (List.mem_of_getElem? h1)
        simp at this
      exact absurd hb ((hW.apart i' o' b h2 h3).2 i o hne hm)
  have hkeep : ∀ b, b < w.heap.size → ioOf ge (entM m ord) b = false → w'.heap[b]? = w.heap[b]? := hO.bx
  have hfzkeep : ∀ b o v, g.fz b o = some v → w'.cell? ⟨b, o, none⟩ = some v := fun b o v hv => by
    have hnio : ioOf ge (entM m ord) b = false := by
      cases hq : ioOf ge (entM m ord) b with
      | false => rfl
      | true =>
        obtain ⟨j, i', o', h1, h2, h3⟩ := hio b hq
        rw [(hW.apart i' o' b h2 h3).1 o] at hv; cases hv
    rw [World.cell?_of_block (w := w) (hkeep b (hW.fz_lt hv) hnio)]
    exact hW.fzc b o v hv
  have hg3fz : ∀ b o v, g.fz b o = some v → g3.fz b o = some v := fun b o v hv => by
    show (if flat then g.fz else g'.fz) b o = some v
    cases hfl : flat with
    | true => exact hv
    | false => exact hz2 hfl b o v (by rw [hgz hfl]; exact hv)
  have hG : Goes back g' g3 out (joined ord m os) := by
    refine ⟨fun b o v hv => ?_, fun b o v hv => (by rw [hfn b o] at hv; cases hv), fun j i o hb ho => ?_⟩
    · show (if flat then g.fz else g'.fz) b o = some v
      cases hfl : flat with
      | true => rw [hz1 hfl b o] at hv; cases hv
      | false => exact hv
    · have hj := (List.getElem?_eq_some_iff.1 ho).1
      have hp := back_place hn hl hb
      refine ⟨_, joined_at (hback_lt j i hj hb), ?_⟩
      rw [hp]
      show o.goes g' g3 j i (os.getD j .gone)
      rw [hosj j o ho]
      exact goes_ren (by show sel g'.bl g.bl i = _; simp only [sel, hp]) (by show sel g'.rv g.rv i = _; simp only [sel, hp]) (by show sel g'.iv g.iv i = _; simp only [sel, hp]) o
  -- every object of the joined memory
  have hobj : ∀ (i : Nat) o, (joined ord m os)[i]? = some o → (∃ (j : Nat) (q : AO), place ord m.length i = some j ∧ out[j]? = some q ∧ o = q.ren back ∧ g3.bl i = g'.bl j ∧ g3.rv i = g'.rv j ∧ g3.iv i = g'.iv j) ∨
      (place ord m.length i = none ∧ (o = .gone ∨ m[i]? = some o) ∧ g3.bl i = g.bl i ∧ g3.rv i = g.rv i ∧ g3.iv i = g.iv i) := fun i o h => by
    obtain ⟨hi, e⟩ := joined_some h
    cases hp : place ord m.length i with
    | some j =>
      rw [hp] at e
      have hj := (hplace_lt i j hi hp).1
      have ho := List.getElem?_eq_getElem hj
      exact .inl ⟨j, _, rfl, ho, by rw [e]; exact hosj j _ ho, by show sel g'.bl g.bl i = _; simp only [sel, hp], by show sel g'.rv g.rv i = _; simp only [sel, hp], by show sel g'.iv g.iv i = _; simp only [sel, hp]⟩
    | none =>
      rw [hp] at e
      refine .inr ⟨rfl, ?_, by show sel g'.bl g.bl i = _; simp only [sel, hp], by show sel g'.rv g.rv i = _; simp only [sel, hp], by show sel g'.iv g.iv i = _; simp only [sel, hp]⟩
      rw [e]
      rcases obj_cases ⟨[], m, 0⟩ i with hg | hm
      · exact .inl hg
      · exact .inr hm
  have hhas : ∀ (j : Nat) (q : AO) (i b : Nat), g3.bl i = g'.bl j → g3.rv i = g'.rv j → g3.iv i = g'.iv j → ((q.ren back).has g3 i b ↔ q.has g' j b) := fun j q i b h1 h2 h3 => has_ren q h1 h2 h3 b
  have hnew : ∀ (j : Nat) q b, out[j]? = some q → q.has g' j b → g.n0 ≤ b ∧ (w0.w.heap.size ≤ b ∨ w0.io b = true) ∧ (∀ off, g.fz b off = none) := fun j q b hq hb => by
    rcases hO.mine j q b hq hb with h | h
    · have h : w.heap.size ≤ b := h
      refine ⟨Nat.le_trans hW.base h, .inl (Nat.le_trans hW.below.size h), fun off => ?_⟩
      cases hz : g.fz b off with
      | none => rfl
      | some v => exact absurd (hW.fz_lt hz) (by omega)
    · obtain ⟨_, i', o', _, h2, h3⟩ := hio b h
      exact ⟨((hW.own i' o' h2).has_lt h3).1, hW.mine i' o' b h2 h3, (hW.apart i' o' b h2 h3).1⟩
  have hs : Stays g g3 m (joined ord m os) := by
    refine ⟨rfl, hg3fz, fun _ _ _ h => h, fun i o hm => ?_⟩
    have hilt := (List.getElem?_eq_some_iff.1 hm).1
    refine ⟨_, joined_at (by omega), ?_⟩
    cases hp : place ord m.length i with
    | none =>
      show o.goes g g3 i i (m.getD i .gone)
      rw [List.getD_eq_getElem?_getD, hm]
      have := goes_ren (f := some) (g := g) (g' := g3) (i := i) (j := i) (by show sel g'.bl g.bl i = _; simp only [sel, hp]) (by show sel g'.rv g.rv i = _; simp only [sel, hp]) (by show sel g'.iv g.iv i = _; simp only [sel, hp]) o
      cases o <;> exact this
    | some j =>
      show o.goes g g3 i i (os.getD j .gone)
      have hoj : ord[j]? = some i := by
        unfold place at hp
        rw [if_pos hilt] at hp
        exact newId_some hp
      have hjl := (List.getElem?_eq_some_iff.1 hoj).1
      obtain ⟨q, hq, hgo⟩ := hpin j _ (entM_at hoj)
      rw [hosj j q hq]
      rw [show m.getD i .gone = o by rw [List.getD_eq_getElem?_getD, hm]; rfl] at hgo
      obtain ⟨a1, a2⟩ := hat j i hoj
      have b1 : g3.bl i = g'.bl j := by show sel g'.bl g.bl i = _; simp only [sel, hp]
      have b2 : g3.rv i = g'.rv j := by show sel g'.rv g.rv i = _; simp only [sel, hp]
      cases q with
      | gone => cases o <;> trivial
      | box l' =>
        cases o <;> simp only [AO.ren, AO.low, AO.fresh, AO.goes] at hgo ⊢
        rw [b1, hgo]; exact a1
      | row t' l' fr' =>
        cases o <;> simp only [AO.ren, AO.low, AO.fresh, AO.goes] at hgo ⊢
        exact ⟨hgo.1, hgo.2.1, by rw [b2, hgo.2.2]; exact a2⟩
      | map k' v' nn' l' st' rem' cur' =>
        have hst2 := hst j _ _ _ _ _ _ _ hjl hq
        subst hst2
        cases o <;> simp only [AO.ren, AO.low, AO.fresh, AO.goes] at hgo ⊢
        exact ⟨hgo.1, hgo.2.1, by rw [b2, hgo.2.2.1]; exact a2, by simp, by simp⟩
  refine ⟨g3, ⟨hW.nn, hW.pvn, fun b o v hv => ?_, ?_, Nat.le_trans hW.base hO.below.size, fun b o v hv => ?_, fun b o v hv => ⟨hg3fz b o v (hW.fnz b o v hv).1, (hW.fnz b o v hv).2⟩, fun i o hi => ?_, fun i o b hi hb => ?_, fun k hk hkio => ?_, fun i o b hi hb => ?_, hW.tbl⟩, hs, fun a v hr => ren_rel hG a v hr⟩
  · have hv : (if flat then g.fz else g'.fz) b o = some v := hv
    cases hfl : flat with
    | true => rw [hfl] at hv; exact hW.ext b o v hv
    | false =>
      rw [hfl] at hv
      rcases hO.ext b o v hv with q | q | q
      · have q : ge.fz b o = some v := q
        rw [hgz hfl] at q
        exact hW.ext b o v q
      · exact .inr (.inl (Nat.le_trans hW.below.size q))
      · obtain ⟨_, i', o', _, h2, h3⟩ := hio b q
        exact .inr (hW.mine i' o' b h2 h3)
  · refine hW.below.trans ⟨hO.below.os, hO.below.tape, hO.below.output, hO.below.size, fun k hk => hkeep k (by have := hW.base; omega) ?_, hO.below.drawn⟩
    cases hq : ioOf ge (entM m ord) k with
    | false => rfl
    | true =>
      obtain ⟨_, i', o', _, h2, h3⟩ := hio k hq
      have := ((hW.own i' o' h2).has_lt h3).1
      omega
  · have hv : (if flat then g.fz else g'.fz) b o = some v := hv
    cases hfl : flat with
    | true => rw [hfl] at hv; exact hfzkeep b o v hv
    | false => rw [hfl] at hv; exact hO.fzc b o v hv
  · rcases hobj i o hi with ⟨j, q, _, hq, rfl, h1, h2, h3⟩ | ⟨hp, hgm, h1, h2, h3⟩
    · exact (hO.own j q hq).ren hG h1 h2 h3 (fun b hb => (hnew j q b hq hb).1) (fun _ _ => rfl)
    · rcases hgm with rfl | hm
      · trivial
      · exact (hW.own i o hm).keep hs h1 h2 h3 rfl (fun b hb => hkeep b ((hW.own i o hm).has_lt hb).2 (hmoved i o b hm hp hb))
  · have hfz3 : (∀ off, g.fz b off = none) → (flat = false → ∀ off, g'.fz b off = none) → ∀ off, g3.fz b off = none := fun q1 q2 off => by
      show (if flat then g.fz else g'.fz) b off = none
      cases hfl : flat with
      | true => exact q1 off
      | false => exact q2 hfl off
    rcases hobj i o hi with ⟨j, q, hpi, hq, rfl, h1, h2, h3⟩ | ⟨hp, hgm, h1, h2, h3⟩
    · rw [hhas j q i b h1 h2 h3] at hb
      obtain ⟨c1, c2⟩ := hO.apart j q b hq hb
      refine ⟨hfz3 (hnew j q b hq hb).2.2 (fun _ => c1), fun i' o' hne hi' => ?_⟩
      rcases hobj i' o' hi' with ⟨j', q', hpi', hq', rfl, h1', h2', h3'⟩ | ⟨hp', hgm', h1', h2', h3'⟩
      · rw [hhas j' q' i' b h1' h2' h3']
        refine c2 j' q' (fun e => ?_) hq'
        subst e
        have e1 := (hplace_lt i j' (joined_some hi).1 hpi).2
        have e2 := (hplace_lt i' j' (joined_some hi').1 hpi').2
        rw [e1] at e2
        exact hne (Option.some.inj e2).symm
      · intro hb'
        rcases hgm' with rfl | hm'
        · exact hb'.elim
        · rw [has_cong o' h1' h2' h3'] at hb'
          have hnio := hmoved i' o' b hm' hp' hb'
          rcases hO.mine j q b hq hb with h | h
          · have h : w.heap.size ≤ b := h
            have := ((hW.own i' o' hm').has_lt hb').2; omega
          · have h : ioOf ge (entM m ord) b = true := h
            rw [hnio] at h; cases h
    · rcases hgm with rfl | hm
      · exact hb.elim
      · rw [has_cong o h1 h2 h3] at hb
        obtain ⟨c1, c2⟩ := hW.apart i o b hm hb
        have hnio := hmoved i o b hm hp hb
        have hblt := ((hW.own i o hm).has_lt hb).2
        refine ⟨hfz3 c1 (fun hfl off => ?_), fun i' o' hne hi' => ?_⟩
        · cases hz : g'.fz b off with
          | none => rfl
          | some v =>
            rcases hO.ext b off v hz with q | q | q
            · have q : ge.fz b off = some v := q
              rw [hgz hfl, c1 off] at q; cases q
            · have q : w.heap.size ≤ b := q
              omega
            · have q : ioOf ge (entM m ord) b = true := q
              rw [hnio] at q; cases q
        · rcases hobj i' o' hi' with ⟨j', q', _, hq', rfl, h1', h2', h3'⟩ | ⟨hp', hgm', h1', h2', h3'⟩
          · rw [hhas j' q' i' b h1' h2' h3']
            intro hb'
            rcases hO.mine j' q' b hq' hb' with h | h
            · have h : w.heap.size ≤ b := h
              omega
            · have h : ioOf ge (entM m ord) b = true := h
              rw [hnio] at h; cases h
          · rcases hgm' with rfl | hm'
            · exact fun h => h
            · rw [has_cong o' h1' h2' h3']; exact c2 i' o' hne hm'
  · refine (hkeep k (Nat.lt_of_lt_of_le hk hW.below.size) ?_).trans (hW.bx k hk hkio)
    cases hq : ioOf ge (entM m ord) k with
    | false => rfl
    | true =>
      obtain ⟨_, i', o', _, h2, h3⟩ := hio k hq
      rcases hW.mine i' o' k h2 h3 with z | z
      · omega
      · rw [hkio] at z; cases z
  · rcases hobj i o hi with ⟨j, q, _, hq, rfl, h1, h2, h3⟩ | ⟨hp, hgm, h1, h2, h3⟩
    · rw [hhas j q i b h1 h2 h3] at hb
      exact (hnew j q b hq hb).2.1
    · rcases hgm with rfl | hm
      · exact hb.elim
      · rw [has_cong o h1 h2 h3] at hb
        exact hW.mine i o b hm hb
theorem args_rel {g1 : Gh} {σ1 : St} {a : Act} (hE1 : EnvR g1 σ1 a) (args : Array Operand) : Rels g1 σ1.mem (args.toList.map (opnd σ1)) (args.map a.eval).toList := by
  rw [Array.toList_map]
  induction args.toList with
  | nil => exact Rels.nil
  | cons c cs ih => exact Rels.cons (hE1.opnd c) ih
theorem goneAt_some : ∀ (ids : List Nat) (m : List AO) (i : Nat) (o : AO), (goneAt m ids)[i]? = some o → o = .gone ∨ (m[i]? = some o ∧ i ∉ ids)
  | [], m, i, o, h => .inr ⟨h, by simp⟩
  | k :: ids, m, i, o, h => by
    unfold goneAt at h
    rcases goneAt_some ids _ i o h with q | ⟨q1, q2⟩
    · exact .inl q
    · rcases set_some q1 with ⟨_, rfl⟩ | ⟨hne, q1⟩
      · exact .inl rfl
      · exact .inr ⟨q1, by simp [hne, q2]⟩
theorem goneAt_stays : ∀ (ids : List Nat) (m : List AO), Stays g g m (goneAt m ids)
  | [], m => Stays.refl _ _
  | k :: ids, m => by
    unfold goneAt
    exact (Stays.gone k).trans (goneAt_stays ids _)
theorem noIds_lent : ∀ (mv : List Nat) (l : List AV) (i : Nat), AV.noIds (lentAt mv i l) = true → ∀ (g : Gh) (m : List AO) (F : Fz) (n : Nat) (hfn : ∀ b o v, g.fn b o = some v → g.fz b o = some v) (hF : F = g.fz) (ge : Gh) (m0 : List AO) (ord : List Nat) (hge : ge.fz = F) (vs : List Value),
    Rels g m l vs → (∀ a v, Rel g m a v → Rel ge m0 ((a.ren (newId ord)).low) v) → Rels ge m0 (passAt mv ord [] i l) vs
  | mv, [], i, h, g, m, F, n, hfn, hF, ge, m0, ord, hge, vs, hr, hm => by unfold passAt; unfold Rels at *; exact hr
  | mv, x :: l, i, h, g, m, F, n, hfn, hF, ge, m0, ord, hge, vs, hr, hm => by
    unfold Rels at hr
    obtain ⟨v, rs, rfl, h1, h2⟩ := hr
    unfold passAt
    unfold lentAt at h
    split
    · rename_i hc
      rw [if_pos hc] at h
      exact Rels.cons (hm x v h1) (noIds_lent mv l (i + 1) h g m F n hfn hF ge m0 ord hge rs h2 hm)
    · rename_i hc
      rw [if_neg hc] at h
      unfold AV.noIds at h
      rw [Bool.and_eq_true] at h
      refine Rels.cons ?_ (noIds_lent mv l (i + 1) h.2 g m F n hfn hF ge m0 ord hge rs h2 hm)
      have hx : Rels (G0 0 ge.fz) [] [x.lendA []] [v] := Rels.cons (lendA_rel (by rw [hge, hF]; exact lends_none hfn) 0 x v (noId_rel x h.1 v h1)) Rels.nil
      have := lent_any (g' := ge) (m' := m0) rfl hx
      unfold Rels at this
      obtain ⟨_, _, e, q, _⟩ := this
      cases e; exact q
theorem pass_lent {F : Fz} : ∀ (mv : List Nat) (l : List AV) (i : Nat) (m1 : List AO) (hL : Lends g m1 F) (ge : Gh) (m0 m : List AO) (ord : List Nat) (hge : ge.fz = F) (vs : List Value),
    Rels g m l vs → (∀ a v, Rel g m a v → Rel g m1 a v) → (∀ a v, Rel g m a v → Rel ge m0 ((a.ren (newId ord)).low) v) → Rels ge m0 (passAt mv ord m1 i l) vs
  | mv, [], i, m1, hL, ge, m0, m, ord, hge, vs, hr, hm1, hm => by unfold passAt; unfold Rels at *; exact hr
  | mv, x :: l, i, m1, hL, ge, m0, m, ord, hge, vs, hr, hm1, hm => by
    unfold Rels at hr
    obtain ⟨v, rs, rfl, h1, h2⟩ := hr
    unfold passAt
    refine Rels.cons ?_ (pass_lent mv l (i + 1) m1 hL ge m0 m ord hge rs h2 hm1 hm)
    split
    · exact hm x v h1
    · have hx : Rels (G0 0 ge.fz) [] [x.lendA m1] [v] := Rels.cons (lendA_rel (by rw [hge]; exact hL) 0 x v (hm1 x v h1)) Rels.nil
      have := lent_any (g' := ge) (m' := m0) rfl hx
      unfold Rels at this
      obtain ⟨_, _, e, q, _⟩ := this
      cases e; exact q
theorem fills_st (nin : Nat) : ∀ (T : List TO) (i : Nat) (r : List AV) (j : Nat) k v nn l st rem cur, i + j < nin → (TO.fills nin i T r)[j]? = some (.map k v nn l st rem cur) → st = 2
  | [], i, r, j, k, v, nn, l, st, rem, cur, hj, h => by simp [TO.fills] at h
  | o :: T, i, r, 0, k, v, nn, l, st, rem, cur, hj, h => by
    unfold TO.fills at h
    simp only [List.getElem?_cons_zero, Option.some.injEq] at h
    rw [if_pos (by omega)] at h
    cases o with
    | gone => cases h
    | row t => cases r with
      | nil => cases h
      | cons a r =>
        simp only [TO.fill, rowAO] at h
        split at h <;> cases h
    | box ts => cases h
    | map k' v' nn' => cases r with
      | nil => cases h
      | cons a r =>
        simp only [TO.fill, mapAO] at h
        split at h
        · cases h; rfl
        · cases h
  | o :: T, i, r, j + 1, k, v, nn, l, st, rem, cur, hj, h => by
    unfold TO.fills at h
    rw [List.getElem?_cons_succ] at h
    exact fills_st nin T (i + 1) _ j k v nn l st rem cur (by omega) h
/-- a call that hands memory over -/
theorem mp_op {σ : St} {k f : Nat} {M : Mode} {dst : Option Nat} {x : Operand} {caps : List AV} {args : Array Operand} {argTypes : Array TypeId} {type : TypeId} {pos after guard} {K : St → Option ω} (hf : opnd σ x = .fn f caps) (hmd : modeAt frs argTypes.toList x f = some M)
    (h : mpK P Φ σ k f M (args.toList.map (opnd σ) ++ caps) type (fun σ v => K (σ.put dst v)) = some r) {a a2 : Act}
    (hx2 : execOp a2.eval ⟨dst, .call ⟨.value x, args, argTypes⟩, type, pos, after, guard⟩ = execOp a.eval ⟨dst, .call ⟨.value x, args, argTypes⟩, type, pos, after, guard⟩) (hE : EnvR g σ a) (hW : WF w0 g σ.mem w)
    (hΦ : ∀ f, SoundX w0.tb P f (Φ f) frs) {N : Act → World → Prop} (hN : Next w0 r K N) (Q : Exit → Act → World → Prop) :
    Oper.wp P ⟨dst, .call ⟨.value x, args, argTypes⟩, type, pos, after, guard⟩ a2 w (fun a' w' => ∃ v, a' = a2.put dst v ∧ N (a.put dst v) w' ∧ (M.mv = [] → From w w')) Q := by
  have hmode : frs.mode f = some M := by
    unfold modeAt at hmd
    cases hm : frs.mode f with
    | none => rw [hm] at hmd; cases x <;> cases hmd
    | some M' =>
      rw [hm] at hmd
      cases x with
      | func _ => exact hmd
      | tmp _ => simp only at hmd; split at hmd <;> first | exact hmd | cases hmd
      | const _ => cases hmd
      | global _ => cases hmd
  unfold mpK at h
  split at h
  · rename_i hc
    simp only [Bool.and_eq_true, decide_eq_true_eq, beq_iff_eq] at hc
    obtain ⟨hlt, htup⟩ := hc
    have e0 := hE.opnd x
    rw [hf] at e0
    unfold Rel at e0
    obtain ⟨cvs, e0, hcaps⟩ := e0
    have hrels : Rels g σ.mem (args.toList.map (opnd σ) ++ caps) (args.map a.eval ++ cvs).toList := by
      rw [Array.toList_append]
      exact Rels.append (args_rel hE args) hcaps
    obtain ⟨g1, hE1, hW1, hs1, hr1⟩ := nilArgs_ok (P := P) M.mv (args.toList.map (opnd σ) ++ caps) 0 (paramsOf P f) _ hE hW hrels
    dsimp only at h
    generalize nilArgs P M.mv 0 (paramsOf P f) σ (args.toList.map (opnd σ) ++ caps) = q at h hE1 hW1 hs1 hr1
    obtain ⟨g2, hE2, hW2, hs2⟩ := nilBoxes_ok M.mem M.mem (reach q.1.mem 3 (addNew [] (AV.idsL q.1.mem (pickAt M.mv 0 q.2)))) hE1 hW1
    generalize nilBoxes M.mem M.mem (reach q.1.mem 3 (addNew [] (AV.idsL q.1.mem (pickAt M.mv 0 q.2)))) q.1 = σ2 at h hE2 hW2 hs2
    have hr2 := Rels.mono hs2 _ _ hr1
    have hordmv : M.mv = [] → reach σ2.mem 3 (addNew [] (AV.idsL σ2.mem (pickAt M.mv 0 q.2))) = [] := fun hmv => by
      have hp : ∀ (l : List AV) i, pickAt [] i l = [] := by
        intro l
        induction l with
        | nil => intro i; rfl
        | cons a l ih => intro i; unfold pickAt; rw [if_neg (by simp)]; exact ih _
      rw [hmv, hp]
      simp [AV.idsL, addNew, reach]
    generalize reach σ2.mem 3 (addNew [] (AV.idsL σ2.mem (pickAt M.mv 0 q.2))) = ord at h hordmv
    split at h
    · rename_i hc2
      simp only [Bool.and_eq_true, List.all_eq_true, decide_eq_true_eq, beq_iff_eq] at hc2
      obtain ⟨⟨⟨hnd, hall⟩, hnin⟩, hlent⟩ := hc2
      obtain ⟨y, hy, hK⟩ := bnd_some h
      have hl : ∀ (j i : Nat), ord[j]? = some i → i < σ2.mem.length := fun j i hi => hall i (List.mem_of_getElem? hi)
      have hX := (hΦ (f + 1000000)).2 (by omega) M (by rw [Nat.add_sub_cancel]; exact hmode)
      rw [Nat.add_sub_cancel] at hX
      obtain ⟨hent, hcalls⟩ := hX _ _ _ _ hy
      obtain ⟨ge, hWe, hefn, hat, hefz, hio, hI⟩ := mpEntry_ok hW2 hnd M.flat
      have hpass : Rels ge (entM σ2.mem ord) (passAt M.mv ord (if M.flat then goneAt σ2.mem ord else []) 0 q.2) (args.map a.eval ++ cvs).toList := by
        cases hfl : M.flat with
        | true =>
          rw [hfl] at hefz
          simp only [if_true] at hefz ⊢
          refine pass_lent M.mv q.2 0 (goneAt σ2.mem ord) (F := fun b o => if ioOf ge (entM σ2.mem ord) b = true then none else w.cell? ⟨b, o, none⟩) (hW2.lends_but (fun i o hi => ?_) (fun b hb o => ?_) (goneAt_stays ord _)) ge _ _ ord hefz _ hr2 (fun a v hr => Rel.mono (goneAt_stays ord _) _ _ hr) (into_rel hI)
          · rcases goneAt_some ord _ i o hi with q1 | ⟨q1, q2⟩
            · exact .inl q1
            · refine .inr ⟨q1, fun b hb => ?_⟩
              cases hq : ioOf ge (entM σ2.mem ord) b with
              | false => rfl
              | true =>
                obtain ⟨j, i', o', h1, h2, h3⟩ := hio b hq
                have hne : i ≠ i' := fun e => by subst e; exact q2 (List.mem_of_getElem? h1)
                exact absurd hb ((hW2.apart i' o' b h2 h3).2 i o hne q1)
          · obtain ⟨j, i', o', h1, h2, h3⟩ := hio b hb
            exact (hW2.apart i' o' b h2 h3).1 o
        | false =>
          rw [hfl] at hefz hlent
          simp only [Bool.false_eq_true, if_false, Bool.false_or] at hefz hlent ⊢
          exact noIds_lent M.mv q.2 0 hlent g2 σ2.mem g2.fz 0 (fun b o v hv => (hW2.fnz b o v hv).1) rfl ge _ ord hefz _ hr2 (into_rel hI)
      have hnorm := normAs_rel (P := P) (fun b o v hv => by rw [hefn b o] at hv; cases hv) (paramsOf P f) _ _ hpass
      have hrun : (execOp a2.eval ⟨dst, .call ⟨.value x, args, argTypes⟩, type, pos, after, guard⟩).run P w = .ok (.enter f (args.map a.eval ++ cvs)) w := by
        rw [hx2]
        simp [execOp, resolve, e0, Deferred.ofValue, invoke, hent]
      unfold Oper.wp
      rw [hrun]
      refine (hcalls w ge _ hWe hefn hnorm).mono ?_
      rintro en w' ⟨v, g', rfl, hO, hres, hfn', hz1, hz2, hpin⟩
      obtain ⟨g3, hW3, hs3, hback⟩ := mpExit_ok (flat := M.flat) hW2 hnd hl hat (fun hfl => by rw [hfl] at hefz; exact hefz) hio (fun b ⟨j, i, o, h1, h2, h3⟩ => ioOf_true.2 ⟨j, _, entM_at h1, by rw [show σ2.mem.getD i .gone = o by rw [List.getD_eq_getElem?_getD, h2]; rfl]; exact h3⟩) hO hfn' hz1 hz2 hpin
        (fun j k v nn l st rem cur hj ho => fills_st M.nin M.mem 0 _ j k v nn l st rem cur (by omega) ho)
      have hE3 := hE2.step (σ' := { σ2 with mem := joined ord σ2.mem ((M.outM y).map (AO.ren (backId ord σ2.mem.length))) }) hs3 rfl
      refine ⟨v, rfl, hN g3 _ _ _ (hE3.put dst ?_) (by rw [put_mem]; exact hW3) hK, fun hmv => ?_⟩
      · split at hres
        · rename_i ht
          obtain ⟨vs, rfl, hv⟩ := hres
          rw [if_pos ht]
          unfold Rel
          have hren : ∀ (l : List AV) (vs : List Value), Rels g' (M.outM y) l vs → Rels g3 (joined ord σ2.mem ((M.outM y).map (AO.ren (backId ord σ2.mem.length)))) (AV.renL (backId ord σ2.mem.length) l) vs := by
            intro l
            induction l with
            | nil => intro vs h; unfold AV.renL; unfold Rels at *; exact h
            | cons a l ih =>
              intro vs h
              unfold Rels at h
              obtain ⟨v, rs, rfl, h1, h2⟩ := h
              unfold AV.renL
              exact Rels.cons (hback a v h1) (ih rs h2)
          exact ⟨vs, rfl, hren _ _ hv⟩
        · rename_i ht
          obtain ⟨a', ha', hv⟩ := hres
          rw [if_neg ht]
          have ha' : (TV.fills M.res (spreadF M.sh y)).1 = [a'] := ha'
          rw [ha']
          exact hback a' v hv
      · have hord := hordmv hmv
        subst hord
        refine ⟨hO.below.os, hO.below.tape, hO.below.output, hO.below.size, fun b hb => hO.bx b hb ?_, hO.below.drawn⟩
        cases hq : ioOf ge (entM σ2.mem []) b with
        | false => exact hq
        | true =>
          obtain ⟨j, _, _, h1, _⟩ := hio b hq
          simp at h1
    · cases h
  · cases h
end
end Go.Den
