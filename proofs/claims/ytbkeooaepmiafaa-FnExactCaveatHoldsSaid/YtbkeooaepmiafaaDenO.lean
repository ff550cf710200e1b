import Derived.Test.YtbkeooaepmiafaaDenN
namespace Go.Den
open Go.RowKit (Below wrap64)
set_option linter.unusedVariables false
set_option linter.unusedSimpArgs false
/-! A round's head: slots forgotten, objects numbered anew. -/
section
variable {g : Gh} {m : List AO} {w0 : Ent} {w : World}
theorem keepFrom_rel (h : Hint) : ∀ (i : Nat) (l : List AV) (vs : List Value), Rels g m l vs → Rels g m (keepFrom h i l) vs
  | _, [], vs, e => by unfold keepFrom; unfold Rels at *; exact e
  | i, a :: l, vs, e => by
    unfold keepFrom
    unfold Rels at *
    obtain ⟨v, rs, rfl, h1, h2⟩ := e
    refine ⟨v, rs, rfl, ?_, keepFrom_rel h (i + 1) l rs h2⟩
    split
    · exact h1
    · exact Rel.undef
theorem EnvR.slot {σ : St} {a : Act} (hE : EnvR g σ a) {i : Nat} {av : AV} {v : Value} (hi : a.tmps.getD i undef = v) (hr : Rel g σ.mem av v) : EnvR g { σ with env := σ.env.set i av } a := by
  refine ⟨?_, hE.dfr⟩
  have := hE.env.set i hr
  by_cases hlt : i < a.tmps.size
  · have e : a.tmps.toList.set i v = a.tmps.toList := by
      have : v = a.tmps.toList[i]'(by simpa using hlt) := by
        rw [← hi]; simp [hlt]
      rw [this, List.set_getElem_self]
    rwa [e] at this
  · have : σ.env.set i av = σ.env := List.set_eq_of_length_le (by have := hE.size; omega)
    show Rels g σ.mem (σ.env.set i av) _
    rw [this]; exact hE.env
theorem weaken_ok {g : Gh} {σ : St} {a : Act} (hE : EnvR g σ a) (hW : WF w0 g σ.mem w) {id : Nat} {t : Sh} {l : List (sem t)} {f : Bool} (hm : σ.mem[id]? = some (.row t l f)) (fr : Bool) :
    EnvR g { σ with mem := σ.mem.set id (.row t l (f && fr)) } a ∧ WF w0 g (σ.mem.set id (.row t l (f && fr))) w := by
  have hs : Stays g g σ.mem (σ.mem.set id (.row t l (f && fr))) := ⟨fun _ _ _ h => h, fun _ _ _ h => h, fun j q hj => by
    by_cases e : j = id
    · subst e
      rw [hm] at hj
      cases hj
      exact ⟨_, by rw [List.getElem?_set_self (List.getElem?_eq_some_iff.1 hm).1], by simp [AO.stays]⟩
    · exact ⟨q, by rw [List.getElem?_set_ne (fun q => e q.symm)]; exact hj, by cases q <;> simp [AO.stays]⟩⟩
  refine ⟨hE.mono hs, ⟨hW.nn, hW.ext, hW.below, hW.base, hW.fzc, hW.fnz, fun i o hi => ?_, fun i o b hi hb => ?_⟩⟩
  · rcases set_some hi with ⟨rfl, rfl⟩ | ⟨hne, hi⟩
    · obtain ⟨h1, e, xs, hown, hr⟩ := hW.own _ _ hm
      exact ⟨h1, e, xs, hown, hr.imp (fun x c hc => RepC.mono (sel_le (fun b o v hv => (hW.fnz b o v hv).1) (by simp; intro a _; exact a)) t x c hc) _ _⟩
    · exact (hW.own i o hi).keep hs rfl rfl rfl (fun _ _ => rfl)
  · have key : ∀ {j : Nat} {p : AO}, (σ.mem.set id (.row t l (f && fr)))[j]? = some p → ∃ p', σ.mem[j]? = some p' ∧ p'.blk g j = p.blk g j := fun {j p} hj => by
      rcases set_some hj with ⟨rfl, rfl⟩ | ⟨_, hj⟩
      · exact ⟨_, hm, rfl⟩
      · exact ⟨_, hj, rfl⟩
    obtain ⟨p, hp, hpb⟩ := key hi
    obtain ⟨h1, h2⟩ := hW.apart i p b hp (by rw [hpb]; exact hb)
    refine ⟨h1, fun j o' hne hj => ?_⟩
    obtain ⟨p', hp', hpb'⟩ := key hj
    rw [← hpb']; exact h2 j p' hne hp'
theorem rowFor_ok {a : Act} : ∀ (h : Hint) {g : Gh} {σ : St}, EnvR g σ a → WF w0 g σ.mem w → ∃ g', EnvR g' (rowFor σ h) a ∧ WF w0 g' (rowFor σ h).mem w
  | [], g, σ, hE, hW => ⟨g, hE, hW⟩
  | (i, .keep) :: h, g, σ, hE, hW => by unfold rowFor; exact rowFor_ok h hE hW
  | (i, .data t fr) :: h, g, σ, hE, hW => by
    unfold rowFor
    split
    · rename_i hn
      have hv := hE.get i
      rw [hn] at hv
      unfold Rel at hv
      exact rowFor_ok h (hE.slot (i := i) (av := .d (.list t) [] fr) hv (Rel.list_mk (t := t) (l := []) (Nat.le_refl _) (.inl rfl))) hW
    · rename_i t' x f hd
      have hv := hE.get i
      rw [hd] at hv
      have hle := sel_le (g := g) (fun b o v hv => (hW.fnz b o v hv).1) (f := f) (f' := f && fr) (by simp; intro a _; exact a)
      refine rowFor_ok h (hE.slot (i := i) (av := .d t' x (f && fr)) rfl ?_) hW
      unfold Rel at *
      exact hv.mono hle
    · exact rowFor_ok h hE hW
  | (i, .row t fr) :: h, g, σ, hE, hW => by
    unfold rowFor
    split
    · rename_i hn
      split
      · exact rowFor_ok h hE hW
      · rename_i ht
        have hs : Stays g { g with rv := upd g.rv σ.mem.length (.slice none 0 0) } σ.mem (σ.mem ++ [.row t [] fr]) := Stays.row _ _ _ rfl
        have hself : w.grownBy w none := ⟨rfl, rfl, rfl, Nat.le_refl _, fun _ _ _ => rfl⟩
        have hW' := hW.pushRow hself (t := t) (l := []) (fr := fr) (v' := .slice none 0 0) (xs := []) (by simp) (by simp) (World.ownsRow_nil w g.n0 0 t.size) rfl (Nat.pos_of_ne_zero ht) (fun b hb => by simp [Value.ownBlock] at hb)
        have hE1 : EnvR { g with rv := upd g.rv σ.mem.length (.slice none 0 0) } { σ with mem := σ.mem ++ [.row t [] fr] } a := hE.mono hs
        have hv := hE.get i
        rw [hn] at hv
        unfold Rel at hv
        have hE2 := hE1.slot (i := i) (av := .ref σ.mem.length) hv (by
          unfold Rel
          refine ⟨rfl, .row t [] fr, by simp, ?_⟩
          show Value.slice none 0 0 = upd g.rv σ.mem.length (.slice none 0 0) σ.mem.length
          rw [upd_same])
        exact rowFor_ok h hE2 hW'
    · rename_i id hid
      split
      · rename_i t' l f ho
        obtain ⟨hE1, hW1⟩ := weaken_ok hE hW (obj_some ho (by simp)) fr
        exact rowFor_ok h hE1 hW1
      · exact rowFor_ok h hE hW
    · exact rowFor_ok h hE hW
/-! #### numbering anew -/
def reG (g : Gh) (ord : List Nat) : Gh := { g with bl := fun j => g.bl (ord.getD j 0), rv := fun j => g.rv (ord.getD j 0) }
def reM (σ : St) (ord : List Nat) : List AO := ord.map fun i => (σ.obj i).ren ord
theorem newId_some {ord : List Nat} {id j : Nat} (h : newId ord id = some j) : ord[j]? = some id := by
  unfold newId at h
  obtain ⟨h1, h2, _⟩ := List.findIdx?_eq_some_iff_getElem.1 h
  rw [List.getElem?_eq_getElem h1]
  simpa using h2
theorem reM_some {σ : St} {ord : List Nat} {j : Nat} {o : AO} (h : (reM σ ord)[j]? = some o) : ∃ id, ord[j]? = some id ∧ o = (σ.obj id).ren ord := by
  unfold reM at h
  rw [List.getElem?_map] at h
  obtain ⟨id, hid, rfl⟩ := Option.map_eq_some_iff.1 h
  exact ⟨id, hid, rfl⟩
theorem reM_at {σ : St} {ord : List Nat} {j id : Nat} (h : ord[j]? = some id) : (reM σ ord)[j]? = some ((σ.obj id).ren ord) := by
  unfold reM
  rw [List.getElem?_map, h]; rfl
theorem obj_of {σ : St} {id : Nat} {o : AO} (h : σ.mem[id]? = some o) : σ.obj id = o := by
  unfold St.obj
  rw [List.getD_eq_getElem?_getD, h]; rfl
mutual
theorem ren_rel {σ : St} {ord : List Nat} : ∀ (a : AV) (v : Value), Rel g σ.mem a v → Rel (reG g ord) (reM σ ord) (a.ren ord) v
  | .undef, v, e => by unfold AV.ren; exact Rel.undef
  | .c c, v, e => by unfold AV.ren; rw [e.cd_inv]; exact Rel.cd (c := .bv c.val)
  | .d _ _ fr, v, e => by unfold AV.ren; unfold Rel at *; cases fr <;> exact e
  | .agg l, v, e => by
    unfold AV.ren
    unfold Rel at *
    obtain ⟨vs, rfl, hl, h1⟩ := e
    exact ⟨vs, rfl, renL_rel l _ hl, h1⟩
  | .tup l, v, e => by
    unfold AV.ren
    unfold Rel at *
    obtain ⟨vs, rfl, hl⟩ := e
    exact ⟨vs, rfl, renL_rel l _ hl⟩
  | .fp _ _ _ fr, v, e => by unfold AV.ren; unfold Rel at *; cases fr <;> exact e
  | .fb l off, v, e => by
    unfold AV.ren
    unfold Rel at *
    obtain ⟨b, o, cs, rfl, hr, h1, hz⟩ := e
    exact ⟨b, o, cs, rfl, renL_rel l _ hr, h1, hz⟩
  | .nil, v, e => by unfold AV.ren; unfold Rel at *; exact e
  | .nilp, v, e => by unfold AV.ren; unfold Rel at *; exact e
  | .fn f l, v, e => by
    unfold AV.ren
    unfold Rel at *
    obtain ⟨vs, rfl, hl⟩ := e
    exact ⟨vs, rfl, renL_rel l _ hl⟩
  | .ptr id off, v, e => by
    unfold AV.ren
    split
    · rename_i j hj
      have hoj := newId_some hj
      unfold Rel at *
      obtain ⟨h1, o, ho, e⟩ := e
      refine ⟨h1, _, reM_at hoj, ?_⟩
      rw [obj_of ho]
      cases o <;> simp only [AO.ren] at e ⊢
      show v = .pointer (some ⟨g.bl (ord.getD j 0), off, none⟩)
      rw [List.getD_eq_getElem?_getD, hoj]; exact e
    · exact Rel.undef
  | .ref id, v, e => by
    unfold AV.ren
    split
    · rename_i j hj
      have hoj := newId_some hj
      unfold Rel at *
      obtain ⟨h1, o, ho, e⟩ := e
      refine ⟨h1, _, reM_at hoj, ?_⟩
      rw [obj_of ho]
      cases o <;> simp only [AO.ren] at e ⊢
      show v = g.rv (ord.getD j 0)
      rw [List.getD_eq_getElem?_getD, hoj]; exact e
    · exact Rel.undef
  | .rp id i off, v, e => by
    unfold AV.ren
    split
    · rename_i j hj
      have hoj := newId_some hj
      unfold Rel at *
      obtain ⟨h1, o, ho, e⟩ := e
      refine ⟨h1, _, reM_at hoj, ?_⟩
      rw [obj_of ho]
      cases o <;> simp only [AO.ren] at e ⊢
      have : (reG g ord).rv j = g.rv id := by
        show g.rv (ord.getD j 0) = _
        rw [List.getD_eq_getElem?_getD, hoj]; rfl
      rw [this]; exact e
    · exact Rel.undef
theorem renL_rel {σ : St} {ord : List Nat} : ∀ (l : List AV) (vs : List Value), Rels g σ.mem l vs → Rels (reG g ord) (reM σ ord) (AV.renL ord l) vs
  | [], vs, e => by unfold AV.renL; unfold Rels at *; exact e
  | a :: l, vs, e => by
    unfold AV.renL
    unfold Rels at *
    obtain ⟨v, rs, rfl, h1, h2⟩ := e
    exact ⟨v, rs, rfl, ren_rel a v h1, renL_rel l rs h2⟩
end
theorem nodupB_ne : ∀ {l : List Nat}, nodupB l = true → ∀ {i j x : Nat}, l[i]? = some x → l[j]? = some x → i = j
  | [], _, i, j, x, hi, _ => by simp at hi
  | y :: l, h, 0, 0, x, _, _ => rfl
  | y :: l, h, 0, j + 1, x, hi, hj => by
    simp only [nodupB, Bool.and_eq_true, Bool.not_eq_true', List.contains_eq_mem, decide_eq_false_iff_not] at h
    simp at hi hj
    subst hi
    exact absurd (List.mem_of_getElem? hj) h.1
  | y :: l, h, i + 1, 0, x, hi, hj => by
    simp only [nodupB, Bool.and_eq_true, Bool.not_eq_true', List.contains_eq_mem, decide_eq_false_iff_not] at h
    simp at hi hj
    subst hj
    exact absurd (List.mem_of_getElem? hi) h.1
  | y :: l, h, i + 1, j + 1, x, hi, hj => by
    simp only [nodupB, Bool.and_eq_true] at h
    simp at hi hj
    rw [nodupB_ne h.2 hi hj]
theorem ren_blk {ord : List Nat} {j id : Nat} (h : ord[j]? = some id) (o : AO) : (o.ren ord).blk (reG g ord) j = o.blk g id := by
  have e : ord.getD j 0 = id := by rw [List.getD_eq_getElem?_getD, h]; rfl
  cases o <;> simp [AO.ren, AO.blk, reG, h]
theorem obj_cases (σ : St) (id : Nat) : σ.obj id = .gone ∨ σ.mem[id]? = some (σ.obj id) := by
  cases h : σ.mem[id]? with
  | none => left; unfold St.obj; rw [List.getD_eq_getElem?_getD, h]; rfl
  | some o => right; rw [obj_of h]
theorem number_ok {σ : St} {a : Act} (hE : EnvR g σ a) (hW : WF w0 g σ.mem w) {ord : List Nat} (hn : nodupB ord = true) :
    EnvR (reG g ord) { env := AV.renL ord σ.env, mem := reM σ ord } a ∧ WF w0 (reG g ord) (reM σ ord) w := by
  refine ⟨⟨renL_rel _ _ hE.env, hE.dfr⟩, ⟨hW.nn, hW.ext, hW.below, hW.base, hW.fzc, hW.fnz, fun j o hj => ?_, fun j o b hj hb => ?_⟩⟩
  · obtain ⟨id, hid, rfl⟩ := reM_some hj
    have e : ord.getD j 0 = id := by rw [List.getD_eq_getElem?_getD, hid]; rfl
    rcases obj_cases σ id with hg | hm
    · rw [hg]; trivial
    · have := hW.own id _ hm
      cases ho : σ.obj id with
      | gone => trivial
      | box l =>
        rw [ho] at this
        obtain ⟨h1, c, T, hh, hr, h2⟩ := this
        exact ⟨by show g.n0 ≤ g.bl (ord.getD j 0); rw [e]; exact h1, c, T, by show w.heap[g.bl (ord.getD j 0)]? = _; rw [e]; exact hh, renL_rel _ _ hr, h2⟩
      | row t l fr =>
        rw [ho] at this
        obtain ⟨h1, e2, xs, hown, hr⟩ := this
        refine ⟨h1, e2, xs, by show w.ownsRow g.n0 e2 t.size (g.rv (ord.getD j 0)) l.length xs; rw [e]; exact hown, ?_⟩
        cases fr <;> exact hr
  · obtain ⟨id, hid, rfl⟩ := reM_some hj
    rw [ren_blk hid] at hb
    rcases obj_cases σ id with hg | hm
    · rw [hg] at hb; simp [AO.blk] at hb
    · obtain ⟨h1, h2⟩ := hW.apart id _ b hm hb
      refine ⟨h1, fun j' o' hne hj' => ?_⟩
      obtain ⟨id', hid', rfl⟩ := reM_some hj'
      rw [ren_blk hid']
      have hidne : id' ≠ id := fun e => by subst e; exact hne (nodupB_ne hn hid' hid)
      rcases obj_cases σ id' with hg | hm'
      · rw [hg]; simp [AO.blk]
      · exact h2 id' _ hidne hm'
theorem canon_ok (h : Hint) {σ : St} {a : Act} (hE : EnvR g σ a) (hW : WF w0 g σ.mem w) : ∃ g', EnvR g' (canon h σ) a ∧ WF w0 g' (canon h σ).mem w := by
  unfold canon
  dsimp only
  have hE1 : EnvR g { σ with env := keepFrom h 0 σ.env } a := ⟨keepFrom_rel h 0 _ _ hE.env, hE.dfr⟩
  obtain ⟨g1, hE2, hW2⟩ := rowFor_ok h hE1 hW
  split
  · rename_i hn
    exact ⟨_, number_ok hE2 hW2 hn⟩
  · refine ⟨g, ⟨?_, hE.dfr⟩, ⟨hW.nn, hW.ext, hW.below, hW.base, hW.fzc, hW.fnz, fun j o hj => by simp at hj, fun j o b hj => by simp at hj⟩⟩
    have : ∀ (vs : List Value), Rels g [] (List.replicate vs.length .undef) vs := by
      intro vs
      induction vs with
      | nil => exact Rels.nil
      | cons v vs ih => exact Rels.cons Rel.undef ih
    have h2 := this a.tmps.toList
    rwa [show a.tmps.toList.length = σ.env.length by simpa using hE.size] at h2
end
end Go.Den
