import Derived.Test.YtaejbcahfnlggaaDoorDenL
namespace Go.Den
open Go.RowKit (wrap64)
set_option linter.unusedVariables false
set_option linter.unusedSimpArgs false
/-! A round's head: slots forgotten, objects numbered anew. -/
section
variable {g : Gh} {m : List AO} {w0 : Ent} {w : World}
theorem keepFrom_rel (h : Hint) : ∀ (i : Nat) (l : List AV) (vs : List Value), Rels g m l vs → Rels g m (keepFrom h i l) vs
  | _, [], vs, e => by unfold keepFrom; unfold Rels at *; exact e
  | i, a :: l, vs, e => by
    unfold keepFrom
    unfold Rels at *
    obtain ⟨v, rs, rfl, h1, h2⟩ := e
    refine ⟨v, rs, rfl, ?_, keepFrom_rel h (i + 1) l rs h2⟩
    split
    · exact h1
    · exact Rel.undef
theorem EnvR.slot {σ : St} {a : Act} (hE : EnvR g σ a) {i : Nat} {av : AV} {v : Value} (hi : a.tmps.getD i undef = v) (hr : Rel g σ.mem av v) : EnvR g { σ with env := σ.env.set i av } a := by
  refine ⟨?_, hE.dfr, hE.pin⟩
  have := hE.env.set i hr
  by_cases hlt : i < a.tmps.size
  · have e : a.tmps.toList.set i v = a.tmps.toList := by
      have : v = a.tmps.toList[i]'(by simpa using hlt) := by
        rw [← hi]; simp [hlt]
      rw [this, List.set_getElem_self]
    rwa [e] at this
  · have : σ.env.set i av = σ.env := List.set_eq_of_length_le (by have := hE.size; omega)
    show Rels g σ.mem (σ.env.set i av) _
    rw [this]; exact hE.env
theorem EnvR.slotPut {σ : St} {a : Act} (hE : EnvR g σ a) {i : Nat} {av : AV} {v : Value} (hi : a.tmps.getD i undef = v) (hr : Rel g σ.mem av v) : EnvR g (σ.put (some i) av) a := by
  have := hE.slot hi hr
  exact ⟨this.env, this.dfr, hE.pin⟩
theorem weaken_ok {g : Gh} {σ : St} {a : Act} (hE : EnvR g σ a) (hW : WF w0 g σ.mem w) {id : Nat} {t : Sh} {l : List (sem t)} {f : Bool} (hm : σ.mem[id]? = some (.row t l f)) (fr : Bool) :
    EnvR g { σ with mem := σ.mem.set id (.row t l (f && fr)) } a ∧ WF w0 g (σ.mem.set id (.row t l (f && fr))) w := by
  have hs : Stays g g σ.mem (σ.mem.set id (.row t l (f && fr))) := ⟨rfl, fun _ _ _ h => h, fun _ _ _ h => h, fun j q hj => by
    by_cases e : j = id
    · subst e
      rw [hm] at hj
      cases hj
      exact ⟨_, by rw [List.getElem?_set_self (List.getElem?_eq_some_iff.1 hm).1], by simp [AO.stays, AO.goes]⟩
    · exact ⟨q, by rw [List.getElem?_set_ne (fun q => e q.symm)]; exact hj, by cases q <;> simp [AO.stays, AO.goes]⟩⟩
  refine ⟨hE.mono hs, ⟨hW.nn, hW.pvn, hW.ext, hW.below, hW.base, hW.fzc, hW.fnz, fun i o hi => ?_, fun i o b hi hb => ?_, hW.bx, fun i o b hi hb => ?_, hW.tbl⟩⟩
  · rcases set_some hi with ⟨rfl, rfl⟩ | ⟨hne, hi⟩
    · obtain ⟨h1, e, xs, hown, hr⟩ := hW.own _ _ hm
      exact ⟨h1, e, xs, hown, hr.imp (fun x c hc => RepC.mono (sel_le (fun b o v hv => (hW.fnz b o v hv).1) (by simp; intro a _; exact a)) t x c hc) _ _⟩
    · exact (hW.own i o hi).keep hs rfl rfl rfl rfl (fun _ _ => rfl)
  · have key : ∀ {j : Nat} {p : AO}, (σ.mem.set id (.row t l (f && fr)))[j]? = some p → ∃ p', σ.mem[j]? = some p' ∧ ∀ b, p'.has g j b ↔ p.has g j b := fun {j p} hj => by
      rcases set_some hj with ⟨rfl, rfl⟩ | ⟨_, hj⟩
      · exact ⟨_, hm, fun _ => Iff.rfl⟩
      · exact ⟨_, hj, fun _ => Iff.rfl⟩
    obtain ⟨p, hp, hpb⟩ := key hi
    obtain ⟨h1, h2⟩ := hW.apart i p b hp ((hpb b).2 hb)
    refine ⟨h1, fun j o' hne hj => ?_⟩
    obtain ⟨p', hp', hpb'⟩ := key hj
    exact fun q => h2 j p' hne hp' ((hpb' b).2 q)
  · rcases set_some hi with ⟨rfl, rfl⟩ | ⟨_, hi⟩
    · exact hW.mine _ _ b hm hb
    · exact hW.mine i o b hi hb
theorem dataSlot_ok {σ : St} {a : Act} (hE : EnvR g σ a) (hW : WF w0 g σ.mem w) (i : Nat) (fr : Bool) : EnvR g (dataSlot σ i fr) a ∧ WF w0 g (dataSlot σ i fr).mem w := by
  unfold dataSlot
  split
  · rename_i t' x f hd
    have hv := hE.get i
    rw [hd] at hv
    have hle := sel_le (g := g) (fun b o v hv => (hW.fnz b o v hv).1) (f := f) (f' := f && fr) (by simp; intro a _; exact a)
    refine ⟨hE.slot (i := i) (av := .d t' x (f && fr)) rfl ?_, hW⟩
    unfold Rel at *
    exact hv.mono hle
  · exact ⟨hE, hW⟩
theorem rowSlot_ok {σ : St} {a : Act} (hE : EnvR g σ a) (hW : WF w0 g σ.mem w) (i : Nat) (t : Sh) (fr : Bool) : ∃ g', EnvR g' (rowSlot σ i t fr) a ∧ WF w0 g' (rowSlot σ i t fr).mem w := by
  unfold rowSlot
  split
  · rename_i hn
    split
    · exact ⟨g, hE, hW⟩
    · rename_i ht
      have hs : Stays g { g with rv := upd g.rv σ.mem.length (.slice none 0 0) } σ.mem (σ.mem ++ [.row t [] fr]) := Stays.row _ _ _ rfl
      have hself : Grown w w none := ⟨rfl, rfl, rfl, Nat.le_refl _, fun _ _ _ => rfl, Nat.le_refl _⟩
      have hW' := hW.pushRow hself (t := t) (l := []) (fr := fr) (v' := .slice none 0 0) (xs := []) (by simp) (by simp) (OwnR.nil w g.n0 0 t.size none) rfl (Nat.pos_of_ne_zero ht) (fun b hb => by simp [rowBlk] at hb)
      have hE1 : EnvR { g with rv := upd g.rv σ.mem.length (.slice none 0 0) } { σ with mem := σ.mem ++ [.row t [] fr] } a := hE.mono hs
      have hv := hE.get i
      rw [hn] at hv
      unfold Rel at hv
      have hE2 := hE1.slot (i := i) (av := .ref σ.mem.length) hv (by
        unfold Rel
        refine ⟨rfl, .row t [] fr, by simp, ?_⟩
        show Value.slice none 0 0 = upd g.rv σ.mem.length (.slice none 0 0) σ.mem.length
        rw [upd_same])
      exact ⟨_, hE2, hW'⟩
  · rename_i id hid
    split
    · rename_i t' l f ho
      obtain ⟨hE1, hW1⟩ := weaken_ok hE hW (obj_some ho (by simp)) fr
      exact ⟨g, hE1, hW1⟩
    · exact ⟨g, hE, hW⟩
  · exact ⟨g, hE, hW⟩
theorem ownSlot_ok {σ : St} {a : Act} (hE : EnvR g σ a) (hW : WF w0 g σ.mem w) (i : Nat) : ∃ g', EnvR g' (ownSlot σ i) a ∧ WF w0 g' (ownSlot σ i).mem w := by
  unfold ownSlot
  split
  · rename_i id hid
    split
    · split
      · rename_i t l fr ho
        have hm : σ.mem[id]? = some (.row t l fr) := obj_some (σ := σ) ho (by simp)
        have h1 := hE.get i
        rw [hid] at h1
        generalize hvv : a.tmps.getD i undef = v at h1
        unfold Rel at h1
        obtain ⟨hv1, o, ho', h1⟩ := h1
        rw [hm] at ho'
        cases ho'
        simp only at h1
        obtain ⟨hpos, e, xs, hown, hrep⟩ := hW.own id _ hm
        rw [← h1] at hown
        have hE1 := hE.step (σ' := σ.setObj id .gone) (Stays.gone id) rfl
        have hW1 := hW.gone id
        rw [show (σ.mem.set id .gone) = (σ.setObj id .gone).mem from rfl] at hW1
        have hs2 : Stays g { g with rv := upd g.rv (σ.setObj id .gone).mem.length v } (σ.setObj id .gone).mem ((σ.setObj id .gone).mem ++ [.row t l fr]) := Stays.row _ _ _ rfl
        have hsame : ∀ b, rowBlk v = some b → (AO.row t l fr).has g id b := fun b hb => by
          show rowBlk (g.rv id) = some b
          rw [← h1]; exact hb
        have hE2 : EnvR { g with rv := upd g.rv (σ.setObj id .gone).mem.length v } ((σ.setObj id .gone).new (.row t l fr)) a := hE1.step (σ' := (σ.setObj id .gone).new (.row t l fr)) hs2 rfl
        have hE3 := hE2.slot (i := i) (av := .ref (σ.setObj id .gone).mem.length) hvv (by
          unfold Rel
          refine ⟨hv1, .row t l fr, by simp [St.new], ?_⟩
          show v = upd g.rv (σ.setObj id .gone).mem.length v (σ.setObj id .gone).mem.length
          rw [upd_same])
        refine ⟨_, hE3, hW1.pushRow (row := rowBlk v) (Grown.refl w _) (fun j o b hj hb hrow => ?_) (fun b hb => ?_) hown hrep hpos (fun b hb => .inl hb)⟩
        · rcases set_some hj with ⟨rfl, rfl⟩ | ⟨hne, hj⟩
          · exact hb.elim
          · exact (hW.apart id _ b hm (hsame b hrow)).2 j o hne hj hb
        · exact ⟨(hW.apart id _ b hm (hsame b hb)).1, (hW.own id _ hm).has_lt (hsame b hb), hW.mine id _ b hm (hsame b hb)⟩
      · exact ⟨g, hE, hW⟩
    · exact ⟨g, hE, hW⟩
  · exact ⟨g, hE, hW⟩
theorem boxSlot_ok {σ : St} {a : Act} (hE : EnvR g σ a) (hW : WF w0 g σ.mem w) (i c : Nat) (t : Sh) (fr : Bool) : ∃ g', EnvR g' (boxSlot σ i c t fr) a ∧ WF w0 g' (boxSlot σ i c t fr).mem w := by
  unfold boxSlot
  split
  · rename_i id off hid
    split
    · rename_i l ho
      split
      · rename_i hn
        split
        · exact ⟨g, hE, hW⟩
        · rename_i ht
          have hm : σ.mem[id]? = some (.box l) := obj_some (σ := σ) ho (by simp)
          have hs : Stays g { g with rv := upd g.rv σ.mem.length (.slice none 0 0) } σ.mem (σ.mem ++ [.row t [] fr]) := Stays.row _ _ _ rfl
          have hself : Grown w w none := ⟨rfl, rfl, rfl, Nat.le_refl _, fun _ _ _ => rfl, Nat.le_refl _⟩
          have hW1 := hW.pushRow hself (t := t) (l := []) (fr := fr) (v' := .slice none 0 0) (xs := []) (by simp) (by simp) (OwnR.nil w g.n0 0 t.size none) rfl (Nat.pos_of_ne_zero ht) (fun b hb => by simp [rowBlk] at hb)
          have hE1 : EnvR { g with rv := upd g.rv σ.mem.length (.slice none 0 0) } (σ.new (.row t [] fr)) a := hE.mono hs
          obtain ⟨hb, cc, T', hh, hr, h1⟩ := hW.own id _ hm
          obtain ⟨v, hv, hvr⟩ := hr.get hn
          unfold Rel at hvr
          subst hvr
          have ho' : (σ.mem ++ [.row t [] fr])[id]? = some (.box l) := by rw [List.getElem?_append_left (List.getElem?_eq_some_iff.1 hm).1]; exact hm
          have hr1 := Rels.mono hs _ _ hr
          have hset : cc.toList.set c (.slice none 0 0) = cc.toList := by
            apply List.ext_getElem?
            intro k
            rw [List.getElem?_set]
            split
            · rename_i e
              subst e
              rw [if_pos (List.getElem?_eq_some_iff.1 hv).1, hv]
            · rfl
          have hr2 := hr1.set c (a := .ref σ.mem.length) (v := .slice none 0 0) (by
            unfold Rel
            refine ⟨rfl, .row t [] fr, by simp, ?_⟩
            show Value.slice none 0 0 = upd g.rv σ.mem.length (.slice none 0 0) σ.mem.length
            rw [upd_same])
          rw [hset] at hr2
          have hs2 : Stays { g with rv := upd g.rv σ.mem.length (.slice none 0 0) } { g with rv := upd g.rv σ.mem.length (.slice none 0 0) } (σ.mem ++ [.row t [] fr]) (((σ.new (.row t [] fr)).setObj id (.box (l.set c (.ref σ.mem.length)))).mem) := ⟨rfl, fun _ _ _ h => h, fun _ _ _ h => h, fun j p hj => by
            by_cases e : j = id
            · subst e
              rw [ho'] at hj
              cases hj
              exact ⟨_, by show (List.set (σ.mem ++ [.row t [] fr]) j _)[j]? = _; rw [List.getElem?_set_self (List.getElem?_eq_some_iff.1 ho').1], by simp [AO.stays, AO.goes]⟩
            · exact ⟨p, by show (List.set (σ.mem ++ [.row t [] fr]) id _)[j]? = _; rw [List.getElem?_set_ne (fun q => e q.symm)]; exact hj, AO.goes.refl _ _ _⟩⟩
          have hW2 : WF w0 { g with rv := upd g.rv σ.mem.length (.slice none 0 0) } ((σ.new (.row t [] fr)).setObj id (.box (l.set c (.ref σ.mem.length)))).mem w := hW1.write ho' (by simp [AO.stays, AO.goes]) (fun _ _ _ => rfl) (Nat.le_refl _) rfl rfl rfl (Nat.le_refl _)
            ⟨((hW1.own id _ ho').has_lt (b := g.bl id) rfl).1, cc, T', hh, Rels.mono hs2 _ _ hr2, h1⟩ (fun _ h => h)
          exact ⟨_, hE1.step (σ' := (σ.new (.row t [] fr)).setObj id (.box (l.set c (.ref σ.mem.length)))) hs2 rfl, hW2⟩
      · rename_i j hj
        split
        · rename_i t' l' f ho2
          obtain ⟨hE1, hW1⟩ := weaken_ok hE hW (obj_some ho2 (by simp)) fr
          exact ⟨g, hE1, hW1⟩
        · exact ⟨g, hE, hW⟩
      · exact ⟨g, hE, hW⟩
    · exact ⟨g, hE, hW⟩
  · exact ⟨g, hE, hW⟩
theorem rowFor_ok {a : Act} : ∀ (h : Hint) {g : Gh} {σ : St}, EnvR g σ a → WF w0 g σ.mem w → ∃ g', EnvR g' (rowFor σ h) a ∧ WF w0 g' (rowFor σ h).mem w
  | [], g, σ, hE, hW => ⟨g, hE, hW⟩
  | (i, .keep) :: h, g, σ, hE, hW => by unfold rowFor; exact rowFor_ok h hE hW
  | (i, .data t fr) :: h, g, σ, hE, hW => by
    unfold rowFor
    split
    · rename_i hn
      have hv := hE.get i
      rw [hn] at hv
      unfold Rel at hv
      exact rowFor_ok h (hE.slot (i := i) (av := .d (.list t) [] fr) hv (Rel.list_mk (t := t) (l := []) (Nat.le_refl _) (.inl rfl))) hW
    · rename_i id hid
      obtain ⟨g', hE', hW'⟩ := freeze_ok hE hW id
      obtain ⟨hE2, hW2⟩ := dataSlot_ok hE' hW' i fr
      exact rowFor_ok h hE2 hW2
    · obtain ⟨hE2, hW2⟩ := dataSlot_ok hE hW i fr
      exact rowFor_ok h hE2 hW2
  | (i, .row t fr) :: h, g, σ, hE, hW => by
    unfold rowFor
    obtain ⟨g1, hE1, hW1⟩ := rowSlot_ok hE hW i t fr
    exact rowFor_ok h hE1 hW1
  | (i, .own t fr) :: h, g, σ, hE, hW => by
    unfold rowFor
    obtain ⟨g1, hE1, hW1⟩ := ownSlot_ok hE hW i
    obtain ⟨g2, hE2, hW2⟩ := rowSlot_ok hE1 hW1 i t fr
    exact rowFor_ok h hE2 hW2
  | (i, .inb c t fr) :: h, g, σ, hE, hW => by
    unfold rowFor
    obtain ⟨g1, hE1, hW1⟩ := boxSlot_ok hE hW i c t fr
    exact rowFor_ok h hE1 hW1
/-! #### numbering anew -/
/-- the objects under other numbers -/
structure Goes (f : Nat → Option Nat) (g g' : Gh) (m m' : List AO) : Prop where
  fz : ∀ b o v, g.fz b o = some v → g'.fz b o = some v
  fn : ∀ b o v, g.fn b o = some v → g'.fn b o = some v
  mem : ∀ (i j : Nat) o, f i = some j → m[i]? = some o → ∃ o', m'[j]? = some o' ∧ o.goes g g' i j o'
theorem Goes.sel {f : Nat → Option Nat} {g g' : Gh} {m m' : List AO} (h : Goes f g g' m m') (fr : Bool) : ∀ b o v, g.sel fr b o = some v → g'.sel fr b o = some v := by
  cases fr
  · exact h.fz
  · exact h.fn
mutual
theorem ren_rel {f : Nat → Option Nat} {g g' : Gh} {m m' : List AO} (hG : Goes f g g' m m') : ∀ (a : AV) (v : Value), Rel g m a v → Rel g' m' (a.ren f) v
  | .undef, v, e => by unfold AV.ren; exact Rel.undef
  | .c c, v, e => by unfold AV.ren; rw [e.cd_inv]; exact Rel.cd (c := .bv c.val)
  | .d _ _ fr, v, e => by unfold AV.ren; unfold Rel at *; exact e.mono (hG.sel fr)
  | .agg l, v, e => by
    unfold AV.ren
    unfold Rel at *
    obtain ⟨vs, rfl, hl, h1⟩ := e
    exact ⟨vs, rfl, renL_rel hG l _ hl, h1⟩
  | .tup l, v, e => by
    unfold AV.ren
    unfold Rel at *
    obtain ⟨vs, rfl, hl⟩ := e
    exact ⟨vs, rfl, renL_rel hG l _ hl⟩
  | .fp _ _ _ fr, v, e => by
    unfold AV.ren
    unfold Rel at *
    obtain ⟨b, o, cs, rfl, hr, hz⟩ := e
    exact ⟨b, o, cs, rfl, hr.mono (hG.sel fr), fun j u hu => hG.fz _ _ _ (hz j u hu)⟩
  | .fb l off, v, e => by
    unfold AV.ren
    unfold Rel at *
    obtain ⟨b, o, cs, rfl, hr, h1, hz⟩ := e
    exact ⟨b, o, cs, rfl, renL_rel hG l _ hr, h1, fun j u hu => hG.fz _ _ _ (hz j u hu)⟩
  | .nil, v, e => by unfold AV.ren; unfold Rel at *; exact e
  | .nilp, v, e => by unfold AV.ren; unfold Rel at *; exact e
  | .nilm, v, e => by unfold AV.ren; unfold Rel at *; exact e
  | .fn f l, v, e => by
    unfold AV.ren
    unfold Rel at *
    obtain ⟨vs, rfl, hl⟩ := e
    exact ⟨vs, rfl, renL_rel hG l _ hl⟩
  | .ptr id off, v, e => by
    unfold AV.ren
    split
    · rename_i j hj
      unfold Rel at *
      obtain ⟨h1, o, ho, e⟩ := e
      obtain ⟨o', ho', hg⟩ := hG.mem id j o hj ho
      refine ⟨h1, o', ho', ?_⟩
      cases o' <;> cases o <;> simp only [AO.goes] at hg e ⊢
      rw [hg]; exact e
    · exact Rel.undef
  | .ref id, v, e => by
    unfold AV.ren
    split
    · rename_i j hj
      unfold Rel at *
      obtain ⟨h1, o, ho, e⟩ := e
      obtain ⟨o', ho', hg⟩ := hG.mem id j o hj ho
      refine ⟨h1, o', ho', ?_⟩
      cases o' <;> cases o <;> simp only [AO.goes] at hg e ⊢
      · rw [hg.2.2]; exact e
      · rw [hg.2.2.1]; exact e
    · exact Rel.undef
  | .itr id, v, e => by
    unfold AV.ren
    split
    · rename_i j hj
      unfold Rel at *
      obtain ⟨h1, o, ho, e⟩ := e
      obtain ⟨o', ho', hg⟩ := hG.mem id j o hj ho
      exact ⟨h1, o', ho', itr_goes hg e⟩
    · exact Rel.undef
  | .sub id i n, v, e => by
    unfold AV.ren
    split
    · rename_i j hj
      unfold Rel at *
      obtain ⟨h1, o, ho, e⟩ := e
      obtain ⟨o', ho', hg⟩ := hG.mem id j o hj ho
      refine ⟨h1, o', ho', ?_⟩
      cases o' <;> cases o <;> simp only [AO.goes] at hg e ⊢
      obtain ⟨rfl, h2, h3⟩ := hg
      rw [h2, h3]; exact e
    · exact Rel.undef
  | .rp id i off, v, e => by
    unfold AV.ren
    split
    · rename_i j hj
      unfold Rel at *
      obtain ⟨h1, o, ho, e⟩ := e
      obtain ⟨o', ho', hg⟩ := hG.mem id j o hj ho
      refine ⟨h1, o', ho', ?_⟩
      cases o' <;> cases o <;> simp only [AO.goes] at hg e ⊢
      obtain ⟨rfl, h2, h3⟩ := hg
      rw [h2, h3]; exact e
    · exact Rel.undef
theorem renL_rel {f : Nat → Option Nat} {g g' : Gh} {m m' : List AO} (hG : Goes f g g' m m') : ∀ (l : List AV) (vs : List Value), Rels g m l vs → Rels g' m' (AV.renL f l) vs
  | [], vs, e => by unfold AV.renL; unfold Rels at *; exact e
  | a :: l, vs, e => by
    unfold AV.renL
    unfold Rels at *
    obtain ⟨v, rs, rfl, h1, h2⟩ := e
    exact ⟨v, rs, rfl, ren_rel hG a v h1, renL_rel hG l rs h2⟩
end
/-- an object under another number -/
theorem OwnO.ren {f : Nat → Option Nat} {g g' : Gh} {m m' : List AO} {w w' : World} {i j : Nat} {o : AO} (h : OwnO g m w i o) (hG : Goes f g g' m m') (hb : g'.bl j = g.bl i) (hr : g'.rv j = g.rv i) (hiv : g'.iv j = g.iv i)
    (hn : ∀ b, o.has g i b → g'.n0 ≤ b) (hk : ∀ b, o.has g i b → w'.heap[b]? = w.heap[b]?) : OwnO g' m' w' j (o.ren f) := by
  cases o with
  | gone => trivial
  | box l =>
    obtain ⟨h1, c, T, hh, hrs, h2⟩ := h
    exact ⟨by rw [hb]; exact hn _ rfl, c, T, by rw [hb, hk _ rfl]; exact hh, renL_rel hG _ _ hrs, h2⟩
  | row t l fr =>
    obtain ⟨h1, e, xs, ho, hrs⟩ := h
    exact ⟨h1, e, xs, by rw [hr]; exact (ho.kept hk).base hn, hrs.imp (fun x c hc => RepC.mono (hG.sel fr) t x c hc) _ _⟩
  | map k v nn l st rem cur =>
    obtain ⟨h0, h⟩ := h
    refine ⟨h0, ?_⟩
    rw [hr, hiv]
    refine h.imp id ?_
    rintro ⟨b, es, clock, e, h1, hh, hs, hl, hit⟩
    have hbh : AO.has g i (.map k v nn l st rem cur) b := .inl (by rw [e]; rfl)
    refine ⟨b, es, clock, e, hn b hbh, by rw [hk b hbh]; exact hh, hs, hl.mono hG.fz, fun h1 => ?_⟩
    obtain ⟨c, seen, e2, h2, hc, h3, h4, h5⟩ := hit h1
    have hch : AO.has g i (.map k v nn l st rem cur) c := .inr ⟨h1, c, e2, rfl⟩
    exact ⟨c, seen, e2, hn c hch, hc, by rw [hk c hch]; exact h3, h4.mono hG.fz, fun p hp => by cases hp⟩
theorem has_ren {f : Nat → Option Nat} {g g' : Gh} {i j : Nat} (o : AO) (hb : g'.bl j = g.bl i) (hr : g'.rv j = g.rv i) (hiv : g'.iv j = g.iv i) (b : Nat) : (o.ren f).has g' j b ↔ o.has g i b := by
  cases o <;> simp only [AO.has, AO.ren, hb, hr, hiv]
def reG (g : Gh) (ord : List Nat) : Gh := { g with bl := fun j => g.bl (ord.getD j 0), rv := fun j => g.rv (ord.getD j 0), iv := fun j => g.iv (ord.getD j 0) }
def reM (σ : St) (ord : List Nat) : List AO := ord.map fun i => (σ.obj i).ren (newId ord)
theorem newId_some {ord : List Nat} {id j : Nat} (h : newId ord id = some j) : ord[j]? = some id := by
  unfold newId at h
  obtain ⟨h1, h2, _⟩ := List.findIdx?_eq_some_iff_getElem.1 h
  rw [List.getElem?_eq_getElem h1]
  simpa using h2
theorem reM_some {σ : St} {ord : List Nat} {j : Nat} {o : AO} (h : (reM σ ord)[j]? = some o) : ∃ id, ord[j]? = some id ∧ o = (σ.obj id).ren (newId ord) := by
  unfold reM at h
  rw [List.getElem?_map] at h
  obtain ⟨id, hid, rfl⟩ := Option.map_eq_some_iff.1 h
  exact ⟨id, hid, rfl⟩
theorem reM_at {σ : St} {ord : List Nat} {j id : Nat} (h : ord[j]? = some id) : (reM σ ord)[j]? = some ((σ.obj id).ren (newId ord)) := by
  unfold reM
  rw [List.getElem?_map, h]; rfl
theorem obj_of {σ : St} {id : Nat} {o : AO} (h : σ.mem[id]? = some o) : σ.obj id = o := by
  unfold St.obj
  rw [List.getD_eq_getElem?_getD, h]; rfl
theorem goes_ren {f : Nat → Option Nat} {g g' : Gh} {i j : Nat} (hb : g'.bl j = g.bl i) (hr : g'.rv j = g.rv i) (hiv : g'.iv j = g.iv i) (o : AO) : o.goes g g' i j (o.ren f) := by
  cases o <;> simp [AO.goes, AO.ren, hb, hr, hiv]
theorem getD_some {ord : List Nat} {j id : Nat} (h : ord[j]? = some id) : ord.getD j 0 = id := by rw [List.getD_eq_getElem?_getD, h]; rfl
theorem reGoes (g : Gh) (σ : St) (ord : List Nat) : Goes (newId ord) g (reG g ord) σ.mem (reM σ ord) where
  fz := fun _ _ _ h => h
  fn := fun _ _ _ h => h
  mem := fun i j o hf ho => by
    have hoj := newId_some hf
    refine ⟨_, reM_at hoj, ?_⟩
    rw [obj_of ho]
    have e := getD_some hoj
    exact goes_ren (by show g.bl (ord.getD j 0) = _; rw [e]) (by show g.rv (ord.getD j 0) = _; rw [e]) (by show g.iv (ord.getD j 0) = _; rw [e]) o
theorem nodupB_ne : ∀ {l : List Nat}, nodupB l = true → ∀ {i j x : Nat}, l[i]? = some x → l[j]? = some x → i = j
  | [], _, i, j, x, hi, _ => by simp at hi
  | y :: l, h, 0, 0, x, _, _ => rfl
  | y :: l, h, 0, j + 1, x, hi, hj => by
    simp only [nodupB, Bool.and_eq_true, Bool.not_eq_true', List.contains_eq_mem, decide_eq_false_iff_not] at h
    simp at hi hj
    subst hi
    exact absurd (List.mem_of_getElem? hj) h.1
  | y :: l, h, i + 1, 0, x, hi, hj => by
    simp only [nodupB, Bool.and_eq_true, Bool.not_eq_true', List.contains_eq_mem, decide_eq_false_iff_not] at h
    simp at hi hj
    subst hj
    exact absurd (List.mem_of_getElem? hi) h.1
  | y :: l, h, i + 1, j + 1, x, hi, hj => by
    simp only [nodupB, Bool.and_eq_true] at h
    simp at hi hj
    rw [nodupB_ne h.2 hi hj]
theorem obj_cases (σ : St) (id : Nat) : σ.obj id = .gone ∨ σ.mem[id]? = some (σ.obj id) := by
  cases h : σ.mem[id]? with
  | none => left; unfold St.obj; rw [List.getD_eq_getElem?_getD, h]; rfl
  | some o => right; rw [obj_of h]
theorem addNew_pre : ∀ (l acc : List Nat), ∃ s, addNew acc l = acc ++ s
  | [], acc => ⟨[], by simp [addNew]⟩
  | i :: l, acc => by
    unfold addNew
    obtain ⟨s, hs⟩ := addNew_pre l (if acc.contains i then acc else acc ++ [i])
    rw [hs]
    split
    · exact ⟨s, rfl⟩
    · exact ⟨i :: s, by simp⟩
theorem reach_pre (m : List AO) : ∀ (n : Nat) (acc : List Nat), ∃ s, reach m n acc = acc ++ s
  | 0, acc => ⟨[], by simp [reach]⟩
  | n + 1, acc => by
    unfold reach
    obtain ⟨s, hs⟩ := addNew_pre (acc.flatMap (boxIds m)) acc
    obtain ⟨s', hs'⟩ := reach_pre m n (addNew acc (acc.flatMap (boxIds m)))
    exact ⟨s ++ s', by rw [hs', hs, List.append_assoc]⟩
theorem reach_range (m : List AO) (n p : Nat) (l : List Nat) : ∃ s, reach m n (addNew (List.range p) l) = List.range p ++ s := by
  obtain ⟨s, hs⟩ := addNew_pre l (List.range p)
  obtain ⟨s', hs'⟩ := reach_pre m n (addNew (List.range p) l)
  exact ⟨s ++ s', by rw [hs', hs, List.append_assoc]⟩
theorem number_ok {σ : St} {a : Act} (hE : EnvR g σ a) (hW : WF w0 g σ.mem w) {ord : List Nat} (hn : nodupB ord = true) (hp : ∃ s, ord = List.range σ.pin ++ s) :
    EnvR (reG g ord) { env := AV.renL (newId ord) σ.env, mem := reM σ ord, pin := σ.pin } a ∧ WF w0 (reG g ord) (reM σ ord) w := by
  have hG := reGoes g σ ord
  refine ⟨⟨renL_rel hG _ _ hE.env, hE.dfr, hE.pin.1, fun id o ho => ?_, hE.pin.2.2⟩, ⟨hW.nn, hW.pvn, hW.ext, hW.below, hW.base, hW.fzc, hW.fnz, fun j o hj => ?_, fun j o b hj hb => ?_, hW.bx, fun j o b hj hb => ?_, hW.tbl⟩⟩
  · obtain ⟨o1, h1, h2⟩ := hE.pin.2.1 id o ho
    have hlt : id < σ.pin := by rw [hE.pin.1]; exact (List.getElem?_eq_some_iff.1 ho).1
    have hid : ord[id]? = some id := by
      obtain ⟨s, rfl⟩ := hp
      rw [List.getElem?_append_left (by simpa using hlt)]
      simp [hlt]
    have e := getD_some hid
    refine ⟨_, reM_at hid, h2.trans ?_⟩
    rw [obj_of h1]
    exact goes_ren (by show g.bl (ord.getD id 0) = _; rw [e]) (by show g.rv (ord.getD id 0) = _; rw [e]) (by show g.iv (ord.getD id 0) = _; rw [e]) o1
  · obtain ⟨id, hid, rfl⟩ := reM_some hj
    have e := getD_some hid
    rcases obj_cases σ id with hg | hm
    · rw [hg]; trivial
    · exact (hW.own id _ hm).ren hG (by show g.bl (ord.getD j 0) = _; rw [e]) (by show g.rv (ord.getD j 0) = _; rw [e]) (by show g.iv (ord.getD j 0) = _; rw [e]) (fun b hb => ((hW.own id _ hm).has_lt hb).1) (fun _ _ => rfl)
  · obtain ⟨id, hid, rfl⟩ := reM_some hj
    have e := getD_some hid
    rw [has_ren (g := g) (i := id) (σ.obj id) (by show g.bl (ord.getD j 0) = _; rw [e]) (by show g.rv (ord.getD j 0) = _; rw [e]) (by show g.iv (ord.getD j 0) = _; rw [e])] at hb
    rcases obj_cases σ id with hg | hm
    · rw [hg] at hb; exact hb.elim
    · obtain ⟨h1, h2⟩ := hW.apart id _ b hm hb
      refine ⟨h1, fun j' o' hne hj' => ?_⟩
      obtain ⟨id', hid', rfl⟩ := reM_some hj'
      have e' := getD_some hid'
      rw [has_ren (g := g) (i := id') (σ.obj id') (by show g.bl (ord.getD j' 0) = _; rw [e']) (by show g.rv (ord.getD j' 0) = _; rw [e']) (by show g.iv (ord.getD j' 0) = _; rw [e'])]
      have hidne : id' ≠ id := fun e => by subst e; exact hne (nodupB_ne hn hid' hid)
      rcases obj_cases σ id' with hg | hm'
      · rw [hg]; exact fun h => h
      · exact h2 id' _ hidne hm'
  · obtain ⟨id, hid, rfl⟩ := reM_some hj
    have e := getD_some hid
    rw [has_ren (g := g) (i := id) (σ.obj id) (by show g.bl (ord.getD j 0) = _; rw [e]) (by show g.rv (ord.getD j 0) = _; rw [e]) (by show g.iv (ord.getD j 0) = _; rw [e])] at hb
    rcases obj_cases σ id with hg | hm
    · rw [hg] at hb; exact hb.elim
    · exact hW.mine id _ b hm hb
theorem canon_ok (h : Hint) {σ : St} {a : Act} (hE : EnvR g σ a) (hW : WF w0 g σ.mem w) : ∃ g', EnvR g' (canon h σ) a ∧ WF w0 g' (canon h σ).mem w := by
  unfold canon
  dsimp only
  have hE1 : EnvR g { σ with env := keepFrom h 0 σ.env } a := ⟨keepFrom_rel h 0 _ _ hE.env, hE.dfr, hE.pin⟩
  obtain ⟨g1, hE2, hW2⟩ := rowFor_ok h hE1 hW
  split
  · rename_i hn
    exact ⟨_, number_ok hE2 hW2 hn (reach_range _ _ _ _)⟩
  · refine ⟨g1, ⟨?_, hE2.dfr, hE2.pin.1, fun id o ho => ?_, hE2.pin.2.2⟩, ⟨hW2.nn, hW2.pvn, hW2.ext, hW2.below, hW2.base, hW2.fzc, hW2.fnz, fun j o hj => ?_, fun j o b hj hb => ?_, hW2.bx, fun j o b hj hb => ?_, hW2.tbl⟩⟩
    · have : ∀ (m : List AO) (vs : List Value), Rels g1 m (List.replicate vs.length .undef) vs := by
        intro m vs
        induction vs with
        | nil => exact Rels.nil
        | cons v vs ih => exact Rels.cons Rel.undef ih
      have h2 := this (List.replicate (rowFor { σ with env := keepFrom h 0 σ.env } h).pin .gone) a.tmps.toList
      rwa [show a.tmps.toList.length = (rowFor { σ with env := keepFrom h 0 σ.env } h).env.length by simpa using hE2.size] at h2
    · have hlt : id < (rowFor { σ with env := keepFrom h 0 σ.env } h).pin := by rw [hE2.pin.1]; exact (List.getElem?_eq_some_iff.1 ho).1
      exact ⟨.gone, by simp [hlt], by cases o <;> simp [AO.goes]⟩
    · have : o = .gone := by
        rw [List.getElem?_replicate] at hj
        split at hj
        · exact (Option.some.inj hj).symm
        · cases hj
      rw [this]; trivial
    all_goals
      have : o = .gone := by
        rw [List.getElem?_replicate] at hj
        split at hj
        · exact (Option.some.inj hj).symm
        · cases hj
      rw [this] at hb; exact hb.elim
end
end Go.Den
