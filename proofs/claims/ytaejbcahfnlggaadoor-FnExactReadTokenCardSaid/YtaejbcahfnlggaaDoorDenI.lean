import Derived.Test.YtaejbcahfnlggaaDoorDenH
namespace Go.Den
open Go.RowKit (wrap64)
set_option linter.unusedVariables false
set_option linter.unusedSimpArgs false
set_option linter.unnecessarySimpa false
/-! A row of one's own that is handed over. -/
def addBlk (F : Fz) (b : Option Nat) (w : World) : Fz := fun c o => if b = some c then w.cell? ⟨c, o, none⟩ else F c o
section
variable {g g' : Gh} {m m' : List AO} {w0 : Ent} {w : World}
structure Fixes (g g' : Gh) (m m' : List AO) (id : Nat) (t : Sh) (x : List (sem t)) (fr : Bool) : Prop where
  stays : Stays g g' m m'
  fnz : ∀ b o v, g'.fn b o = some v → g'.fz b o = some v
  row : m[id]? = some (.row t x fr)
  lies : ∃ a cap, g.rv id = .slice a x.length cap ∧ x.length ≤ cap ∧
    (x = [] ∨ ∃ b xs, a = some ⟨b, 0, none⟩ ∧ RepL (RepC (g'.sel fr) t) x xs ∧ ∀ (j : Nat) u, xs[j]? = some u → g'.sel fr b j = some u)
mutual
theorem fix_rel {id : Nat} {t : Sh} {x : List (sem t)} {fr : Bool} (h : Fixes g g' m m' id t x fr) : ∀ (a : AV) (v : Value), Rel g m a v → Rel g' m' (a.fix id t x fr) v
  | .undef, v, e => by unfold AV.fix; exact Rel.undef
  | .c c, v, e => by unfold AV.fix; exact Rel.mono h.stays _ _ e
  | .d _ _ _, v, e => by unfold AV.fix; exact Rel.mono h.stays _ _ e
  | .agg l, v, e => by
    unfold AV.fix
    unfold Rel at *
    obtain ⟨vs, rfl, hl, h1⟩ := e
    exact ⟨vs, rfl, fixL_rel h l _ hl, h1⟩
  | .tup l, v, e => by
    unfold AV.fix
    unfold Rel at *
    obtain ⟨vs, rfl, hl⟩ := e
    exact ⟨vs, rfl, fixL_rel h l _ hl⟩
  | .ptr _ _, v, e => by unfold AV.fix; exact Rel.mono h.stays _ _ e
  | .fp _ _ _ _, v, e => by unfold AV.fix; exact Rel.mono h.stays _ _ e
  | .fb l off, v, e => by unfold AV.fix; exact Rel.mono h.stays _ _ e
  | .ref j, v, e => by
    unfold AV.fix
    split
    · rename_i hj
      subst hj
      unfold Rel at e
      obtain ⟨_, o, ho', e⟩ := e
      rw [h.row] at ho'; cases ho'
      simp only at e
      subst e
      obtain ⟨a, cap, e1, hle, hr⟩ := h.lies
      rw [e1]
      refine Rel.list_mk hle (hr.imp (fun q => q) ?_)
      rintro ⟨b, xs, rfl, hx, hz⟩
      exact ⟨b, 0, xs, rfl, hx, fun j u hu => by rw [Nat.zero_add]; exact hz j u hu⟩
    · exact Rel.mono h.stays _ _ e
  | .rp j i off, v, e => by
    unfold AV.fix
    split
    · rename_i hj
      subst hj
      unfold Rel at e
      obtain ⟨_, o, ho', e⟩ := e
      rw [h.row] at ho'; cases ho'
      simp only at e
      obtain ⟨h0, hi, b, hb, rfl⟩ := e
      obtain ⟨a, cap, e1, hle, hr⟩ := h.lies
      have hil : i.toNat < x.length := by omega
      rcases hr with rfl | ⟨b', xs, rfl, hx, hz⟩
      · simp at hil
      · rw [e1] at hb
        have hb' : b' = b := (rowBlk_new hb).symm
        subst hb'
        unfold Rel
        refine ⟨b', i.toNat * t.size, (xs.drop (i.toNat * t.size)).take t.size, rfl, ?_, fun j u hu => ?_⟩
        · rw [show rd (dflt t) x i = x[i.toNat] by simp [rd, hil]]
          exact RepL.get (fun x c h => RepC.len t x c h) x xs hx i.toNat hil
        · rw [List.getElem?_take] at hu
          split at hu
          · rw [List.getElem?_drop] at hu
            exact sel_fz h.fnz (hz _ _ hu)
          · cases hu
    · exact Rel.mono h.stays _ _ e
  | .nil, v, e => by unfold AV.fix; exact Rel.mono h.stays _ _ e
  | .nilp, v, e => by unfold AV.fix; exact Rel.mono h.stays _ _ e
  | .nilm, v, e => by unfold AV.fix; exact Rel.mono h.stays _ _ e
  | .itr _, v, e => by unfold AV.fix; exact Rel.mono h.stays _ _ e
  | .sub _ _ _, v, e => by unfold AV.fix; exact Rel.mono h.stays _ _ e
  | .fn f l, v, e => by
    unfold AV.fix
    unfold Rel at *
    obtain ⟨vs, rfl, hl⟩ := e
    exact ⟨vs, rfl, fixL_rel h l _ hl⟩
theorem fixL_rel {id : Nat} {t : Sh} {x : List (sem t)} {fr : Bool} (h : Fixes g g' m m' id t x fr) : ∀ (l : List AV) (vs : List Value), Rels g m l vs → Rels g' m' (AV.fixL id t x fr l) vs
  | [], vs, e => by unfold AV.fixL; unfold Rels at *; exact e
  | a :: l, vs, e => by
    unfold AV.fixL
    unfold Rels at *
    obtain ⟨v, rs, rfl, h1, h2⟩ := e
    exact ⟨v, rs, rfl, fix_rel h a v h1, fixL_rel h l rs h2⟩
end
theorem freeze_ok {σ : St} {a : Act} (hE : EnvR g σ a) (hW : WF w0 g σ.mem w) (id : Nat) : ∃ g', EnvR g' (σ.freeze id) a ∧ WF w0 g' (σ.freeze id).mem w := by
  unfold St.freeze
  split
  · rename_i t x fr ho
    have hm := obj_some ho (by simp)
    obtain ⟨hpos, e, xs, hown, hrep⟩ := hW.own id _ hm
    let b := rowBlk (g.rv id)
    let g' : Gh := { g with fz := addBlk g.fz b w, fn := addBlk g.fn b w }
    have hfz : ∀ c o v, g.fz c o = some v → g'.fz c o = some v := fun c o v hv => by
      show addBlk g.fz b w c o = some v
      unfold addBlk
      split
      · exact hW.fzc c o v hv
      · exact hv
    have hfn : ∀ c o v, g.fn c o = some v → g'.fn c o = some v := fun c o v hv => by
      show addBlk g.fn b w c o = some v
      unfold addBlk
      split
      · exact hW.fzc c o v (hW.fnz c o v hv).1
      · exact hv
    have hstays : Stays g g' σ.mem ((σ.mem.set id .gone).map (AO.fix id t x fr)) := ⟨rfl, hfz, hfn, fun j o hj => by
      by_cases e : j = id
      · subst e
        refine ⟨.gone, ?_, by cases o <;> simp [AO.stays, AO.goes]⟩
        rw [List.getElem?_map, List.getElem?_set_self (List.getElem?_eq_some_iff.1 hj).1]; rfl
      · refine ⟨o.fix id t x fr, ?_, by cases o <;> simp [AO.stays, AO.goes, AO.fix, g']⟩
        rw [List.getElem?_map, List.getElem?_set_ne (fun q => e q.symm), hj]; rfl⟩
    have hblk : ∀ c, b = some c → g.n0 ≤ c := fun c hc => (hown.lt hc).1
    have hfnz : ∀ c o v, g'.fn c o = some v → g'.fz c o = some v ∧ g'.n0 ≤ c := fun c o v hv => by
      have hv : addBlk g.fn b w c o = some v := hv
      show addBlk g.fz b w c o = some v ∧ g.n0 ≤ c
      unfold addBlk at *
      split
      · rename_i hb
        rw [if_pos hb] at hv
        exact ⟨hv, hblk c hb⟩
      · rename_i hb
        rw [if_neg hb] at hv
        exact hW.fnz c o v hv
    have hsel : ∀ fr c o v, b = some c → w.cell? ⟨c, o, none⟩ = some v → g'.sel fr c o = some v := fun fr c o v hb hv => by
      cases fr <;> (unfold Gh.sel; simp only [if_true, Bool.false_eq_true, if_false]; show addBlk _ b w c o = _; unfold addBlk; rw [if_pos hb]; exact hv)
    have hfix : Fixes g g' σ.mem ((σ.mem.set id .gone).map (AO.fix id t x fr)) id t x fr := ⟨hstays, fun c o v hv => (hfnz c o v hv).1, hm, by
      rcases hown.2 with ⟨e2, a0, e1⟩ | ⟨q, cap, cur, e1, _, hg, hle, _⟩
      · exact ⟨a0, 0, by rw [e1, e2], by omega, .inl (List.eq_nil_of_length_eq_zero e2)⟩
      · have hb : b = some q := by show rowBlk (g.rv id) = _; rw [e1]; rfl
        refine ⟨_, _, e1, hle, .inr ⟨q, xs, rfl, hrep.imp (fun x c hc => RepC.mono (hstays.sel fr) t x c hc) _ _, fun j u hu => ?_⟩⟩
        exact hsel fr q j u hb (hown.cells hb j u hu)⟩
    refine ⟨g', ⟨fixL_rel hfix _ _ hE.env, hE.dfr, hstays.pin hE.pin⟩, ⟨hW.nn, hW.pvn, fun c o v hv => ?_, hW.below, hW.base, fun c o v hv => ?_, hfnz, fun i o hi => ?_, fun i o c hi hc => ?_, hW.bx, fun i o c hi hc => ?_, hW.tbl⟩⟩
    · have hv : addBlk g.fz b w c o = some v := hv
      unfold addBlk at hv
      split at hv
      · rename_i hb; exact .inr (hW.mine id _ c hm hb)
      · exact hW.ext c o v hv
    · have hv : addBlk g.fz b w c o = some v := hv
      unfold addBlk at hv
      split at hv
      · exact hv
      · exact hW.fzc c o v hv
    · rw [List.getElem?_map] at hi
      obtain ⟨q, hq, rfl⟩ := Option.map_eq_some_iff.1 hi
      rcases set_some hq with ⟨rfl, rfl⟩ | ⟨hne, hq⟩
      · trivial
      · have := hW.own i q hq
        cases q with
        | gone => trivial
        | box l =>
          obtain ⟨h1, c, T, hh, hr, h2⟩ := this
          exact ⟨h1, c, T, hh, fixL_rel hfix _ _ hr, h2⟩
        | row t' l fr' => exact this.keepAt (fun _ _ h => by cases h) hstays.sel rfl rfl rfl rfl (fun _ _ => rfl)
        | map k v nn l st rem cur => exact this.keepAt (fun _ _ h => by cases h) hstays.sel rfl rfl rfl rfl (fun _ _ => rfl)
    · rw [List.getElem?_map] at hi
      obtain ⟨q, hq, rfl⟩ := Option.map_eq_some_iff.1 hi
      rcases set_some hq with ⟨rfl, rfl⟩ | ⟨hne, hq⟩
      · exact hc.elim
      · have hc' : q.has g i c := by cases q <;> exact hc
        obtain ⟨h1, h2⟩ := hW.apart i q c hq hc'
        have hbc : b ≠ some c := fun hb => h2 id _ (fun e => hne e.symm) hm hb
        refine ⟨fun off => ?_, fun j o' hj hjo => ?_⟩
        · show addBlk g.fz b w c off = none
          unfold addBlk
          rw [if_neg hbc]; exact h1 off
        · rw [List.getElem?_map] at hjo
          obtain ⟨p, hp, rfl⟩ := Option.map_eq_some_iff.1 hjo
          rcases set_some hp with ⟨rfl, rfl⟩ | ⟨hne', hp⟩
          · exact fun h => h
          · have := h2 j p hj hp
            cases p <;> exact this
    · rw [List.getElem?_map] at hi
      obtain ⟨q, hq, rfl⟩ := Option.map_eq_some_iff.1 hi
      rcases set_some hq with ⟨rfl, rfl⟩ | ⟨hne, hq⟩
      · exact hc.elim
      · exact hW.mine i q c hq (by cases q <;> exact hc)
  · exact ⟨g, hE, hW⟩
theorem freezeAll_ok {a : Act} : ∀ (ids : List Nat) {g : Gh} {σ : St}, EnvR g σ a → WF w0 g σ.mem w → ∃ g', EnvR g' (σ.freezeAll ids) a ∧ WF w0 g' (σ.freezeAll ids).mem w
  | [], g, σ, hE, hW => ⟨g, hE, hW⟩
  | i :: ids, g, σ, hE, hW => by
    obtain ⟨g', hE', hW'⟩ := freeze_ok hE hW i
    exact freezeAll_ok ids hE' hW'
end
end Go.Den
