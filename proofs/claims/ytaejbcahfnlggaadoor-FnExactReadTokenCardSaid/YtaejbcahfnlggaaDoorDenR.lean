import Derived.Test.YtaejbcahfnlggaaDoorDenQ
namespace Go.Den
open Go.RowKit (wrap64)
set_option linter.unusedVariables false
set_option linter.unusedSimpArgs false
/-! Functions. -/
section
variable {P : Program} {g : Gh} {ω : Type} {r : ω} {w0 : Ent} {w : World}
/-- what the state's own rows hold, read as data -/
structure Views (g g' : Gh) (m : List AO) : Prop where
  fz : ∀ b o v, g.fz b o = some v → g'.fz b o = some v
  fn : ∀ b o v, g.fn b o = some v → g'.fn b o = some v
  fnz : ∀ b o v, g'.fn b o = some v → g'.fz b o = some v
  row : ∀ id t l fr, m[id]? = some (.row t l fr) → ∃ a cap, g.rv id = .slice a l.length cap ∧ l.length ≤ cap ∧
    (l = [] ∨ ∃ b xs, a = some ⟨b, 0, none⟩ ∧ RepL (RepC (g.sel fr) t) l xs ∧ ∀ (j : Nat) u, xs[j]? = some u → g'.fn b j = some u)
theorem Views.sel {g g' : Gh} {m : List AO} (h : Views g g' m) (fr : Bool) : ∀ b o v, g.sel fr b o = some v → g'.sel fr b o = some v := by
  cases fr
  · exact h.fz
  · exact h.fn
theorem Views.any {g g' : Gh} {m : List AO} (h : Views g g' m) (fr : Bool) {b o : Nat} {v : Value} (hv : g'.fn b o = some v) : g'.sel fr b o = some v := by
  cases fr
  · exact h.fnz b o v hv
  · exact hv
mutual
theorem view_rel {g' : Gh} {m : List AO} (h : Views g g' m) : ∀ (a : AV) (v : Value), Rel g m a v → Rel g' [] (a.view m) v
  | .undef, v, e => by unfold AV.view; exact Rel.undef
  | .c c, v, e => by unfold AV.view; unfold Rel at *; exact e
  | .d t x fr, v, e => by unfold AV.view; unfold Rel at *; exact e.mono (h.sel fr)
  | .agg l, v, e => by
    unfold AV.view
    unfold Rel at *
    obtain ⟨vs, rfl, hl, h1⟩ := e
    exact ⟨vs, rfl, views_rel h l _ hl, h1⟩
  | .tup l, v, e => by
    unfold AV.view
    unfold Rel at *
    obtain ⟨vs, rfl, hl⟩ := e
    exact ⟨vs, rfl, views_rel h l _ hl⟩
  | .ptr id off, v, e => by unfold AV.view; exact Rel.undef
  | .fp t x off fr, v, e => by
    unfold AV.view
    unfold Rel at *
    obtain ⟨b, o, cs, rfl, hr, hz⟩ := e
    exact ⟨b, o, cs, rfl, hr.mono (h.sel fr), fun j u hu => h.fz _ _ _ (hz j u hu)⟩
  | .fb l off, v, e => by
    unfold AV.view
    unfold Rel at *
    obtain ⟨b, o, cs, rfl, hr, h1, hz⟩ := e
    exact ⟨b, o, cs, rfl, views_rel h l _ hr, h1, fun j u hu => h.fz _ _ _ (hz j u hu)⟩
  | .ref id, v, e => by
    unfold AV.view
    split
    · rename_i t l fr ho
      have hm : m[id]? = some (.row t l fr) := obj_some (σ := ⟨[], m, 0⟩) ho (by simp)
      unfold Rel at e
      obtain ⟨_, o, ho', e⟩ := e
      rw [hm] at ho'; cases ho'
      simp only at e
      subst e
      obtain ⟨a, cap, e1, hle, hr⟩ := h.row id t l fr hm
      rw [e1]
      refine Rel.list_mk hle (hr.imp (fun q => q) ?_)
      rintro ⟨b, xs, rfl, hx, hz⟩
      exact ⟨b, 0, xs, rfl, hx.imp (fun x c hc => RepC.mono (h.sel fr) t x c hc) _ _, fun j u hu => by rw [Nat.zero_add]; exact h.any fr (hz j u hu)⟩
    · exact Rel.undef
  | .rp id i off, v, e => by
    unfold AV.view
    split
    · rename_i t l fr ho
      have hm : m[id]? = some (.row t l fr) := obj_some (σ := ⟨[], m, 0⟩) ho (by simp)
      unfold Rel at e
      obtain ⟨_, o, ho', e⟩ := e
      rw [hm] at ho'; cases ho'
      simp only at e
      obtain ⟨h0, hi, b, hb, rfl⟩ := e
      obtain ⟨a, cap, e1, hle, hr⟩ := h.row id t l fr hm
      have hil : i.toNat < l.length := by omega
      rcases hr with rfl | ⟨b', xs, rfl, hx, hz⟩
      · simp at hil
      · rw [e1] at hb
        have hb' : b' = b := (rowBlk_new hb).symm
        subst hb'
        unfold Rel
        refine ⟨b', i.toNat * t.size, (xs.drop (i.toNat * t.size)).take t.size, rfl, ?_, fun j u hu => ?_⟩
        · rw [show rd (dflt t) l i = l[i.toNat] by simp [rd, hil]]
          exact (RepL.get (fun x c h => RepC.len t x c h) l xs hx i.toNat hil).mono (h.sel fr)
        · rw [List.getElem?_take] at hu
          split at hu
          · rw [List.getElem?_drop] at hu
            exact h.fnz _ _ _ (hz _ _ hu)
          · cases hu
    · exact Rel.undef
  | .nil, v, e => by unfold AV.view; unfold Rel at *; exact e
  | .nilp, v, e => by unfold AV.view; unfold Rel at *; exact e
  | .nilm, v, e => by unfold AV.view; unfold Rel at *; exact e
  | .itr _, v, e => by unfold AV.view; exact Rel.undef
  | .sub id i n, v, e => by
    unfold AV.view
    split
    · rename_i t l fr ho
      have hm : m[id]? = some (.row t l fr) := obj_some (σ := ⟨[], m, 0⟩) ho (by simp)
      unfold Rel at e
      obtain ⟨_, o, ho', e⟩ := e
      rw [hm] at ho'; cases ho'
      simp only at e
      obtain ⟨h0, h1, h2, rfl⟩ := e
      obtain ⟨a, cap, e1, hle, hr⟩ := h.row id t l fr hm
      rw [e1]
      have hcut : (cut l i (addI i n)).length = n.toNat := by rw [cut_len (α := sem t) l (by unfold addI; omega)]; unfold addI; omega
      have hlist := Rel.list_mk (g := g') (m := []) (t := t) (l := cut l i (addI i n)) (fr := fr) (a := if cap = i.toNat then a else a.map (·.add (i.toNat * t.size))) (cap := cap - i.toNat) (by rw [hcut]; omega) (by
        by_cases he : cap = i.toNat
        · left
          apply List.eq_nil_of_length_eq_zero
          rw [hcut]; omega
        · rw [if_neg he]
          rcases hr with rfl | ⟨b, xs, rfl, hx, hz⟩
          · left; simp [cut]
          · right
            refine ⟨b, i.toNat * t.size, (xs.take ((addI i n).toNat * t.size)).drop (i.toNat * t.size), by simp [addr_add], ?_, fun q u hu => ?_⟩
            · exact (RepL.drop (fun x c h => RepC.len t x c h) _ _ (RepL.take (fun x c h => RepC.len t x c h) l xs hx (addI i n).toNat) i.toNat).imp (fun x c hc => RepC.mono (h.sel fr) t x c hc) _ _
            · rw [List.getElem?_drop, List.getElem?_take] at hu
              split at hu
              · exact h.any fr (hz _ _ hu)
              · cases hu)
      rw [hcut] at hlist
      exact hlist
    · exact Rel.undef
  | .fn f l, v, e => by
    unfold AV.view
    unfold Rel at *
    obtain ⟨vs, rfl, hl⟩ := e
    exact ⟨vs, rfl, views_rel h l _ hl⟩
theorem views_rel {g' : Gh} {m : List AO} (h : Views g g' m) : ∀ (l : List AV) (vs : List Value), Rels g m l vs → Rels g' [] (AV.views m l) vs
  | [], vs, e => by unfold AV.views; unfold Rels at *; exact e
  | a :: l, vs, e => by
    unfold AV.views
    unfold Rels at *
    obtain ⟨v, rs, rfl, h1, h2⟩ := e
    exact ⟨v, rs, rfl, view_rel h a v h1, views_rel h l rs h2⟩
end
/-- the fixed cells when a call has ended: what was fixed, and all of its own memory -/
def endFz (w0 : Ent) (w : World) : Fz := fun b o => if w0.w.heap.size ≤ b then w.cell? ⟨b, o, none⟩ else w0.fz b o
def endFn (w0 : Ent) (w : World) : Fz := fun b o => if w0.w.heap.size ≤ b then w.cell? ⟨b, o, none⟩ else none
theorem end_views {m : List AO} (hn : w0.n0 = w0.w.heap.size) (hio : ∀ b, w0.io b = false) (h : WF w0 g m w) : Views g { g with fz := endFz w0 w, fn := endFn w0 w } m where
  fz := fun b o v hv => by
    show endFz w0 w b o = some v
    unfold endFz
    split
    · exact h.fzc b o v hv
    · rename_i hno
      rcases h.ext b o v hv with q | q | q
      · exact q
      · exact absurd q hno
      · rw [hio b] at q; cases q
  fn := fun b o v hv => by
    show endFn w0 w b o = some v
    obtain ⟨h1, h2⟩ := h.fnz b o v hv
    unfold endFn
    rw [if_pos (by rw [← hn, ← h.nn]; exact h2)]
    exact h.fzc b o v h1
  fnz := fun b o v hv => by
    have hv : endFn w0 w b o = some v := hv
    show endFz w0 w b o = some v
    unfold endFn at hv
    unfold endFz
    split at hv
    · rename_i hle; rw [if_pos hle]; exact hv
    · cases hv
  row := fun id t l fr hm => by
    obtain ⟨_, e, xs, hown, hr⟩ := h.own id _ hm
    rcases hown.2 with ⟨e2, a0, e1⟩ | ⟨q, cap, cur, e1, hb, hg, hle, _⟩
    · exact ⟨a0, 0, by rw [e1, e2], by omega, .inl (List.eq_nil_of_length_eq_zero e2)⟩
    · refine ⟨_, _, e1, hle, .inr ⟨q, xs, rfl, hr, fun j u hu => ?_⟩⟩
      have := hown.cells (q := q) (by rw [e1]; rfl) j u hu
      show endFn w0 w q j = some u
      unfold endFn
      rw [if_pos (by rw [← hn, ← h.nn]; exact hb)]
      exact this
/-- what the results' variables hold -/
def resF (tmps : Array Value) : ResultVar → Sem Value
  | .tmp t => pure (tmps.getD t undef)
  | .cell b t => do loadVar t (← asAddr (tmps.getD b undef))
theorem results_eq (fn : Func) (tmps : Array Value) : results fn tmps = (do let vs ← fn.results.mapM (resF tmps); pure (if h : vs.size = 1 then vs[0] else .tuple vs)) := by
  unfold results
  congr 1
theorem resK_ok {σ : St} {a : Act} (hE : EnvR g σ a) (hW : WF w0 g σ.mem w) {α : Type} {q : α} : ∀ (rs : List ResultVar) (K : List AV → Option α), resK P σ rs K = some q →
    ∃ l vs, K l = some q ∧ Rels g σ.mem l vs ∧ vs.length = rs.length ∧ (rs.mapM (resF a.tmps)).run P w = .ok vs w
  | [], K, h => ⟨[], [], h, Rels.nil, rfl, by simp⟩
  | .tmp t :: rs, K, h => by
    simp only [resK] at h
    obtain ⟨l, vs, h1, h2, h4, h3⟩ := resK_ok hE hW rs _ h
    refine ⟨_, _ :: vs, h1, Rels.cons (hE.get t) h2, by simp [h4], ?_⟩
    simp only [List.mapM_cons, Sem.run_bind, resF, Sem.run_pure, Result.andThen_ok, h3]
  | .cell b t :: rs, K, h => by
    simp only [resK] at h
    obtain ⟨av, v, h1, h2, h3⟩ := loadK_ok h (hE.get b) hW
    obtain ⟨l, vs, h4, h5, h7, h6⟩ := resK_ok hE hW rs _ h1
    have hld := h3 w (Below.refl _ _)
    refine ⟨_, v :: vs, h4, Rels.cons h2 h5, by simp [h7], ?_⟩
    have key : (resF a.tmps (.cell b t)).run P w = .ok v w := by
      show (do loadVar t (← asAddr (a.tmps.getD b undef)) : Sem Value).run P w = .ok v w
      generalize a.tmps.getD b undef = pv at hld ⊢
      cases pv <;> first | (simp [Instr.loadAt, Instr.sureAddr] at hld; done) | skip
      rename_i ad
      cases ad with
      | none => simp [Instr.loadAt, Instr.sureAddr] at hld
      | some ad => simpa [Instr.loadAt, Instr.sureAddr, asAddr] using hld
    simp only [List.mapM_cons, Sem.run_bind, key, Result.andThen_ok, h6, Sem.run_pure]
theorem resD_ok {g' : Gh} {m : List AO} (h : Views g g' m) : ∀ (τ : Sh) (l : List AV) (x : sem τ) (f : Bool), resD m τ l = some (x, f) → ∀ vs, Rels g m l vs → RepT (g'.sel f) τ x vs
  | .unit, [], x, f, hd, vs, hr => by unfold Rels at hr; exact hr
  | .pair a b, v :: l, x, f, hd, vs, hr => by
    simp only [resD] at hd
    split at hd
    · rename_i y f1 z f2 h1 h2
      cases hd
      unfold Rels at hr
      obtain ⟨u, rs, rfl, hu, hrs⟩ := hr
      have q1 := data_rel h.fnz h1 (view_rel h v u hu)
      have q2 := resD_ok h b l z f2 h2 rs hrs
      have m1 := sel_le h.fnz (f := f1) (f' := f1 && f2) (by simp; intro a _; exact a)
      have m2 := sel_le h.fnz (f := f2) (f' := f1 && f2) (by simp)
      refine ⟨u, rs, rfl, q1.mono m1, ?_⟩
      have mono : ∀ (t : Sh) (x : sem t) (l : List Value), RepT (g'.sel f2) t x l → RepT (g'.sel (f1 && f2)) t x l := by
        intro t
        induction t with
        | pair a b iha ihb => rintro x l ⟨v, rest, e, h1, h2⟩; exact ⟨v, rest, e, h1.mono m2, ihb _ _ h2⟩
        | unit => exact fun x l e => e
        | _ => exact fun x l e => e.elim
      exact mono _ _ _ q2
    · cases hd
  | .unit, _ :: _, x, f, hd, vs, hr => by simp [resD] at hd
  | .pair _ _, [], x, f, hd, vs, hr => by simp [resD] at hd
  | .int _, _, x, f, hd, vs, hr => by simp [resD] at hd
  | .bool, _, x, f, hd, vs, hr => by simp [resD] at hd
  | .str, _, x, f, hd, vs, hr => by simp [resD] at hd
  | .list _, _, x, f, hd, vs, hr => by simp [resD] at hd
  | .rose _, _, x, f, hd, vs, hr => by simp [resD] at hd
/-- what a call's end is to be -/
def Post (P : Program) (f : Nat) (w0 : Ent) (fresh : Bool) (τ : Sh) (r : sem τ) : Ending → World → Prop := fun e w' =>
  ∃ v fz', e = .returned v ∧ Below w0.w.heap.size w0.w w' ∧ (∀ b o x, fz' b o = some x → w'.cell? ⟨b, o, none⟩ = some x) ∧
    (∀ b o x, w0.fz b o = some x → fz' b o = some x) ∧ (∀ b o x, fz' b o = some x → w0.fz b o = some x ∨ w0.w.heap.size ≤ b) ∧
    RepR (retTup P f) (if fresh then fun b o => if w0.w.heap.size ≤ b then fz' b o else none else fz') τ r v
theorem retK_ok {F : Fun} {fn : Func} (hn : w0.n0 = w0.w.heap.size) (hio : ∀ b, w0.io b = false) (hfn : F.prog.funcs[F.fn]? = some fn) (h0 : ∀ b o v, w0.fz b o = some v → w0.w.cell? ⟨b, o, none⟩ = some v) {τ : Sh} {r : sem τ} {σ : St} {a : Act} (h : retK F fn τ σ = some r) (hE : EnvR g σ a) (hW : WF w0 g σ.mem w) :
    a.defers = [] ∧ ∃ v, (results fn a.tmps).run F.prog w = .ok v w ∧ Post F.prog F.fn w0 F.wantFresh τ r (.returned v) w := by
  refine ⟨hE.dfr, ?_⟩
  unfold retK at h
  obtain ⟨l, vs, hl, hrels, hrsz, hrun⟩ := resK_ok (P := F.prog) hE hW _ _ h
  have hV := end_views hn hio hW
  have hlen := hrels.length
  have hrsz : vs.length = fn.results.size := by rw [hrsz]; simp
  have hres : (results fn a.tmps).run F.prog w = .ok (if hs : vs.toArray.size = 1 then vs.toArray[0] else .tuple vs.toArray) w := by
    rw [results_eq, Sem.run_bind, Array.mapM_eq_mapM_toList]
    have : (List.toArray <$> fn.results.toList.mapM (resF a.tmps) : Sem (Array Value)).run F.prog w = .ok vs.toArray w := by
      rw [map_eq_pure_bind, Sem.run_bind, hrun]; rfl
    rw [this]; rfl
  have hbel : Below w0.w.heap.size w0.w w := by rw [← hn, ← hW.nn]; exact hW.below
  have post : ∀ (v : Value) (f : Bool), (f || !F.wantFresh) = true → RepR (retTup F.prog F.fn) (({ g with fz := endFz w0 w, fn := endFn w0 w } : Gh).sel f) τ r v → Post F.prog F.fn w0 F.wantFresh τ r (.returned v) w := by
    intro v f hf hr
    refine ⟨v, endFz w0 w, rfl, hbel, fun b o x hx => ?_, fun b o x hx => ?_, fun b o x hx => ?_, ?_⟩
    · unfold endFz at hx
      split at hx
      · exact hx
      · rename_i hn
        rw [hbel.cell (p := ⟨b, o, none⟩) (by show b < _; omega)]
        exact h0 b o x hx
    · unfold endFz
      rw [if_neg (by have := World.block_lt_of_cell? w0.w _ (h0 b o x hx); simp at this; omega)]
      exact hx
    · unfold endFz at hx
      split at hx
      · rename_i hle; exact .inr hle
      · exact .inl hx
    · have le : ∀ b o x, (({ g with fz := endFz w0 w, fn := endFn w0 w } : Gh).sel f) b o = some x → (if F.wantFresh = true then fun b o => if w0.w.heap.size ≤ b then endFz w0 w b o else none else endFz w0 w) b o = some x := fun b o x hx => by
        cases hw : F.wantFresh with
        | true =>
          rw [hw] at hf
          have hf' : f = true := by simpa using hf
          subst hf'
          have hx : endFn w0 w b o = some x := hx
          simp only [if_true]
          unfold endFn at hx
          unfold endFz
          split at hx
          · rename_i hle; rw [if_pos hle, if_pos hle]; exact hx
          · cases hx
        | false =>
          simp only [Bool.false_eq_true, if_false]
          cases f with
          | true => exact hV.fnz b o x hx
          | false => exact hx
      unfold RepR at *
      split
      · rename_i ht
        rw [if_pos ht] at hr
        obtain ⟨vs, rfl, hv⟩ := hr
        refine ⟨vs, rfl, ?_⟩
        have mono : ∀ (t : Sh) (x : sem t) (l : List Value), RepT (({ g with fz := endFz w0 w, fn := endFn w0 w } : Gh).sel f) t x l → RepT (if F.wantFresh = true then fun b o => if w0.w.heap.size ≤ b then endFz w0 w b o else none else endFz w0 w) t x l := by
          intro t
          induction t with
          | pair a b iha ihb => rintro x l ⟨v, rest, e, h1, h2⟩; exact ⟨v, rest, e, h1.mono le, ihb _ _ h2⟩
          | unit => exact fun x l e => e
          | _ => exact fun x l e => e.elim
        exact mono _ _ _ hv
      · rename_i ht
        rw [if_neg ht] at hr
        exact hr.mono le
  have htup : retTup F.prog F.fn = (fn.results.size != 1) := by unfold retTup; rw [hfn]
  refine ⟨_, hres, ?_⟩
  split at hl
  · rename_i av
    split at hl
    · rename_i x f hd
      split at hl
      · rename_i hf
        cases hl
        unfold Rels at hrels
        obtain ⟨v, rs, rfl, hv, hrs⟩ := hrels
        unfold Rels at hrs
        subst hrs
        have q := data_rel hV.fnz hd (view_rel hV av v hv)
        have e1 : fn.results.size = 1 := by simpa using hrsz.symm
        exact post v f hf (by unfold RepR; rw [htup, e1]; exact q)
      · cases hl
    · cases hl
  · rename_i l' hne
    split at hl
    · rename_i x f hd
      split at hl
      · rename_i hf
        cases hl
        have hn1 : vs.length ≠ 1 := by
          rw [hlen]
          intro q
          obtain ⟨v, hv⟩ := List.length_eq_one_iff.1 q
          exact hne v hv
        have q := resD_ok hV τ l _ _ hd vs hrels
        have e1 : (fn.results.size != 1) = true := by rw [← hrsz]; simp [hn1]
        rw [dif_neg (by simpa using hn1)]
        exact post _ f hf (by unfold RepR; rw [htup, e1, if_pos rfl]; exact ⟨_, rfl, q⟩)
      · cases hl
    · cases hl
end
end Go.Den
