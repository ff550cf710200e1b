import Derived.Test.YtaejbcahfnlggaaDoorDenR
namespace Go.Den
open Go.RowKit (wrap64)
set_option linter.unusedVariables false
set_option linter.unusedSimpArgs false
/-! A function, as it is read off its code, is what a call of it gives. -/
theorem den_ok {F : Fun} {fn : Func} {c : Code} (hfn : F.prog.funcs[F.fn]? = some fn) (hb : fn.body = some c) {Φ : Nat → Nat → List AV → (τ : Sh) → Option (sem τ)}
    {w0 : Ent} (hΦ : ∀ f, SoundX w0.tb F.prog f (Φ f) F.frs) (hmix : F.prog.follows .mixedOrders = true) (hn : w0.n0 = w0.w.heap.size) (hio : ∀ b, w0.io b = false) (h0 : ∀ b o v, w0.fz b o = some v → w0.w.cell? ⟨b, o, none⟩ = some v) {τ : Sh} {r : sem τ} :
    ∀ (k l : Nat), Next w0 r (F.den Φ τ k l) (ptWp F.prog c 0 (bodyPost F.prog fn (Post F.prog F.fn w0 F.wantFresh τ r)) l)
  | 0, l => fun g σ a w hE hW h => by simp [Fun.den] at h
  | k + 1, l => fun g σ a w hE hW h => by
    simp only [Fun.den, hfn, hb] at h
    have hret : ∀ Q : Exit, Q = .normal ∨ Q = .ret → Next w0 r (retK F fn τ) (bodyPost F.prog fn (Post F.prog F.fn w0 F.wantFresh τ r) Q) := fun Q hQ g σ a w hE hW h => by
      have := retK_ok hn hio hfn h0 h hE hW
      rcases hQ with rfl | rfl <;> exact this
    exact denAt_ok hΦ hmix c 0 _ _ _ _ (fun l _ _ => den_ok hfn hb hΦ hmix hn hio h0 k l) (hret .normal (.inl rfl)) (fun i g σ a w _ _ h => by cases h) (hret .ret (.inr rfl)) h hE hW
theorem Fun.sound (F : Fun) {fn : Func} {c : Code} (hfn : F.prog.funcs[F.fn]? = some fn) (hname : (fn.name == "runtime.NumGoroutine") = false) (hb : fn.body = some c) {Φ : Nat → Nat → List AV → (τ : Sh) → Option (sem τ)}
    {T : Tbls} (hΦ : ∀ f, SoundX T F.prog f (Φ f) F.frs) (hmix : F.prog.follows .mixedOrders = true) : Sound T F.prog F.fn (fun k => F.run Φ k) F.wantFresh := by
  intro k as τ r h
  refine ⟨fun args w => Go.MuLone.run_callFunc_enter hfn hname hb args w, fun w vs fz htb hfz hrel => ?_⟩
  simp only [Fun.run, hfn, hb] at h
  refine (calls_of_wp hfn hb (R := Post F.prog F.fn (Ent.of T w fz) F.wantFresh τ r) ?_).mono (fun e w' hp => hp)
  have hlen := hrel.length
  have hE : EnvR (G0 w.heap.size fz) ⟨as ++ List.replicate (fn.ntmps - as.length) .undef, [], 0⟩ { tmps := vs ++ Array.replicate (fn.ntmps - vs.size) undef, defers := [] } := by
    refine ⟨?_, rfl, rfl, fun id o h => (by simp [G0, Pin.no] at h), fun b o v h => (by cases h)⟩
    rw [Array.toList_append, Array.toList_replicate]
    rw [show fn.ntmps - vs.size = fn.ntmps - as.length by rw [← hlen]; simp]
    exact Rels.append hrel (Rels.undefs undef _)
  have hW : WF (Ent.of T w fz) (G0 w.heap.size fz) [] w := ⟨rfl, rfl, fun b o v hv => .inl hv, Below.refl _ _, Nat.le_refl _, hfz, (fun b o v hv => by cases hv), (fun i o hi => by simp at hi), (fun i o b hi => by simp at hi), (fun _ _ _ => rfl), (fun i o b hi => by simp at hi), htb, fun _ _ _ => rfl⟩
  have hret : ∀ Q : Exit, Q = .normal ∨ Q = .ret → Next (Ent.of T w fz) r (retK F fn τ) (bodyPost F.prog fn (Post F.prog F.fn (Ent.of T w fz) F.wantFresh τ r) Q) := fun Q hQ g σ a w hE hW h => by
    have := retK_ok rfl (fun _ => rfl) hfn hfz h hE hW
    rcases hQ with rfl | rfl <;> exact this
  exact denC_ok hΦ hmix c 0 _ _ _ _ (fun l _ _ => den_ok hfn hb hΦ hmix rfl (fun _ => rfl) hfz k l) (hret .normal (.inl rfl)) (fun i g σ a w _ _ h => by cases h) (hret .ret (.inr rfl)) h hE hW
/-! #### calls that hand memory over -/
theorem denG_ok {F : Fun} {fn : Func} {c : Code} (hfn : F.prog.funcs[F.fn]? = some fn) (hb : fn.body = some c) {Φ : Nat → Nat → List AV → (τ : Sh) → Option (sem τ)}
    {w0 : Ent} (hΦ : ∀ f, SoundX w0.tb F.prog f (Φ f) F.frs) (hmix : F.prog.follows .mixedOrders = true) {ω : Type} {r : ω} {ret : Func → St → Option ω} {post : Ending → World → Prop}
    (hret : ∀ Q : Exit, Q = .normal ∨ Q = .ret → Next w0 r (ret fn) (bodyPost F.prog fn post Q)) :
    ∀ (k l : Nat), Next w0 r (F.denG Φ ret k l) (ptWp F.prog c 0 (bodyPost F.prog fn post) l)
  | 0, l => fun g σ a w hE hW h => by simp [Fun.denG] at h
  | k + 1, l => fun g σ a w hE hW h => by
    simp only [Fun.denG, hfn, hb] at h
    exact denAt_ok hΦ hmix c 0 _ _ _ _ (fun l _ _ => denG_ok hfn hb hΦ hmix hret k l) (hret .normal (.inl rfl)) (fun i g σ a w _ _ h => by cases h) (hret .ret (.inr rfl)) h hE hW
theorem runG_ok {F : Fun} {fn : Func} {c : Code} (hfn : F.prog.funcs[F.fn]? = some fn) (hb : fn.body = some c) {Φ : Nat → Nat → List AV → (τ : Sh) → Option (sem τ)}
    {w0 : Ent} (hΦ : ∀ f, SoundX w0.tb F.prog f (Φ f) F.frs) (hmix : F.prog.follows .mixedOrders = true) {ω : Type} {r : ω} {ret : Func → St → Option ω} {post : Ending → World → Prop}
    (hret : ∀ Q : Exit, Q = .normal ∨ Q = .ret → Next w0 r (ret fn) (bodyPost F.prog fn post Q)) {k : Nat} {start : Nat → St} (h : F.runG Φ ret k start = some r) {g : Gh} {vs : Array Value} {w : World}
    (hE : EnvR g (start fn.ntmps) { tmps := vs ++ Array.replicate (fn.ntmps - vs.size) undef, defers := [] }) (hW : WF w0 g (start fn.ntmps).mem w) : Calls F.prog F.fn vs w post := by
  simp only [Fun.runG, hfn, hb] at h
  refine (calls_of_wp hfn hb (R := post) ?_).mono (fun e w' hp => hp)
  exact denC_ok hΦ hmix c 0 _ _ _ _ (fun l _ _ => denG_ok hfn hb hΦ hmix hret k l) (hret .normal (.inl rfl)) (fun i g σ a w _ _ h => by cases h) (hret .ret (.inr rfl)) h hE hW
theorem res_run {P : Program} {fn : Func} {tmps : Array Value} {vs : List Value} {w : World} (hrun : (fn.results.toList.mapM (resF tmps)).run P w = .ok vs w) :
    (results fn tmps).run P w = .ok (if hs : vs.toArray.size = 1 then vs.toArray[0] else .tuple vs.toArray) w := by
  rw [results_eq, Sem.run_bind, Array.mapM_eq_mapM_toList]
  have : (List.toArray <$> fn.results.toList.mapM (resF tmps) : Sem (Array Value)).run P w = .ok vs.toArray w := by
    rw [map_eq_pure_bind, Sem.run_bind, hrun]; rfl
  rw [this]; rfl
/-- holes, and what fills them -/
def SimL : List Sh → List AV → List AV → Prop
  | [], [], [] => True
  | t :: ts, h :: hs, h' :: hs' => (∃ x f, data t h = some (x, f) ∧ h' = mkD t x t.flat) ∧ SimL ts hs hs'
  | _, _, _ => False
theorem resH_sim : ∀ (ts : List Sh) (hs : List AV) (x : sem (prodSh ts)), resH (prodSh ts) hs = some x → SimL ts hs (spreadF (prodSh ts) x)
  | [], hs, x, h => by
    cases hs with
    | nil => trivial
    | cons a l => simp [prodSh, resH] at h
  | t :: ts, hs, x, h => by
    cases hs with
    | nil => simp [prodSh, resH] at h
    | cons a l =>
      simp only [prodSh, resH] at h
      split at h
      · rename_i y f z h1 h2
        cases h
        exact ⟨⟨y, f, h1, rfl⟩, resH_sim ts l z h2⟩
      · cases h
theorem SimL.split : ∀ (A B : List Sh) (a b c : List AV), a.length = A.length → SimL (A ++ B) (a ++ b) c → ∃ c1 c2, c = c1 ++ c2 ∧ SimL A a c1 ∧ SimL B b c2
  | [], B, a, b, c, hl, h => by
    have : a = [] := List.eq_nil_of_length_eq_zero hl
    subst this
    exact ⟨[], c, rfl, trivial, h⟩
  | t :: A, B, [], b, c, hl, h => by simp at hl
  | t :: A, B, x :: a, b, c, hl, h => by
    cases c with
    | nil => simp [SimL] at h
    | cons y c =>
      obtain ⟨h1, h2⟩ := h
      obtain ⟨c1, c2, rfl, q1, q2⟩ := SimL.split A B a b c (by simpa using hl) h2
      exact ⟨y :: c1, c2, rfl, ⟨h1, q1⟩, q2⟩
mutual
theorem take_len : ∀ (T : TV) (a : AV) (hs : List AV), T.take a = some hs → hs.length = T.shs.length
  | .hole t, a, hs, h => by cases h; rfl
  | .ref i, a, hs, h => by cases a <;> simp only [TV.take] at h <;> first | (cases h; done) | (split at h <;> cases h; rfl)
  | .ptr i o, a, hs, h => by cases a <;> simp only [TV.take] at h <;> first | (cases h; done) | (split at h <;> cases h; rfl)
  | .nil, a, hs, h => by cases a <;> simp only [TV.take] at h <;> first | (cases h; done) | (cases h; rfl)
  | .nilp, a, hs, h => by cases a <;> simp only [TV.take] at h <;> first | (cases h; done) | (cases h; rfl)
  | .fn f l, a, hs, h => by
    cases a <;> simp only [TV.take] at h <;> first | (cases h; done) | skip
    split at h
    · exact takes_len l _ _ h
    · cases h
  | .agg l, a, hs, h => by
    cases a <;> simp only [TV.take] at h <;> first | (cases h; done) | exact takes_len l _ _ h
theorem takes_len : ∀ (T : List TV) (a : List AV) (hs : List AV), TV.takes T a = some hs → hs.length = (TV.shsL T).length
  | [], [], hs, h => by cases h; rfl
  | [], _ :: _, hs, h => by simp [TV.takes] at h
  | _ :: _, [], hs, h => by simp [TV.takes] at h
  | v :: l, a :: as, hs, h => by
    simp only [TV.takes] at h
    split at h
    · rename_i x y h1 h2
      cases h
      rw [List.length_append, take_len v a x h1, takes_len l as y h2, TV.shsL, List.length_append]
    · cases h
end
theorem takeO_len (o : TO) (a : AO) (hs : List AV) (h : o.take a = some hs) : hs.length = o.shs.length := by
  cases o with
  | gone => cases h; rfl
  | row t =>
    cases a <;> simp only [TO.take] at h <;> first | (cases h; done) | (split at h <;> cases h; rfl)
  | box l =>
    cases a <;> simp only [TO.take] at h <;> first | (cases h; done) | exact takes_len l _ _ h
  | map k v nn =>
    cases a <;> simp only [TO.take] at h <;> first | (cases h; done) | (split at h <;> cases h; rfl)
section
variable {g g3 : Gh} {m m3 : List AO}
/-- what holes of this shape may hold on -/
def OkS (g g3 : Gh) (t : Sh) : Prop := t.flat = true ∨ ∀ b o v, g.fz b o = some v → g3.fz b o = some v
theorem hole_rel (hfn : ∀ b o v, g.fn b o = some v → g.fz b o = some v) {t : Sh} (ht : OkS g g3 t) {h : AV} {x : sem t} {f : Bool} (hd : data t h = some (x, f)) {v : Value} (hr : Rel g m h v) : Rel g3 m3 (mkD t x t.flat) v := by
  have h1 := data_rel hfn hd hr
  have h2 : RepV g.fz t x v := by
    cases f with
    | true => exact h1.mono hfn
    | false => exact h1
  refine mkD_rel ?_
  unfold Gh.sel
  cases hf : t.flat with
  | true => exact h2.flat hf
  | false => exact h2.mono (ht.resolve_left (by rw [hf]; simp))
structure Kins (g g3 : Gh) (m m3 : List AO) : Prop where
  mem : ∀ (j : Nat) o, m[j]? = some o → ∃ o', m3[j]? = some o' ∧ o.kin g g3 j j o'
mutual
theorem tvFill_ok (hfn : ∀ b o v, g.fn b o = some v → g.fz b o = some v) (hK : Kins g g3 m m3) : ∀ (T : TV) (a : AV) (hs : List AV), T.take a = some hs → (∀ t ∈ T.shs, OkS g g3 t) → ∀ (c rest : List AV), SimL T.shs hs c →
    (T.fill (c ++ rest)).2 = rest ∧ ∀ v, Rel g m a v → Rel g3 m3 (T.fill (c ++ rest)).1 v
  | .hole t, a, hs, h, hok, c, rest, hsim => by
    cases h
    match c, hsim with
    | [x], hsim =>
      obtain ⟨⟨y, f, hd, rfl⟩, _⟩ := hsim
      exact ⟨rfl, fun v hr => hole_rel hfn (hok t (by simp [TV.shs])) hd hr⟩
    | _ :: _ :: _, hsim => exact hsim.2.elim
  | .ref i, a, hs, h, hok, c, rest, hsim => by
    cases a <;> simp only [TV.take] at h <;> first | (cases h; done) | skip
    split at h
    · rename_i e
      subst e
      cases h
      cases c with
      | cons _ _ => exact hsim.elim
      | nil =>
        refine ⟨rfl, fun v hr => ?_⟩
        simp only [List.nil_append, TV.fill]
        unfold Rel at *
        obtain ⟨h1, o, ho, e⟩ := hr
        obtain ⟨o', ho', hg⟩ := hK.mem _ o ho
        refine ⟨h1, o', ho', ?_⟩
        cases o' <;> cases o <;> simp only [AO.kin] at hg e ⊢
        · rw [hg.2.2]; exact e
        · rw [hg.2.2]; exact e
    · cases h
  | .ptr i off, a, hs, h, hok, c, rest, hsim => by
    cases a <;> simp only [TV.take] at h <;> first | (cases h; done) | skip
    split at h
    · rename_i e
      obtain ⟨rfl, rfl⟩ := e
      cases h
      cases c with
      | cons _ _ => exact hsim.elim
      | nil =>
        refine ⟨rfl, fun v hr => ?_⟩
        simp only [List.nil_append, TV.fill]
        unfold Rel at *
        obtain ⟨h1, o, ho, e⟩ := hr
        obtain ⟨o', ho', hg⟩ := hK.mem _ o ho
        refine ⟨h1, o', ho', ?_⟩
        cases o' <;> cases o <;> simp only [AO.kin] at hg e ⊢
        rw [hg]; exact e
    · cases h
  | .nil, a, hs, h, hok, c, rest, hsim => by
    cases a <;> simp only [TV.take] at h <;> first | (cases h; done) | skip
    cases h
    cases c with
    | cons _ _ => exact hsim.elim
    | nil => exact ⟨rfl, fun v hr => by simp only [List.nil_append, TV.fill]; unfold Rel at *; exact hr⟩
  | .nilp, a, hs, h, hok, c, rest, hsim => by
    cases a <;> simp only [TV.take] at h <;> first | (cases h; done) | skip
    cases h
    cases c with
    | cons _ _ => exact hsim.elim
    | nil => exact ⟨rfl, fun v hr => by simp only [List.nil_append, TV.fill]; unfold Rel at *; exact hr⟩
  | .fn f l, a, hs, h, hok, c, rest, hsim => by
    cases a <;> simp only [TV.take] at h <;> first | (cases h; done) | skip
    split at h
    · rename_i e
      subst e
      obtain ⟨q1, q2⟩ := tvFills_ok hfn hK l _ hs h hok c rest hsim
      refine ⟨by simp only [TV.fill]; exact q1, fun v hr => ?_⟩
      simp only [TV.fill]
      unfold Rel at *
      obtain ⟨vs, rfl, hl⟩ := hr
      exact ⟨vs, rfl, q2 _ hl⟩
    · cases h
  | .agg l, a, hs, h, hok, c, rest, hsim => by
    cases a <;> simp only [TV.take] at h <;> first | (cases h; done) | skip
    obtain ⟨q1, q2⟩ := tvFills_ok hfn hK l _ hs h hok c rest hsim
    refine ⟨by simp only [TV.fill]; exact q1, fun v hr => ?_⟩
    simp only [TV.fill]
    unfold Rel at *
    obtain ⟨vs, rfl, hl, h1⟩ := hr
    exact ⟨vs, rfl, q2 _ hl, h1⟩
theorem tvFills_ok (hfn : ∀ b o v, g.fn b o = some v → g.fz b o = some v) (hK : Kins g g3 m m3) : ∀ (T : List TV) (a : List AV) (hs : List AV), TV.takes T a = some hs → (∀ t ∈ TV.shsL T, OkS g g3 t) → ∀ (c rest : List AV), SimL (TV.shsL T) hs c →
    (TV.fills T (c ++ rest)).2 = rest ∧ ∀ vs, Rels g m a vs → Rels g3 m3 (TV.fills T (c ++ rest)).1 vs
  | [], [], hs, h, hok, c, rest, hsim => by
    cases h
    cases c with
    | cons _ _ => exact hsim.elim
    | nil => exact ⟨rfl, fun vs hr => by simp only [List.nil_append, TV.fills]; unfold Rels at *; exact hr⟩
  | [], _ :: _, hs, h, hok, c, rest, hsim => by simp [TV.takes] at h
  | _ :: _, [], hs, h, hok, c, rest, hsim => by simp [TV.takes] at h
  | T :: l, a :: as, hs, h, hok, c, rest, hsim => by
    simp only [TV.takes] at h
    split at h
    · rename_i x y h1 h2
      cases h
      obtain ⟨c1, c2, rfl, s1, s2⟩ := SimL.split _ _ _ _ _ (take_len T a x h1) hsim
      obtain ⟨p1, p2⟩ := tvFill_ok hfn hK T a x h1 (fun t ht => hok t (by rw [TV.shsL]; exact List.mem_append_left _ ht)) c1 (c2 ++ rest) s1
      obtain ⟨q1, q2⟩ := tvFills_ok hfn hK l as y h2 (fun t ht => hok t (by rw [TV.shsL]; exact List.mem_append_right _ ht)) c2 rest s2
      rw [List.append_assoc]
      refine ⟨by simp only [TV.fills]; rw [p1]; exact q1, fun vs hr => ?_⟩
      simp only [TV.fills]
      rw [p1]
      unfold Rels at hr
      obtain ⟨v, rs, rfl, r1, r2⟩ := hr
      exact Rels.cons (p2 v r1) (q2 rs r2)
    · cases h
end
theorem leaf_list {t : Sh} {l : sem (.list t)} {fr f : Bool} {y : sem (.list t)} (hd : leaf (.list t) (.d (.list t) l fr) = some (y, f)) : y = l := by
  unfold leaf at hd
  simp only [cast?_self] at hd
  cases hd; rfl
/-- an object as it is told in the end -/
theorem fillO_ok (hfn : ∀ b o v, g.fn b o = some v → g.fz b o = some v) (hK : Kins g g3 m m3) {w : World} {j : Nat} (hb : g3.bl j = g.bl j) (hr : g3.rv j = g.rv j) (hn : g3.n0 = g.n0) (st : Nat) (hst : st ≠ 1) (T : TO) (o : AO) (hs : List AV) (h : T.take o = some hs)
    (hok : ∀ t, (T = .row t ∨ (∃ l, T = .box l ∧ t ∈ TV.shsL l) ∨ (∃ k nn, T = .map k t nn)) → OkS g g3 t) (c rest : List AV) (hsim : SimL T.shs hs c) (ho : OwnO g m w j o) :
    (T.fill st (c ++ rest)).2 = rest ∧ OwnO g3 m3 w j (T.fill st (c ++ rest)).1 ∧ (∀ b, (T.fill st (c ++ rest)).1.has g3 j b → o.has g j b) ∧
      (∀ k v nn l s r cu, (T.fill st (c ++ rest)).1 = .map k v nn l s r cu → s = st) ∧ o.kin g g3 j j (T.fill st (c ++ rest)).1 := by
  have conv : ∀ {fr : Bool} {t : Sh} {x : sem t} {cs : List Value}, OkS g g3 t → RepC (g.sel fr) t x cs → RepC (g3.sel t.flat) t x cs := fun {fr t x cs} ht hc => by
    have h2 : RepC g.fz t x cs := by
      cases fr with
      | true => exact hc.mono hfn
      | false => exact hc
    unfold Gh.sel
    cases hf : t.flat with
    | true => exact RepC.flat _ _ _ hf h2
    | false => exact h2.mono (ht.resolve_left (by rw [hf]; simp))
  cases T with
  | gone =>
    cases h
    cases c with
    | cons _ _ => exact hsim.elim
    | nil => exact ⟨rfl, trivial, fun b hb => hb.elim, fun k v nn l s r cu h => (by cases h), by cases o <;> trivial⟩
  | row t =>
    cases o <;> simp only [TO.take] at h <;> first | (cases h; done) | skip
    split at h
    · rename_i t' l fr e
      subst e
      cases h
      match c, hsim with
      | [x], hsim =>
        obtain ⟨⟨y, f, hd, rfl⟩, _⟩ := hsim
        have hy : y = l := by
          exact leaf_list hd
        subst hy
        show rest = rest ∧ OwnO g3 m3 w j (.row t y t.flat) ∧ (∀ b, AO.has g3 j (.row t y t.flat) b → AO.has g j (.row t y fr) b) ∧ (∀ k v nn l s r cu, AO.row t y t.flat = .map k v nn l s r cu → s = st) ∧ AO.kin g g3 j j (.row t y fr) (.row t y t.flat)
        obtain ⟨h1, e, xs, hown, hrep⟩ := ho
        exact ⟨rfl, ⟨h1, e, xs, by rw [hr, hn]; exact hown, hrep.imp (fun x c hc => conv (hok t (.inl rfl)) hc) _ _⟩, fun b hb => by have hb : rowBlk (g3.rv j) = some b := hb; rw [hr] at hb; exact hb, fun k v nn l s r cu h => (by cases h), rfl, rfl, hr⟩
      | _ :: _ :: _, hsim => exact hsim.2.elim
    · cases h
  | box ts =>
    cases o <;> simp only [TO.take] at h <;> first | (cases h; done) | skip
    rename_i as
    obtain ⟨q1, q2⟩ := tvFills_ok hfn hK ts as hs h (fun t ht => hok t (.inr (.inl ⟨ts, rfl, ht⟩))) c rest hsim
    obtain ⟨h1, cs, T', hh, hrs, h2⟩ := ho
    refine ⟨by simp only [TO.fill]; exact q1, ?_, fun b hb' => ?_, fun k v nn l s r cu h => (by cases h), hb⟩
    · exact ⟨by rw [hn, hb]; exact h1, cs, T', by rw [hb]; exact hh, q2 _ hrs, h2⟩
    · have hb' : g3.bl j = b := hb'
      rw [hb] at hb'; exact hb'
  | map k v nn =>
    cases o <;> simp only [TO.take] at h <;> first | (cases h; done) | skip
    rename_i k' v' nn' l st' rem cur
    split at h
    · rename_i e
      obtain ⟨rfl, rfl, hnn⟩ := e
      cases h
      match c, hsim with
      | [x], hsim =>
        obtain ⟨⟨y, f, hd, rfl⟩, _⟩ := hsim
        have hy : y = l := by
          exact leaf_list (t := .pair k v) (l := l) hd
        subst hy
        show rest = rest ∧ OwnO g3 m3 w j (.map k v nn y st [] none) ∧ (∀ b, AO.has g3 j (.map k v nn y st [] none) b → AO.has g j (.map k v nn' y st' rem cur) b) ∧ (∀ k2 v2 nn2 l2 s2 r2 cu2, AO.map k v nn y st [] none = .map k2 v2 nn2 l2 s2 r2 cu2 → s2 = st) ∧ AO.kin g g3 j j (.map k v nn' y st' rem cur) (.map k v nn y st [] none)
        obtain ⟨h0, h⟩ := ho
        have okv : ∀ {x : sem v} {u : Value}, RepV g.fz v x u → RepV g3.fz v x u := fun {x u} h => by
          rcases hok v (.inr (.inr ⟨k, nn, rfl⟩)) with q | q
          · exact h.flat q
          · exact h.mono q
        have hM : ∀ (l : List (sem k × sem v)) (es : List MapEntry), RepM g.fz k v l es → RepM g3.fz k v l es := by
          intro l
          induction l with
          | nil => intro es h; exact h
          | cons p l ih =>
            rintro es ⟨e, r, rfl, q1, q2, q3⟩
            exact ⟨e, r, rfl, q1.flat h0, okv q2, ih r q3⟩
        refine ⟨rfl, ⟨h0, ?_⟩, fun b hb' => ?_, fun k2 v2 nn2 l2 s2 r2 cu2 h => (by cases h; rfl), rfl, rfl, hr⟩
        · rw [hr, hn]
          rcases h with ⟨q1, _, q3, q4⟩ | ⟨b, es, clock, e, h1, hh, hs, hl, _⟩
          · subst q1
            refine .inl ⟨?_, hst, q3, q4⟩
            cases nn with
            | true => simp at hnn
            | false => rfl
          · exact .inr ⟨b, es, clock, e, h1, hh, hs, hM _ _ hl, fun h => absurd h hst⟩
        · rcases hb' with hb' | ⟨h, _⟩
          · rw [hr] at hb'; exact .inl hb'
          · exact absurd h hst
      | _ :: _ :: _, hsim => exact hsim.2.elim
    · cases h
theorem fillsO_ok (hfn : ∀ b o v, g.fn b o = some v → g.fz b o = some v) (hK : Kins g g3 m m3) {w : World} (hb : ∀ j, g3.bl j = g.bl j) (hr : ∀ j, g3.rv j = g.rv j) (hn : g3.n0 = g.n0) (nin : Nat) : ∀ (T : List TO) (i : Nat) (os : List AO) (hs : List AV), TO.takes T os = some hs →
    (∀ t, (.row t ∈ T ∨ (∃ l, .box l ∈ T ∧ t ∈ TV.shsL l) ∨ (∃ k nn, .map k t nn ∈ T)) → OkS g g3 t) → ∀ (c : List AV), SimL (TO.shsL T) hs c → (∀ (j : Nat) o, os[j]? = some o → OwnO g m w (i + j) o) →
    (TO.fills nin i T c).length = os.length ∧ ∀ (j : Nat) o', (TO.fills nin i T c)[j]? = some o' → ∃ o, os[j]? = some o ∧ OwnO g3 m3 w (i + j) o' ∧ (∀ b, o'.has g3 (i + j) b → o.has g (i + j) b) ∧ (∀ k v nn l s r cu, o' = .map k v nn l s r cu → s = if i + j < nin then 2 else 0) ∧ o.kin g g3 (i + j) (i + j) o'
  | [], i, [], hs, h, hok, c, hsim, ho => ⟨rfl, fun j o' hj => by simp [TO.fills] at hj⟩
  | [], i, _ :: _, hs, h, hok, c, hsim, ho => by simp [TO.takes] at h
  | _ :: _, i, [], hs, h, hok, c, hsim, ho => by simp [TO.takes] at h
  | T :: l, i, o :: os, hs, h, hok, c, hsim, ho => by
    simp only [TO.takes] at h
    split at h
    · rename_i x y h1 h2
      cases h
      obtain ⟨c1, c2, rfl, s1, s2⟩ := SimL.split _ _ _ _ _ (takeO_len T o x h1) hsim
      have hst : (if i < nin then 2 else 0) ≠ 1 := by split <;> decide
      obtain ⟨p1, p2, p3, p4, p5⟩ := fillO_ok hfn hK (hb i) (hr i) hn (if i < nin then 2 else 0) hst T o x h1
        (fun t ht => hok t (by
          rcases ht with rfl | ⟨l, rfl, h⟩ | ⟨k, nn, rfl⟩
          · exact .inl List.mem_cons_self
          · exact .inr (.inl ⟨l, List.mem_cons_self, h⟩)
          · exact .inr (.inr ⟨k, nn, List.mem_cons_self⟩))) c1 c2 s1 (by have := ho 0 o rfl; rwa [Nat.add_zero] at this)
      obtain ⟨q1, q2⟩ := fillsO_ok hfn hK hb hr hn nin l (i + 1) os y h2
        (fun t ht => hok t (by
          rcases ht with h | ⟨l, h, h'⟩ | ⟨k, nn, h⟩
          · exact .inl (List.mem_cons_of_mem _ h)
          · exact .inr (.inl ⟨l, List.mem_cons_of_mem _ h, h'⟩)
          · exact .inr (.inr ⟨k, nn, List.mem_cons_of_mem _ h⟩))) c2 s2 (fun j o' hj => by rw [show i + 1 + j = i + (j + 1) by omega]; exact ho (j + 1) o' (by simpa using hj))
      unfold TO.fills
      rw [p1]
      refine ⟨by simp [q1], fun j o' hj => ?_⟩
      cases j with
      | zero =>
        simp only [List.getElem?_cons_zero, Option.some.injEq] at hj
        subst hj
        exact ⟨o, rfl, p2, p3, p4, p5⟩
      | succ j =>
        rw [List.getElem?_cons_succ] at hj
        obtain ⟨o1, r1, r2, r3, r4, r5⟩ := q2 j o' hj
        rw [show i + 1 + j = i + (j + 1) by omega] at r2 r3 r4 r5
        exact ⟨o1, by simpa using r1, r2, r3, r4, r5⟩
    · cases h
theorem takes_pos : ∀ (T : List TO) (os : List AO) (hs : List AV), TO.takes T os = some hs → T.length = os.length
  | [], [], _, _ => rfl
  | [], _ :: _, hs, h => by simp [TO.takes] at h
  | _ :: _, [], hs, h => by simp [TO.takes] at h
  | T :: l, o :: os, hs, h => by
    simp only [TO.takes] at h
    split at h
    · rename_i x y h1 h2
      simp [takes_pos l os y h2]
    · cases h
end
theorem subAt_ok {w0 : Ent} {g : Gh} {w : World} {σ : St} {a : Act} (hE : EnvR g σ a) (hW : WF w0 g σ.mem w) (x : AV) {v : Value} (h1 : Rel g σ.mem x v) :
    ∃ g', EnvR g' (subAt σ x).1 a ∧ WF w0 g' (subAt σ x).1.mem w ∧ Stays g g' σ.mem (subAt σ x).1.mem ∧ Rel g' (subAt σ x).1.mem (subAt σ x).2 v := by
  unfold subAt
  split
  · rename_i id i n
    split
    · rename_i t l fr ho
      split
      · rename_i h0
        subst h0
        have hm : σ.mem[id]? = some (.row t l fr) := obj_some (σ := σ) ho (by simp)
        unfold Rel at h1
        obtain ⟨hv1, o, ho', h1⟩ := h1
        rw [hm] at ho'
        cases ho'
        simp only at h1
        obtain ⟨_, g1, g2, hv⟩ := h1
        obtain ⟨hpos, e, xs, hown, hrep⟩ := hW.own id _ hm
        have hcl : (cut l 0 n).length = n.toNat := by unfold cut; simp; omega
        have hcut : cut l 0 n = l.take n.toNat := by unfold cut; simp
        have hrep2 : RepL (RepC (g.sel fr) t) (cut l 0 n) (xs.take (n.toNat * t.size)) := by rw [hcut]; exact RepL.take (fun x c h => RepC.len t x c h) l xs hrep n.toNat
        have hown2 : OwnR w g.n0 e t.size v (cut l 0 n).length (xs.take (n.toNat * t.size)) := by
          rw [hcl]
          have hle : n.toNat ≤ l.length := by omega
          refine ⟨by rw [List.length_take, hown.1]; have := Nat.mul_le_mul_right t.size hle; omega, ?_⟩
          rcases hown.2 with ⟨e3, a0, e1⟩ | ⟨q, cap, cur, e1, hbq, hg, hle2, hcap, hcs, htk⟩
          · left
            refine ⟨by omega, a0, ?_⟩
            rw [hv, e1]
            have : n.toNat = 0 := by omega
            simp [subV, this]
          · right
            refine ⟨q, cap, cur, ?_, hbq, hg, by omega, hcap, hcs, ?_⟩
            · rw [hv, e1]
              simp [subV, addr_add]
            · rw [← htk, List.take_take, Nat.min_eq_left (Nat.mul_le_mul_right _ hle)]
        have hsame : ∀ b, rowBlk v = some b → rowBlk (g.rv id) = some b := fun b hb => by
          rw [hv] at hb
          obtain ⟨p, c, e1, _⟩ := own_slice hown
          rw [e1] at hb ⊢
          cases c with
          | zero => cases p <;> simp [subV, rowBlk] at hb
          | succ c =>
            cases p with
            | none => simp [subV, rowBlk] at hb
            | some p => simpa [subV, rowBlk, Addr.add] using hb
        have hl2 : (σ.setObj id .gone).mem.length = σ.mem.length := by simp [St.setObj]
        have hE1 := hE.step (σ' := σ.setObj id .gone) (Stays.gone id) rfl
        have hW1 := hW.gone id
        have hgone : (σ.mem.set id .gone) = (σ.setObj id .gone).mem := rfl
        rw [hgone] at hW1
        have hs2 : Stays g { g with rv := upd g.rv (σ.setObj id .gone).mem.length v } (σ.setObj id .gone).mem ((σ.setObj id .gone).mem ++ [.row t (cut l 0 n) fr]) := Stays.row _ _ _ rfl
        refine ⟨{ g with rv := upd g.rv (σ.setObj id .gone).mem.length v }, hE1.step (σ' := (σ.setObj id .gone).new (.row t (cut l 0 n) fr)) hs2 rfl,
          hW1.pushRow (row := rowBlk v) (Grown.refl w _) (fun j o b hj hb hrow => ?_) (fun b hb => ?_) hown2 hrep2 hpos (fun b hb => .inl hb), (Stays.gone id).trans hs2, ?_⟩
        · rcases set_some hj with ⟨rfl, rfl⟩ | ⟨hne, hj⟩
          · exact hb.elim
          · exact (hW.apart id _ b hm (hsame b hrow)).2 j o hne hj hb
        · have hb' := hsame b hb
          exact ⟨(hW.apart id _ b hm hb').1, (hW.own id _ hm).has_lt hb', hW.mine id _ b hm hb'⟩
        · unfold Rel
          rw [← hl2]
          refine ⟨hv1, .row t (cut l 0 n) fr, by simp [St.new], ?_⟩
          show v = upd g.rv (σ.setObj id .gone).mem.length v (σ.setObj id .gone).mem.length
          rw [upd_same]
      · exact ⟨g, hE, hW, Stays.refl _ _, h1⟩
    · exact ⟨g, hE, hW, Stays.refl _ _, h1⟩
  · exact ⟨g, hE, hW, Stays.refl _ _, h1⟩
theorem refAt_ok {w0 : Ent} {g : Gh} {w : World} {σ : St} {a : Act} (hE : EnvR g σ a) (hW : WF w0 g σ.mem w) (q : Nat) (x : AV) {v : Value} (h1 : Rel g σ.mem x v) :
    ∃ g', EnvR g' (refAt σ q x).1 a ∧ WF w0 g' (refAt σ q x).1.mem w ∧ Stays g g' σ.mem (refAt σ q x).1.mem ∧ Rel g' (refAt σ q x).1.mem (refAt σ q x).2 v := by
  unfold refAt
  split
  · rename_i id
    split
    · split
      · rename_i t l fr ho
        have hm : σ.mem[id]? = some (.row t l fr) := obj_some (σ := σ) ho (by simp)
        unfold Rel at h1
        obtain ⟨hv1, o, ho', h1⟩ := h1
        rw [hm] at ho'
        cases ho'
        simp only at h1
        obtain ⟨hpos, e, xs, hown, hrep⟩ := hW.own id _ hm
        rw [← h1] at hown
        have hl2 : (σ.setObj id .gone).mem.length = σ.mem.length := by simp [St.setObj]
        have hE1 := hE.step (σ' := σ.setObj id .gone) (Stays.gone id) rfl
        have hW1 := hW.gone id
        rw [show (σ.mem.set id .gone) = (σ.setObj id .gone).mem from rfl] at hW1
        have hs2 : Stays g { g with rv := upd g.rv (σ.setObj id .gone).mem.length v } (σ.setObj id .gone).mem ((σ.setObj id .gone).mem ++ [.row t l fr]) := Stays.row _ _ _ rfl
        have hsame : ∀ b, rowBlk v = some b → (AO.row t l fr).has g id b := fun b hb => by
          show rowBlk (g.rv id) = some b
          rw [← h1]; exact hb
        refine ⟨{ g with rv := upd g.rv (σ.setObj id .gone).mem.length v }, hE1.step (σ' := (σ.setObj id .gone).new (.row t l fr)) hs2 rfl,
          hW1.pushRow (row := rowBlk v) (Grown.refl w _) (fun j o b hj hb hrow => ?_) (fun b hb => ?_) hown hrep hpos (fun b hb => .inl hb), (Stays.gone id).trans hs2, ?_⟩
        · rcases set_some hj with ⟨rfl, rfl⟩ | ⟨hne, hj⟩
          · exact hb.elim
          · exact (hW.apart id _ b hm (hsame b hrow)).2 j o hne hj hb
        · exact ⟨(hW.apart id _ b hm (hsame b hb)).1, (hW.own id _ hm).has_lt (hsame b hb), hW.mine id _ b hm (hsame b hb)⟩
        · unfold Rel
          rw [← hl2]
          refine ⟨hv1, .row t l fr, by simp [St.new], ?_⟩
          show v = upd g.rv (σ.setObj id .gone).mem.length v (σ.setObj id .gone).mem.length
          rw [upd_same]
      · exact ⟨g, hE, hW, Stays.refl _ _, h1⟩
    · exact ⟨g, hE, hW, Stays.refl _ _, h1⟩
  · exact subAt_ok hE hW _ h1
theorem subIn_ok {w0 : Ent} {w : World} {a : Act} : ∀ (ts : List TV) (l : List AV) {g : Gh} {σ : St} (vs : List Value), EnvR g σ a → WF w0 g σ.mem w → Rels g σ.mem l vs →
    ∃ g', EnvR g' (subIn ts l σ).1 a ∧ WF w0 g' (subIn ts l σ).1.mem w ∧ Stays g g' σ.mem (subIn ts l σ).1.mem ∧ Rels g' (subIn ts l σ).1.mem (subIn ts l σ).2 vs
  | [], l, g, σ, vs, hE, hW, hR => ⟨g, hE, hW, Stays.refl _ _, by simpa [subIn] using hR⟩
  | t :: ts, [], g, σ, vs, hE, hW, hR => by
    cases t <;> exact ⟨g, hE, hW, Stays.refl _ _, by simpa [subIn] using hR⟩
  | t :: ts, x :: l, g, σ, vs, hE, hW, hR => by
    unfold Rels at hR
    obtain ⟨v, rs, rfl, h1, h2⟩ := hR
    have plain : ∀ {q : St × List AV}, q = (let r := subIn ts l σ; (r.1, x :: r.2)) → ∃ g', EnvR g' q.1 a ∧ WF w0 g' q.1.mem w ∧ Stays g g' σ.mem q.1.mem ∧ Rels g' q.1.mem q.2 (v :: rs) := fun hq => by
      subst hq
      obtain ⟨g', hE', hW', hs, hr⟩ := subIn_ok ts l rs hE hW h2
      exact ⟨g', hE', hW', hs, Rels.cons (Rel.mono hs _ _ h1) hr⟩
    cases t
    case ref q =>
      obtain ⟨g1, hE1, hW1, hs1, hr1⟩ := refAt_ok hE hW q x h1
      obtain ⟨g2, hE2, hW2, hs2, hr2⟩ := subIn_ok ts l rs hE1 hW1 (Rels.mono hs1 _ _ h2)
      exact ⟨g2, hE2, hW2, hs1.trans hs2, Rels.cons (Rel.mono hs2 _ _ hr1) hr2⟩
    all_goals exact plain rfl
theorem box_kept {m : List AO} {id j : Nat} {l0 : List AV} {o p : AO} (h : m[id]? = some (.box l0)) (hj : m.getD j .gone = o) (ho : ∀ l, o ≠ .box l) : (m.set j .gone ++ [p])[id]? = some (.box l0) := by
  have hne : j ≠ id := by
    rintro rfl
    rw [List.getD_eq_getElem?_getD, h] at hj
    exact ho l0 hj.symm
  have hlt := (List.getElem?_eq_some_iff.1 h).1
  rw [List.getElem?_append_left (by rw [List.length_set]; exact hlt), List.getElem?_set_ne hne]
  exact h
theorem subAt_box {σ : St} {x : AV} {id : Nat} {l0 : List AV} (h : σ.mem[id]? = some (.box l0)) : (subAt σ x).1.mem[id]? = some (.box l0) := by
  unfold subAt
  split
  · split
    · rename_i t l fr ho
      split
      · exact box_kept h ho (fun l h => by cases h)
      · exact h
    · exact h
  · exact h
theorem refAt_box {σ : St} {q : Nat} {x : AV} {id : Nat} {l0 : List AV} (h : σ.mem[id]? = some (.box l0)) : (refAt σ q x).1.mem[id]? = some (.box l0) := by
  unfold refAt
  split
  · split
    · split
      · rename_i t l fr ho
        exact box_kept h ho (fun l h => by cases h)
      · exact h
    · exact h
  · exact subAt_box h
theorem subIn_box {id : Nat} {l0 : List AV} : ∀ (ts : List TV) (l : List AV) (σ : St), σ.mem[id]? = some (.box l0) → (subIn ts l σ).1.mem[id]? = some (.box l0)
  | [], l, σ, h => h
  | t :: ts, [], σ, h => by cases t <;> exact h
  | t :: ts, x :: l, σ, h => by
    cases t
    case ref q => exact subIn_box ts l _ (refAt_box h)
    all_goals exact subIn_box ts l σ h
theorem subBoxes_ok {w0 : Ent} {w : World} {a : Act} : ∀ (os : List TO) (ids : List Nat) {g : Gh} {σ : St}, EnvR g σ a → WF w0 g σ.mem w →
    ∃ g', EnvR g' (subBoxes os ids σ) a ∧ WF w0 g' (subBoxes os ids σ).mem w ∧ Stays g g' σ.mem (subBoxes os ids σ).mem
  | [], ids, g, σ, hE, hW => by unfold subBoxes; exact ⟨g, hE, hW, Stays.refl _ _⟩
  | o :: os, [], g, σ, hE, hW => by cases o <;> (unfold subBoxes; exact ⟨g, hE, hW, Stays.refl _ _⟩)
  | o :: os, id :: ids, g, σ, hE, hW => by
    have plain := subBoxes_ok os ids hE hW
    cases o with
    | box ts =>
      unfold subBoxes
      split
      · rename_i l ho
        have hm := obj_some ho (by simp)
        obtain ⟨hb, c, T', hh, hr, h1⟩ := hW.own id _ hm
        obtain ⟨g1, hE1, hW1, hs1, hr1⟩ := subIn_ok ts l c.toList hE hW hr
        dsimp only
        have ho' : (subIn ts l σ).1.mem[id]? = some (.box l) := subIn_box ts l σ hm
        generalize subIn ts l σ = q at hE1 hW1 hs1 hr1 ho' ⊢
        obtain ⟨o', ho2, hg'⟩ := hs1.mem id _ hm
        have hbl : g1.bl id = g.bl id := by rw [ho'] at ho2; cases ho2; exact hg'
        have hs : Stays g1 g1 q.1.mem (q.1.setObj id (.box q.2)).mem := ⟨rfl, fun _ _ _ h => h, fun _ _ _ h => h, fun j p hj => by
          by_cases e : j = id
          · subst e
            rw [ho'] at hj
            cases hj
            exact ⟨_, by show (List.set _ j _)[j]? = _; rw [List.getElem?_set_self (List.getElem?_eq_some_iff.1 ho').1], by simp [AO.stays, AO.goes]⟩
          · exact ⟨p, by show (List.set _ id _)[j]? = _; rw [List.getElem?_set_ne (fun q => e q.symm)]; exact hj, AO.goes.refl _ _ _⟩⟩
        have hW2 : WF w0 g1 (q.1.setObj id (.box q.2)).mem w := hW1.write ho' (by simp [AO.stays, AO.goes]) (fun _ _ _ => rfl) (Nat.le_refl _) rfl rfl rfl (Nat.le_refl _)
          ⟨((hW1.own id _ ho').has_lt (b := g1.bl id) rfl).1, c, T', by rw [hbl]; exact hh, Rels.mono hs _ _ hr1, h1⟩ (fun _ h => h)
        obtain ⟨g2, hE2, hW3, hs3⟩ := subBoxes_ok os ids (hE1.step (σ' := q.1.setObj id (.box q.2)) hs rfl) hW2
        exact ⟨g2, hE2, hW3, (hs1.trans hs).trans hs3⟩
      · exact plain
    | _ => unfold subBoxes; exact plain
/-- the end of a call to which memory was handed over -/
theorem retM_ok {F : Fun} {fn : Func} {M : Mode} (hfn : F.prog.funcs[F.fn]? = some fn) {w1 : World} {ge : Gh} {m0 : List AO} (hm0 : ∀ b o v, ge.fz b o = some v → w1.cell? ⟨b, o, none⟩ = some v) {r : sem M.sh} {g : Gh} {σ : St} {a : Act} {w : World}
    {T : Tbls} (h : retM F fn M M.sh σ = some r) (hE : EnvR g σ a) (hW : WF (Ent.mp T w1 ge m0) g σ.mem w) :
    a.defers = [] ∧ ∃ v, (results fn a.tmps).run F.prog w = .ok v w ∧ PostM F.prog F.fn M (Ent.mp T w1 ge m0) r (.returned v) w := by
  refine ⟨hE.dfr, ?_⟩
  unfold retM at h
  obtain ⟨l, vs, hl, hrels, hrsz, hrun⟩ := resK_ok (P := F.prog) hE hW _ _ h
  have hrsz : vs.length = fn.results.size := by rw [hrsz]; simp
  have hres := res_run hrun
  have htup : retTup F.prog F.fn = (fn.results.size != 1) := by unfold retTup; rw [hfn]
  obtain ⟨g, hE, hW, _, hrels⟩ := subIn_ok M.res l vs hE hW hrels
  dsimp only at hl
  generalize subIn M.res l σ = p at hl hE hW hrels
  obtain ⟨σ, l⟩ := p
  dsimp only at hl hE hW hrels
  obtain ⟨g1, hE1, hW1, hs1, hr1⟩ := nilInA_ok M.mem M.res l vs hE hW hrels
  obtain ⟨g1', hE1', hW1', hs1'⟩ := subBoxes_ok M.mem (List.range σ.pin) hE1 hW1
  obtain ⟨g2, hE2, hW2, hs2⟩ := nilBoxes_ok M.mem M.mem (List.range σ.pin) hE1' hW1'
  have hs2 := hs1'.trans hs2
  have hr2 := Rels.mono hs2 _ _ hr1
  have hpin2 : (nilBoxes M.mem M.mem (List.range σ.pin) (subBoxes M.mem (List.range σ.pin) (nilInA M.mem M.res l σ).1)).pin = σ.pin := by rw [hE2.pin.1, hE.pin.1, hs2.pv, hs1.pv]
  have hre := reach_range (nilBoxes M.mem M.mem (List.range σ.pin) (subBoxes M.mem (List.range σ.pin) (nilInA M.mem M.res l σ).1)).mem 3 σ.pin (AV.idsL (nilBoxes M.mem M.mem (List.range σ.pin) (subBoxes M.mem (List.range σ.pin) (nilInA M.mem M.res l σ).1)).mem (nilInA M.mem M.res l σ).2)
  generalize nilBoxes M.mem M.mem (List.range σ.pin) (subBoxes M.mem (List.range σ.pin) (nilInA M.mem M.res l σ).1) = σ2 at hl hE2 hW2 hs2 hr2 hpin2 hre
  generalize (nilInA M.mem M.res l σ).2 = l2 at hl hr2 hre
  generalize reach σ2.mem 3 (addNew (List.range σ.pin) (AV.idsL σ2.mem l2)) = ord at hl hre
  split at hl
  · rename_i hc
    simp only [Bool.and_eq_true, beq_iff_eq, decide_eq_true_eq] at hc
    obtain ⟨hnd, ⟨hlen, hpn⟩, _⟩ := hc
    split at hl
    · rename_i as bs hta htb
      rw [← hpin2] at hre
      obtain ⟨hE3, hW3⟩ := number_ok hE2 hW2 hnd hre
      have hr3 := renL_rel (reGoes g2 σ2 ord) _ _ hr2
      let gr := reG g2 ord
      let g3 : Gh := { gr with fz := if M.flat then (fun _ _ => none) else gr.fz, fn := fun _ _ => none }
      have hfnr : ∀ b o v, gr.fn b o = some v → gr.fz b o = some v := fun b o v hv => (hW3.fnz b o v hv).1
      have hsim := resH_sim _ _ _ hl
      change SimL _ _ (spreadF M.sh r) at hsim
      obtain ⟨c1, c2, hcc, sA, sB⟩ := SimL.split _ _ _ _ _ (takes_len M.res _ as hta) hsim
      have hm2 : (ord.map fun i => (σ2.obj i).ren (newId ord)) = reM σ2 ord := rfl
      rw [hm2] at htb
      have hOk : ∀ t, (t ∈ TV.shsL M.res ∨ .row t ∈ M.mem ∨ (∃ l, .box l ∈ M.mem ∧ t ∈ TV.shsL l) ∨ (∃ k nn, .map k t nn ∈ M.mem)) → OkS gr g3 t := fun t ht => by
        cases hfl : M.flat with
        | true =>
          left
          unfold Mode.flat at hfl
          rw [Bool.and_eq_true, List.all_eq_true, List.all_eq_true] at hfl
          rcases ht with h | h | ⟨l, h, h'⟩ | ⟨k, nn, h⟩
          · exact hfl.1 t h
          · exact hfl.2 _ h
          · exact List.all_eq_true.1 (hfl.2 _ h) t h'
          · have := hfl.2 _ h
            simp only [TO.flat, Bool.and_eq_true] at this
            exact this.2
        | false =>
          right
          intro b o v hv
          show (if M.flat then (fun _ _ => none) else gr.fz) b o = some v
          rw [hfl]; exact hv
      have hfillM : M.outM r = TO.fills M.nin 0 M.mem c2 := by
        have e1 := (tvFills_ok (g := gr) (g3 := gr) (m := reM σ2 ord) (m3 := reM σ2 ord) hfnr ⟨fun j o ho => ⟨o, ho, by cases o <;> simp [AO.kin]⟩⟩ M.res _ as hta (fun t _ => .inr (fun _ _ _ h => h)) c1 c2 sA).1
        unfold Mode.outM
        rw [hcc, e1]
      have hlenM : (M.outM r).length = (reM σ2 ord).length := by
        rw [hfillM]
        have : ∀ (T : List TO) (nin i : Nat) (c : List AV), (TO.fills nin i T c).length = T.length := by
          intro T
          induction T with
          | nil => intro nin i c; rfl
          | cons o T ih => intro nin i c; unfold TO.fills; simp [ih]
        rw [this, takes_pos _ _ _ htb]
      -- two steps: first what the objects are like, then what they hold
      have hKins : Kins gr g3 (reM σ2 ord) (M.outM r) := by
        refine ⟨fun j o ho => ?_⟩
        have hj := (List.getElem?_eq_some_iff.1 ho).1
        have h0 := (fillsO_ok (g := gr) (g3 := gr) (m := reM σ2 ord) (m3 := reM σ2 ord) hfnr ⟨fun j o ho => ⟨o, ho, by cases o <;> simp [AO.kin]⟩⟩ (fun _ => rfl) (fun _ => rfl) rfl M.nin M.mem 0 _ bs htb (fun t _ => .inr (fun _ _ _ h => h)) c2 sB
          (fun j o hj => by rw [Nat.zero_add]; exact hW3.own j o hj)).2 j _ (List.getElem?_eq_getElem (by rw [← hfillM, hlenM]; exact hj))
        obtain ⟨o1, r1, _, _, _, r5⟩ := h0
        rw [ho] at r1
        cases r1
        refine ⟨_, List.getElem?_eq_getElem (by rw [hlenM]; exact hj), ?_⟩
        rw [Nat.zero_add] at r5
        have : (M.outM r)[j]'(by rw [hlenM]; exact hj) = (TO.fills M.nin 0 M.mem c2)[j]'(by rw [← hfillM, hlenM]; exact hj) := by congr 1
        rw [this]
        revert r5
        generalize (TO.fills M.nin 0 M.mem c2)[j]'(by rw [← hfillM, hlenM]; exact hj) = q
        intro r5
        cases o <;> cases q <;> exact r5
      obtain ⟨_, hobj⟩ := fillsO_ok (g := gr) (g3 := g3) (m := reM σ2 ord) (m3 := M.outM r) hfnr hKins (w := w) (fun _ => rfl) (fun _ => rfl) rfl M.nin M.mem 0 _ bs htb
        (fun t ht => hOk t (.inr ht)) c2 sB (fun j o hj => by rw [Nat.zero_add]; exact hW3.own j o hj)
      rw [← hfillM] at hobj
      have hR := (tvFills_ok (g := gr) (g3 := g3) (m := reM σ2 ord) (m3 := M.outM r) hfnr hKins M.res _ as hta (fun t ht => hOk t (.inl ht)) c1 c2 sA).2
      have hRel : Rels g3 (M.outM r) (M.outR r) vs := by
        have := hR vs hr3
        unfold Mode.outR
        rw [hcc]; exact this
      have hg3fz : ∀ b o v, g3.fz b o = some v → gr.fz b o = some v := fun b o v hv => by
        have hv : (if M.flat then (fun _ _ => none) else gr.fz) b o = some v := hv
        split at hv
        · cases hv
        · exact hv
      have hpv : gr.pv = pinOf ge m0 := hW3.pvn
      have hfzin : ∀ b o v, ge.fz b o = some v → gr.fz b o = some v := fun b o v hv => hE3.pin.2.2 b o v (by rw [hpv]; exact hv)
      have hobj' : ∀ (j : Nat) o', (M.outM r)[j]? = some o' → ∃ o, (reM σ2 ord)[j]? = some o ∧ OwnO g3 (M.outM r) w j o' ∧ (∀ b, o'.has g3 j b → o.has gr j b) ∧ (∀ k v nn l s r cu, o' = .map k v nn l s r cu → s = if j < M.nin then 2 else 0) ∧ o.kin gr g3 j j o' := fun j o' hj => by
        have := hobj j o' hj
        rwa [Nat.zero_add] at this
      refine ⟨_, hres, _, g3, rfl, ⟨hW3.nn, hW3.pvn, fun b o v hv => hW3.ext b o v (hg3fz b o v hv), hW3.below, hW3.base, fun b o v hv => hW3.fzc b o v (hg3fz b o v hv), (fun b o v hv => by cases hv), fun j o' hj => ?_, fun j o' b hj hb => ?_, hW3.bx, fun j o' b hj hb => ?_, hW3.tbl⟩, ?_, (fun _ _ => rfl), fun hfl b o => ?_, fun hfl b o v hv => ?_, fun id o ho => ?_⟩
      · obtain ⟨o, _, h2, _⟩ := hobj' j o' hj
        exact h2
      · obtain ⟨o, h1, _, h3, _⟩ := hobj' j o' hj
        obtain ⟨q1, q2⟩ := hW3.apart j o b h1 (h3 b hb)
        refine ⟨fun off => ?_, fun j2 o2 hne hj2 hb2 => ?_⟩
        · cases hz : g3.fz b off with
          | none => rfl
          | some v =>
            have := hg3fz b off v hz
            rw [q1 off] at this; cases this
        · obtain ⟨o3, h1', _, h3', _⟩ := hobj' j2 o2 hj2
          exact q2 j2 o3 hne h1' (h3' b hb2)
      · obtain ⟨o, h1, _, h3, _⟩ := hobj' j o' hj
        exact hW3.mine j o b h1 (h3 b hb)
      · by_cases hone : vs.length = 1
        · have ht : retTup F.prog F.fn = false := by rw [htup, ← hrsz, hone]; rfl
          rw [if_neg (by rw [ht]; simp)]
          rw [dif_pos (by simpa using hone)]
          obtain ⟨v, rfl⟩ := List.length_eq_one_iff.1 hone
          have hl1 := hRel.length
          obtain ⟨a', ha'⟩ := List.length_eq_one_iff.1 (show (M.outR r).length = 1 by omega)
          rw [ha'] at hRel ⊢
          unfold Rels at hRel
          obtain ⟨u, rs, e, h1, _⟩ := hRel
          cases e
          exact ⟨a', rfl, h1⟩
        · have ht : retTup F.prog F.fn = true := by rw [htup, ← hrsz]; simp [hone]
          rw [if_pos ht]
          rw [dif_neg (by simpa using hone)]
          exact ⟨_, rfl, by simpa using hRel⟩
      · show (if M.flat then (fun _ _ => none) else gr.fz) b o = none
        rw [if_pos hfl]
      · show (if M.flat then (fun _ _ => none) else gr.fz) b o = some v
        rw [if_neg (by rw [hfl]; simp)]
        exact hfzin b o v hv
      · have ho : gr.pv.m[id]? = some o := by rw [hpv]; exact ho
        obtain ⟨o1, h1, h2⟩ := hE3.pin.2.1 id o ho
        have hid := (List.getElem?_eq_some_iff.1 h1).1
        have hidM : id < (M.outM r).length := by rw [hlenM]; exact hid
        obtain ⟨o2, r1, _, _, r4, r5⟩ := hobj' id _ (List.getElem?_eq_getElem hidM)
        have h1' : (reM σ2 ord)[id]? = some o1 := h1
        rw [h1'] at r1
        cases r1
        refine ⟨_, List.getElem?_eq_getElem hidM, ?_⟩
        have hidn : id < M.nin := by
          rw [← hpn, ← hpin2, hE2.pin.1]
          have := (List.getElem?_eq_some_iff.1 ho).1
          exact this
        have hpv2 : (Ent.mp T w1 ge m0).pv.gh = gr.pv.gh := by rw [hpv]; rfl
        rw [hpv2]
        revert r4 r5
        generalize (M.outM r)[id]'hidM = q
        intro r4 r5
        have h2 : o.goes gr.pv.gh gr id id o1 := h2
        cases q with
        | gone => cases o <;> trivial
        | box l => cases o1 <;> cases o <;> simp only [AO.goes, AO.kin] at h2 r5 ⊢; rw [r5, h2]
        | row t l fr =>
          cases o1 <;> cases o <;> simp only [AO.goes, AO.kin] at h2 r5 ⊢
          obtain ⟨rfl, a1, a2⟩ := r5
          obtain ⟨rfl, b1, b2⟩ := h2
          exact ⟨rfl, by rw [a1, b1], by rw [a2, b2]⟩
        | map k v nn l st rem cur =>
          have hst := r4 _ _ _ _ _ _ _ rfl
          rw [if_pos hidn] at hst
          subst hst
          cases o1 <;> cases o <;> simp only [AO.goes, AO.kin] at h2 r5 ⊢
          obtain ⟨rfl, rfl, a2⟩ := r5
          obtain ⟨rfl, rfl, b2, _⟩ := h2
          exact ⟨rfl, rfl, by rw [a2, b2], .inr (.inr trivial), by simp⟩
    · cases hl
  · cases hl
theorem Fun.soundM (F : Fun) {M : Mode} {fn : Func} {c : Code} (hfn : F.prog.funcs[F.fn]? = some fn) (hname : (fn.name == "runtime.NumGoroutine") = false) (hb : fn.body = some c) {Φ : Nat → Nat → List AV → (τ : Sh) → Option (sem τ)}
    {T : Tbls} (hΦ : ∀ f, SoundX T F.prog f (Φ f) F.frs) (hmix : F.prog.follows .mixedOrders = true) : SoundM T F.prog F.fn M (fun k => F.runM M Φ k) := by
  intro k objs as r h
  refine ⟨fun args w => Go.MuLone.run_callFunc_enter hfn hname hb args w, fun w g vs hW hgfn hrel => ?_⟩
  simp only [Fun.runM] at h
  have hret : ∀ Q : Exit, Q = .normal ∨ Q = .ret → Next (Ent.mp T w g (objs.map decO)) r (retM F fn M M.sh) (bodyPost F.prog fn (PostM F.prog F.fn M (Ent.mp T w g (objs.map decO)) r) Q) := fun Q hQ g' σ a w' hE hW' h => by
    have := retM_ok hfn (m0 := objs.map decO) hW.fzc h hE hW'
    rcases hQ with rfl | rfl <;> exact this
  refine (runG_ok hfn hb hΦ hmix hret h (g := g) (vs := vs) ?_ hW).mono (fun e w' hp => hp)
  have hlen := hrel.length
  have hpv : g.pv = pinOf g (objs.map decO) := hW.pvn
  refine ⟨?_, rfl, ?_, fun id o ho => ?_, fun b o v hv => ?_⟩
  · rw [Array.toList_append, Array.toList_replicate]
    rw [show fn.ntmps - vs.size = fn.ntmps - as.length by rw [← hlen]; simp]
    exact Rels.append hrel (Rels.undefs undef _)
  · rw [hpv]; simp [pinOf]
  · rw [hpv] at ho ⊢
    have ho : (objs.map decO)[id]? = some o := ho
    refine ⟨o, ho, ?_⟩
    have hdec : ∃ x, o = decO x := by
      rw [List.getElem?_map] at ho
      obtain ⟨x, _, rfl⟩ := Option.map_eq_some_iff.1 ho
      exact ⟨x, rfl⟩
    cases o with
    | gone => trivial
    | box l => exact rfl
    | row t l fr => exact ⟨rfl, rfl, rfl⟩
    | map k v nn l st rem cur =>
      have hst : st = 0 := by
        obtain ⟨x, hx⟩ := hdec
        unfold decO at hx
        split at hx <;> cases hx <;> rfl
      subst hst
      exact ⟨rfl, rfl, rfl, .inl rfl, fun h => by cases h⟩
  · rw [hpv] at hv
    exact hv
/-- nothing is said of a function that is not in the table -/
theorem SoundX.none (T : Tbls) (P : Program) (f : Nat) (b : Frs) : SoundX T P f (fun _ _ _ => none) b := ⟨fun _ _ _ _ _ h => (by cases h), fun _ _ _ _ _ _ _ h => (by cases h)⟩
/-! #### the table of callees -/
abbrev Tab := List (Nat × (Nat → List AV → (τ : Sh) → Option (sem τ)))
def Tab.get : Tab → Nat → Nat → List AV → (τ : Sh) → Option (sem τ)
  | [], _, _, _, _ => none
  | (f, F) :: t, g, k, as, τ => if g = f then F k as τ else Tab.get t g k as τ
def Tab.Ok (T : Tbls) (P : Program) (frs : Frs) : Tab → Prop
  | [] => True
  | (f, F) :: t => SoundX T P f F frs ∧ Tab.Ok T P frs t
theorem Tab.sound {T : Tbls} {P : Program} {frs : Frs} : ∀ {t : Tab}, t.Ok T P frs → ∀ f, SoundX T P f (t.get f) frs
  | [], _, f => SoundX.none T P f _
  | (f, F) :: t, h, g => by
    by_cases e : g = f
    · subst e
      have : Tab.get ((g, F) :: t) g = F := by funext k as τ; simp [Tab.get]
      rw [this]; exact h.1
    · have : Tab.get ((f, F) :: t) g = Tab.get t g := by funext k as τ; simp [Tab.get, e]
      rw [this]; exact Tab.sound h.2 g
end Go.Den
