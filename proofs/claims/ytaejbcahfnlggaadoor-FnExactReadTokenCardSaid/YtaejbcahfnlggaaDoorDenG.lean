import Derived.Test.YtaejbcahfnlggaaDoorDenT
namespace Go.Den
open Go.RowKit (wrap64)
set_option linter.unusedVariables false
set_option linter.unusedSimpArgs false
/-! An operation that only computes, reads or calls for flat data yields one value in every world grown out of this one. -/
section
variable {P : Program} {g : Gh} {ω : Type} {r : ω} {w0 : Ent} {wb : World} {Φ : Nat → Nat → List AV → (τ : Sh) → Option (sem τ)} {frs : Frs}
theorem bnd_some {α β : Type} {o : Option α} {f : α → Option β} {b : β} (h : bnd o f = some b) : ∃ a, o = some a ∧ f a = some b := Option.bind_eq_some_iff.1 h
theorem leaf_rel {m : List AO} {t : Sh} {a : AV} {x : sem t} {f : Bool} (h : leaf t a = some (x, f)) {v : Value} (hr : Rel g m a v) : RepV (g.sel f) t x v := by
  unfold leaf at h
  split at h
  · rename_i c
    split at h
    · cases h; rw [hr.cd_inv]; exact rfl
    · cases h
  · split at h
    · cases h
      unfold Rel at hr
      subst hr
      exact ⟨none, 0, rfl, Nat.le_refl _, .inl rfl⟩
    · cases h
  · rename_i t' y fr
    split at h
    · rename_i z hz
      obtain ⟨e, e'⟩ := cast?_some hz
      subst e
      cases h
      subst e'
      unfold Rel at hr
      exact hr
    · cases h
  · cases h
theorem sel_le (hf : ∀ b o v, g.fn b o = some v → g.fz b o = some v) {f f' : Bool} (h : f' = true → f = true) : ∀ b o v, g.sel f b o = some v → g.sel f' b o = some v := by
  cases f <;> cases f' <;> simp [Gh.sel] at h ⊢
  exact hf
theorem implode_rel (hf : ∀ b o v, g.fn b o = some v → g.fz b o = some v) {m : List AO} : ∀ (t : Sh) (l : List AV) (x : sem t) (f : Bool) (r : List AV), implode t l = some (x, f, r) → ∀ vs, Rels g m l vs →
    ∃ c cr, vs = c ++ cr ∧ RepC (g.sel f) t x c ∧ Rels g m r cr
  | .unit, l, x, f, r, h, vs, hr => by
    simp [implode] at h
    obtain ⟨_, rfl⟩ := h
    exact ⟨[], vs, rfl, rfl, hr⟩
  | .pair a b, l, x, f, r, h, vs, hr => by
    unfold implode at h
    split at h
    · rename_i x1 f1 l1 h1
      split at h
      · rename_i x2 f2 l2 h2
        cases h
        obtain ⟨c1, r1, rfl, q1, q2⟩ := implode_rel hf a l _ _ _ h1 vs hr
        obtain ⟨c2, r2, rfl, q3, q4⟩ := implode_rel hf b l1 _ _ _ h2 r1 q2
        exact ⟨c1 ++ c2, r2, by simp, ⟨c1, c2, rfl, q1.mono (sel_le hf (by simp; intro a _; exact a)), q3.mono (sel_le hf (by simp))⟩, q4⟩
      · cases h
    · cases h
  | .rose t, l, x, f, r, h, vs, hr => by
    unfold implode at h
    split at h
    · rename_i x1 f1 v l1 h1
      split at h
      · rename_i y g2 h2
        cases h
        obtain ⟨c1, r1, rfl, q1, q2⟩ := implode_rel hf t l _ _ _ h1 vs hr
        unfold Rels at q2
        obtain ⟨u, rs, rfl, hu, hrs⟩ := q2
        have q3 : RepC (g.sel g2) (.list (.rose t)) y [u] := leaf_rel h2 hu
        exact ⟨c1 ++ [u], rs, by simp, RepC.rose.2 ⟨c1, [u], rfl, q1.mono (sel_le hf (by simp; intro a _; exact a)), q3.mono (sel_le hf (by simp))⟩, hrs⟩
      · cases h
    · cases h
  | .int k, [], x, f, r, h, vs, hr => by simp [implode] at h
  | .bool, [], x, f, r, h, vs, hr => by simp [implode] at h
  | .str, [], x, f, r, h, vs, hr => by simp [implode] at h
  | .list t, [], x, f, r, h, vs, hr => by simp [implode] at h
  | .int k, a :: l, x, f, r, h, vs, hr => by
    unfold Rels at hr; obtain ⟨v, rs, rfl, h1, h2⟩ := hr
    simp only [implode] at h
    split at h
    · rename_i y g' hl; cases h; exact ⟨[v], rs, rfl, leaf_rel hl h1, h2⟩
    · cases h
  | .bool, a :: l, x, f, r, h, vs, hr => by
    unfold Rels at hr; obtain ⟨v, rs, rfl, h1, h2⟩ := hr
    simp only [implode] at h
    split at h
    · rename_i y g' hl; cases h; exact ⟨[v], rs, rfl, leaf_rel hl h1, h2⟩
    · cases h
  | .str, a :: l, x, f, r, h, vs, hr => by
    unfold Rels at hr; obtain ⟨v, rs, rfl, h1, h2⟩ := hr
    simp only [implode] at h
    split at h
    · rename_i y g' hl; cases h; exact ⟨[v], rs, rfl, leaf_rel hl h1, h2⟩
    · cases h
  | .list t, a :: l, x, f, r, h, vs, hr => by
    unfold Rels at hr; obtain ⟨v, rs, rfl, h1, h2⟩ := hr
    simp only [implode] at h
    split at h
    · rename_i y g' hl; cases h; exact ⟨[v], rs, rfl, leaf_rel hl h1, h2⟩
    · cases h
theorem data_rel (hf : ∀ b o v, g.fn b o = some v → g.fz b o = some v) {m : List AO} {t : Sh} {a : AV} {x : sem t} {f : Bool} (h : data t a = some (x, f)) {v : Value} (hr : Rel g m a v) : RepV (g.sel f) t x v := by
  unfold data at h
  split at h
  · rename_i l
    split at h
    · rename_i hp
      split at h
      · rename_i y f' hi
        cases h
        unfold Rel at hr
        obtain ⟨vs, rfl, hl, _⟩ := hr
        obtain ⟨c, cr, e, q1, q2⟩ := implode_rel hf t l _ _ _ hi _ hl
        unfold Rels at q2
        subst q2
        rw [List.append_nil] at e
        unfold RepV
        rw [if_pos hp]
        exact ⟨vs, rfl, by rw [e]; exact q1⟩
      · cases h
    · cases h
  · exact leaf_rel h hr
theorem normA_rel {g : Gh} {m : List AO} (hfn : ∀ b o v, g.fn b o = some v → g.fz b o = some v) (t : TypeId) (a : AV) (v : Value) (h : Rel g m a v) : Rel g m (normA P t a) v := by
  unfold normA
  split
  · rename_i s hs
    split
    · rename_i x f hd
      have hr := data_rel hfn hd h
      have hF : RepV g.fz s x v := by
        cases f with
        | true => exact hr.mono hfn
        | false => exact hr
      refine mkD_rel ?_
      unfold Gh.sel
      cases hf : s.flat with
      | true => exact hF.flat hf
      | false => exact hF
    · exact h
  · exact h
theorem normAs_rel {g : Gh} {m : List AO} (hfn : ∀ b o v, g.fn b o = some v → g.fz b o = some v) : ∀ (ts : List TypeId) (l : List AV) (vs : List Value), Rels g m l vs → Rels g m (normAs P ts l) vs
  | _, [], vs, e => by unfold normAs; exact e
  | [], a :: l, vs, e => by unfold normAs; exact e
  | t :: ts, a :: l, vs, e => by
    unfold normAs
    unfold Rels at *
    obtain ⟨v, rs, rfl, h1, h2⟩ := e
    exact ⟨v, rs, rfl, normA_rel hfn t a v h1, normAs_rel hfn ts l rs h2⟩
theorem fn_none {n : Nat} {F : Fz} : ∀ b o v, (G0 n F).fn b o = some v → (G0 n F).fz b o = some v := fun b o v h => by cases h
theorem modeAt_none {frs : Frs} {ts : List TypeId} {x : Operand} {σ : St} {f : Nat} {caps : List AV} (hf : opnd σ x = .fn f caps) (h : isM frs ts x = false) : modeAt frs ts x f = none := by
  cases x with
  | func f' =>
    have : f' = f := by cases hf; rfl
    subst this
    unfold isM at h
    unfold modeAt
    cases hm : frs.mode f' with
    | none => rfl
    | some M => simp [hm] at h
  | tmp t =>
    unfold isM Frs.anyVal at h
    unfold modeAt
    cases hm : frs.mode f with
    | none => rfl
    | some M =>
      have : M.by ts = false := by
        have hmem : ∀ (l : List (Nat × Mode)), findM f l = some M → ∃ g, (g, M) ∈ l := by
          intro l
          induction l with
          | nil => intro h; cases h
          | cons p l ih =>
            intro h
            unfold findM at h
            split at h
            · cases h; exact ⟨_, List.mem_cons_self⟩
            · obtain ⟨g, hg⟩ := ih h; exact ⟨g, List.mem_cons_of_mem _ hg⟩
        obtain ⟨g, hg⟩ := hmem _ hm
        have := List.any_eq_false.1 h _ hg
        simpa using this
      simp [this]
  | const v => unfold modeAt; cases frs.mode f <;> rfl
  | global q => unfold modeAt; cases frs.mode f <;> rfl
/-- a look-up sees one object alone -/
theorem find_born : ∀ (l : List MapEntry) (e : MapEntry), e ∈ l → (l.map (·.born)).Nodup → l.find? (fun x => x.born == e.born) = some e
  | x :: l, e, h, hn => by
    rw [List.map_cons, List.nodup_cons] at hn
    rcases List.mem_cons.1 h with rfl | h
    · simp
    · have : (x.born == e.born) = false := by
        rw [beq_eq_false_iff_ne]
        intro q
        exact hn.1 (List.mem_map.2 ⟨e, h, q.symm⟩)
      rw [List.find?_cons, this]
      exact find_born l e h hn.2
theorem lookup_ok {σ : St} (hW : WF w0 g σ.mem wb) {t : TypeId} {a b : Sh} (ht : mapT P t = some (a, b)) {id : Nat} {nn : Bool} {l : List (sem a × sem b)} {st : Nat} {rem : List (sem a × sem b)} {cur : Option (sem a × sem b)} (hm : σ.mem[id]? = some (.map a b nn l st rem cur))
    {vx : Value} {y : sem a} (hx : vx = valV a y) (ok : Bool) : ∃ v, Rel g σ.mem (if ok then .tup [mkD b (mget a b l y) b.flat, .c (.bv (mhas a b l y))] else mkD b (mget a b l y) b.flat) v ∧ ∀ w, From wb w → (Instr.lookup t (g.rv id) vx ok).run P w = .ok v w := by
  obtain ⟨k, e, hu, hk, he, haf, hak, hz⟩ := mapT_some ht
  subst hx
  have flat : ∀ {x : sem b} {v : Value}, RepV g.fz b x v → RepV (g.sel b.flat) b x v := fun {x v} h => by
    unfold Gh.sel
    cases hf : b.flat with
    | true => exact h.flat hf
    | false => exact h
  have hck : ∀ em w, (Instr.checkKey em 10000 k (valV a y)).run P w = .ok () w := fun em w => checkKey_ok em depth depth 10000 (by decide) k a hk hak haf y w
  have tup : ∀ {v : Value}, RepV g.fz b (mget a b l y) v → Rel g σ.mem (if ok then .tup [mkD b (mget a b l y) b.flat, .c (.bv (mhas a b l y))] else mkD b (mget a b l y) b.flat) (if ok then .tuple #[v, .bool (mhas a b l y)] else v) := fun {v} h => by
    cases ok with
    | true => simp only [if_true]; unfold Rel; exact ⟨_, rfl, Rels.cons (mkD_rel (flat h)) (Rels.cons (Rel.cd (c := .bv _)) Rels.nil)⟩
    | false => simp only [Bool.false_eq_true, if_false]; exact mkD_rel (flat h)
  have lacks : ∀ (es : List MapEntry), Lacks g.fz a b l y es → ∃ v, RepV g.fz b (mget a b l y) v ∧ ∀ w, (zeroValue e).run P w = .ok v w := fun es hF => by
    obtain ⟨z, hz1, hz2⟩ := zeroOk_some hz wb
    rw [hF.val]
    refine ⟨z, hz2 g.fz, fun w => ?_⟩
    obtain ⟨z', hz3, _⟩ := zeroOk_some hz w
    have : z' = z := by
      unfold zeroOk at hz
      split at hz
      · rename_i i hi
        split at hz
        · rename_i z0 hz0
          simp [zeroValue, typeInfo, hi, hz0] at hz1 hz3
          rw [← hz1, ← hz3]
        · cases hz
      · cases hz
    rw [← this]; exact hz3
  obtain ⟨_, ⟨_, _, e1, rfl⟩ | ⟨r, es, clock, e1, _, hh, _, hl, _⟩⟩ := hW.own id _ hm
  · have hF : Lacks g.fz a b [] y [] := Lacks.nil haf
    obtain ⟨v, hv, hzr⟩ := lacks [] hF
    refine ⟨_, tup hv, fun w hw => ?_⟩
    rcases findKey_ok (P := P) (fz := g.fz) (b := b) hk hak haf y [] [] rfl with ⟨j, e2, h1, h2⟩ | ⟨h1, h2⟩
    · exact absurd h2.at_ (by simp)
    · rw [e1]
      simp [Instr.lookup, run_underlying hu, hck, h1, hzr, hF.has]
  · rcases findKey_ok (P := P) (fz := g.fz) (b := b) hk hak haf y l es.toList hl with ⟨j, e2, h1, hF⟩ | ⟨h1, hF⟩
    · refine ⟨_, tup hF.val, fun w hw => ?_⟩
      have hg : (getObj r).run P w = .ok (.map es clock) w := Go.MapKept.run_getObj_map (by rw [hw.block r (Array.getElem?_eq_some_iff.1 hh).1]; exact hh)
      rw [e1]
      simp [Instr.lookup, run_underlying hu, hg, hck, h1, hF.has]
    · obtain ⟨v, hv, hzr⟩ := lacks _ hF
      refine ⟨_, tup hv, fun w hw => ?_⟩
      have hg : (getObj r).run P w = .ok (.map es clock) w := Go.MapKept.run_getObj_map (by rw [hw.block r (Array.getElem?_eq_some_iff.1 hh).1]; exact hh)
      rw [e1]
      simp [Instr.lookup, run_underlying hu, hg, hck, h1, hzr, hF.has]
/-- where a loop over a map stands -/
theorem entry_ok {σ : St} (hW : WF w0 g σ.mem wb) {id : Nat} {nn : Bool} {a b : Sh} {l rem : List (sem a × sem b)} {p : sem a × sem b} (hm : σ.mem[id]? = some (.map a b nn l 1 rem (some p))) :
    ∃ v, Rel g σ.mem (.tup [mkD a p.1 a.flat, mkD b p.2 b.flat]) v ∧ ∀ w, From wb w → (Instr.entry (g.iv id)).run P w = .ok v w := by
  have flat : ∀ {t : Sh} {x : sem t} {v : Value}, RepV g.fz t x v → RepV (g.sel t.flat) t x v := fun {t x v} h => by
    unfold Gh.sel
    cases hf : t.flat with
    | true => exact h.flat hf
    | false => exact h
  obtain ⟨_, ⟨_, h1, _⟩ | ⟨r, es, clock, e1, _, hh, hst, hl, hit⟩⟩ := hW.own id _ hm
  · exact absurd rfl h1
  · obtain ⟨c, seen, e2, _, hne, hc, _, hcur⟩ := hit rfl
    obtain ⟨e, q1, q2, q3, q4⟩ := hcur p rfl
    refine ⟨.tuple #[e.key, e.val], ?_, fun w hw => ?_⟩
    · unfold Rel
      exact ⟨_, rfl, Rels.cons (mkD_rel (flat q3)) (Rels.cons (mkD_rel (flat q4)) Rels.nil)⟩
    · have hg : (getObj r).run P w = .ok (.map es clock) w := Go.MapKept.run_getObj_map (by rw [hw.block r (Array.getElem?_eq_some_iff.1 hh).1]; exact hh)
      have hc' : w.heap[c]? = some (.mapIter (some r) clock seen clock) := by rw [hw.block c (Array.getElem?_eq_some_iff.1 hc).1]; exact hc
      have hgi : (getObj c).run P w = .ok (.mapIter (some r) clock seen clock) w := by simp [getObj, Sem.run, hc']
      have hfind : es.find? (fun x => x.born == e.born) = some e := by
        rw [Array.find?_toList.symm]
        exact find_born es.toList e q2 hst.2
      rw [e2]
      simp [Instr.entry, hgi, hg, q1, hfind]
theorem allK_some {ω : Type} {r : ω} {n : Int} {K : Int → Option ω} (h : allK n K = some r) : 0 < n ∧ ∀ i : Int, 0 ≤ i → i < n → K i = some r := by
  unfold allK at h
  split at h
  · rename_i hex
    have := hex.choose_spec
    cases h
    exact this
  · cases h
theorem run_eql_slice {t e : TypeId} (hu : P.underlying t = some (.slice e)) (a : Option Addr) (n c : Nat) (w : World) : (Op.equal t (.slice a n c) (.slice none 0 0)).run P w = .ok a.isNone w := by
  unfold Op.equal
  show (Op.equalIn (9999 + 1) t _ _).run P w = _
  unfold Op.equalIn
  cases a <;> simp [run_underlying hu]
theorem binK_ok (hfn : ∀ b o v, g.fn b o = some v → g.fz b o = some v) {m : List AO} {op : BinOp} {t : TypeId} {x y : AV} {K : AV → Option ω} (h : binK P op t x y K = some r) {vx vy : Value} (hx : Rel g m x vx) (hy : Rel g m y vy) (X Y : Operand) :
    ∃ av v, K av = some r ∧ Rel g m av v ∧ ∀ w, (do eqGuard op t X Y vx vy; binOp op t vx vy : Sem Value).run P w = .ok v w := by
  have fin : ∀ {av : AV} {v : Value}, ((∃ k n, vx = .int k n) ∨ (∃ s, vx = .string s) ∨ ∃ c, vx = .bool c) → (K av = some r ∧ Rel g m av v ∧ ∀ w, (binOp op t vx vy).run P w = .ok v w) →
      ∃ av v, K av = some r ∧ Rel g m av v ∧ ∀ w, (do eqGuard op t X Y vx vy; binOp op t vx vy : Sem Value).run P w = .ok v w :=
    fun hv ⟨h1, h2, h3⟩ => ⟨_, _, h1, h2, fun w => by rw [Sem.run_bind, eqGuard_plain hv, Result.andThen_ok]; exact h3 w⟩
  by_cases hi : ∃ k a fa k' b fb, x = .d (.int k) a fa ∧ y = .d (.int k') b fb
  · obtain ⟨k, a, fa, k', b, fb, rfl, rfl⟩ := hi
    obtain rfl := hx.int_inv
    obtain rfl := hy.int_inv
    obtain ⟨av, v, h1, h2, h3⟩ := intK' h (g := g) (m := m)
    exact fin (.inl ⟨_, _, rfl⟩) ⟨h1, h2, h3⟩
  by_cases hs : ∃ a fa b fb, x = .d .str a fa ∧ y = .d .str b fb
  · obtain ⟨a, fa, b, fb, rfl, rfl⟩ := hs
    obtain rfl := hx.str_inv
    obtain rfl := hy.str_inv
    obtain ⟨av, v, h1, h2, h3⟩ := strK h (g := g) (m := m)
    exact fin (.inr (.inl ⟨_, rfl⟩)) ⟨h1, h2, h3⟩
  by_cases hc : ∃ a b, x = .c a ∧ y = .c b
  · obtain ⟨a, b, rfl, rfl⟩ := hc
    obtain rfl := hx.cd_inv
    obtain rfl := hy.cd_inv
    obtain ⟨av, v, h1, h2, h3⟩ := boolK h (g := g) (m := m)
    exact fin (.inr (.inr ⟨_, rfl⟩)) ⟨h1, h2, h3⟩
  unfold binK at h
  split at h
  · exact absurd ⟨_, _, _, _, _, _, rfl, rfl⟩ hi
  · exact absurd ⟨_, _, _, _, rfl, rfl⟩ hs
  · exact absurd ⟨_, _, rfl, rfl⟩ hc
  · rename_i l fr
    split at h
    · rename_i e hu
      have hx' : RepV (g.sel fr) (.list _) l vx := by unfold Rel at hx; exact hx
      unfold RepV at hx'
      rw [if_neg (by simp [Sh.isP])] at hx'
      obtain ⟨a, cap, hv, hcap, hor⟩ := hx'
      obtain rfl : vx = .slice a (List.length l) cap := by simpa using hv
      have hvy : vy = .slice none 0 0 := by unfold Rel at hy; exact hy
      subst hvy
      have run1 : ∀ w, (do eqGuard .eql t X Y (.slice a (List.length l) cap) (.slice none 0 0); binOp .eql t (.slice a (List.length l) cap) (.slice none 0 0) : Sem Value).run P w = .ok (.bool a.isNone) w := fun w => by
        rw [Sem.run_bind, show (eqGuard .eql t X Y (.slice a (List.length l) cap) (.slice none 0 0)).run P w = .ok () w by simp [eqGuard], Result.andThen_ok]
        simp only [binOp, Sem.run_bind]
        rw [run_eql_slice hu]; rfl
      have run2 : ∀ w, (do eqGuard .neq t X Y (.slice a (List.length l) cap) (.slice none 0 0); binOp .neq t (.slice a (List.length l) cap) (.slice none 0 0) : Sem Value).run P w = .ok (.bool (!a.isNone)) w := fun w => by
        rw [Sem.run_bind, show (eqGuard .neq t X Y (.slice a (List.length l) cap) (.slice none 0 0)).run P w = .ok () w by simp [eqGuard], Result.andThen_ok]
        simp only [binOp, Sem.run_bind]
        rw [run_eql_slice hu]; rfl
      have some_ : ¬ (lenI l = 0) → a.isNone = false := fun hl => by
        rcases hor with rfl | ⟨b, o, xs, rfl, _⟩
        · exact absurd rfl hl
        · rfl
      split at h
      · rw [br_val] at h
        simp only [Cd.val, decide_eq_true_eq] at h
        split at h
        · have hk := (allK_some h).2
          have h0 : K (.c .tt) = some r := by simpa [br_val, Cd.val] using hk 0 (by omega) (by omega)
          have h1 : K (.c .ff) = some r := by simpa [br_val, Cd.val] using hk 1 (by omega) (by omega)
          cases a with
          | none => exact ⟨_, _, h0, Rel.cd, run1⟩
          | some a => exact ⟨_, _, h1, Rel.cd, run1⟩
        · rename_i hl
          rw [some_ hl] at run1
          exact ⟨_, _, h, Rel.cd, run1⟩
      · rw [br_val] at h
        simp only [Cd.val, decide_eq_true_eq] at h
        split at h
        · have hk := (allK_some h).2
          have h0 : K (.c .ff) = some r := by simpa [br_val, Cd.val] using hk 0 (by omega) (by omega)
          have h1 : K (.c .tt) = some r := by simpa [br_val, Cd.val] using hk 1 (by omega) (by omega)
          cases a with
          | none => exact ⟨_, _, h0, Rel.cd, run2⟩
          | some a => exact ⟨_, _, h1, Rel.cd, run2⟩
        · rename_i hl
          rw [some_ hl] at run2
          exact ⟨_, _, h, Rel.cd, run2⟩
      · cases h
    · cases h
  · split at h
    · rename_i fs s hu hsh
      split at h
      · rename_i hok
        simp only [Bool.and_eq_true, Bool.not_eq_true'] at hok
        obtain ⟨⟨hfl, heq⟩, hgd⟩ := hok
        split at h
        · rename_i a fa b fb ha hb
          have ra := data_rel hfn ha hx
          have rb := data_rel hfn hb hy
          have hp : s.isP = true := by
            have := eqOk_agg hsh heq
            unfold aggT at this
            rw [hu] at this
            simpa [aggD] using this.symm
          obtain ⟨xs, rfl, _⟩ := ra.isP hp
          obtain ⟨ys, rfl, _⟩ := rb.isP hp
          have ea := ra.flat_eq hfl
          have eb := rb.flat_eq hfl
          have hrun := fun w => equalIn_ok depth depth 10000 (by decide) t s hsh heq hfl a b w
          rw [← ea, ← eb] at hrun
          have hg := fun w => run_eqGuard_agg w op t X Y xs ys hgd
          split at h
          · exact ⟨_, _, h, Rel.cd, fun w => by rw [Sem.run_bind, hg w, Result.andThen_ok, run_eql_struct, hrun w]; rfl⟩
          · exact ⟨_, _, h, Rel.cd, fun w => by rw [Sem.run_bind, hg w, Result.andThen_ok, run_neq_struct, hrun w]; rfl⟩
          · cases h
        · cases h
      · cases h
    · cases h

theorem quietAt_from {o : Oper} {a : Act} {wb w : World} {v : Value} (hw : From wb w) (h : o.quietAt P a (From w) w v) : o.quietAt P a (From wb) w v := by
  unfold Oper.quietAt at *
  generalize (execOp a.eval o).run P w = q at *
  cases q with
  | ok n w' =>
    cases n <;> simp only [Oper.quietUpon] at h ⊢ <;> first | exact h | skip
    obtain ⟨e, h⟩ := h
    exact ⟨e, h.mono fun e w'' ⟨h1, h2⟩ => ⟨h1, hw.trans (h2.mono hw.size)⟩⟩
  | halt x w' => simp only [Oper.quietUpon] at h
/-- what gives the same in every world -/
theorem cold_op {σ : St} {k : Nat} {o : Oper} {K : St → Option ω} (hq : coldB o = true) (h : opK P Φ frs σ k o K = some r) {a : Act} (hE : EnvR g σ a) (hW : WF w0 g σ.mem wb) :
    ∃ av v, K (σ.put o.dst av) = some r ∧ Rel g σ.mem av v ∧ ∀ (C : World → Prop) w, o.quietAt P a C w v := by
  obtain ⟨dst, op, type, pos, after, guard⟩ := o
  have val : ∀ {av : AV} {v : Value}, K (σ.put dst av) = some r → Rel g σ.mem av v → (∀ w, (execOp a.eval ⟨dst, op, type, pos, after, guard⟩).run P w = .ok (.value v) w) →
      ∃ av v, K (σ.put dst av) = some r ∧ Rel g σ.mem av v ∧ ∀ (C : World → Prop) w, Oper.quietAt P ⟨dst, op, type, pos, after, guard⟩ a C w v := fun h1 h2 h3 =>
    ⟨_, _, h1, h2, fun C w => by unfold Oper.quietAt; rw [h3 w]; exact ⟨rfl, rfl⟩⟩
  cases op
  case move x => exact val h (hE.opnd x) (fun w => by simp [execOp])
  case assign x => exact val h (hE.opnd x) (fun w => by simp [execOp])
  case pick c x y =>
    simp only [opK, onCd] at h
    split at h
    · rename_i cd hcd
      have hv : a.eval c = .bool cd.val := by
        have := hE.opnd c
        unfold asCd at hcd
        split at hcd
        · rename_i e; rw [e] at this; cases hcd; exact this.cd_inv
        · rename_i e; rw [e] at this; cases hcd; exact this.bool_inv
        · cases hcd
      rw [br_val] at h
      cases hb : cd.val with
      | true => rw [hb] at h hv; exact val h (hE.opnd x) (fun w => by simp [execOp, hv, asBool])
      | false => rw [hb] at h hv; exact val h (hE.opnd y) (fun w => by simp [execOp, hv, asBool])
    · cases h
  case nilCheck x =>
    simp only [opK] at h
    split at h
    · rename_i hp
      obtain ⟨b, o, e, _⟩ := ptrOk_rel hp (hE.opnd x)
      exact val h (hE.opnd x) (fun w => by simp [execOp, e])
    · cases h
  case binOp op t x y ty =>
    obtain ⟨av, v, h1, h2, h3⟩ := binK_ok (fun b o v hv => (hW.fnz b o v hv).1) (by simpa only [opK] using h) (hE.opnd x) (hE.opnd y) x y
    exact val h1 h2 (fun w => by
      have := h3 w
      simp only [execOp, Sem.run_bind, Result.andThen_ok] at this ⊢
      rw [this]; rfl)
  case unOp op t x =>
    obtain ⟨av, v, h1, h2, h3⟩ := unK_ok (P := P) (by simpa only [opK] using h) (hE.opnd x)
    exact val h1 h2 (fun w => by simp [execOp, h3 w])
  case fieldAddr t x f =>
    simp only [opK] at h
    split at h
    · rename_i gf hf
      split at h
      · rename_i hc
        obtain ⟨b, o, e, hs⟩ := ptrOk_rel hc.2 (hE.opnd x)
        exact val h (hs _) (fun w => by simp [execOp, e, run_fieldAt hf hc.1])
      · cases h
    · cases h
  case field t x f =>
    simp only [opK] at h
    split at h
    · rename_i gf l hf ha
      split at h
      · rename_i v hc
        obtain ⟨u, hu, hr⟩ := field_ok hf ha hc (hE.opnd x)
        exact val h hu (fun w => by simp [execOp, hr w])
      · cases h
    · cases h
  case indexAddr t x i =>
    obtain ⟨av, v, h1, h2, h3⟩ := indexAnyK_ok (by simpa only [opK] using h) (hE.opnd x) (hE.opnd i) hW
    exact val h1 h2 (fun w => by simp [execOp, h3 w])
  case index t x i =>
    simp only [opK] at h
    split at h
    · rename_i s fr n hu hx hn
      rw [br_val] at h
      simp only [Cd.val, decide_eq_true_eq] at h
      split at h
      · rename_i hb
        have e1 := hE.opnd x
        rw [hx] at e1
        obtain ⟨kk, e2⟩ := intOf_rel hn (hE.opnd i)
        exact val h Rel.int (fun w => by simp [execOp, e1.str_inv, e2, index_ok (m := σ.mem) hu s kk n hb.1 hb.2])
      · cases h
    · rename_i n2 e2 l j hu hx hj
      split at h
      · obtain ⟨kk, e3⟩ := intOf_rel hj (hE.opnd i)
        obtain ⟨p, h1, h2, h3, h4⟩ := tryK_some _ _ h
        split at h4
        · rename_i av hc
          have e1 := hE.opnd x
          rw [hx] at e1
          obtain ⟨u, hu1, hu2⟩ := indexA_ok hu (by omega) hc e1 kk
          exact val h4 hu1 (fun w => by rw [h3] at e3; simp [execOp, e3, hu2 w])
        · cases h4
      · cases h
    · cases h
  case extract t i =>
    simp only [opK] at h
    split at h
    · rename_i l hl
      split at h
      · rename_i v hv
        have e := hE.opnd t
        rw [hl] at e
        unfold Rel at e
        obtain ⟨vs, e, hr⟩ := e
        obtain ⟨u, hu, hru⟩ := hr.get hv
        exact val h hru (fun w => by
          have : vs[i]? = some u := by simpa using hu
          simp [execOp, e, Instr.extract, this])
      · cases h
    · cases h
  case build t ps =>
    simp only [opK] at h
    split at h
    · rename_i fs z hu hz
      split at h
      · rename_i ha
        split at h
        · rename_i l hl
          obtain ⟨v, hv, hr⟩ := build_ok hE hu hz ha hl
          exact val h hv (fun w => by simp [execOp, hr w])
        · cases h
      · cases h
    · rename_i e z hu hz
      split at h
      · rename_i ha
        split at h
        · rename_i l hl
          obtain ⟨v, hv, hr⟩ := buildE_ok hE hu hz ha hl
          exact val h hv (fun w => by simp [execOp, hr w])
        · cases h
      · cases h
    · cases h
  case slice t x lo hi mx =>
    cases mx with
    | some _ => simp [opK] at h
    | none =>
      obtain ⟨av, v, h1, h2, h3⟩ := sliceK_ok (P := P) hE (by simpa only [opK] using h) (hE.opnd x) hW
      exact val h1 h2 (fun w => by
        have := h3 w
        simp only [execOp, Sem.run_bind, Option.map_none]
        rw [this]; rfl)
  all_goals (simp [coldB] at hq)
/-- a load sees one block alone -/
theorem load_op {σ : St} {k : Nat} {o : Oper} {K : St → Option ω} {s : Nat} (hl : loadOf o = some s) (h : opK P Φ frs σ k o K = some r) {a : Act} (hE : EnvR g σ a) (hW : WF w0 g σ.mem wb) :
    ∃ av v, K (σ.put o.dst av) = some r ∧ Rel g σ.mem av v ∧ ∃ b off, a.eval (.tmp s) = .pointer (some ⟨b, off, none⟩) ∧ ∀ (C : World → Prop) w, Keeps b wb w → o.quietAt P a C w v := by
  obtain ⟨dst, op, type, pos, after, guard⟩ := o
  unfold loadOf at hl
  split at hl
  · rename_i t s' hop
    cases hl
    simp only at hop
    subst hop
    obtain ⟨av, v, h1, h2, b, off, e, h3⟩ := loadK_at (by simpa only [opK] using h) (hE.opnd (.tmp s)) hW
    exact ⟨av, v, h1, h2, b, off, e, fun C w hw => by unfold Oper.quietAt; simp [execOp, h3 w hw, Oper.quietUpon]⟩
  · cases hl
theorem quiet_op {σ : St} {k : Nat} {o : Oper} {K : St → Option ω} (hq : quietK P frs o = true) (h : opK P Φ frs σ k o K = some r) {a : Act} (hE : EnvR g σ a) (hW : WF w0 g σ.mem wb)
    (hΦ : ∀ f, SoundX w0.tb P f (Φ f) frs) :
    ∃ av v, K (σ.put o.dst av) = some r ∧ Rel g σ.mem av v ∧ ∀ w, From wb w → o.quietAt P a (From w) w v := by
  obtain ⟨dst, op, type, pos, after, guard⟩ := o
  have val : ∀ {av : AV} {v : Value}, K (σ.put dst av) = some r → Rel g σ.mem av v → (∀ w, (execOp a.eval ⟨dst, op, type, pos, after, guard⟩).run P w = .ok (.value v) w) →
      ∃ av v, K (σ.put dst av) = some r ∧ Rel g σ.mem av v ∧ ∀ w, From wb w → Oper.quietAt P ⟨dst, op, type, pos, after, guard⟩ a (From w) w v := fun h1 h2 h3 =>
    ⟨_, _, h1, h2, fun w hw => by unfold Oper.quietAt; rw [h3 w]; exact ⟨rfl, rfl⟩⟩
  have valF : ∀ {av : AV} {v : Value}, K (σ.put dst av) = some r → Rel g σ.mem av v → (∀ w, From wb w → (execOp a.eval ⟨dst, op, type, pos, after, guard⟩).run P w = .ok (.value v) w) →
      ∃ av v, K (σ.put dst av) = some r ∧ Rel g σ.mem av v ∧ ∀ w, From wb w → Oper.quietAt P ⟨dst, op, type, pos, after, guard⟩ a (From w) w v := fun h1 h2 h3 =>
    ⟨_, _, h1, h2, fun w hw => by unfold Oper.quietAt; rw [h3 w hw]; exact ⟨rfl, rfl⟩⟩
  cases op
  case move x => exact val h (hE.opnd x) (fun w => by simp [execOp])
  case assign x => exact val h (hE.opnd x) (fun w => by simp [execOp])
  case pick c x y =>
    simp only [opK, onCd] at h
    split at h
    · rename_i cd hcd
      have hv : a.eval c = .bool cd.val := by
        have := hE.opnd c
        unfold asCd at hcd
        split at hcd
        · rename_i e; rw [e] at this; cases hcd; exact this.cd_inv
        · rename_i e; rw [e] at this; cases hcd; exact this.bool_inv
        · cases hcd
      rw [br_val] at h
      cases hb : cd.val with
      | true => rw [hb] at h hv; exact val h (hE.opnd x) (fun w => by simp [execOp, hv, asBool])
      | false => rw [hb] at h hv; exact val h (hE.opnd y) (fun w => by simp [execOp, hv, asBool])
    · cases h
  case load t x =>
    obtain ⟨av, v, h1, h2, h3⟩ := loadK_ok (by simpa only [opK] using h) (hE.opnd x) hW
    exact valF h1 h2 (fun w hw => by simp [execOp, h3 w hw])
  case nilCheck x =>
    simp only [opK] at h
    split at h
    · rename_i hp
      obtain ⟨b, o, e, _⟩ := ptrOk_rel hp (hE.opnd x)
      exact val h (hE.opnd x) (fun w => by simp [execOp, e])
    · cases h
  case binOp op t x y ty =>
    obtain ⟨av, v, h1, h2, h3⟩ := binK_ok (fun b o v hv => (hW.fnz b o v hv).1) (by simpa only [opK] using h) (hE.opnd x) (hE.opnd y) x y
    exact val h1 h2 (fun w => by
      have := h3 w
      simp only [execOp, Sem.run_bind, Result.andThen_ok] at this ⊢
      rw [this]; rfl)
  case unOp op t x =>
    obtain ⟨av, v, h1, h2, h3⟩ := unK_ok (P := P) (by simpa only [opK] using h) (hE.opnd x)
    exact val h1 h2 (fun w => by simp [execOp, h3 w])
  case convert s d x =>
    have hno : bytesT2 P s d (opnd σ x) = none := by
      cases hb : bytesT2 P s d (opnd σ x) with
      | none => rfl
      | some q =>
        unfold bytesT2 at hb
        split at hb
        · rename_i h1 h2 h3
          simp [quietK, h2] at hq
        · cases hb
    simp only [opK, hno] at h
    obtain ⟨av, v, h1, h2, h3⟩ := convK_ok hW h (hE.opnd x)
    exact valF h1 h2 (fun w hw => by simp [execOp, h3 w hw])
  case lookup t m x ok =>
    simp only [opK] at h
    split at h
    · rename_i a1 b1 id ht hmo
      split at h
      · rename_i a2 b2 nn l st rem cur ho
        split at h
        · rename_i hab
          obtain ⟨rfl, rfl⟩ := hab
          split at h
          · rename_i y f hd
            have hm := obj_some ho (by simp)
            obtain ⟨k, e, _, _, _, haf, _⟩ := mapT_some ht
            have hx := (data_rel (fun b o v hv => (hW.fnz b o v hv).1) hd (hE.opnd x)).flat_eq haf
            obtain ⟨v, hv, hrun⟩ := lookup_ok (P := P) hW ht hm hx ok
            have e1 := hE.opnd m
            rw [hmo] at e1
            unfold Rel at e1
            obtain ⟨_, o, ho', e1⟩ := e1
            rw [hm] at ho'; cases ho'
            simp only at e1
            exact valF h hv (fun w hw => by
              have := hrun w hw
              rw [← e1] at this
              simp [execOp, this])
          · cases h
        · cases h
      · cases h
    · cases h
  case entry it =>
    simp only [opK] at h
    split at h
    · rename_i id hi
      split at h
      · rename_i a1 b1 nn l rem p ho
        have hm := obj_some ho (by simp)
        obtain ⟨v, hv, hrun⟩ := entry_ok (P := P) hW hm
        have e1 := hE.opnd it
        rw [hi] at e1
        unfold Rel at e1
        obtain ⟨_, o, ho', e1⟩ := e1
        rw [hm] at ho'; cases ho'
        have e1 := e1.2 rfl
        exact valF h hv (fun w hw => by
          have := hrun w hw
          rw [← e1] at this
          simp [execOp, this])
      · cases h
    · cases h
  case makeFunc fn first caps =>
    cases fn with
    | func ff => _
    | _ => simp [opK] at h
    simp only [opK] at h
    split at h
    · rename_i hf
      have hf' : first = #[] := Array.eq_empty_of_size_eq_zero hf
      subst hf'
      refine val h (v := .func (.func ff) #[] (caps.map a.eval)) ?_ (fun w => by simp [execOp, Instr.makeFunc])
      unfold Rel
      refine ⟨_, rfl, ?_⟩
      rw [Array.toList_map]
      induction caps.toList with
      | nil => exact Rels.nil
      | cons c cs ih => exact Rels.cons (hE.opnd c) ih
    · cases h
  case slice t x lo hi mx =>
    cases mx <;> simp only [opK] at h <;> first | (cases h; done) | skip
    obtain ⟨av, v, h1, h2, h3⟩ := sliceK_ok hE h (hE.opnd x) hW
    exact val h1 h2 (fun w => by simp [execOp, h3 w])
  case fieldAddr t x f =>
    simp only [opK] at h
    split at h
    · rename_i gf hf
      split at h
      · rename_i hc
        obtain ⟨b, o, e, hs⟩ := ptrOk_rel hc.2 (hE.opnd x)
        exact val h (hs _) (fun w => by simp [execOp, e, run_fieldAt hf hc.1])
      · cases h
    · cases h
  case field t x f =>
    simp only [opK] at h
    split at h
    · rename_i gf l hf ha
      split at h
      · rename_i v hc
        obtain ⟨u, hu, hr⟩ := field_ok hf ha hc (hE.opnd x)
        exact val h hu (fun w => by simp [execOp, hr w])
      · cases h
    · cases h
  case indexAddr t x i =>
    obtain ⟨av, v, h1, h2, h3⟩ := indexAnyK_ok (by simpa only [opK] using h) (hE.opnd x) (hE.opnd i) hW
    exact val h1 h2 (fun w => by simp [execOp, h3 w])
  case index t x i =>
    simp only [opK] at h
    split at h
    · rename_i s fr n hu hx hn
      rw [br_val] at h
      simp only [Cd.val, decide_eq_true_eq] at h
      split at h
      · rename_i hb
        have e1 := hE.opnd x
        rw [hx] at e1
        obtain ⟨kk, e2⟩ := intOf_rel hn (hE.opnd i)
        exact val h Rel.int (fun w => by simp [execOp, e1.str_inv, e2, index_ok (m := σ.mem) hu s kk n hb.1 hb.2])
      · cases h
    · rename_i n2 e2 l j hu hx hj
      split at h
      · obtain ⟨kk, e3⟩ := intOf_rel hj (hE.opnd i)
        obtain ⟨p, h1, h2, h3, h4⟩ := tryK_some _ _ h
        split at h4
        · rename_i av hc
          have e1 := hE.opnd x
          rw [hx] at e1
          obtain ⟨u, hu1, hu2⟩ := indexA_ok hu (by omega) hc e1 kk
          exact val h4 hu1 (fun w => by rw [h3] at e3; simp [execOp, e3, hu2 w])
        · cases h4
      · cases h
    · cases h
  case extract t i =>
    simp only [opK] at h
    split at h
    · rename_i l hl
      split at h
      · rename_i v hv
        have e := hE.opnd t
        rw [hl] at e
        unfold Rel at e
        obtain ⟨vs, e, hr⟩ := e
        obtain ⟨u, hu, hru⟩ := hr.get hv
        exact val h hru (fun w => by
          have : vs[i]? = some u := by simpa using hu
          simp [execOp, e, Instr.extract, this])
      · cases h
    · cases h
  case build t ps =>
    simp only [opK] at h
    split at h
    · rename_i fs z hu hz
      split at h
      · rename_i ha
        split at h
        · rename_i l hl
          obtain ⟨v, hv, hr⟩ := build_ok hE hu hz ha hl
          exact val h hv (fun w => by simp [execOp, hr w])
        · cases h
      · cases h
    · rename_i e z hu hz
      split at h
      · rename_i ha
        split at h
        · rename_i l hl
          obtain ⟨v, hv, hr⟩ := buildE_ok hE hu hz ha hl
          exact val h hv (fun w => by simp [execOp, hr w])
        · cases h
      · cases h
    · cases h
  case call c =>
    obtain ⟨callee, args, argTypes⟩ := c
    cases callee with
    | invoke => simp [opK] at h
    | builtin b =>
      cases b <;> first | (simp [quietK] at hq; done) | skip
      simp only [opK] at h
      split at h
      · rename_i x t hx ht
        obtain ⟨av, v, h1, h2, h3⟩ := lenK_ok (ty := type) h (hE.opnd x) hW
        have hx' : args = #[x] := by rw [← Array.toArray_toList (xs := args), hx]
        have ht' : argTypes = #[t] := by rw [← Array.toArray_toList (xs := argTypes), ht]
        subst hx' ht'
        exact val h1 h2 (fun w => by simp [execOp, resolve, invoke, builtin, h3 w])
      · cases h
    | value f =>
      simp only [opK] at h
      split at h
      · rename_i f' caps hf
        simp only [quietK] at hq
        cases hτ : shOf P depth type with
        | none => rw [hτ] at hq; cases hq
        | some τ =>
          rw [hτ] at hq
          simp only [Bool.and_eq_true, Bool.not_eq_true'] at hq
          obtain ⟨hq, hio⟩ := hq
          rw [modeAt_none hf hio] at h
          dsimp only at h
          · unfold callK at h
            rw [hτ] at h
            simp only at h
            split at h
            · rename_i htup
              simp only [hq, Bool.true_or, if_true] at h
              obtain ⟨x, hx, hK⟩ := bnd_some h
              obtain ⟨hent, hcalls⟩ := (hΦ f').1 htup.1 _ _ _ _ hx
              have e := hE.opnd f
              rw [hf] at e
              unfold Rel at e
              obtain ⟨vs, e, hvs⟩ := e
              have hargs : Rels g σ.mem (args.toList.map (opnd σ) ++ (match opnd σ f with | .fn _ caps => caps | _ => [])) (args.map a.eval ++ vs).toList := by
                rw [hf, Array.toList_append, Array.toList_map]
                refine Rels.append ?_ hvs
                induction args.toList with
                | nil => exact Rels.nil
                | cons c cs ih => exact Rels.cons (hE.opnd c) ih
              have hrel : Rel g σ.mem (if retTup P f' = true then .tup (spread τ x true) else mkD τ x true) (resV (retTup P f') τ x) := by
                have hl := (hcalls wb _ (allOf wb) hW.tab (fun b o v h => h) (normAs_rel fn_none _ _ _ (lendAs_rel hW.lends _ _ _ hargs))) []
                obtain ⟨e, w', fr, ⟨v, fz', _, _, _, _, _, hr⟩, _⟩ := hl
                have hv := hr.flat_eq hq
                subst hv
                exact res_rel (hr.flat hq)
              refine ⟨_, resV (retTup P f') τ x, hK, hrel, fun w hw => ?_⟩
              have hWw := hW.later hw
              unfold Oper.quietAt
              have hrun : (execOp a.eval ⟨dst, .call ⟨.value f, args, argTypes⟩, type, pos, after, guard⟩).run P w = .ok (.enter f' (args.map a.eval ++ vs)) w := by
                simp [execOp, resolve, e, Deferred.ofValue, invoke, hent]
              rw [hrun]
              refine ⟨rfl, (hcalls w _ (allOf w) hWw.tab (fun b o v h => h) (normAs_rel fn_none _ _ _ (lendAs_rel hWw.lends _ _ _ hargs))).mono ?_⟩
              rintro e w' ⟨v, fz', rfl, hb, _, _, _, hr⟩
              exact ⟨by rw [hr.flat_eq hq], hb⟩
            · cases h
      · cases h
  all_goals (simp [quietK] at hq)
end
end Go.Den
