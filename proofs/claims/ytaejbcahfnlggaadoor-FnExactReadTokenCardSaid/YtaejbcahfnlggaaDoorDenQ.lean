import Derived.Test.YtaejbcahfnlggaaDoorDenN
namespace Go.Den
open Go.RowKit (wrap64)
set_option linter.unusedVariables false
set_option linter.unusedSimpArgs false
/-! Regions and code. -/
/-- what is still to come when an operation is done does not see it -/
def Sink (frs : Frs) (ops : Array Oper) (ord : List Nat) (n : Nat) (o : Oper) : Prop :=
  isCall frs o = true ∨ (∀ i, i < n → ∃ j, i < j ∧ j ≤ n ∧ Region.waitsFor .any ops (atP ord j) (atP ord i) = true) ∨ storeB ops ord n = true ∨ looseCold ops ord n = true ∨ isAppend o = true
/-- what a drawn order has to keep, of the operations that are not quiet -/
structure Loud (P : Program) (frs : Frs) (ops : Array Oper) (ord : List Nat) (n : Nat) (o : Oper) : Prop where
  bar : ∀ t, n < t → t < ops.size → ∃ j, n ≤ j ∧ j < t ∧ Region.waitsFor .any ops (atP ord t) (atP ord j) = true
  sink : Sink frs ops ord n o
theorem nodupB_inj : ∀ {l : List Nat}, nodupB l = true → ∀ {i j x : Nat}, l[i]? = some x → l[j]? = some x → i = j := fun h => nodupB_ne h
theorem isPermB_ok {n : Nat} {ord : List Nat} (h : isPermB n ord = true) : ord.length = n ∧ (∀ p, p < n → atP ord p < n) ∧ (∀ p q, p < n → q < n → atP ord p = atP ord q → p = q) ∧ ∀ i, i < n → ∃ p, p < n ∧ atP ord p = i := by
  unfold isPermB at h
  simp only [Bool.and_eq_true, beq_iff_eq, List.all_eq_true, decide_eq_true_eq, List.mem_range] at h
  obtain ⟨⟨⟨h1, h2⟩, h3⟩, h4⟩ := h
  have get : ∀ p, p < n → ord[p]? = some (atP ord p) := fun p hp => by
    unfold atP
    rw [List.getD_eq_getElem?_getD, List.getElem?_eq_getElem (by omega)]; rfl
  refine ⟨h1, fun p hp => h3 _ (List.mem_of_getElem? (get p hp)), fun p q hp hq e => nodupB_inj h2 (get p hp) (by rw [e]; exact get q hq), fun i hi => ?_⟩
  have := h4 i hi
  rw [List.contains_iff_mem] at this
  obtain ⟨p, hp⟩ := List.mem_iff_getElem?.1 this
  have hpl : p < n := by rw [← h1]; exact (List.getElem?_eq_some_iff.1 hp).1
  exact ⟨p, hpl, by have := get p hpl; rw [hp] at this; exact (Option.some.inj this).symm⟩
theorem staticS_ok {P : Program} {frs : Frs} {ops : Array Oper} {ord : List Nat} {sw : Nat} (h : staticS P frs ops ord sw = true) : Static ops ord ops.size ∧ ord.length = ops.size ∧ ∀ (i : Nat) o, i < ops.size → ops[atP ord i]? = some o → quietK P frs o = true ∨
    (∀ t, i < t → t < ops.size → (i = sw ∧ t = i + 1) ∨ ∃ j, i ≤ j ∧ j < t ∧ Region.waitsFor .any ops (atP ord t) (atP ord j) = true) ∧ Sink frs ops ord i o := by
  unfold staticS at h
  rw [Bool.and_eq_true] at h
  obtain ⟨hp, h⟩ := h
  obtain ⟨p0, p1, p2, p3⟩ := isPermB_ok hp
  simp only [List.all_eq_true, List.mem_range] at h
  have each : ∀ (i : Nat) o, i < ops.size → ops[atP ord i]? = some o → _ := fun i o hi ho => by
    have := h i hi
    rw [ho] at this
    simp only [Bool.and_eq_true, List.all_eq_true, List.mem_range] at this
    exact this
  have some_of : ∀ i, i < ops.size → ∃ o, ops[atP ord i]? = some o := fun i hi => ⟨ops[atP ord i]'(p1 i hi), by simp [p1 i hi]⟩
  refine ⟨⟨Nat.le_refl _, p1, p2, p3, fun i o hi ho cs b e => ?_, fun i j d hi hj hne hd hd' => ?_, fun i o t j hi ho ht hj hne hd => ?_, fun i o hi ho e he hb => ?_⟩, p0, fun i o hi ho => ?_⟩
  · obtain ⟨q, hq, rfl⟩ := p3 i hi
    have := (each q o hq ho).1.1.1.1
    rw [e] at this; cases this
  · obtain ⟨q, hq, rfl⟩ := p3 i hi
    obtain ⟨s, hs, rfl⟩ := p3 j hj
    obtain ⟨o, ho⟩ := some_of q hq
    have := (each q o hq ho).1.1.1.2 s hs
    rw [hd, hd'] at this
    simp [show ¬ s = q from fun z => hne (by rw [z])] at this
  · have := (each i o hi ho).1.1.2 t ht j hj
    rw [hd] at this
    simp only [Bool.or_eq_true, beq_iff_eq, bne_iff_ne, ne_eq, not_true_eq_false, false_or, Bool.and_eq_true, decide_eq_true_eq, hne] at this
    exact this
  · have h4 := (each i o hi ho).1.2
    have := Array.all_eq_true_iff_forall_mem.1 h4 e he
    simp only [hb, Bool.not_true, Bool.false_or, List.any_eq_true, List.mem_range, beq_iff_eq] at this
    exact this
  · have h5 := (each i o hi ho).2
    rcases Bool.or_eq_true _ _ ▸ h5 with h5 | h5
    · exact .inl h5
    · simp only [Bool.and_eq_true] at h5
      obtain ⟨h6, h7⟩ := h5
      refine .inr ⟨fun t ht hts => ?_, ?_⟩
      · unfold barrierB at h6
        have := List.all_eq_true.1 h6 t (List.mem_range.2 hts)
        simp only [Bool.or_eq_true, decide_eq_true_eq, List.any_eq_true, List.mem_range, Bool.and_eq_true] at this
        rcases this with (q | q) | ⟨j, hj, h1, h2⟩
        · omega
        · exact .inl q
        · exact .inr ⟨j, h1, hj, h2⟩
      · unfold Sink
        rcases Bool.or_eq_true _ _ ▸ h7 with h7 | h7
        · rcases Bool.or_eq_true _ _ ▸ h7 with h7 | h7
          · rcases Bool.or_eq_true _ _ ▸ h7 with h8 | h8
            · rcases Bool.or_eq_true _ _ ▸ h8 with h7 | h7
              · exact .inl h7
              · refine .inr (.inl fun q hq => ?_)
                unfold sinkAllB at h7
                have := List.all_eq_true.1 h7 q (List.mem_range.2 hq)
                simp only [List.any_eq_true, List.mem_range, Bool.and_eq_true, decide_eq_true_eq] at this
                obtain ⟨j, hj, h1, h2⟩ := this
                exact ⟨j, h1, by omega, h2⟩
            · exact .inr (.inr (.inl h8))
          · exact .inr (.inr (.inr (.inl h7)))
        · exact .inr (.inr (.inr (.inr h7)))
theorem staticB_ok {P : Program} {frs : Frs} {ops : Array Oper} {ord : List Nat} (h : staticB P frs ops ord = true) : Static ops ord ops.size ∧ ord.length = ops.size ∧ ∀ (i : Nat) o, i < ops.size → ops[atP ord i]? = some o → quietK P frs o = true ∨ Loud P frs ops ord i o := by
  obtain ⟨h1, h2, h3⟩ := staticS_ok (show staticS P frs ops ord ops.size = true from h)
  exact ⟨h1, h2, fun i o hi ho => (h3 i o hi ho).imp id fun ⟨q1, q2⟩ => ⟨fun t ht hts => (q1 t ht hts).resolve_left (fun z => by omega), q2⟩⟩
section
variable {P : Program} {g : Gh} {ω : Type} {r : ω} {w0 : Ent} {w : World} {Φ : Nat → Nat → List AV → (τ : Sh) → Option (sem τ)} {frs : Frs}
theorem asCd_rel {m : List AO} {v : AV} {c : Cd} (h : asCd v = some c) {u : Value} (hr : Rel g m v u) : u = .bool c.val := by
  unfold asCd at h
  split at h
  · cases h; exact hr.cd_inv
  · cases h; exact hr.bool_inv
  · cases h
theorem yielded_of {ops : Array Oper} {j d : Nat} (hd : dstOf ops j = some d) {tmps : Array Value} {b : Bool} (h : tmps.getD d undef = .bool b) : yielded ops tmps j = some b := by
  unfold yielded
  have : (ops[j]?).bind (·.dst) = some d := hd
  rw [this]
  cases ht : tmps[d]? with
  | none => simp [Array.getD_eq_getD_getElem?, ht, undef] at h
  | some v =>
    have : v = .bool b := by simpa [Array.getD_eq_getD_getElem?, ht] using h
    subst this
    simp [ht]
theorem Rel.tup0 {m : List AO} : Rel g m (.tup []) Go.undef := by unfold Rel; exact ⟨#[], rfl, by unfold Rels; rfl⟩
theorem Rel.tup0_inv {m : List AO} {v : Value} (h : Rel g m (.tup []) v) : v = .tuple #[] := by
  unfold Rel at h
  obtain ⟨vs, e, hl⟩ := h
  unfold Rels at hl
  rw [e, show vs = #[] from by simpa using hl]
theorem yielded_no {ops : Array Oper} {j d : Nat} (hd : dstOf ops j = some d) {tmps : Array Value} (h : tmps.getD d undef = .tuple #[]) : yielded ops tmps j = none := by
  unfold yielded
  have : (ops[j]?).bind (·.dst) = some d := hd
  rw [this]
  cases ht : tmps[d]? with
  | none => simp [ht]
  | some v =>
    have : v = .tuple #[] := by simpa [Array.getD_eq_getD_getElem?, ht] using h
    subst this
    simp [ht]
theorem opW_some {σ : St} {k : Nat} {o : Oper} {ws : List Operand} {K : St → Option ω} (h : opW P Φ frs σ k o ws K = some r) : ws.all (farB σ o) = true ∧ opK P Φ frs σ k o K = some r := by
  unfold opW at h
  split at h
  · rename_i hc; exact ⟨hc, h⟩
  · cases h
theorem guard_step {ops : Array Oper} {k : Nat} {K : St → Option ω} {o : Oper} {ws : List Operand} {rest : List (Oper × List Operand)} {σ : St} {a : Act} (h : regK P Φ frs ops k K ((o, ws) :: rest) σ = some r) (hE : EnvR g σ a) :
    ∃ σ1, EnvR g σ1 a ∧ σ1.mem = σ.mem ∧ ((Region.wanted o (yielded ops a.tmps) = true ∧ ws.all (farB σ1 o) = true ∧ opK P Φ frs σ1 k o (regK P Φ frs ops k K rest) = some r) ∨
      (Region.wanted o (yielded ops a.tmps) = false ∧ regK P Φ frs ops k K rest (σ1.put o.dst (.tup [])) = some r)) := by
  unfold regK at h
  split at h
  · rename_i hg
    exact ⟨σ, hE, rfl, .inl ⟨by unfold Region.wanted; rw [hg], opW_some h⟩⟩
  · rename_i j want hg
    split at h
    · cases h
    · rename_i d hd
      split at h
      · rename_i hgt
        have hv := hE.get d
        rw [hgt] at hv
        refine ⟨σ, hE, rfl, .inr ⟨?_, h⟩⟩
        have hy : yielded ops a.tmps j = none := yielded_no hd (Rel.tup0_inv hv)
        unfold Region.wanted; rw [hg]; simp only; rw [hy]; simp
      · unfold onCd at h
        split at h
        · rename_i c hc
          have hv := asCd_rel hc (hE.get d)
          have hy := yielded_of hd hv
          dsimp only at h
          rw [br_val] at h
          have hw : Region.wanted o (yielded ops a.tmps) = (c.val == want) := by
            unfold Region.wanted; rw [hg]; simp only; rw [hy]; simp
          have hE1 : ∀ q : Cd, q.val = c.val → EnvR g (σ.put (some d) (.c q)) a := fun q hq => by
            refine hE.slotPut hv ?_
            rw [← hq]; exact Rel.cd
          cases hcv : c.val with
          | true =>
            rw [hcv] at h hw
            simp only [if_true] at h
            refine ⟨σ.put (some d) (.c .tt), hE1 .tt (by rw [hcv]; rfl), put_mem _ _ _, ?_⟩
            cases want with
            | true => exact .inl ⟨by rw [hw]; rfl, opW_some (by simpa using h)⟩
            | false => exact .inr ⟨by rw [hw]; rfl, by simpa using h⟩
          | false =>
            rw [hcv] at h hw
            simp only [Bool.false_eq_true, if_false] at h
            refine ⟨σ.put (some d) (.c .ff), hE1 .ff (by rw [hcv]; rfl), put_mem _ _ _, ?_⟩
            cases want with
            | true => exact .inr ⟨by rw [hw]; rfl, by simpa using h⟩
            | false => exact .inl ⟨by rw [hw]; rfl, opW_some (by simpa using h)⟩
        · cases h
theorem reg_ok (hΦ : ∀ f, SoundX w0.tb P f (Φ f) frs) {ops : Array Oper} {k : Nat} {K : St → Option ω} {Q : Exit → Act → World → Prop} (hQ : Next w0 r K (Q .normal)) :
    ∀ (l : List (Oper × List Operand)) {g : Gh} {σ : St} {a : Act} {w : World}, regK P Φ frs ops k K l σ = some r → EnvR g σ a → WF w0 g σ.mem w → wpList P ops Q (l.map (·.1)) a w
  | [], g, σ, a, w, h, hE, hW => hQ g σ a w hE hW h
  | (o, ws) :: rest, g, σ, a, w, h, hE, hW => by
    obtain ⟨σ1, hE1, hm, hor⟩ := guard_step h hE
    rw [← hm] at hW
    rw [List.map_cons]
    unfold wpList
    rcases hor with ⟨hw, _, h1⟩ | ⟨hw, h1⟩
    · rw [if_pos hw]
      exact .inl (op_ok h1 hE1 hW hΦ (fun g' σ' a' w' hE' hW' hK => reg_ok hΦ hQ rest hK hE' hW') Q)
    · rw [if_neg (by simp [hw])]
      exact reg_ok hΦ hQ rest h1 (hE1.put o.dst Rel.tup0) (by rw [put_mem]; exact hW)
theorem lexAct_congr (ops : Array Oper) (ord : List Nat) {V V' : Nat → Value} (a : Act) : ∀ i, (∀ j, j < i → V (atP ord j) = V' (atP ord j)) → lexAct ops ord V a i = lexAct ops ord V' a i
  | 0, _ => rfl
  | i + 1, h => by
    unfold lexAct
    rw [lexAct_congr ops ord a i (fun j hj => h j (by omega)), h i (by omega)]
/-- in every world that grew from wc, the operation leaves v, and a world that grew -/
def Yl (P : Program) (ops : Array Oper) (wc : World) (o : Oper) (v : Value) (a : Act) : Prop :=
  (Region.wanted o (yielded ops a.tmps) = true ∧ ∀ u, From wc u → o.quietAt P a (From u) u v) ∨ (Region.wanted o (yielded ops a.tmps) = false ∧ v = Go.undef)
theorem From.step {w u x : World} (h : From w u) (h' : From u x) : From w x := h.trans (h'.mono h.size)
theorem Yl.later {ops : Array Oper} {wc u : World} {o : Oper} {v : Value} {a : Act} (h : Yl P ops wc o v a) (hu : From wc u) : Yl P ops u o v a := by
  rcases h with ⟨h1, h2⟩ | h
  · exact .inl ⟨h1, fun x hx => h2 x (From.step hu hx)⟩
  · exact .inr h
theorem Yl.yields {ops : Array Oper} {wc : World} {o : Oper} {v : Value} {a : Act} (h : Yl P ops wc o v a) : YieldsIn P ops (From wc) o v a := by
  rcases h with ⟨h1, h2⟩ | h
  · exact .inl ⟨h1, fun x hx => quietAt_from hx (h2 x hx)⟩
  · exact .inr h
theorem Yl.of_same {ops : Array Oper} {wc : World} {o : Oper} {v : Value} {a a' : Act} (hy : Yl P ops wc o v a) (he : execOp a'.eval o = execOp a.eval o)
    (hw : Region.wanted o (yielded ops a'.tmps) = Region.wanted o (yielded ops a.tmps)) : Yl P ops wc o v a' := by
  unfold Yl Oper.quietAt at *
  rw [he, hw]
  exact hy
/-- where a drawn order stands: the order's first N are known, of them the listed ones done -/
structure At (P : Program) (Φ : Nat → Nat → List AV → (τ : Sh) → Option (sem τ)) (frs : Frs) (ops : Array Oper) (ord : List Nat) (M : Nat) (L : List (Oper × List Operand)) (k : Nat) (K : St → Option ω) (r : ω) (w0 : Ent) (a0 : Act)
    (f N : Nat) (V : Nat → Value) (g : Gh) (σ : St) (w : World) (listed : Array Bool) (a : Act) : Prop where
  cnt : open_ ops.size listed = f
  le : N ≤ M
  size : listed.size = ops.size
  closed : ∀ (j : Nat) oj, ops[j]? = some oj → listed.getD j false = true → ∀ e ∈ oj.after, Region.binds .any e = true → listed.getD e.on false = true
  tail : ∀ t, N ≤ t → t < ops.size → listed.getD (atP ord t) false = false
  yl : ∀ (i : Nat) o, i < N → ops[atP ord i]? = some o → listed.getD (atP ord i) false = false → Yl P ops w o (V (atP ord i)) (lexAct ops ord V a0 i)
  cold : ∀ (i : Nat) o, i < N → ops[atP ord i]? = some o → listed.getD (atP ord i) false = false → coldB o = true → Region.wanted o (yielded ops (lexAct ops ord V a0 i).tmps) = true → ∀ (C : World → Prop) u, o.quietAt P (lexAct ops ord V a0 i) C u (V (atP ord i))
  lds : ∀ (i : Nat) o s, i < N → ops[atP ord i]? = some o → listed.getD (atP ord i) false = false → loadOf o = some s → Region.wanted o (yielded ops (lexAct ops ord V a0 i).tmps) = true →
    ∃ b off, (lexAct ops ord V a0 i).eval (.tmp s) = .pointer (some ⟨b, off, none⟩) ∧ ∀ (C : World → Prop) u, Keeps b w u → o.quietAt P (lexAct ops ord V a0 i) C u (V (atP ord i))
  qui : ∀ (i : Nat) o, i < N → ops[atP ord i]? = some o → listed.getD (atP ord i) false = false → Region.wanted o (yielded ops (lexAct ops ord V a0 i).tmps) = true → quietK P frs o = true
  agree : Agree ops V ops.size a0 (fun j => listed.getD j false = true) a
  den : regK P Φ frs ops k K (L.drop N) σ = some r
  env : EnvR g σ (lexAct ops ord V a0 N)
  wf : WF w0 g σ.mem w
section
variable {ops : Array Oper} {ord : List Nat} {M : Nat} {L : List (Oper × List Operand)} {k : Nat} {K : St → Option ω} {a0 : Act} {f N : Nat} {V : Nat → Value} {σ : St} {listed : Array Bool} {a : Act}
theorem ordOps_at {ops : Array Oper} {ord : List Nat} (hs : Static ops ord ops.size) (hlen : ord.length = ops.size) : ordOps ops ord = (List.range ops.size).map fun p => (ops.getD (atP ord p) default, watchAt ops ord p) := by
  unfold ordOps
  rw [hlen]
  have e2 : ∀ (l : List Nat), (∀ x ∈ l, x < ops.size) → l.filterMap (fun p => (ops[atP ord p]?).map fun o => (o, watchAt ops ord p)) = l.map fun p => (ops.getD (atP ord p) default, watchAt ops ord p) := by
    intro l
    induction l with
    | nil => intro _; rfl
    | cons x l ih =>
      intro h
      have hx := hs.lt x (h x List.mem_cons_self)
      rw [List.filterMap_cons_some (b := (ops[atP ord x], watchAt ops ord x)) (by simp [hx]), List.map_cons, ih (fun y hy => h y (List.mem_cons_of_mem _ hy))]
      simp [Array.getD, hx]
  exact e2 _ fun x hx => List.mem_range.1 hx
theorem drop_at (hs : Static ops ord ops.size) (hlen : ord.length = ops.size) (h : N < ops.size) : ∃ o, ops[atP ord N]? = some o ∧ (ordOps ops ord).drop N = (o, watchAt ops ord N) :: (ordOps ops ord).drop (N + 1) := by
  have hlt := hs.lt N h
  refine ⟨ops[atP ord N], by simp [hlt], ?_⟩
  rw [ordOps_at hs hlen, List.drop_eq_getElem_cons (by simpa using h)]
  simp [Array.getD, hlt]
/-- a reading's operations, place by place -/
def Lists (ops : Array Oper) (ord : List Nat) (M : Nat) (L : List (Oper × List Operand)) : Prop := M ≤ ops.size ∧ L.drop M = [] ∧ ∀ N, N < M → ∃ o, ops[atP ord N]? = some o ∧ L.drop N = (o, watchAt ops ord N) :: L.drop (N + 1)
theorem lists_all (hs : Static ops ord ops.size) (hlen : ord.length = ops.size) : Lists ops ord ops.size (ordOps ops ord) :=
  ⟨Nat.le_refl _, by rw [ordOps_at hs hlen]; simp, fun N h => drop_at hs hlen h⟩
theorem lists_take (hs : Static ops ord ops.size) (hlen : ord.length = ops.size) {n : Nat} (hn : n ≤ ops.size) : Lists ops ord n ((ordOps ops ord).take n) := by
  refine ⟨hn, by rw [List.drop_take, Nat.sub_self, List.take_zero], fun N h => ?_⟩
  obtain ⟨o, ho, e⟩ := drop_at hs hlen (show N < ops.size by omega)
  refine ⟨o, ho, ?_⟩
  rw [List.drop_take, e, show n - N = n - (N + 1) + 1 by omega, List.take_succ_cons, List.drop_take]
theorem At.later (h : At P Φ frs ops ord M L k K r w0 a0 f N V g σ w listed a) {u : World} (hu : From w u) : At P Φ frs ops ord M L k K r w0 a0 f N V g σ u listed a :=
  { h with yl := fun i o hi ho hl => (h.yl i o hi ho hl).later hu, lds := fun i o s hi ho hl hs hw => (h.lds i o s hi ho hl hs hw).imp fun b q => q.imp fun off q => ⟨q.1, fun C x hx => q.2 C x (fun o v hv => hx o v ((From.keeps hu b) o v hv))⟩, wf := h.wf.later hu }
/-- a quiet operation is known -/
theorem At.quiet (hs : Static ops ord ops.size) (hM : M ≤ ops.size) (h : At P Φ frs ops ord M L k K r w0 a0 f N V g σ w listed a) (hNM : N < M) {oN : Oper} (hoN : ops[atP ord N]? = some oN) {v : Value} {av : AV} {σ1 : St} (hm : σ1.mem = σ.mem) (hE : EnvR g σ1 (lexAct ops ord V a0 N)) (hy : Yl P ops w oN v (lexAct ops ord V a0 N)) (hrel : Rel g σ1.mem av v)
    (hcold : coldB oN = true → Region.wanted oN (yielded ops (lexAct ops ord V a0 N).tmps) = true → ∀ (C : World → Prop) u, oN.quietAt P (lexAct ops ord V a0 N) C u v)
    (hlds : ∀ s, loadOf oN = some s → Region.wanted oN (yielded ops (lexAct ops ord V a0 N).tmps) = true → ∃ b off, (lexAct ops ord V a0 N).eval (.tmp s) = .pointer (some ⟨b, off, none⟩) ∧ ∀ (C : World → Prop) u, Keeps b w u → oN.quietAt P (lexAct ops ord V a0 N) C u v)
    (hqui : Region.wanted oN (yielded ops (lexAct ops ord V a0 N).tmps) = true → quietK P frs oN = true)
    (hK : regK P Φ frs ops k K (L.drop (N + 1)) (σ1.put oN.dst av) = some r) : At P Φ frs ops ord M L k K r w0 a0 f (N + 1) (upd V (atP ord N) v) g (σ1.put oN.dst av) w listed a := by
  have hN : N < ops.size := by omega
  have hne : ∀ q, q < N → atP ord q ≠ atP ord N := fun q hq e => by have := hs.inj q N (by omega) hN e; omega
  have hcg : ∀ j, j ≤ N → lexAct ops ord (upd V (atP ord N) v) a0 j = lexAct ops ord V a0 j := fun j hj => lexAct_congr ops ord a0 j fun q hq => upd_ne _ _ (hne q (by omega))
  refine { cnt := h.cnt, le := hNM, size := h.size, closed := h.closed, tail := fun t ht hts => h.tail t (by omega) hts, yl := fun i o hi ho hl => ?_, cold := fun i o hi ho hl => ?_, lds := fun i o s hi ho hl => ?_, qui := fun i o hi ho hl => ?_, agree := ?_, den := hK, env := ?_, wf := by rw [put_mem, hm]; exact h.wf }
  · rw [hcg i (by omega)]
    by_cases e : i = N
    · subst e
      rw [upd_same]
      rw [hoN] at ho
      cases ho; exact hy
    · rw [upd_ne _ _ (hne i (by omega))]; exact h.yl i o (by omega) ho hl
  · rw [hcg i (by omega)]
    by_cases e : i = N
    · subst e
      rw [upd_same]
      rw [hoN] at ho
      cases ho; exact hcold
    · rw [upd_ne _ _ (hne i (by omega))]; exact h.cold i o (by omega) ho hl
  · rw [hcg i (by omega)]
    by_cases e : i = N
    · subst e
      rw [upd_same]
      rw [hoN] at ho
      cases ho; exact hlds s
    · rw [upd_ne _ _ (hne i (by omega))]; exact h.lds i o s (by omega) ho hl
  · rw [hcg i (by omega)]
    by_cases e : i = N
    · subst e
      rw [hoN] at ho
      cases ho; exact hqui
    · exact h.qui i o (by omega) ho hl
  · refine ⟨h.agree.size, h.agree.dfr, fun j t hj hl ht hlt => ?_, h.agree.old⟩
    have hj2 : j ≠ atP ord N := fun e => by
      have := h.tail N (Nat.le_refl _) hN
      rw [e, this] at hl; cases hl
    rw [upd_ne _ _ hj2]
    exact h.agree.put j t hj hl ht hlt
  · unfold lexAct
    rw [hcg N (Nat.le_refl _), upd_same]
    have hd : dstOf ops (atP ord N) = oN.dst := by unfold dstOf; rw [hoN]; rfl
    rw [hd]
    exact hE.put _ hrel
/-- on to the next one that is not quiet -/
theorem At.advance (hs : Static ops ord ops.size) (hL : Lists ops ord M L) (hΦ : ∀ f, SoundX w0.tb P f (Φ f) frs) : ∀ (d : Nat) {N : Nat} {V : Nat → Value} {σ : St}, M - N = d → At P Φ frs ops ord M L k K r w0 a0 f N V g σ w listed a →
    ∃ (N' : Nat) (V' : Nat → Value) (σ' : St), N ≤ N' ∧ At P Φ frs ops ord M L k K r w0 a0 f N' V' g σ' w listed a ∧ (N' = M ∨ N' < M ∧ ∃ (o : Oper) (σ1 : St), ops[atP ord N']? = some o ∧ ¬ quietK P frs o = true ∧ Region.wanted o (yielded ops (lexAct ops ord V' a0 N').tmps) = true ∧ (watchAt ops ord N').all (farB σ1 o) = true ∧
      opK P Φ frs σ1 k o (regK P Φ frs ops k K (L.drop (N' + 1))) = some r ∧ EnvR g σ1 (lexAct ops ord V' a0 N') ∧ σ1.mem = σ'.mem)
  | 0, N, V, σ, hd, h => ⟨N, V, σ, Nat.le_refl _, h, .inl (by have := h.le; omega)⟩
  | d + 1, N, V, σ, hd, h => by
    have hNM : N < M := by omega
    have hN : N < ops.size := by have := hL.1; omega
    have on : ∀ {σ2 : St} {V2 : Nat → Value}, At P Φ frs ops ord M L k K r w0 a0 f (N + 1) V2 g σ2 w listed a → _ := fun h2 => (At.advance hs hL hΦ d (by omega) h2)
    have lift : ∀ {p : Nat → (Nat → Value) → St → Prop}, (∃ (N' : Nat) (V' : Nat → Value) (σ' : St), N + 1 ≤ N' ∧ p N' V' σ') → ∃ (N' : Nat) (V' : Nat → Value) (σ' : St), N ≤ N' ∧ p N' V' σ' := fun ⟨a, b, c, d, e⟩ => ⟨a, b, c, by omega, e⟩
    have hden := h.den
    obtain ⟨oN, hoN, hdr⟩ := hL.2.2 N hNM
    rw [hdr] at hden
    obtain ⟨σ1, hE1, hm1, hor⟩ := guard_step hden h.env
    rcases hor with ⟨hw, hws, h1⟩ | ⟨hw, h1⟩
    · by_cases hq : quietK P frs oN = true
      · by_cases hc : coldB oN = true
        · obtain ⟨av, v, hK, hrel, hqa⟩ := cold_op (wb := w) hc h1 hE1 (by rw [hm1]; exact h.wf)
          exact lift (on (h.quiet hs hL.1 hNM hoN hm1 hE1 (.inl ⟨hw, fun u _ => hqa _ u⟩) hrel (fun _ _ => hqa) (fun s hl _ => by
            exfalso
            unfold loadOf at hl
            split at hl
            · rename_i hop; simp [coldB, hop] at hc
            · cases hl) (fun _ => hq) hK))
        · cases hl : loadOf oN with
          | some s =>
            obtain ⟨av, v, hK, hrel, b, off, e, hqa⟩ := load_op (wb := w) hl h1 hE1 (by rw [hm1]; exact h.wf)
            exact lift (on (h.quiet hs hL.1 hNM hoN hm1 hE1 (.inl ⟨hw, fun u hu => hqa _ u (From.keeps hu b)⟩) hrel (fun q => absurd q hc) (fun s' hl' _ => by
              rw [hl] at hl'; cases hl'
              exact ⟨b, off, e, hqa⟩) (fun _ => hq) hK))
          | none =>
            obtain ⟨av, v, hK, hrel, hqa⟩ := quiet_op (wb := w) hq h1 hE1 (by rw [hm1]; exact h.wf) hΦ
            exact lift (on (h.quiet hs hL.1 hNM hoN hm1 hE1 (.inl ⟨hw, hqa⟩) hrel (fun q => absurd q hc) (fun s' hl' _ => by rw [hl] at hl'; cases hl') (fun _ => hq) hK))
      · exact ⟨N, V, σ, Nat.le_refl _, h, .inr ⟨hNM, oN, σ1, hoN, hq, hw, hws, h1, hE1, hm1⟩⟩
    · exact lift (on (h.quiet hs hL.1 hNM hoN hm1 hE1 (.inr ⟨hw, rfl⟩) Rel.tup0 (fun _ q => by rw [hw] at q; cases q) (fun _ _ q => by rw [hw] at q; cases q) (fun q => by rw [hw] at q; cases q) h1))
/-- what must be done is done -/
theorem must_listed {n : Nat} (hcl : ∀ (j : Nat) oj, ops[j]? = some oj → listed.getD j false = true → ∀ e ∈ oj.after, Region.binds .any e = true → listed.getD e.on false = true)
    {o : Oper} (ho : ops[atP ord n]? = some o) (hall : ∀ e ∈ o.after, Region.binds .any e = true → listed.getD e.on false = true) : ∀ (k : Nat) (acc : List Nat), (∀ j ∈ acc, j = n ∨ listed.getD (atP ord j) false = true) → ∀ j ∈ mustFrom ops ord k acc, j = n ∨ listed.getD (atP ord j) false = true
  | 0, acc, h => h
  | k + 1, acc, h => by
    unfold mustFrom
    apply must_listed hcl ho hall k
    intro j hj
    split at hj
    · rename_i hany
      rcases List.mem_cons.1 hj with rfl | hj
      · obtain ⟨q, hq, hw⟩ := List.any_eq_true.1 hany
        obtain ⟨oq, hoq, e, he, hb, hon⟩ := Region.waitsFor_spec hw
        right
        rw [← hon]
        rcases h q hq with rfl | hl
        · rw [ho] at hoq; cases hoq; exact hall e he hb
        · exact hcl _ oq hoq hl e he hb
      · exact h j hj
    · exact h j hj
theorem lexAct_skip {s : Nat} : ∀ (n j : Nat), j ≤ n → (∀ q, j ≤ q → q < n → dstOf ops (atP ord q) ≠ some s) → (lexAct ops ord V a0 n).eval (.tmp s) = (lexAct ops ord V a0 j).eval (.tmp s)
  | 0, j, hj, h => by rw [show j = 0 by omega]
  | n + 1, j, hj, h => by
    by_cases e : j = n + 1
    · rw [e]
    · rw [← lexAct_skip n j (by omega) (fun q h1 h2 => h q h1 (by omega))]
      have hd := h n (by omega) (by omega)
      show ((lexAct ops ord V a0 n).put (dstOf ops (atP ord n)) (V (atP ord n))).tmps.getD s _ = (lexAct ops ord V a0 n).tmps.getD s _
      cases hq : dstOf ops (atP ord n) with
      | none => rfl
      | some d =>
        have hne : d ≠ s := fun e => hd (by rw [hq, e])
        simp only [Act.put]
        rw [Array.getD_eq_getD_getElem?, Array.getD_eq_getD_getElem?, Array.getElem?_setIfInBounds_ne hne]
/-- a store that what is loose does not see: what it leaves -/
theorem At.stored (h : At P Φ frs ops ord M L k K r w0 a0 f N V g σ w listed a) (hN : N < ops.size) {o : Oper} (ho : ops[atP ord N]? = some o) (hall : ∀ e ∈ o.after, Region.binds .any e = true → listed.getD e.on false = true)
    (hst : storeB ops ord N = true) {σ1 : St} (hws : (watchAt ops ord N).all (farB σ1 o) = true) (hE1 : EnvR g σ1 (lexAct ops ord V a0 N)) (hm1 : σ1.mem = σ.mem) (hno : ∃ j, j < N ∧ listed.getD (atP ord j) false = false) :
    ∃ t p x id off, o.op = .store t p x ∧ opnd σ1 p = .ptr id off ∧ ∀ u : World, (∀ j, j ≠ g.bl id → u.heap[j]? = w.heap[j]?) →
      (∀ (i : Nat) o, i < N → ops[atP ord i]? = some o → listed.getD (atP ord i) false = false → Yl P ops u o (V (atP ord i)) (lexAct ops ord V a0 i)) ∧
      (∀ (i : Nat) o s, i < N → ops[atP ord i]? = some o → listed.getD (atP ord i) false = false → loadOf o = some s → Region.wanted o (yielded ops (lexAct ops ord V a0 i).tmps) = true →
        ∃ b off, (lexAct ops ord V a0 i).eval (.tmp s) = .pointer (some ⟨b, off, none⟩) ∧ ∀ (C : World → Prop) x, Keeps b u x → o.quietAt P (lexAct ops ord V a0 i) C x (V (atP ord i))) := by
  unfold storeB at hst
  rw [ho] at hst
  simp only [Bool.and_eq_true] at hst
  obtain ⟨hs1, hs2⟩ := hst
  have loose : ∀ j, j < N → listed.getD (atP ord j) false = false → j ∈ looseAt ops ord N := fun j hj hl => by
    unfold looseAt
    refine List.mem_filter.2 ⟨List.mem_range.2 hj, ?_⟩
    cases hc : (mustFrom ops ord N [N]).contains j with
    | false => rfl
    | true =>
      rw [List.contains_iff_mem] at hc
      rcases must_listed h.closed ho hall N [N] (fun q hq => .inl (List.mem_singleton.1 hq)) j hc with e | e
      · omega
      · rw [hl] at e; cases e
  obtain ⟨j0, hj0, hl0⟩ := hno
  have hne : (looseAt ops ord N).isEmpty = false := by
    cases hq : looseAt ops ord N with
    | nil => have := loose j0 hj0 hl0; rw [hq] at this; cases this
    | cons => rfl
  have hws' : (Operand.func 0 :: (looseAt ops ord N).filterMap fun i => (ops[atP ord i]?).bind fun o => (loadOf o).map Operand.tmp).all (farB σ1 o) = true := by
    unfold watchAt at hws
    rw [ho] at hws
    simp only [hs1, if_true, hne, Bool.false_eq_true, if_false] at hws
    exact hws
  rw [List.all_cons, Bool.and_eq_true] at hws'
  obtain ⟨hw0, hws'⟩ := hws'
  obtain ⟨t, p, x, hop⟩ : ∃ t p x, o.op = .store t p x := by
    unfold isStore at hs1
    split at hs1
    · rename_i t p x hop; exact ⟨t, p, x, hop⟩
    · cases hs1
  unfold farB at hw0
  rw [hop] at hw0
  simp only at hw0
  obtain ⟨id, off, hp⟩ : ∃ id off, opnd σ1 p = .ptr id off := by
    split at hw0
    · rename_i id off hp; exact ⟨id, off, hp⟩
    · cases hw0
  rw [hp] at hw0
  have hbx : isBox (σ1.obj id) = true := by simpa using hw0
  refine ⟨t, p, x, id, off, hop, hp, fun u hu => ?_⟩
  have box_of : ∀ q, isBox (σ1.obj q) = true → ∃ l, σ.mem[q]? = some (.box l) := fun q hq => by
    unfold isBox at hq
    split at hq
    · rename_i l ho'
      exact ⟨l, by rw [← hm1]; exact obj_some ho' (by simp)⟩
    · cases hq
  have far : ∀ (i : Nat) o' s, i < N → ops[atP ord i]? = some o' → listed.getD (atP ord i) false = false → loadOf o' = some s → ∀ b off, (lexAct ops ord V a0 i).eval (.tmp s) = .pointer (some ⟨b, off, none⟩) → b ≠ g.bl id := fun i o' s hi ho' hl hls b off hev => by
    have hli := loose i hi hl
    have h2 := List.all_eq_true.1 hs2 i hli
    rw [ho'] at h2
    simp only [hls, Bool.or_eq_true, List.all_eq_true, List.mem_range, decide_eq_true_eq, bne_iff_ne, ne_eq] at h2
    have hnw : ∀ q, i ≤ q → q < N → dstOf ops (atP ord q) ≠ some s := by
      rcases h2 with h2 | h2
      · exfalso
        unfold loadOf at hls
        split at hls
        · rename_i hop'; simp [coldB, hop'] at h2
        · cases hls
      · intro q h3 h4
        rcases h2 q h4 with h5 | h5
        · omega
        · exact h5
    have hmem : Operand.tmp s ∈ (looseAt ops ord N).filterMap fun i => (ops[atP ord i]?).bind fun o => (loadOf o).map Operand.tmp := List.mem_filterMap.2 ⟨i, hli, by simp [ho', hls]⟩
    have hf := List.all_eq_true.1 hws' _ hmem
    unfold farB at hf
    rw [hop] at hf
    simp only [hp, Bool.and_eq_true] at hf
    obtain ⟨hb1, hf⟩ := hf
    have hr := hE1.opnd (.tmp s)
    rw [lexAct_skip N i (by omega) hnw] at hr
    split at hf
    · rename_i jd off' e2
      simp only [Bool.and_eq_true, bne_iff_ne, ne_eq] at hf
      obtain ⟨hne', hb2⟩ := hf
      obtain ⟨l2, hm2⟩ := box_of jd hb2
      obtain ⟨l1, hm3⟩ := box_of _ hb1
      rw [e2] at hr
      unfold Rel at hr
      obtain ⟨_, q, hq, hv⟩ := hr
      rw [hm1, hm2] at hq; cases hq
      simp only at hv
      rw [hev] at hv
      have eb : b = g.bl jd := by simpa using (congrArg (fun v => match v with | Value.pointer (some a) => a.block | _ => 0) hv)
      rw [eb]
      intro e
      exact ((h.wf.apart _ _ _ hm3 rfl).2 jd _ (fun q => hne' q.symm) hm2) (by show g.bl jd = _; rw [e])
    · rename_i e2
      rw [e2, hev] at hr
      have := Rel.tup0_inv hr
      cases this
    · cases hf
  have keep : ∀ b, b ≠ g.bl id → Keeps b w u := fun b hb o x hx => by
    have := hu b hb
    simpa [World.cell?, this] using hx
  refine ⟨fun i o' hi ho' hl => ?_, fun i o' s hi ho' hl hls hw => ?_⟩
  · rcases h.yl i o' hi ho' hl with ⟨hw, _⟩ | hn
    · refine .inl ⟨hw, fun x hx => ?_⟩
      have h2 := List.all_eq_true.1 hs2 i (loose i hi hl)
      rw [ho'] at h2
      rcases Bool.or_eq_true _ _ ▸ h2 with h2 | h2
      · exact h.cold i o' hi ho' hl h2 hw _ x
      · cases hls : loadOf o' with
        | none => rw [hls] at h2; cases h2
        | some s =>
          obtain ⟨b, off, e, q⟩ := h.lds i o' s hi ho' hl hls hw
          have hb := far i o' s hi ho' hl hls b off e
          exact q _ x (fun o v hv => (From.keeps hx b) o v (keep b hb o v hv))
    · exact .inr hn
  · obtain ⟨b, off, e, q⟩ := h.lds i o' s hi ho' hl hls hw
    have hb := far i o' s hi ho' hl hls b off e
    exact ⟨b, off, e, fun C x hx => q C x (fun o v hv => hx o v (keep b hb o v hv))⟩
theorem wp_put {o : Oper} {a : Act} {w : World} {N : Act → World → Prop} {Q : Exit → Act → World → Prop} (ha : a.defers = []) (hN : ∀ b u, N b u → b.defers = []) (h : o.wp P a w N Q) : o.wp P a w (fun b u => ∃ v, b = a.put o.dst v ∧ N (a.put o.dst v) u) Q := by
  unfold Oper.wp at *
  generalize (execOp a.eval o).run P w = q at *
  cases q with
  | ok n w' =>
    cases n <;> simp only [Oper.upon] at h ⊢ <;>
      first
        | exact ⟨_, rfl, h⟩
        | exact Calls.mono h (fun e w'' he => by cases e <;> first | exact ⟨_, rfl, he⟩ | exact he)
        | exact Rows.mono h (fun _ _ he => ⟨_, rfl, he⟩)
        | (exfalso; have := hN _ _ h; cases hd : o.dst <;> simp [Act.put, hd] at this)
  | halt x w' => cases x <;> simp only [Oper.upon] at h ⊢ <;> exact h
theorem lex_dfr : ∀ i, (lexAct ops ord V a0 i).defers = a0.defers
  | 0 => rfl
  | i + 1 => by
    show ((lexAct ops ord V a0 i).put (dstOf ops (atP ord i)) (V (atP ord i))).defers = a0.defers
    rw [← lex_dfr i]
    cases dstOf ops (atP ord i) <;> rfl
/-- what is still to come is loose -/
theorem At.loose (h : At P Φ frs ops ord M L k K r w0 a0 f N V g σ w listed a) {o : Oper} (ho : ops[atP ord N]? = some o) (hall : ∀ e ∈ o.after, Region.binds .any e = true → listed.getD e.on false = true)
    {j : Nat} (hj : j < N) (hl : listed.getD (atP ord j) false = false) : j ∈ looseAt ops ord N := by
  unfold looseAt
  refine List.mem_filter.2 ⟨List.mem_range.2 hj, ?_⟩
  cases hc : (mustFrom ops ord N [N]).contains j with
  | false => rfl
  | true =>
    rw [List.contains_iff_mem] at hc
    rcases must_listed h.closed ho hall N [N] (fun q hq => .inl (List.mem_singleton.1 hq)) j hc with e | e
    · omega
    · rw [hl] at e; cases e
/-- the same operation at other slots that it does not look at -/
theorem wp_move {o : Oper} {a a2 : Act} {w : World} {N : Act → World → Prop} {Q : Exit → Act → World → Prop} (hx : execOp a2.eval o = execOp a.eval o) (ha : a.defers = []) (ha2 : a2.defers = []) (hN : ∀ b u, N b u → b.defers = [])
    (h : o.wp P a w N (fun _ _ _ => False)) : o.wp P a2 w (fun b u => ∃ v, b = a2.put o.dst v ∧ N (a.put o.dst v) u) Q := by
  unfold Oper.wp at *
  rw [hx]
  generalize (execOp a.eval o).run P w = q at *
  cases q with
  | ok n w' =>
    cases n <;> simp only [Oper.upon] at h ⊢ <;>
      first
        | exact ⟨_, rfl, h⟩
        | exact Calls.mono h (fun e w'' he => by cases e <;> first | exact ⟨_, rfl, he⟩ | exact he.elim | exact (by obtain ⟨_, _, z⟩ := (he : LetsOut fun _ _ _ => False); exact z.elim))
        | exact Rows.mono h (fun _ _ he => ⟨_, rfl, he⟩)
        | (exfalso; have := hN _ _ h; cases hd : o.dst <;> simp [Act.put, hd] at this)
  | halt x w' => cases x <;> simp only [Oper.upon] at h ⊢
/-- append to nil: memory grows -/
theorem appnil_ok {o : Oper} {K : St → Option ω} (happ : isAppend o = true) (hnil : farB σ o (.func 0) = true) (h : opK P Φ frs σ k o K = some r) {a : Act} (hE : EnvR g σ a) (hW : WF w0 g σ.mem w) {N : Act → World → Prop} (hN : Next w0 r K N) (Q : Exit → Act → World → Prop) :
    o.wp P a w (fun b u => N b u ∧ From w u) Q := by
  obtain ⟨dst, op, type, pos, after, guard⟩ := o
  unfold isAppend at happ
  split at happ
  · rename_i args argTypes hop
    simp only at hop
    subst hop
    simp only [opK] at h
    split at h
    · rename_i x y t t' hx ht
      split at h
      · cases h
      · rename_i htt
        have htt' : t' = t := by simpa using htt
        subst htt'
        have hx' : args = #[x, y] := by rw [← Array.toArray_toList (xs := args), hx]
        have ht' : argTypes = #[t', t'] := by rw [← Array.toArray_toList (xs := argTypes), ht]
        subst hx' ht'
        have hxn : opnd σ x = .nil := by
          unfold farB at hnil
          simp only at hnil
          split at hnil
          · rename_i hq; exact hq
          · cases hnil
        unfold appendK at h
        split at h
        · rename_i e s he hs
          obtain ⟨e', hu, he', hok⟩ := elemSh_some hs
          rw [he] at he'
          cases he'
          obtain ⟨i, z, hi, hz, hsz, hzc, hpos, hzr⟩ := elemOk_some hok
          have hbt : bytesT P e = i.bytes := by unfold bytesT; rw [hi]
          split at h
          · rename_i b fb hb
            obtain ⟨ya, yc, news, ey, hrep, hsrc⟩ := src_ok hW hb (hE.opnd y)
            have hnl := RepL.len (fun x c h => RepC.len s x c h) _ _ hrep
            have hn1 := RepL.one (fun x c h => RepC.one s x c h) _ _ hrep
            rw [hxn] at h
            simp only at h
            rw [br_val] at h
            simp only [Cd.val, decide_eq_true_eq] at h
            split at h
            · rename_i hm
              have ex := hE.opnd x
              rw [hxn] at ex
              unfold Rel at ex
              have hmm := most_le _ _ hm
              rw [hbt] at hmm
              obtain ⟨v', w', e2, hrun, hown', hgb, hblk⟩ := append_ok (P := P) g.n0 t' type e e i z s.size hu hi hz hsz hzc hpos (.slice none 0 0) 0 [] (OwnR.nil w _ e s.size none) ya b.length yc news hnl
                (hsrc.imp (fun q => q) (fun ⟨ad, q1, q2⟩ => ⟨ad, q1, q2⟩)) hn1 (by rw [Nat.zero_add]; exact hmm.1) (by rw [Nat.zero_add]; exact hmm.2) hW.base
              rw [Nat.zero_add, List.nil_append] at hown'
              have := newRow_ok (l := (b : List (sem s))) hE hW hgb (fun id o c _ _ => by simp [rowBlk]) (fun c hc => by simp [rowBlk] at hc) hown' hrep hpos (fun c hc => (hblk c hc).imp id fun q => Nat.le_of_eq q.symm) dst hN h
              have hrun' : (execOp a.eval ⟨dst, .call ⟨.builtin .append, #[x, y], #[t', t']⟩, type, pos, after, guard⟩).run P w = .ok (.value v') w' := by
                simp only [execOp, Sem.run_bind, resolve, Sem.run_pure, Result.andThen_ok, invoke, builtin, List.map_toArray, List.map_cons, List.map_nil]
                rw [ex, ey, hrun]; rfl
              unfold Oper.wp
              rw [hrun']
              exact ⟨this, ⟨hgb.os, hgb.tape, hgb.output, hgb.size, fun j hj => hgb.block j hj (by simp [rowBlk]), hgb.drawn⟩⟩
            · cases h
          · cases h
        · cases h
    · cases h
  · cases happ
theorem loud_not {o : Oper} (h : loudB o = true) : quietK P frs o = false := by
  unfold loudB at h
  split at h <;> first | (cases h; done) | (rename_i hop; unfold quietK; rw [hop])
/-- one pick of a drawn order -/
theorem pick (hΦ : ∀ f, SoundX w0.tb P f (Φ f) frs) (hs : Static ops ord ops.size) (hM : M ≤ ops.size) {Q : Exit → Act → World → Prop}
    {N1 : Nat} (IH : ∀ (N' : Nat) (V : Nat → Value) (g : Gh) (σ : St) (w : World) (listed : Array Bool) (a : Act), N1 ≤ N' → At P Φ frs ops ord M L k K r w0 a0 f N' V g σ w listed a → wpAny P .any ops Q f listed a w)
    (h : At P Φ frs ops ord M L k K r w0 a0 (f + 1) N V g σ w listed a) {i : Nat} (hi' : i < ops.size) (hle : i ≤ N) (hn1 : i < N → N1 ≤ N) (hn2 : N1 ≤ N + 1) (hi : atP ord i ∈ Region.ready .any ops listed)
    (hloud : i = N → N < M ∧ ∃ (o : Oper) (σ1 : St), ops[atP ord N]? = some o ∧ ¬ quietK P frs o = true ∧ Region.wanted o (yielded ops (lexAct ops ord V a0 N).tmps) = true ∧ (watchAt ops ord N).all (farB σ1 o) = true ∧
      opK P Φ frs σ1 k o (regK P Φ frs ops k K (L.drop (N + 1))) = some r ∧ EnvR g σ1 (lexAct ops ord V a0 N) ∧ σ1.mem = σ.mem ∧ Sink frs ops ord N o) : wpOp P ops Q (atP ord i) (wpAny P .any ops Q f (listed.setIfInBounds (atP ord i) true)) a w := by
  obtain ⟨hun, o, ho, hall⟩ := mem_ready.1 hi
  have hxs : atP ord i < ops.size := (Array.getElem?_eq_some_iff.1 ho).1
  have hunf := getD_both hun
  have his := hi'
  have hsz := h.size
  have hlook := looks_at (V := V) hs h.agree h.closed his ho hunf hall
  obtain ⟨hx1, hx2⟩ := same_op (ops := ops) o (hs.sel _ o hxs ho) hlook
  have hd : o.dst = dstOf ops (atP ord i) := by unfold dstOf; rw [ho]; rfl
  have hcnt : open_ ops.size (listed.setIfInBounds (atP ord i) true) = f := by
    have := open_set (n := ops.size) hxs (by omega) hunf
    have := h.cnt
    omega
  have hset : ∀ j, (listed.setIfInBounds (atP ord i) true).getD j false = true ↔ (listed.getD j false = true ∨ j = atP ord i) := fun j => by
    by_cases e : j = atP ord i
    · subst e
      simp [show atP ord i < listed.size by omega]
    · rw [getD_set_ne false (fun q => e q.symm)]
      simp [e]
  have hclosed : ∀ (j : Nat) oj, ops[j]? = some oj → (listed.setIfInBounds (atP ord i) true).getD j false = true → ∀ e ∈ oj.after, Region.binds .any e = true → (listed.setIfInBounds (atP ord i) true).getD e.on false = true := fun j oj hoj hj e he hb => by
    refine (hset _).2 (.inl ?_)
    rcases (hset j).1 hj with hj | rfl
    · exact h.closed j oj hoj hj e he hb
    · rw [ho] at hoj; cases hoj; exact hall e he hb
  have hold : ∀ j, (listed.setIfInBounds (atP ord i) true).getD j false = false → listed.getD j false = false := fun j hlj => by
    cases hq : listed.getD j false with
    | false => rfl
    | true => rw [(hset _).2 (.inl hq)] at hlj; cases hlj
  have htail : ∀ t, i < t → N ≤ t → t < ops.size → (listed.setIfInBounds (atP ord i) true).getD (atP ord t) false = false := fun t hit ht hts => by
    rw [getD_set_ne false (fun e => by have := hs.inj i t his hts e; omega)]; exact h.tail t ht hts
  by_cases hin : i < N
  · have hy := (h.yl i o hin ho hunf).of_same hx1 hx2
    refine wpOp_of_qOp (C := From w) (Below.refl _ _) (fun a' w' hw' he => ?_) (hy.yields.qOp ho (K := fun a' => a' = a.put o.dst (V (atP ord i))) rfl)
    subst he
    have h2 := h.later hw'
    refine IH N V g σ w' _ _ (hn1 hin) { h2 with cnt := hcnt, size := by simp [hsz], closed := hclosed, tail := fun t ht hts => htail t (by omega) ht hts, yl := fun j oj hj hoj hlj => h2.yl j oj hj hoj (hold _ hlj), cold := fun j oj hj hoj hlj => h2.cold j oj hj hoj (hold _ hlj), lds := fun j oj s hj hoj hlj => h2.lds j oj s hj hoj (hold _ hlj), qui := fun j oj hj hoj hlj => h2.qui j oj hj hoj (hold _ hlj), agree := ?_ }
    · rw [hd]; exact h.agree.step hs hxs hset
  · have hiN : i = N := by omega
    obtain ⟨hNs, oN, σ1, hoN, hqN, hwN, hws, h1, hE1, hm1, hsink⟩ := hloud hiN
    subst hiN
    rw [ho] at hoN; cases hoN
    have hwant : Region.wanted o (yielded ops a.tmps) = true := by rw [hx2]; exact hwN
    have hne : ∀ q, q < i → atP ord q ≠ atP ord i := fun q hq e => by have := hs.inj q i (by omega) his e; omega
    have key : ∀ (v : Value) (u : World), ((∀ (j : Nat) oj, j < i → ops[atP ord j]? = some oj → listed.getD (atP ord j) false = false → Yl P ops u oj (V (atP ord j)) (lexAct ops ord V a0 j)) ∧
        (∀ (j : Nat) oj s, j < i → ops[atP ord j]? = some oj → listed.getD (atP ord j) false = false → loadOf oj = some s → Region.wanted oj (yielded ops (lexAct ops ord V a0 j).tmps) = true →
          ∃ b off, (lexAct ops ord V a0 j).eval (.tmp s) = .pointer (some ⟨b, off, none⟩) ∧ ∀ (C : World → Prop) x, Keeps b u x → oj.quietAt P (lexAct ops ord V a0 j) C x (V (atP ord j)))) →
        (∃ g' σ', EnvR g' σ' ((lexAct ops ord V a0 i).put o.dst v) ∧ WF w0 g' σ'.mem u ∧ regK P Φ frs ops k K (L.drop (i + 1)) σ' = some r) →
        wpAny P .any ops Q f (listed.setIfInBounds (atP ord i) true) (a.put o.dst v) u := by
      rintro v u ⟨hyl, hlds⟩ ⟨g', σ', hE', hW', hK'⟩
      have hcg : ∀ j, j ≤ i → lexAct ops ord (upd V (atP ord i) v) a0 j = lexAct ops ord V a0 j := fun j hj => lexAct_congr ops ord a0 j fun q hq => upd_ne _ _ (hne q (by omega))
      have hji : ∀ j, j < i + 1 → (listed.setIfInBounds (atP ord i) true).getD (atP ord j) false = false → j < i ∧ listed.getD (atP ord j) false = false := fun j hj hlj => by
        refine ⟨?_, hold _ hlj⟩
        have : j ≠ i := fun e => by subst e; rw [(hset _).2 (.inr rfl)] at hlj; cases hlj
        omega
      refine IH (i + 1) (upd V (atP ord i) v) g' σ' u _ _ (by omega) { cnt := hcnt, le := hNs, size := by simp [hsz], closed := hclosed, tail := fun t ht hts => htail t (by omega) (by omega) hts, yl := fun j oj hj hoj hlj => ?_, cold := fun j oj hj hoj hlj => ?_, lds := fun j oj s hj hoj hlj => ?_, qui := fun j oj hj hoj hlj => ?_, agree := ?_, den := hK', env := ?_, wf := hW' }
      · obtain ⟨q1, q2⟩ := hji j hj hlj
        rw [hcg j (by omega), upd_ne _ _ (hne j q1)]
        exact hyl j oj q1 hoj q2
      · obtain ⟨q1, q2⟩ := hji j hj hlj
        rw [hcg j (by omega), upd_ne _ _ (hne j q1)]
        exact h.cold j oj q1 hoj q2
      · obtain ⟨q1, q2⟩ := hji j hj hlj
        rw [hcg j (by omega), upd_ne _ _ (hne j q1)]
        exact hlds j oj s q1 hoj q2
      · obtain ⟨q1, q2⟩ := hji j hj hlj
        rw [hcg j (by omega)]
        exact h.qui j oj q1 hoj q2
      · have hag : Agree ops (upd V (atP ord i) v) ops.size a0 (fun j => listed.getD j false = true) a := by
          refine ⟨h.agree.size, h.agree.dfr, fun j t hj hlj ht hlt => ?_, h.agree.old⟩
          have hj2 : j ≠ atP ord i := fun e => by subst e; rw [hunf] at hlj; cases hlj
          rw [upd_ne _ _ hj2]
          exact h.agree.put j t hj hlj ht hlt
        have := hag.step hs hxs hset
        rw [upd_same] at this
        rw [hd]; exact this
      · unfold lexAct
        rw [hcg i (Nat.le_refl _), upd_same, ← hd]
        exact hE'
    unfold wpOp
    rw [ho]
    simp only
    rw [if_pos hwant]
    left
    have done : (∀ j, j < i → listed.getD (atP ord j) false = true) → o.wp P a w (wpAny P .any ops Q f (listed.setIfInBounds (atP ord i) true)) Q := fun hlo => by
      have hL : ∀ j, j < ops.size → (listed.getD j false = true ↔ ∃ p, p < i ∧ atP ord p = j) := fun j hj => by
        refine ⟨fun q => ?_, fun ⟨p, hp, e⟩ => e ▸ hlo p hp⟩
        obtain ⟨p, hp, rfl⟩ := hs.sur j hj
        rcases Nat.lt_or_ge p i with z | z
        · exact ⟨p, z, rfl⟩
        · rw [h.tail p z hp] at q; cases q
      have hag : Agree ops V ops.size a0 (fun j => ∃ p, p < i ∧ atP ord p = j) a := ⟨h.agree.size, h.agree.dfr, fun j t hj hl => h.agree.put j t hj ((hL j hj).2 hl), fun t ht => h.agree.old t fun j hj hl => ht j hj ((hL j hj).1 hl)⟩
      have hae : a = lexAct ops ord V a0 i := agree_same hag (lex_agree hs i (by omega))
      have hwp := op_ok h1 hE1 (by rw [hm1]; exact h.wf) hΦ (N := fun b u => ∃ g' σ', EnvR g' σ' b ∧ WF w0 g' σ'.mem u ∧ regK P Φ frs ops k K (L.drop (i + 1)) σ' = some r) (fun g' σ' b u hE' hW' hK' => ⟨g', σ', hE', hW', hK'⟩) Q
      have hwp2 := wp_put hE1.dfr (fun b u ⟨g', σ', hE', _, _⟩ => hE'.dfr) hwp
      rw [hae]
      refine Oper.wp_mono (fun a' u hh => ?_) hwp2
      obtain ⟨v, rfl, hn⟩ := hh
      have := key v u ⟨fun j oj hj hoj hlj => (by rw [hlo j hj] at hlj; cases hlj), fun j oj s hj hoj hlj => (by rw [hlo j hj] at hlj; cases hlj)⟩ hn
      rwa [hae] at this
    have hlow2 : (∀ q, q < i → ∃ j, q < j ∧ j ≤ i ∧ Region.waitsFor .any ops (atP ord j) (atP ord q) = true) → ∀ (d j : Nat), i - j = d → j < i → listed.getD (atP ord j) false = true := by
      intro hsink d
      induction d using Nat.strongRecOn with
      | _ d ih =>
        intro j hjd hj
        obtain ⟨q, hq1, hq2, hq3⟩ := hsink j hj
        obtain ⟨oq, hoq, e, he, hb, hon⟩ := Region.waitsFor_spec hq3
        rw [← hon]
        rcases Nat.lt_or_ge q i with hqi | hqi
        · exact h.closed _ oq hoq (ih (i - q) (by omega) q rfl hqi) e he hb
        · have : q = i := by omega
          subst this
          rw [ho] at hoq; cases hoq
          exact hall e he hb
    have coldrun : looseCold ops ord i = true → o.wp P a w (wpAny P .any ops Q f (listed.setIfInBounds (atP ord i) true)) Q := fun hcold => by
      have hc : ∀ (j : Nat) oj, j < i → ops[atP ord j]? = some oj → listed.getD (atP ord j) false = false → Region.wanted oj (yielded ops (lexAct ops ord V a0 j).tmps) = true → coldB oj = true := fun j oj hj hoj hlj hw => by
        unfold looseCold at hcold
        have h2 := List.all_eq_true.1 hcold j (h.loose ho hall hj hlj)
        rw [hoj] at h2
        rcases Bool.or_eq_true _ _ ▸ h2 with h2 | h2
        · exact h2
        · have := h.qui j oj hj hoj hlj hw
          rw [loud_not h2] at this; cases this
      have hwp := op_ok h1 hE1 (by rw [hm1]; exact h.wf) hΦ (N := fun b u => ∃ g' σ', EnvR g' σ' b ∧ WF w0 g' σ'.mem u ∧ regK P Φ frs ops k K (L.drop (i + 1)) σ' = some r) (fun g' σ' b u hE' hW' hK' => ⟨g', σ', hE', hW', hK'⟩) (fun _ _ _ => False)
      have := wp_move (Q := Q) hx1 hE1.dfr (h.agree.dfr.trans (show a0.defers = [] from (lex_dfr (V := V) (ord := ord) (ops := ops) (a0 := a0) i ▸ hE1.dfr))) (fun b u ⟨g', σ', hE', _, _⟩ => hE'.dfr) hwp
      refine Oper.wp_mono (fun a' u hh => ?_) this
      obtain ⟨v, rfl, hn⟩ := hh
      refine key v u ⟨fun j oj hj hoj hlj => ?_, fun j oj s hj hoj hlj hls hw => ?_⟩ hn
      · rcases h.yl j oj hj hoj hlj with ⟨hw, _⟩ | hno
        · exact .inl ⟨hw, fun x _ => h.cold j oj hj hoj hlj (hc j oj hj hoj hlj hw) hw _ x⟩
        · exact .inr hno
      · exfalso
        have := hc j oj hj hoj hlj hw
        unfold loadOf at hls
        split at hls
        · rename_i hop; simp [coldB, hop] at this
        · cases hls
    rcases hsink with hc | hsink | hstore | hcold | happ
    · have := call_ok (N := fun b u => ∃ g' σ', EnvR g' σ' b ∧ WF w0 g' σ'.mem u ∧ regK P Φ frs ops k K (L.drop (i + 1)) σ' = some r) hc hqN h1 hx1 hE1 (by rw [hm1]; exact h.wf) hΦ (fun g' σ' b u hE' hW' hK' => ⟨g', σ', hE', hW', hK'⟩) Q
      refine Oper.wp_mono (fun a' u hh => ?_) this
      obtain ⟨v, rfl, hn, hu⟩ := hh
      exact key v u ⟨fun j oj hj hoj hlj => (h.yl j oj hj hoj hlj).later hu, fun j oj s hj hoj hlj hls hw => by
        obtain ⟨b, off, e, q⟩ := h.lds j oj s hj hoj hlj hls hw
        exact ⟨b, off, e, fun C x hx => q C x (fun o v hv => hx o v ((From.keeps hu b) o v hv))⟩⟩ hn
    · exact done fun j hj => hlow2 hsink _ j rfl hj
    · by_cases hno : ∃ j, j < i ∧ listed.getD (atP ord j) false = false
      · obtain ⟨t, p, x, id, off, hop, hp, hst⟩ := h.stored his ho hall hstore hws hE1 hm1 hno
        have := store_ok (N := fun b u => ∃ g' σ', EnvR g' σ' b ∧ WF w0 g' σ'.mem u ∧ regK P Φ frs ops k K (L.drop (i + 1)) σ' = some r) hop hp h1 hx1 hE1 (by rw [hm1]; exact h.wf) (fun g' σ' b u hE' hW' hK' => ⟨g', σ', hE', hW', hK'⟩) Q
        refine Oper.wp_mono (fun a' u hh => ?_) this
        obtain ⟨v, rfl, hn, hu⟩ := hh
        exact key v u (hst u hu) hn
      · exact done fun j hj => by
          cases hq : listed.getD (atP ord j) false with
          | true => rfl
          | false => exact absurd ⟨j, hj, hq⟩ hno
    · exact coldrun hcold
    · by_cases hcs : (sinkAllB ops ord i || looseCold ops ord i) = true
      · rcases Bool.or_eq_true _ _ ▸ hcs with hs1 | hcold
        · refine done fun j hj => hlow2 (fun q hq => ?_) _ j rfl hj
          unfold sinkAllB at hs1
          have := List.all_eq_true.1 hs1 q (List.mem_range.2 hq)
          simp only [List.any_eq_true, List.mem_range, Bool.and_eq_true, decide_eq_true_eq] at this
          obtain ⟨j, hj, h1, h2⟩ := this
          exact ⟨j, h1, by omega, h2⟩
        · exact coldrun hcold
      · have hnil : farB σ1 o (.func 0) = true := by
          unfold watchAt at hws
          rw [ho] at hws
          have hst : isStore o = false := by
            unfold isAppend at happ
            unfold isStore
            split at happ
            · rename_i hop; rw [hop]
            · cases happ
          simp only [hst, happ, Bool.eq_false_iff.2 hcs, Bool.false_eq_true, if_false, Bool.not_false, Bool.and_self, if_true, List.all_cons, List.all_nil, Bool.and_true] at hws
          exact hws
        have := wp_move (Q := Q) hx1 hE1.dfr (h.agree.dfr.trans (show a0.defers = [] from (lex_dfr (V := V) (ord := ord) (ops := ops) (a0 := a0) i ▸ hE1.dfr))) (fun b u hh => (by obtain ⟨⟨g', σ', hE', _, _⟩, _⟩ := hh; exact hE'.dfr))
          (appnil_ok (N := fun b u => ∃ g' σ', EnvR g' σ' b ∧ WF w0 g' σ'.mem u ∧ regK P Φ frs ops k K (L.drop (i + 1)) σ' = some r) happ hnil h1 hE1 (by rw [hm1]; exact h.wf) (fun g' σ' b u hE' hW' hK' => ⟨g', σ', hE', hW', hK'⟩) _)
        refine Oper.wp_mono (fun a' u hh => ?_) this
        obtain ⟨v, rfl, hn, hu⟩ := hh
        exact key v u ⟨fun j oj hj hoj hlj => (h.yl j oj hj hoj hlj).later hu, fun j oj s hj hoj hlj hls hw => by
          obtain ⟨b, off, e, q⟩ := h.lds j oj s hj hoj hlj hls hw
          exact ⟨b, off, e, fun C x hx => q C x (fun o v hv => hx o v ((From.keeps hu b) o v hv))⟩⟩ hn
/-- something may be picked -/
theorem At.some_ready (hs : Static ops ord ops.size) (h : At P Φ frs ops ord M L k K r w0 a0 (f + 1) N V g σ w listed a) : Region.ready .any ops listed ≠ [] := by
  have hex : ∃ i, i < ops.size ∧ listed.getD (atP ord i) false = false := by
    apply Classical.byContradiction
    intro hno
    have : open_ ops.size listed = 0 := List.countP_eq_zero.2 fun i hi => by
      have hi' := List.mem_range.1 hi
      obtain ⟨p, hp, rfl⟩ := hs.sur i hi'
      cases hq : listed.getD (atP ord p) false with
      | true => simp
      | false => exact absurd ⟨p, hp, hq⟩ hno
    have := h.cnt
    omega
  have least : ∃ i, i < ops.size ∧ listed.getD (atP ord i) false = false ∧ ∀ j, j < i → listed.getD (atP ord j) false = true := by
    obtain ⟨i, hi, hq⟩ := hex
    induction i using Nat.strongRecOn with
    | _ i ih =>
      by_cases h : ∃ j, j < i ∧ listed.getD (atP ord j) false = false
      · obtain ⟨j, hj, hqj⟩ := h
        exact ih j hj (by omega) hqj
      · refine ⟨i, hi, hq, fun j hj => ?_⟩
        cases hqj : listed.getD (atP ord j) false with
        | true => rfl
        | false => exact absurd ⟨j, hj, hqj⟩ h
  obtain ⟨i0, hi0, hq0, hlow⟩ := least
  have hsz := h.size
  have hi0' := hs.lt i0 hi0
  have hready0 : atP ord i0 ∈ Region.ready .any ops listed := mem_ready.2 ⟨getD_in (by omega) hq0, ops[atP ord i0], by simp [hi0'], fun e he hb => by
    obtain ⟨q, hq, hqe⟩ := hs.back i0 _ hi0 (by simp [hi0']) e he hb
    rw [← hqe]; exact hlow q hq⟩
  exact fun h0 => (by rw [h0] at hready0; cases hready0)
/-- any order that may be drawn comes to the text's end -/
theorem stage (hΦ : ∀ f, SoundX w0.tb P f (Φ f) frs) (hs : Static ops ord ops.size) (hlen : ord.length = ops.size) {N0 : Nat} (hl : ∀ (i : Nat) o, N0 ≤ i → i < ops.size → ops[atP ord i]? = some o → quietK P frs o = true ∨ Loud P frs ops ord i o) {Q : Exit → Act → World → Prop} (hQ : Next w0 r K (Q .normal)) :
    ∀ (f N : Nat) (V : Nat → Value) (g : Gh) (σ : St) (w : World) (listed : Array Bool) (a : Act), N0 ≤ N → At P Φ frs ops ord ops.size (ordOps ops ord) k K r w0 a0 f N V g σ w listed a → wpAny P .any ops Q f listed a w
  | 0, N, V, g, σ, w, listed, a, hN0, h => by
    have hall : ∀ j, j < ops.size → listed.getD j false = true := fun j hj => by
      have := h.cnt
      unfold open_ at this
      have := (List.countP_eq_zero.1 this) j (List.mem_range.2 hj)
      simpa using this
    have hN : N = ops.size := by
      rcases Nat.lt_or_ge N ops.size with q | q
      · have := hall _ (hs.lt N q); rw [h.tail N (Nat.le_refl _) q] at this; cases this
      · have := h.le; omega
    have he := agree_end hs h.agree hall
    refine ⟨?_, ?_⟩
    · cases hr : Region.ready .any ops listed with
      | nil => rfl
      | cons i l =>
        have : i ∈ Region.ready .any ops listed := by rw [hr]; exact List.mem_cons_self
        obtain ⟨h1, o, ho, _⟩ := mem_ready.1 this
        have := hall i (Array.getElem?_eq_some_iff.1 ho).1
        rw [getD_both h1] at this; cases this
    · have hd := h.den
      have hE := h.env
      rw [hN] at hd hE
      rw [← he] at hE
      rw [(lists_all hs hlen).2.1] at hd
      exact hQ _ _ _ _ hE h.wf (by simpa only [regK] using hd)
  | f + 1, N1, V0, g, σ0, w, listed, a, hN1, h0 => by
    obtain ⟨N, V, σ, hle, h, hnext⟩ := h0.advance hs (lists_all hs hlen) hΦ _ rfl
    refine ⟨fun e => absurd e (h.some_ready hs), fun x hi => ?_⟩
    obtain ⟨hun, o, ho, hall⟩ := mem_ready.1 hi
    have hxs : x < ops.size := (Array.getElem?_eq_some_iff.1 ho).1
    obtain ⟨i, his, rfl⟩ := hs.sur x hxs
    have hiN : i ≤ N := by
      rcases Nat.lt_or_ge N i with q | q
      · exfalso
        rcases hnext with hN | ⟨hNs, oN, σ1, hoN, hqN, _⟩
        · omega
        · obtain ⟨j, hj1, hj2, hj3⟩ := ((hl N oN (by omega) hNs hoN).resolve_left hqN).bar i q his
          obtain ⟨o', ho', e, he, hb, hon⟩ := Region.waitsFor_spec hj3
          rw [ho] at ho'; cases ho'
          have := hall e he hb
          rw [hon, h.tail j hj1 (by omega)] at this; cases this
      · exact q
    refine pick hΦ hs (Nat.le_refl _) (fun N' V' g' σ' w' l' a' hN' h' => stage hΦ hs hlen hl hQ f N' V' g' σ' w' l' a' hN' h') h his hiN (fun _ => by omega) (by omega) hi (fun e => ?_)
    rcases hnext with hN | ⟨hNs, oN, σ1, hoN, hqN, hwN, hws, h1, hE1, hm1⟩
    · omega
    · exact ⟨hNs, oN, σ1, hoN, hqN, hwN, hws, h1, hE1, hm1, ((hl N oN (by omega) hNs hoN).resolve_left hqN).sink⟩
theorem swap_at {ord : List Nat} {n t : Nat} (h : n + 1 < ord.length) : atP (swapAt ord n) t = atP ord (if t = n then n + 1 else if t = n + 1 then n else t) := by
  unfold swapAt atP
  simp only [List.getD_eq_getElem?_getD]
  by_cases e2 : t = n + 1
  · subst e2
    rw [if_neg (by omega), if_pos rfl, List.getElem?_set_self (by rw [List.length_set]; exact h)]
    rfl
  · rw [List.getElem?_set_ne (fun q => e2 q.symm)]
    by_cases e1 : t = n
    · subst e1
      rw [if_pos rfl, List.getElem?_set_self (by omega)]
      rfl
    · rw [List.getElem?_set_ne (fun q => e1 q.symm), if_neg e1, if_neg e2]
theorem lex_swap {ord : List Nat} {n : Nat} (h : n + 1 < ord.length) (V : Nat → Value) (a0 : Act) : ∀ i, i ≤ n → lexAct ops (swapAt ord n) V a0 i = lexAct ops ord V a0 i
  | 0, _ => rfl
  | i + 1, hi => by
    unfold lexAct
    rw [lex_swap h V a0 i (by omega), swap_at h, if_neg (by omega), if_neg (by omega)]
/-- two that stand next to each other, in either order -/
theorem stage2 (hΦ : ∀ f, SoundX w0.tb P f (Φ f) frs) {n : Nat} (hn : n + 1 < ops.size) (hs : Static ops ord ops.size) (hs2 : Static ops (swapAt ord n) ops.size) (hlen : ord.length = ops.size) (hq : ∀ (i : Nat) o, i < n → ops[atP ord i]? = some o → quietK P frs o = true)
    (hl : ∀ (i : Nat) o, i < ops.size → ops[atP ord i]? = some o → quietK P frs o = true ∨ (∀ t, i < t → t < ops.size → (i = n ∧ t = i + 1) ∨ ∃ j, i ≤ j ∧ j < t ∧ Region.waitsFor .any ops (atP ord t) (atP ord j) = true) ∧ Sink frs ops ord i o)
    (hl2 : ∀ (i : Nat) o, i < ops.size → ops[atP (swapAt ord n) i]? = some o → quietK P frs o = true ∨ (∀ t, i < t → t < ops.size → (i = n ∧ t = i + 1) ∨ ∃ j, i ≤ j ∧ j < t ∧ Region.waitsFor .any ops (atP (swapAt ord n) t) (atP (swapAt ord n) j) = true) ∧ Sink frs ops (swapAt ord n) i o)
    (hnq : ∀ o, ops[atP ord n]? = some o → ¬ quietK P frs o = true) {Q : Exit → Act → World → Prop} (hQ : Next w0 r K (Q .normal)) :
    ∀ (f N : Nat) (V : Nat → Value) (g : Gh) (σ : St) (w : World) (listed : Array Bool) (a : Act), At P Φ frs ops ord n ((ordOps ops ord).take n) k (swapK P Φ frs ops k K ord n) r w0 a0 f N V g σ w listed a → wpAny P .any ops Q f listed a w
  | 0, N, V, g, σ, w, listed, a, h => by
    exfalso
    have hall : ∀ j, j < ops.size → listed.getD j false = true := fun j hj => by
      have := h.cnt
      unfold open_ at this
      have := (List.countP_eq_zero.1 this) j (List.mem_range.2 hj)
      simpa using this
    have := hall _ (hs.lt n (by omega))
    rw [h.tail n h.le (by omega)] at this; cases this
  | f + 1, N1, V0, g, σ0, w, listed, a, h0 => by
    obtain ⟨N, V, σ, hle, h, hnext⟩ := h0.advance hs (lists_take hs hlen (by omega)) hΦ _ rfl
    obtain rfl : N = n := by
      rcases hnext with hN | ⟨hNs, oN, σ1, hoN, hqN, _⟩
      · exact hN
      · exact absurd (hq N oN hNs hoN) hqN
    have hd := h.den
    rw [(lists_take hs hlen (show N ≤ ops.size by omega)).2.1] at hd
    have hd : swapK P Φ frs ops k K ord N σ = some r := by simpa only [regK] using hd
    unfold swapK at hd
    obtain ⟨_, hd⟩ := allK_some hd
    have d1 := hd 0 (by omega) (by omega)
    have d2 := hd 1 (by omega) (by omega)
    rw [br_val, if_pos (by simp [Cd.val])] at d1
    rw [br_val, if_neg (by simp [Cd.val])] at d2
    have hl' : N + 1 < ord.length := by omega
    have hlen2 : (swapAt ord N).length = ops.size := by unfold swapAt; rw [List.length_set, List.length_set]; exact hlen
    have h1 : At P Φ frs ops ord ops.size (ordOps ops ord) k K r w0 a0 (f + 1) N V g σ w listed a := { h with le := by omega, den := d1 }
    have same : ∀ i, i < N → atP (swapAt ord N) i = atP ord i := fun i hi => by rw [swap_at hl', if_neg (by omega), if_neg (by omega)]
    have h2 : At P Φ frs ops (swapAt ord N) ops.size (ordOps ops (swapAt ord N)) k K r w0 a0 (f + 1) N V g σ w listed a :=
      { cnt := h.cnt, le := by omega, size := h.size, closed := h.closed, agree := h.agree, den := d2, wf := h.wf
        tail := fun t ht hts => by
          rw [swap_at hl']
          split
          · exact h.tail _ (by omega) (by omega)
          · split
            · exact h.tail _ (by omega) (by omega)
            · exact h.tail _ ht hts
        yl := fun i o hi ho hlj => by
          rw [same i hi] at ho hlj
          rw [same i hi, lex_swap hl' V a0 i (by omega)]
          exact h.yl i o hi ho hlj
        cold := fun i o hi ho hlj => by
          rw [same i hi] at ho hlj
          rw [same i hi, lex_swap hl' V a0 i (by omega)]
          exact h.cold i o hi ho hlj
        lds := fun i o s hi ho hlj => by
          rw [same i hi] at ho hlj
          rw [same i hi, lex_swap hl' V a0 i (by omega)]
          exact h.lds i o s hi ho hlj
        qui := fun i o hi ho hlj => by
          rw [same i hi] at ho hlj
          rw [lex_swap hl' V a0 i (by omega)]
          exact h.qui i o hi ho hlj
        env := by rw [lex_swap hl' V a0 N (Nat.le_refl _)]; exact h.env }
    refine ⟨fun e => absurd e (h.some_ready hs), fun x hi => ?_⟩
    obtain ⟨hun, o, ho, hall⟩ := mem_ready.1 hi
    have hxs : x < ops.size := (Array.getElem?_eq_some_iff.1 ho).1
    obtain ⟨i, his, rfl⟩ := hs.sur x hxs
    rcases Nat.lt_or_ge i N with hlt | hge
    · exact pick hΦ hs (by omega) (fun N' V' g' σ' w' l' a' hN' h' => stage2 hΦ hn hs hs2 hlen hq hl hl2 hnq hQ f N' V' g' σ' w' l' a' h') (N1 := 0) h his (by omega) (fun _ => Nat.zero_le _) (Nat.zero_le _) hi (fun e => by omega)
    · obtain ⟨oN, hoN⟩ : ∃ oN, ops[atP ord N]? = some oN := ⟨ops[atP ord N]'(hs.lt N (by omega)), by simp [hs.lt N (by omega)]⟩
      have hNq := hnq oN hoN
      have loud : ∀ (i : Nat) o, N + 1 ≤ i → i < ops.size → ops[atP ord i]? = some o → quietK P frs o = true ∨ Loud P frs ops ord i o := fun i o h1 h2 h3 => (hl i o h2 h3).imp id fun ⟨q1, q2⟩ => ⟨fun t ht hts => (q1 t ht hts).resolve_left (fun z => by omega), q2⟩
      have loud2 : ∀ (i : Nat) o, N + 1 ≤ i → i < ops.size → ops[atP (swapAt ord N) i]? = some o → quietK P frs o = true ∨ Loud P frs ops (swapAt ord N) i o := fun i o h1 h2 h3 => (hl2 i o h2 h3).imp id fun ⟨q1, q2⟩ => ⟨fun t ht hts => (q1 t ht hts).resolve_left (fun z => by omega), q2⟩
      -- one place on, in either order
      have go : ∀ {ord' : List Nat} (hs' : Static ops ord' ops.size) (hlen' : ord'.length = ops.size) (h' : At P Φ frs ops ord' ops.size (ordOps ops ord') k K r w0 a0 (f + 1) N V g σ w listed a)
          (hsk : ∀ o, ops[atP ord' N]? = some o → ¬ quietK P frs o = true → Sink frs ops ord' N o) (hl'' : ∀ (i : Nat) o, N + 1 ≤ i → i < ops.size → ops[atP ord' i]? = some o → quietK P frs o = true ∨ Loud P frs ops ord' i o) (hi' : atP ord' N ∈ Region.ready .any ops listed),
          wpOp P ops Q (atP ord' N) (wpAny P .any ops Q f (listed.setIfInBounds (atP ord' N) true)) a w := fun {ord'} hs' hlen' h' hsk hl'' hi' => by
        obtain ⟨N', V', σ', hle', h3, hnext'⟩ := h'.advance hs' (lists_all hs' hlen') hΦ _ rfl
        by_cases e : N' = N
        · subst e
          refine pick hΦ hs' (Nat.le_refl _) (N := N') (fun N2 V2 g2 σ2 w2 l2 a2 hN2 h2 => stage hΦ hs' hlen' hl'' hQ f N2 V2 g2 σ2 w2 l2 a2 hN2 h2) h3 (by omega) (Nat.le_refl _) (fun e => by omega) (Nat.le_refl _) hi' (fun _ => ?_)
          · rcases hnext' with hN | ⟨hNs, oN, σ1, hoN, hqN, hwN, hws, h1, hE1, hm1⟩
            · omega
            · exact ⟨hNs, oN, σ1, hoN, hqN, hwN, hws, h1, hE1, hm1, hsk oN hoN hqN⟩
        · exact pick hΦ hs' (Nat.le_refl _) (fun N2 V2 g2 σ2 w2 l2 a2 hN2 h2 => stage hΦ hs' hlen' hl'' hQ f N2 V2 g2 σ2 w2 l2 a2 hN2 h2) h3 (by omega) (by omega) (fun _ => by omega) (by omega) hi' (fun e => by omega)
      rcases Nat.lt_or_ge (N + 1) i with hgt | hle1
      · exfalso
        rcases ((hl N oN (by omega) hoN).resolve_left hNq).1 i (by omega) his with z | ⟨j, hj1, hj2, hj3⟩
        · omega
        · obtain ⟨o', ho', e, he, hb, hon⟩ := Region.waitsFor_spec hj3
          rw [ho] at ho'; cases ho'
          have := hall e he hb
          rw [hon, h.tail j hj1 (by omega)] at this; cases this
      · by_cases e : i = N
        · subst e
          exact go hs hlen h1 (fun o ho hq => ((hl _ o (by omega) ho).resolve_left hq).2) loud hi
        · obtain rfl : i = N + 1 := by omega
          have e2 : atP (swapAt ord N) N = atP ord (N + 1) := by rw [swap_at hl', if_pos rfl]
          rw [← e2] at hi ⊢
          exact go hs2 hlen2 h2 (fun o ho hq => ((hl2 _ o (by omega) ho).resolve_left hq).2) loud2 hi
end
theorem region_ok (hΦ : ∀ f, SoundX w0.tb P f (Φ f) frs) (hmix : P.follows .mixedOrders = true) {ops : Array Oper} {ord : List Nat} {k id : Nat} {draw : Bool} {sh : Option Nat} {K : St → Option ω} {Q : Exit → Act → World → Prop} (hQ : Next w0 r K (Q .normal))
    {σ : St} {a : Act} (h : (if draw then drawnK P Φ frs ops k K ord sh σ else regK P Φ frs ops k K (ops.toList.map fun o => (o, [])) σ) = some r) (hE : EnvR g σ a) (hW : WF w0 g σ.mem w) : (Code.region id ops draw).wp P Q a w := by
  have hop : open_ ops.size (Array.replicate ops.size false) = ops.size := by
    unfold open_
    rw [show (fun i => !(Array.replicate ops.size false).getD i false) = fun _ => true from funext fun i => by rw [getD_replicate_false]; rfl]
    simp
  cases draw with
  | false =>
    refine wp_region_list ?_
    have := reg_ok hΦ hQ _ (by simpa using h) hE hW
    rw [List.map_map, show ((fun x : Oper × List Operand => x.1) ∘ fun o => (o, [])) = (fun o => o) from rfl, List.map_id'] at this
    exact this
  | true =>
    simp only [if_true] at h
    unfold drawnK at h
    split at h
    · split at h
      · rename_i hsafe
        obtain ⟨hs, hlen, hl⟩ := staticB_ok hsafe
        refine wp_region_any hmix ?_
        exact stage hΦ hs hlen (N0 := 0) (fun i o _ => hl i o) hQ ops.size 0 (fun _ => Go.undef) g σ _ _ _ (Nat.le_refl _) { cnt := hop, le := Nat.zero_le _, size := by simp, closed := fun j oj _ hl => (by rw [getD_replicate_false] at hl; cases hl), tail := fun t _ _ => getD_replicate_false _ _, yl := fun i o hi => by omega, cold := fun i o hi => by omega, lds := fun i o s hi => by omega, qui := fun i o hi => by omega, agree := Agree.start (fun j _ h => by rw [getD_replicate_false] at h; cases h), den := by simpa using h, env := hE, wf := hW.draw }
      · cases h
    · rename_i s
      split at h
      · rename_i hsafe
        unfold swapOk at hsafe
        simp only [Bool.and_eq_true, decide_eq_true_eq] at hsafe
        obtain ⟨⟨⟨⟨hn, h1⟩, h2⟩, h3⟩, h4⟩ := hsafe
        obtain ⟨hs, hlen, hl⟩ := staticS_ok h1
        obtain ⟨hs2, _, hl2⟩ := staticS_ok h2
        refine wp_region_any hmix ?_
        refine stage2 hΦ hn hs hs2 hlen (fun i o hi ho => ?_) hl hl2 (fun o ho => ?_) hQ ops.size 0 (fun _ => Go.undef) g σ _ _ _ { cnt := hop, le := Nat.zero_le _, size := by simp, closed := fun j oj _ hl => (by rw [getD_replicate_false] at hl; cases hl), tail := fun t _ _ => getD_replicate_false _ _, yl := fun i o hi => by omega, cold := fun i o hi => by omega, lds := fun i o s hi => by omega, qui := fun i o hi => by omega, agree := Agree.start (fun j _ h => by rw [getD_replicate_false] at h; cases h), den := by simpa using h, env := hE, wf := hW.draw }
        · have := List.all_eq_true.1 h3 i (List.mem_range.2 hi)
          rw [ho] at this; exact this
        · rw [ho] at h4
          simpa using h4
      · cases h

/-! #### code -/
/-- inside a loop, at its round's head -/
def LoopIn (P : Program) (c : Code) (Q : Exit → Act → World → Prop) (a : Act) (w : World) : Prop :=
  ∀ (b : Frame) (k : List Item) (cs : List Frame), ∃ e a' w', Q e a' w' ∧ Arrives P (lone (b.at a (.code c :: .inLoop c :: k)) cs w) b k cs e a' w'
theorem LoopIn.loop {c : Code} {Q : Exit → Act → World → Prop} {a : Act} {w : World} (h : LoopIn P c Q a w) : (Code.loop c).wp P Q a w := fun b k cs => by
  obtain ⟨e, a', w', hq, harr⟩ := h b k cs
  exact ⟨e, a', w', hq, .of_steps (.one step_loop) harr⟩
theorem LoopIn.round {c : Code} {Q : Exit → Act → World → Prop} {a : Act} {w : World} (h : c.wp P (Exit.then (LoopIn P c Q) Q) a w) : LoopIn P c Q a w := fun b k cs => by
  obtain ⟨e, a₁, w₁, hq, harr⟩ := h b (.inLoop c :: k) cs
  cases e with
  | normal =>
    obtain ⟨e₂, a₂, w₂, hq₂, harr₂⟩ := hq b k cs
    exact ⟨e₂, a₂, w₂, hq₂, .of_steps (Steps.trans harr (.one step_inLoop)) harr₂⟩
  | exit id => exact ⟨_, a₁, w₁, hq, .pass (x := .inLoop c) rfl (fun _ _ => .inl (by simp)) harr⟩
  | goto l => exact ⟨_, a₁, w₁, hq, .pass (x := .inLoop c) rfl (fun _ _ => .inl (by simp)) harr⟩
  | ret => exact ⟨_, a₁, w₁, hq, .pass (x := .inLoop c) rfl (fun _ _ => .inl (by simp)) harr⟩
  | panic ch => exact ⟨_, a₁, w₁, hq, .pass (x := .inLoop c) rfl (fun _ _ => .inl (by simp)) harr⟩
  | outgrown => exact ⟨_, a₁, w₁, hq, .pass (x := .inLoop c) rfl (fun _ _ => .inl (by simp)) harr⟩
/-- what is to be shown at a code's beginning -/
def startWp (P : Program) (c : Code) (Q : Exit → Act → World → Prop) : Act → World → Prop := match c with
  | .loop c => LoopIn P c Q
  | c => c.wp P Q
/-- what is to be shown at the point numbered l -/
def ptWp (P : Program) : Code → Nat → (Exit → Act → World → Prop) → Nat → Act → World → Prop
  | .seq a b, n, Q, l => if l = n then startWp P (.seq a b) Q else if l < n + 1 + csz a then ptWp P a (n + 1) (Exit.then (b.wp P Q) Q) l else ptWp P b (n + 1 + csz a) Q l
  | .cond c a b, n, Q, l => if l = n then startWp P (.cond c a b) Q else if l < n + 1 + csz a then ptWp P a (n + 1) Q l else ptWp P b (n + 1 + csz a) Q l
  | .block id c, n, Q, l => if l = n then startWp P (.block id c) Q else ptWp P c (n + 1) (Exit.inBlock id Q) l
  | .loop c, n, Q, l => if l = n then startWp P (.loop c) Q else ptWp P c (n + 1) (Exit.then (LoopIn P c Q) Q) l
  | c, n, Q, l => if l = n then startWp P c Q else fun _ _ => False
theorem ptWp_start (c : Code) (n : Nat) (Q : Exit → Act → World → Prop) : ptWp P c n Q n = startWp P c Q := by
  cases c <;> simp [ptWp]
theorem startWp_wp {c : Code} {Q : Exit → Act → World → Prop} {a : Act} {w : World} (h : startWp P c Q a w) : c.wp P Q a w := by
  cases c <;> first | exact h | exact LoopIn.loop h
theorem csz_pos : ∀ c : Code, 0 < csz c := fun c => by cases c <;> simp [csz]
variable {H : Nat → Option Hint} {J : Nat → St → Option ω} {k : Nat}
theorem denC_ok (hΦ : ∀ f, SoundX w0.tb P f (Φ f) frs) (hmix : P.follows .mixedOrders = true) :
    ∀ (c : Code) (n : Nat) (Q : Exit → Act → World → Prop) (Kn : St → Option ω) (Kx : Nat → St → Option ω) (Kr : St → Option ω),
      (∀ l, n ≤ l → l < n + csz c → Next w0 r (J l) (ptWp P c n Q l)) → Next w0 r Kn (Q .normal) → (∀ i, Next w0 r (Kx i) (Q (.exit i))) → Next w0 r Kr (Q .ret) →
      ∀ {g : Gh} {σ : St} {a : Act} {w : World}, denC P Φ frs H J k c n Kn Kx Kr σ = some r → EnvR g σ a → WF w0 g σ.mem w → c.wp P Q a w
  | .skip, n, Q, Kn, Kx, Kr, hJ, hn, hx, hr, g, σ, a, w, h, hE, hW => wp_skip (hn _ _ _ _ hE hW (by simpa only [denC] using h))
  | .region id ops draw, n, Q, Kn, Kx, Kr, hJ, hn, hx, hr, g, σ, a, w, h, hE, hW => region_ok hΦ hmix hn (by simpa only [denC] using h) hE hW
  | .seq c1 c2, n, Q, Kn, Kx, Kr, hJ, hn, hx, hr, g, σ, a, w, h, hE, hW => by
    simp only [denC] at h
    have hp2 := csz_pos c2
    have hsz : csz (.seq c1 c2) = csz c1 + csz c2 + 1 := rfl
    have hJ' : ∀ l, n < l → l < n + csz (.seq c1 c2) → Next w0 r (J l) (if l < n + 1 + csz c1 then ptWp P c1 (n + 1) (Exit.then (c2.wp P Q) Q) l else ptWp P c2 (n + 1 + csz c1) Q l) := fun l hl hl2 => by
      have := hJ l (by omega) hl2
      unfold ptWp at this
      rwa [if_neg (by omega)] at this
    refine wp_seq (denC_ok hΦ hmix c1 (n + 1) (Exit.then (c2.wp P Q) Q) _ Kx Kr (fun l hl hl2 => ?_) ?_ (fun i => hx i) hr h hE hW)
    · have := hJ' l (by omega) (by omega)
      rwa [if_pos (by omega)] at this
    · have J2 : ∀ l, n + 1 + csz c1 ≤ l → l < n + 1 + csz c1 + csz c2 → Next w0 r (J l) (ptWp P c2 (n + 1 + csz c1) Q l) := fun l hl hl2 => by
        have := hJ' l (by omega) (by omega)
        rwa [if_neg (by omega)] at this
      intro g' σ' a' w' hE' hW' h'
      show c2.wp P Q a' w'
      cases hlab : (if isLoop c2 = true then none else H (n + 1 + csz c1) : Option Hint) with
      | some hh =>
        rw [hlab] at h'
        obtain ⟨g2, hE2, hW2⟩ := canon_ok hh hE' hW'
        have := J2 (n + 1 + csz c1) (by omega) (by omega) _ _ _ _ hE2 hW2 h'
        rw [ptWp_start] at this
        exact startWp_wp this
      | none =>
        rw [hlab] at h'
        exact denC_ok hΦ hmix c2 _ Q Kn Kx Kr J2 hn hx hr h' hE' hW'
  | .cond c c1 c2, n, Q, Kn, Kx, Kr, hJ, hn, hx, hr, g, σ, a, w, h, hE, hW => by
    simp only [denC, onCd] at h
    have hsz : csz (.cond c c1 c2) = csz c1 + csz c2 + 1 := rfl
    have hJ' : ∀ l, n < l → l < n + csz (.cond c c1 c2) → Next w0 r (J l) (if l < n + 1 + csz c1 then ptWp P c1 (n + 1) Q l else ptWp P c2 (n + 1 + csz c1) Q l) := fun l hl hl2 => by
      have := hJ l (by omega) hl2
      unfold ptWp at this
      rwa [if_neg (by omega)] at this
    split at h
    · rename_i cd hcd
      have hv := asCd_rel hcd (hE.opnd c)
      rw [br_val] at h
      cases hb : cd.val with
      | true =>
        rw [hb] at h hv
        refine wp_cond_true hv (denC_ok hΦ hmix c1 (n + 1) Q Kn Kx Kr (fun l hl hl2 => ?_) hn hx hr (by simpa using h) hE hW)
        have := hJ' l (by omega) (by omega)
        rwa [if_pos (by omega)] at this
      | false =>
        rw [hb] at h hv
        refine wp_cond_false hv (denC_ok hΦ hmix c2 (n + 1 + csz c1) Q Kn Kx Kr (fun l hl hl2 => ?_) hn hx hr (by simpa using h) hE hW)
        have := hJ' l (by omega) (by omega)
        rwa [if_neg (by omega)] at this
    · cases h
  | .block id c, n, Q, Kn, Kx, Kr, hJ, hn, hx, hr, g, σ, a, w, h, hE, hW => by
    simp only [denC] at h
    have hsz : csz (.block id c) = csz c + 1 := rfl
    refine wp_block (denC_ok hΦ hmix c (n + 1) (Exit.inBlock id Q) Kn _ Kr (fun l hl hl2 => ?_) hn (fun i => ?_) hr h hE hW)
    · have := hJ l (by omega) (by omega)
      unfold ptWp at this
      rwa [if_neg (by omega)] at this
    · intro g' σ' a' w' hE' hW' h'
      dsimp only at h'
      show if i = id then Q .normal a' w' else Q (.exit i) a' w'
      split at h'
      · rename_i e; rw [if_pos e]; exact hn _ _ _ _ hE' hW' h'
      · rename_i e; rw [if_neg e]; exact hx i _ _ _ _ hE' hW' h'
  | .loop c, n, Q, Kn, Kx, Kr, hJ, hn, hx, hr, g, σ, a, w, h, hE, hW => by
    simp only [denC] at h
    split at h
    · rename_i hh _
      obtain ⟨g2, hE2, hW2⟩ := canon_ok hh hE hW
      have := hJ n (Nat.le_refl _) (by have := csz_pos (.loop c); omega) _ _ _ _ hE2 hW2 h
      rw [ptWp_start] at this
      exact startWp_wp this
    · cases h
  | .exit id, n, Q, Kn, Kx, Kr, hJ, hn, hx, hr, g, σ, a, w, h, hE, hW => wp_exit (hx id _ _ _ _ hE hW (by simpa only [denC] using h))
  | .ret, n, Q, Kn, Kx, Kr, hJ, hn, hx, hr, g, σ, a, w, h, hE, hW => wp_ret (hr _ _ _ _ hE hW (by simpa only [denC] using h))
  | .rangeFunc _ _ _ _, n, Q, Kn, Kx, Kr, hJ, hn, hx, hr, g, σ, a, w, h, hE, hW => by simp [denC] at h
  | .scope _, n, Q, Kn, Kx, Kr, hJ, hn, hx, hr, g, σ, a, w, h, hE, hW => by simp [denC] at h
  | .label _, n, Q, Kn, Kx, Kr, hJ, hn, hx, hr, g, σ, a, w, h, hE, hW => by simp [denC] at h
  | .goto _, n, Q, Kn, Kx, Kr, hJ, hn, hx, hr, g, σ, a, w, h, hE, hW => by simp [denC] at h
  | .refuse _, n, Q, Kn, Kx, Kr, hJ, hn, hx, hr, g, σ, a, w, h, hE, hW => by simp [denC] at h
theorem denAt_le {l : Nat} : ∀ (c : Code) (n : Nat) (Kn : St → Option ω) (Kx : Nat → St → Option ω) (Kr : St → Option ω) (σ : St), denAt P Φ frs H J k l c n Kn Kx Kr σ = some r → n ≤ l
  | .seq c1 c2, n, Kn, Kx, Kr, σ, h => by
    simp only [denAt] at h
    split at h
    · have := denAt_le c1 _ _ _ _ _ h; omega
    · rename_i hlt; omega
  | .cond c c1 c2, n, Kn, Kx, Kr, σ, h => by
    simp only [denAt] at h
    split at h
    · have := denAt_le c1 _ _ _ _ _ h; omega
    · rename_i hlt; omega
  | .block id c, n, Kn, Kx, Kr, σ, h => by
    simp only [denAt] at h
    have := denAt_le c _ _ _ _ _ h; omega
  | .loop c, n, Kn, Kx, Kr, σ, h => by
    simp only [denAt] at h
    split at h
    · cases h
    · split at h
      · rename_i e; omega
      · have := denAt_le c _ _ _ _ _ h; omega
  | .skip, n, Kn, Kx, Kr, σ, h => by simp [denAt] at h
  | .region _ _ _, n, Kn, Kx, Kr, σ, h => by simp [denAt] at h
  | .exit _, n, Kn, Kx, Kr, σ, h => by simp [denAt] at h
  | .ret, n, Kn, Kx, Kr, σ, h => by simp [denAt] at h
  | .rangeFunc _ _ _ _, n, Kn, Kx, Kr, σ, h => by simp [denAt] at h
  | .scope _, n, Kn, Kx, Kr, σ, h => by simp [denAt] at h
  | .label _, n, Kn, Kx, Kr, σ, h => by simp [denAt] at h
  | .goto _, n, Kn, Kx, Kr, σ, h => by simp [denAt] at h
  | .refuse _, n, Kn, Kx, Kr, σ, h => by simp [denAt] at h
theorem denAt_ok (hΦ : ∀ f, SoundX w0.tb P f (Φ f) frs) (hmix : P.follows .mixedOrders = true) {l : Nat} :
    ∀ (c : Code) (n : Nat) (Q : Exit → Act → World → Prop) (Kn : St → Option ω) (Kx : Nat → St → Option ω) (Kr : St → Option ω),
      (∀ l, n ≤ l → l < n + csz c → Next w0 r (J l) (ptWp P c n Q l)) → Next w0 r Kn (Q .normal) → (∀ i, Next w0 r (Kx i) (Q (.exit i))) → Next w0 r Kr (Q .ret) →
      ∀ {g : Gh} {σ : St} {a : Act} {w : World}, denAt P Φ frs H J k l c n Kn Kx Kr σ = some r → EnvR g σ a → WF w0 g σ.mem w → ptWp P c n Q l a w
  | .seq c1 c2, n, Q, Kn, Kx, Kr, hJ, hn, hx, hr, g, σ, a, w, h, hE, hW => by
    have hp2 := csz_pos c2
    have hsz : csz (.seq c1 c2) = csz c1 + csz c2 + 1 := rfl
    have hJ' : ∀ l, n < l → l < n + csz (.seq c1 c2) → Next w0 r (J l) (if l < n + 1 + csz c1 then ptWp P c1 (n + 1) (Exit.then (c2.wp P Q) Q) l else ptWp P c2 (n + 1 + csz c1) Q l) := fun l hl hl2 => by
      have := hJ l (by omega) hl2
      unfold ptWp at this
      rwa [if_neg (by omega)] at this
    have J2 : ∀ l, n + 1 + csz c1 ≤ l → l < n + 1 + csz c1 + csz c2 → Next w0 r (J l) (ptWp P c2 (n + 1 + csz c1) Q l) := fun l hl hl2 => by
      have := hJ' l (by omega) (by omega)
      rwa [if_neg (by omega)] at this
    simp only [denAt] at h
    unfold ptWp
    split at h
    · rename_i hlt
      have hle := denAt_le c1 _ _ _ _ _ h
      rw [if_neg (by omega), if_pos hlt]
      refine denAt_ok hΦ hmix c1 (n + 1) (Exit.then (c2.wp P Q) Q) _ Kx Kr (fun l hl hl2 => ?_) ?_ (fun i => hx i) hr h hE hW
      · have := hJ' l (by omega) (by omega)
        rwa [if_pos (by omega)] at this
      · intro g' σ' a' w' hE' hW' h'
        show c2.wp P Q a' w'
        cases hlab : (if isLoop c2 = true then none else H (n + 1 + csz c1) : Option Hint) with
        | some hh =>
          rw [hlab] at h'
          obtain ⟨g2, hE2, hW2⟩ := canon_ok hh hE' hW'
          have := J2 (n + 1 + csz c1) (by omega) (by omega) _ _ _ _ hE2 hW2 h'
          rw [ptWp_start] at this
          exact startWp_wp this
        | none =>
          rw [hlab] at h'
          exact denC_ok hΦ hmix c2 _ Q Kn Kx Kr J2 hn hx hr h' hE' hW'
    · rename_i hlt
      rw [if_neg (by omega), if_neg hlt]
      split at h
      · rename_i he
        obtain ⟨rfl, hl⟩ := he
        rw [ptWp_start]
        have := denC_ok hΦ hmix c2 _ Q Kn Kx Kr J2 hn hx hr h hE hW
        cases c2 <;> first | exact this | (simp [isLoop] at hl)
      · exact denAt_ok hΦ hmix c2 _ Q Kn Kx Kr J2 hn hx hr h hE hW
  | .cond c c1 c2, n, Q, Kn, Kx, Kr, hJ, hn, hx, hr, g, σ, a, w, h, hE, hW => by
    have hsz : csz (.cond c c1 c2) = csz c1 + csz c2 + 1 := rfl
    have hJ' : ∀ l, n < l → l < n + csz (.cond c c1 c2) → Next w0 r (J l) (if l < n + 1 + csz c1 then ptWp P c1 (n + 1) Q l else ptWp P c2 (n + 1 + csz c1) Q l) := fun l hl hl2 => by
      have := hJ l (by omega) hl2
      unfold ptWp at this
      rwa [if_neg (by omega)] at this
    simp only [denAt] at h
    unfold ptWp
    split at h
    · rename_i hlt
      have hle := denAt_le c1 _ _ _ _ _ h
      rw [if_neg (by omega), if_pos hlt]
      refine denAt_ok hΦ hmix c1 (n + 1) Q Kn Kx Kr (fun l hl hl2 => ?_) hn hx hr h hE hW
      have := hJ' l (by omega) (by omega)
      rwa [if_pos (by omega)] at this
    · rename_i hlt
      rw [if_neg (by omega), if_neg hlt]
      refine denAt_ok hΦ hmix c2 (n + 1 + csz c1) Q Kn Kx Kr (fun l hl hl2 => ?_) hn hx hr h hE hW
      have := hJ' l (by omega) (by omega)
      rwa [if_neg (by omega)] at this
  | .block id c, n, Q, Kn, Kx, Kr, hJ, hn, hx, hr, g, σ, a, w, h, hE, hW => by
    have hsz : csz (.block id c) = csz c + 1 := rfl
    simp only [denAt] at h
    have hle := denAt_le c _ _ _ _ _ h
    unfold ptWp
    rw [if_neg (by omega)]
    refine denAt_ok hΦ hmix c (n + 1) (Exit.inBlock id Q) Kn _ Kr (fun l hl hl2 => ?_) hn (fun i => ?_) hr h hE hW
    · have := hJ l (by omega) (by omega)
      unfold ptWp at this
      rwa [if_neg (by omega)] at this
    · intro g' σ' a' w' hE' hW' h'
      dsimp only at h'
      show if i = id then Q .normal a' w' else Q (.exit i) a' w'
      split at h'
      · rename_i e; rw [if_pos e]; exact hn _ _ _ _ hE' hW' h'
      · rename_i e; rw [if_neg e]; exact hx i _ _ _ _ hE' hW' h'
  | .loop c, n, Q, Kn, Kx, Kr, hJ, hn, hx, hr, g, σ, a, w, h, hE, hW => by
    have hsz : csz (.loop c) = csz c + 1 := rfl
    simp only [denAt] at h
    split at h
    · cases h
    · rename_i hh hH
      have hback : Next w0 r (fun σ => J n (canon hh σ)) (Exit.then (LoopIn P c Q) Q .normal) := fun g' σ' a' w' hE' hW' h' => by
        obtain ⟨g2, hE2, hW2⟩ := canon_ok hh hE' hW'
        have := hJ n (Nat.le_refl _) (by omega) _ _ _ _ hE2 hW2 h'
        rw [ptWp_start] at this
        exact this
      have hin : ∀ l, n + 1 ≤ l → l < n + 1 + csz c → Next w0 r (J l) (ptWp P c (n + 1) (Exit.then (LoopIn P c Q) Q) l) := fun l hl hl2 => by
        have := hJ l (by omega) (by omega)
        unfold ptWp at this
        rwa [if_neg (by omega)] at this
      unfold ptWp
      split at h
      · rename_i e
        rw [if_pos e]
        exact LoopIn.round (denC_ok hΦ hmix c (n + 1) (Exit.then (LoopIn P c Q) Q) _ Kx Kr hin hback (fun i => hx i) hr h hE hW)
      · rename_i e
        rw [if_neg e]
        exact denAt_ok hΦ hmix c (n + 1) (Exit.then (LoopIn P c Q) Q) _ Kx Kr hin hback (fun i => hx i) hr h hE hW
  | .skip, n, Q, Kn, Kx, Kr, hJ, hn, hx, hr, g, σ, a, w, h, hE, hW => by simp [denAt] at h
  | .region _ _ _, n, Q, Kn, Kx, Kr, hJ, hn, hx, hr, g, σ, a, w, h, hE, hW => by simp [denAt] at h
  | .exit _, n, Q, Kn, Kx, Kr, hJ, hn, hx, hr, g, σ, a, w, h, hE, hW => by simp [denAt] at h
  | .ret, n, Q, Kn, Kx, Kr, hJ, hn, hx, hr, g, σ, a, w, h, hE, hW => by simp [denAt] at h
  | .rangeFunc _ _ _ _, n, Q, Kn, Kx, Kr, hJ, hn, hx, hr, g, σ, a, w, h, hE, hW => by simp [denAt] at h
  | .scope _, n, Q, Kn, Kx, Kr, hJ, hn, hx, hr, g, σ, a, w, h, hE, hW => by simp [denAt] at h
  | .label _, n, Q, Kn, Kx, Kr, hJ, hn, hx, hr, g, σ, a, w, h, hE, hW => by simp [denAt] at h
  | .goto _, n, Q, Kn, Kx, Kr, hJ, hn, hx, hr, g, σ, a, w, h, hE, hW => by simp [denAt] at h
  | .refuse _, n, Q, Kn, Kx, Kr, hJ, hn, hx, hr, g, σ, a, w, h, hE, hW => by simp [denAt] at h
end
end Go.Den
