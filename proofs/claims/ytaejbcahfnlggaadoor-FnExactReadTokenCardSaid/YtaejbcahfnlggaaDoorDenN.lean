import Derived.Test.YtaejbcahfnlggaaDoorDenM
namespace Go.Den
open Go.RowKit (wrap64)
set_option linter.unusedVariables false
set_option linter.unusedSimpArgs false
/-! A region whose order is drawn: a head of quiet operations in any order, then a chain. -/
section
variable {P : Program} {ops : Array Oper} {C : World → Prop}
theorem same_op (o : Oper) (hs : ∀ cs b, o.op ≠ .select cs b) {a b : Act} (h : ∀ t ∈ o.looksAt ops, a.tmps[t]? = b.tmps[t]?) :
    execOp a.eval o = execOp b.eval o ∧ Region.wanted o (yielded ops a.tmps) = Region.wanted o (yielded ops b.tmps) := by
  constructor
  · refine execOp_congr o hs fun x hx => ?_
    cases x with
    | tmp t =>
      have := h t (List.mem_append_left _ (List.mem_filterMap.2 ⟨.tmp t, by simpa using hx, rfl⟩))
      simp [Act.eval, Array.getD_eq_getD_getElem?, this]
    | _ => rfl
  · unfold Region.wanted
    cases hg : o.guard with
    | none => rfl
    | some p =>
      obtain ⟨j, want⟩ := p
      simp only
      congr 1
      unfold yielded
      cases hd : (ops[j]?).bind (·.dst) with
      | none => rfl
      | some d =>
        have := h d (List.mem_append_right _ (by rw [hg]; simp only; rw [hd]; simp))
        simp only [Option.bind_some, this]
/-- the slots after the first i operations, in the order told -/
def lexAct (ops : Array Oper) (ord : List Nat) (V : Nat → Value) (a : Act) : Nat → Act
  | 0 => a | i + 1 => (lexAct ops ord V a i).put (dstOf ops (atP ord i)) (V (atP ord i))
/-- what the order has to keep -/
structure Static (ops : Array Oper) (ord : List Nat) (n : Nat) : Prop where
  le : n ≤ ops.size
  lt : ∀ p, p < n → atP ord p < n
  inj : ∀ p q, p < n → q < n → atP ord p = atP ord q → p = q
  sur : ∀ i, i < n → ∃ p, p < n ∧ atP ord p = i
  sel : ∀ (i : Nat) o, i < n → ops[i]? = some o → ∀ cs b, o.op ≠ .select cs b
  one : ∀ i j d, i < n → j < n → i ≠ j → dstOf ops i = some d → dstOf ops j ≠ some d
  looks : ∀ (i : Nat) o t j, i < n → ops[atP ord i]? = some o → t ∈ o.looksAt ops → j < n → j ≠ i → dstOf ops (atP ord j) = some t → (j < i ∧ Region.waitsFor .any ops (atP ord i) (atP ord j) = true) ∨ (i < j ∧ Region.waitsFor .any ops (atP ord j) (atP ord i) = true)
  back : ∀ (i : Nat) o, i < n → ops[atP ord i]? = some o → ∀ e ∈ o.after, Region.binds .any e = true → ∃ q, q < i ∧ atP ord q = e.on
structure Agree (ops : Array Oper) (V : Nat → Value) (n : Nat) (a0 : Act) (L : Nat → Prop) (a : Act) : Prop where
  size : a.tmps.size = a0.tmps.size
  dfr : a.defers = a0.defers
  put : ∀ j t, j < n → L j → dstOf ops j = some t → t < a0.tmps.size → a.tmps[t]? = some (V j)
  old : ∀ t, (∀ j, j < n → L j → dstOf ops j ≠ some t) → a.tmps[t]? = a0.tmps[t]?
variable {V : Nat → Value} {n : Nat} {a0 : Act} {ord : List Nat}
theorem Agree.start {L : Nat → Prop} (hL : ∀ j, j < n → ¬ L j) : Agree ops V n a0 L a0 :=
  ⟨rfl, rfl, fun j t hj h _ _ => absurd h (hL j hj), fun _ _ => rfl⟩
theorem Agree.step (hs : Static ops ord n) {L L' : Nat → Prop} {a : Act} (h : Agree ops V n a0 L a) {i : Nat} (hi : i < n) (hL : ∀ j, L' j ↔ (L j ∨ j = i)) : Agree ops V n a0 L' (a.put (dstOf ops i) (V i)) := by
  cases hd : dstOf ops i with
  | none =>
    refine ⟨h.size, h.dfr, fun j t hj hl ht hlt => ?_, fun t ht => h.old t fun j hj hl => ht j hj ((hL j).2 (.inl hl))⟩
    rcases (hL j).1 hl with hl | rfl
    · exact h.put j t hj hl ht hlt
    · rw [hd] at ht; cases ht
  | some d =>
    refine ⟨by simp [Act.put, h.size], h.dfr, fun j t hj hl ht hlt => ?_, fun t ht => ?_⟩
    · simp only [Act.put]
      by_cases e : j = i
      · subst e
        rw [hd] at ht; cases ht
        simp [h.size, hlt]
      · have hl' : L j := ((hL j).1 hl).resolve_right e
        have hne : d ≠ t := fun q => by subst q; exact hs.one i j d hi hj (fun q => e q.symm) hd ht
        rw [Array.getElem?_setIfInBounds_ne hne]
        exact h.put j t hj hl' ht hlt
    · simp only [Act.put]
      have hne : d ≠ t := fun q => by subst q; exact ht i hi ((hL i).2 (.inr rfl)) hd
      rw [Array.getElem?_setIfInBounds_ne hne]
      exact h.old t fun j hj hl => ht j hj ((hL j).2 (.inl hl))
theorem lex_agree (hs : Static ops ord n) : ∀ i, i ≤ n → Agree ops V n a0 (fun j => ∃ p, p < i ∧ atP ord p = j) (lexAct ops ord V a0 i)
  | 0, _ => Agree.start (fun j _ ⟨p, h, _⟩ => by omega)
  | i + 1, hi => (lex_agree hs i (by omega)).step hs (hs.lt i (by omega)) (fun j => ⟨fun ⟨p, hp, e⟩ => by
      by_cases q : p = i
      · subst q; exact .inr e.symm
      · exact .inl ⟨p, by omega, e⟩, fun h => by
      rcases h with ⟨p, hp, e⟩ | e
      · exact ⟨p, by omega, e⟩
      · exact ⟨i, by omega, e.symm⟩⟩)
/-- the tail begins where the head ends -/
theorem agree_end (hs : Static ops ord n) {L : Nat → Prop} {a : Act} (h : Agree ops V n a0 L a) (hL : ∀ j, j < n → L j) : a = lexAct ops ord V a0 n := by
  have hl := lex_agree (V := V) (a0 := a0) hs n (Nat.le_refl _)
  have : a.tmps = (lexAct ops ord V a0 n).tmps := by
    apply Array.ext_getElem?
    intro t
    by_cases hex : ∃ j, j < n ∧ dstOf ops j = some t
    · obtain ⟨j, hj, hd⟩ := hex
      by_cases ht : t < a0.tmps.size
      · rw [h.put j t hj (hL j hj) hd ht, hl.put j t hj (hs.sur j hj) hd ht]
      · rw [Array.getElem?_eq_none (by rw [h.size]; omega), Array.getElem?_eq_none (by rw [hl.size]; omega)]
    · rw [h.old t (fun j hj _ q => hex ⟨j, hj, q⟩), hl.old t (fun j hj _ q => hex ⟨j, hj, q⟩)]
  have hd : a.defers = (lexAct ops ord V a0 n).defers := h.dfr.trans hl.dfr.symm
  cases a
  generalize lexAct ops ord V a0 n = b at *
  cases b
  simp_all
theorem agree_same {L : Nat → Prop} {a b : Act} (ha : Agree ops V n a0 L a) (hb : Agree ops V n a0 L b) : a = b := by
  have : a.tmps = b.tmps := by
    apply Array.ext_getElem?
    intro t
    by_cases hex : ∃ j, j < n ∧ L j ∧ dstOf ops j = some t
    · obtain ⟨j, hj, hl, hd⟩ := hex
      by_cases ht : t < a0.tmps.size
      · rw [ha.put j t hj hl hd ht, hb.put j t hj hl hd ht]
      · rw [Array.getElem?_eq_none (by rw [ha.size]; omega), Array.getElem?_eq_none (by rw [hb.size]; omega)]
    · rw [ha.old t (fun j hj hl q => hex ⟨j, hj, hl, q⟩), hb.old t (fun j hj hl q => hex ⟨j, hj, hl, q⟩)]
  have hd : a.defers = b.defers := ha.dfr.trans hb.dfr.symm
  cases a
  cases b
  simp_all
/-- an operation that may come up sees what it sees in the text's order -/
theorem looks_at (hs : Static ops ord n) {listed : Array Bool} {a : Act} (ha : Agree ops V n a0 (fun j => listed.getD j false = true) a)
    (hcl : ∀ (j : Nat) oj, ops[j]? = some oj → listed.getD j false = true → ∀ e ∈ oj.after, Region.binds .any e = true → listed.getD e.on false = true)
    {i : Nat} {o : Oper} (hi : i < n) (ho : ops[atP ord i]? = some o) (hun : listed.getD (atP ord i) false = false) (hall : ∀ e ∈ o.after, Region.binds .any e = true → listed.getD e.on false = true)
    : ∀ t ∈ o.looksAt ops, a.tmps[t]? = (lexAct ops ord V a0 i).tmps[t]? := by
  have hl := lex_agree (V := V) (a0 := a0) hs i (by omega)
  intro (t : Nat) ht
  by_cases hsz : t < a0.tmps.size
  · by_cases hex : ∃ j, j < n ∧ j ≠ i ∧ dstOf ops (atP ord j) = some t
    · obtain ⟨j, hj, hne, hd⟩ := hex
      rcases hs.looks i o t j hi ho ht hj hne hd with ⟨hji, hw⟩ | ⟨hij, hw⟩
      · obtain ⟨o', ho', e, he, hb, hon⟩ := Region.waitsFor_spec hw
        rw [ho] at ho'; cases ho'
        have := hall e he hb
        rw [hon] at this
        rw [ha.put _ t (hs.lt j hj) this hd hsz, hl.put _ t (hs.lt j hj) ⟨j, hji, rfl⟩ hd hsz]
      · obtain ⟨oj, hoj, e, he, hb, hon⟩ := Region.waitsFor_spec hw
        have hnl : ¬ listed.getD (atP ord j) false = true := fun q => by
          have := hcl _ oj hoj q e he hb
          rw [hon, hun] at this; cases this
        have only : ∀ k, k < n → dstOf ops k = some t → k = atP ord j ∨ k = atP ord i := fun k hk hdk => by
          by_cases q : k = atP ord j
          · exact .inl q
          · exact absurd hdk (hs.one _ k t (hs.lt j hj) hk (fun q' => q q'.symm) hd)
        rw [ha.old t (fun k hk hlk q => by
            rcases only k hk q with rfl | rfl
            · exact hnl hlk
            · rw [hun] at hlk; cases hlk),
          hl.old t (fun k hk ⟨p, hp, e⟩ q => by
            rcases only k hk q with rfl | rfl
            · have := hs.inj p j (by omega) hj e; omega
            · have := hs.inj p i (by omega) hi e; omega)]
    · have no : ∀ k, k < n → k ≠ atP ord i → dstOf ops k ≠ some t := fun k hk hne q => by
        obtain ⟨p, hp, rfl⟩ := hs.sur k hk
        exact hex ⟨p, hp, fun e => hne (by rw [e]), q⟩
      rw [ha.old t (fun k hk hlk q => no k hk (fun e => by subst e; rw [hun] at hlk; cases hlk) q),
        hl.old t (fun k hk ⟨p, hp, e⟩ q => no k hk (fun e' => by have := hs.inj p i (by omega) hi (by rw [e, e']); omega) q)]
  · rw [Array.getElem?_eq_none (by rw [ha.size]; omega), Array.getElem?_eq_none (by rw [hl.size]; omega)]
theorem getD_false_true {listed : Array Bool} {i : Nat} (h : listed.getD i false = false) (hi : i < listed.size) : listed.getD i true = false := getD_in hi h
def open_ (n : Nat) (listed : Array Bool) : Nat := (List.range n).countP fun i => !(listed.getD i false)
theorem open_set {listed : Array Bool} {i : Nat} (hi : i < n) (hs : i < listed.size) (hun : listed.getD i false = false) : open_ n (listed.setIfInBounds i true) + 1 = open_ n listed := by
  unfold open_
  induction n with
  | zero => omega
  | succ n ih =>
    rw [List.range_succ, List.countP_append, List.countP_append]
    by_cases e : i = n
    · subst e
      have h1 : List.countP (fun j => !(listed.setIfInBounds i true).getD j false) (List.range i) = List.countP (fun j => !listed.getD j false) (List.range i) := by
        apply List.countP_congr
        intro j hj
        rw [getD_set_ne false (by have := List.mem_range.1 hj; omega)]
      rw [h1]
      have h2 : (listed.setIfInBounds i true).getD i false = true := by simp [hs]
      simp only [List.countP_singleton, h2, hun, Bool.not_true, Bool.not_false]
      simp
    · have := ih (by omega)
      rw [show List.countP (fun j => !(listed.setIfInBounds i true).getD j false) [n] = List.countP (fun j => !listed.getD j false) [n] by
        simp only [List.countP_singleton]
        rw [getD_set_ne false e]]
      omega
end
end Go.Den
