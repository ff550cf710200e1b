import Derived.Test.YtaejbcahfnlggaaDoorDenV
import Derived.Deep.Slices
import Derived.SizedLaws
import Derived.ChangeSlices
import Derived.WideShapes
namespace Go.Den
open Go.ChangeShapes Go.WideShapes Go.Deep
set_option linter.unusedVariables false
set_option linter.unusedSimpArgs false
/-! What an argument of any type reads as. -/
def allIn {α : Type} (l : List α) (p : α → Prop) : Prop := ∀ x, x ∈ l → p x
def fitSh : (s : Sh) → sem s → Prop
  | .int k, x => (Lit.int k x).wf = true
  | .bool, _ => True
  | .str, s => (s : ByteArray).size ≤ 140737488351232
  | .unit, _ => True
  | .pair a b, x => fitSh a x.1 ∧ fitSh b x.2
  | .rose _, _ => True
  | .list t, l => (l : List (sem t)).length ≤ 140737488351232 ∧ allIn (α := sem t) l (fitSh t)
/-- shapes of arguments -/
def argSh (P : Program) : Nat → TypeId → Option Sh
  | 0, _ => none
  | n + 1, t => match P.underlying t with
    | some .bool => some .bool
    | some (.int k) => some (.int k)
    | some .string => some .str
    | some (.slice e) => match argSh P n e with | some s => if s.size ≠ 0 ∧ P.cellsOf e = s.size ∧ P.bytesOf e ≠ 0 then some (.list s) else none | none => none
    | some (.struct fs) => match shFs P (argSh P n) 0 fs.toList with | some s => if P.cellsOf t = s.size then some s else none | none => none
    | _ => none
def OpensD (P : Program) (t : TypeId) (s : Sh) : Prop :=
  ∀ {H : Type} (enc : TypeId × Value → H) (w : World) (base : Nat) (spare : Nat → Bool) (held : Bool) (fuel : Nat) (cs : List Value) (D : DataW H) (ps : List MemPlace),
    DataW.trod enc P w base spare held fuel t cs = some (D, ps) → (∀ n ∈ D.weights P t, n ≤ reachBytes) → ∃ x : sem s, RepC (allOf w) s x cs ∧ fitSh s x
theorem weights_all {H : Type} {P : Program} {e : TypeId} : ∀ {l : List (DataW H)} {d : DataW H}, d ∈ l → ∀ n ∈ d.weights P e, n ∈ DataW.weightsAll P e l
  | a :: l, d, hd, n, hn => by
    simp only [DataW.weightsAll, List.mem_append]
    rcases List.mem_cons.1 hd with rfl | h
    · exact Or.inl hn
    · exact Or.inr (weights_all h n hn)
theorem opensD_list {P : Program} {t e : TypeId} {s : Sh} (ht : P.underlying t = some (.slice e)) (hs0 : s.size ≠ 0) (hc : P.cellsOf e = s.size) (hB : P.bytesOf e ≠ 0) (he : OpensD P e s) : OpensD P t (.list s) := by
  intro H enc w base spare held fuel cs D ps h hz
  rcases open_slice ht h with ⟨rfl, hx⟩ | ⟨a, len, cap, m, n, Dx, Pl, rfl, hb, hl, hm, hmm, hx, hel⟩
  · refine ⟨([] : List (sem s)), ⟨none, 0, rfl, Nat.le_refl _, .inl rfl⟩, ?_, fun x hx => ?_⟩
    · show List.length ([] : List (sem s)) ≤ _; simp
    · cases hx
  obtain ⟨rfl, rfl⟩ := Prod.mk.inj hx
  have hlm : len ≤ m := by rw [hmm]; split <;> omega
  have each : ∀ i, i < len → ∃ q : sem s × List Value, w.cells? base (a.add (i * P.cellsOf e)) (P.cellsOf e) = some q.2 ∧ RepC (allOf w) s q.1 q.2 ∧ fitSh s q.1 := by
    intro i hi
    obtain ⟨cs', h1, h2⟩ := hel i (by omega)
    obtain ⟨x, hx, hf⟩ := he enc w base spare held n cs' (Dx i) (Pl i) h2 (fun z hzz => hz z (by
      simp only [DataW.weights, ht, List.mem_cons, List.mem_append]
      exact Or.inr (Or.inl (weights_all (List.mem_map.2 ⟨i, List.mem_range.2 hi, rfl⟩) z hzz))))
    exact ⟨(x, cs'), h1, hx, hf⟩
  have hsz := hz ((((List.range len).map Dx).length + ((List.range (m - len)).map fun j => Dx (len + j)).length) * P.bytesOf e) (by simp [DataW.weights, ht])
  have hlen2 : len ≤ 140737488351232 := by
    have h1 : len * P.bytesOf e ≤ reachBytes := Nat.le_trans (Nat.mul_le_mul_right _ (by simp only [List.length_map, List.length_range]; omega)) hsz
    have h2 := Nat.le_mul_of_pos_right len (Nat.pos_of_ne_zero hB)
    have h3 : reachBytes = 140737488351232 := by decide
    omega
  by_cases h0 : len = 0
  · subst h0
    refine ⟨([] : List (sem s)), ⟨some a, cap, rfl, hl, .inl rfl⟩, ?_, fun x hx => ?_⟩
    · show List.length ([] : List (sem s)) ≤ _; simp
    · cases hx
  have hspot : a.spot = none := by
    obtain ⟨q, h1, h2, _⟩ := each 0 (by omega)
    obtain ⟨_, hcl, hcell⟩ := World.cells?_some h1
    have z := hcell 0 (by rw [hc]; omega)
    have e1 : (a.add (0 * P.cellsOf e)).add 0 = a := by simp [Addr.add]
    rw [e1] at z
    have hlt : 0 < q.2.length := by rw [hcl, hc]; omega
    rw [List.getElem?_eq_getElem hlt] at z
    unfold World.cell? at z
    split at z
    · split at z
      · cases z
      · rename_i hno; simpa using hno
    · cases z
  obtain ⟨b, o, sp⟩ := a
  simp only at hspot
  subst hspot
  have ex : ∀ k, k ≤ len → ∃ (l : List (sem s)) (xs : List Value), l.length = k ∧ RepL (RepC (allOf w) s) l xs ∧ (∀ x ∈ l, fitSh s x) ∧ ∀ (j : Nat) u, xs[j]? = some u → w.cell? ⟨b, o + j, none⟩ = some u := by
    intro k
    induction k with
    | zero => exact fun _ => ⟨[], [], rfl, rfl, fun x hx => by simp at hx, fun j u hu => by simp at hu⟩
    | succ k ih =>
      intro hk
      obtain ⟨l, xs, h1, h2, h3, h4⟩ := ih (by omega)
      obtain ⟨q, q1, q2, q3⟩ := each k (by omega)
      have hxl := RepL.len (fun x c h => RepC.len s x c h) l xs h2
      refine ⟨l ++ [q.1], xs ++ q.2, by simp [h1], RepL.append _ _ _ _ h2 ⟨q.2, [], by simp, q2, rfl⟩, fun x hx => ?_, fun j u hu => ?_⟩
      · rcases List.mem_append.1 hx with hx | hx
        · exact h3 x hx
        · rw [List.mem_singleton.1 hx]; exact q3
      · by_cases hj : j < xs.length
        · rw [List.getElem?_append_left hj] at hu; exact h4 j u hu
        · rw [List.getElem?_append_right (by omega)] at hu
          obtain ⟨_, hcl, hcell⟩ := World.cells?_some q1
          have hlt : j - xs.length < P.cellsOf e := by rw [← hcl]; exact (List.getElem?_eq_some_iff.1 hu).1
          have z := hcell _ hlt
          rw [addr_add, addr_add] at z
          rw [show o + j = o + k * P.cellsOf e + (j - xs.length) by rw [hxl, h1, hc] at *; omega, z]
          exact hu
  obtain ⟨l, xs, h1, h2, h3, h4⟩ := ex len (Nat.le_refl _)
  refine ⟨l, ⟨some ⟨b, o, none⟩, cap, ?_, ?_, .inr ⟨b, o, xs, rfl, h2, h4⟩⟩, ?_, h3⟩
  · rw [h1]
  · rw [h1]; exact hl
  · show List.length l ≤ _; rw [h1]; exact hlen2
/-- fields in line -/
theorem opensD_fields {P : Program} {F : TypeId → Option Sh} (hF : ∀ t s, F t = some s → OpensD P t s) {H : Type} {enc : TypeId × Value → H} {w : World} {base : Nat} {spare : Nat → Bool} {held : Bool} {fuel : Nat} :
    ∀ (fs : List Field) (off : Nat) (s : Sh), shFs P F off fs = some s → ∀ (cs : List Value) (xs : List (DataW H × List MemPlace)), cs.length = off + s.size → xs.length = fs.length →
      (∀ (i : Nat) (f : Field), fs[i]? = some f → DataW.trod enc P w base spare held fuel f.type ((cs.drop f.offset).take (P.cellsOf f.type)) = xs[i]?) →
      (∀ n ∈ DataW.weightsEach P (fs.map (·.type)) (xs.map (·.1)), n ≤ reachBytes) → ∃ x : sem s, RepC (allOf w) s x (cs.drop off) ∧ fitSh s x
  | [], off, s, h, cs, xs, hl, hx, ht, hz => by
    simp [shFs] at h; subst h
    refine ⟨(), ?_, trivial⟩
    show cs.drop off = []
    apply List.drop_eq_nil_of_le
    simp [Sh.size] at hl; omega
  | f :: fs, off, s, h, cs, xs, hl, hx, ht, hz => by
    unfold shFs at h
    split at h
    · rename_i s1 h1
      split at h
      · rename_i hoff
        split at h
        · rename_i s2 h2
          cases h
          match xs, hx with
          | y :: r, hx =>
            have h0 := ht 0 f rfl
            simp only [List.getElem?_cons_zero] at h0
            obtain ⟨x, hxr, hxf⟩ := hF f.type s1 h1 enc w base spare held fuel _ y.1 y.2 h0 (fun n hn => hz n (by simp [DataW.weightsEach, hn]))
            obtain ⟨z, hzr, hzf⟩ := opensD_fields hF fs (off + s1.size) s2 h2 cs r (by rw [hl]; simp [Sh.size]; omega) (by simpa using hx) (fun i f' hf' => by
              have q := ht (i + 1) f' (by simpa using hf')
              simpa using q) (fun n hn => hz n (by
              simp only [List.map_cons, DataW.weightsEach, List.mem_append]
              exact Or.inr hn))
            refine ⟨(x, z), ⟨_, _, ?_, hxr, hzr⟩, hxf, hzf⟩
            rw [hoff.1, hoff.2, ← List.drop_drop, List.take_append_drop]
        · cases h
      · cases h
    · cases h
theorem opensD {P : Program} : ∀ (n : Nat) (t : TypeId) (s : Sh), argSh P n t = some s → OpensD P t s
  | 0, t, s, h => by simp [argSh] at h
  | n + 1, t, s, h => by
    unfold argSh at h
    cases hu : P.underlying t with
    | none => rw [hu] at h; cases h
    | some d =>
      rw [hu] at h
      cases d <;> simp only at h <;> first | (cases h; done) | skip
      · cases h
        intro enc w base spare held fuel cs D ps hd _
        obtain ⟨b, rfl, _⟩ := DataW.trod_bool hu hd
        exact ⟨b, rfl, trivial⟩
      · cases h
        intro enc w base spare held fuel cs D ps hd _
        obtain ⟨x, rfl, _, hw⟩ := DataW.trod_int hu hd
        exact ⟨x, rfl, hw⟩
      · cases h
        intro enc w base spare held fuel cs D ps hd hz
        obtain ⟨x, rfl, he, _⟩ := DataW.trod_string hu hd
        obtain ⟨rfl, rfl⟩ := Prod.mk.inj he
        refine ⟨x, rfl, ?_⟩
        have z := hz x.data.toList.length (by simp [DataW.weights])
        rw [Array.length_toList] at z
        exact z
      · rename_i e
        split at h
        · rename_i s' he
          split at h
          · rename_i hc
            cases h
            exact opensD_list hu hc.1 hc.2.1 hc.2.2 (opensD n e s' he)
          · cases h
        · cases h
      · rename_i fs
        split at h
        · rename_i s' hf
          split at h
          · rename_i hsz
            cases h
            intro enc w base spare held fuel cs D ps hd hz
            obtain ⟨xs, n', rfl, hx, hl, hlen, hf'⟩ := DataW.trod_struct hu hd
            obtain ⟨rfl, rfl⟩ := Prod.mk.inj hx
            have := opensD_fields (fun t s h => opensD n t s h) (enc := enc) (w := w) (base := base) (spare := spare) (held := held) (fuel := n') fs.toList 0 s hf cs xs (by rw [hl, hsz]; simp) (by rw [hlen]; simp) (fun i f hfi => hf' i f (by simpa using hfi))
              (fun m hm => hz m (by simpa [DataW.weights, hu] using hm))
            simpa using this
          · cases h
        · cases h
theorem argSh_isP {P : Program} {n : Nat} {t : TypeId} {s : Sh} (h : argSh P n t = some s) (hp : s.isP = true) : ∃ fs, P.underlying t = some (.struct fs) := by
  cases n with
  | zero => simp [argSh] at h
  | succ n =>
    unfold argSh at h
    cases hu : P.underlying t with
    | none => rw [hu] at h; cases h
    | some d =>
      rw [hu] at h
      cases d <;> simp only at h <;> first | (cases h; done) | (cases h; simp [Sh.isP] at hp; done) | skip
      · split at h
        · split at h
          · cases h; simp [Sh.isP] at hp
          · cases h
        · cases h
      · exact ⟨_, rfl⟩
theorem argSh_notP {P : Program} {n : Nat} {t : TypeId} {s : Sh} (h : argSh P n t = some s) (hp : s.isP = false) : (∀ fs, P.underlying t ≠ some (.struct fs)) ∧ ∀ k e, P.underlying t ≠ some (.array k e) := by
  cases n with
  | zero => simp [argSh] at h
  | succ n =>
    unfold argSh at h
    refine ⟨fun fs hu => ?_, fun k e hu => ?_⟩
    · rw [hu] at h
      simp only at h
      split at h
      · rename_i s' hf
        split at h
        · cases h
          cases hfl : fs.toList with
          | nil => rw [hfl] at hf; simp [shFs] at hf; subst hf; simp [Sh.isP] at hp
          | cons f r =>
            rw [hfl] at hf
            unfold shFs at hf
            split at hf
            · split at hf
              · split at hf
                · cases hf; simp [Sh.isP] at hp
                · cases hf
              · cases hf
            · cases hf
        · cases h
      · cases h
    · rw [hu] at h; cases h
/-- an argument, as data -/
theorem arg_ok {H : Type} {enc : TypeId × Value → H} {P : Program} {w : World} {base : Nat} {spare : Nat → Bool} {held : Bool} {fuel : Nat} {t : TypeId} {s : Sh} {v : Value} {D : DataW H} {ps : List MemPlace} {r : Reach} {b0 : Nat} (hs : argSh P depth t = some s)
    (hval : Value.okWide P w r b0 t v) (hd : DataW.trod enc P w base spare held fuel t v.cells.toList = some (D, ps)) (hz : ∀ n ∈ D.weights P t, n ≤ reachBytes) :
    ∃ x : sem s, fitSh s x ∧ ∀ n, Rel (G0 n (allOf w)) [] (.d s x s.flat) v := by
  obtain ⟨x, hx, hf⟩ := opensD depth t s hs enc w base spare held fuel _ D ps hd hz
  refine ⟨x, hf, fun n => lent_d (g := G0 n (allOf w)) ?_⟩
  unfold RepV
  cases hp : s.isP with
  | true =>
    rw [if_pos rfl]
    obtain ⟨fs, hu⟩ := argSh_isP hs hp
    unfold Value.okWide at hval
    rw [hu] at hval
    obtain ⟨cs, rfl, _⟩ := hval
    exact ⟨cs, rfl, hx⟩
  | false =>
    rw [if_neg (by simp)]
    obtain ⟨h1, h2⟩ := argSh_notP hs hp
    have hcell : Cell.okWide P w r b0 t v := by
      unfold Value.okWide at hval
      split at hval
      · rename_i fs hu; exact absurd hu (h1 fs)
      · rename_i k e hu; exact absurd hu (h2 k e)
      · exact hval
    have hna : ∀ cs, v ≠ .agg cs := by
      rintro cs rfl
      unfold Cell.okWide Cell.ok at hcell
      cases hu : P.underlying t with
      | none => rw [hu] at hcell; simp at hcell
      | some d => rw [hu] at hcell; cases d <;> simp at hcell
    have hone : v.cells = #[v] := by
      cases v <;> first | rfl | (exact absurd rfl (hna _))
    rw [hone] at hx
    exact hx
end Go.Den
