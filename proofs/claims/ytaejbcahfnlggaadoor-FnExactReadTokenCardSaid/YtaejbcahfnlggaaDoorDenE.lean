import Derived.Test.YtaejbcahfnlggaaDoorDenD
import Derived.Conc.MuLone
namespace Go.Den
open Go.RowKit (wrap64)
set_option linter.unusedVariables false
set_option linter.unusedSimpArgs false
theorem setVals_fold (off : Nat) : ∀ (vs : List Value) (s : Nat) (cells : Array Value), ((vs.zipIdx s).foldl (fun (cs : Array Value) (p : Value × Nat) => cs.setIfInBounds (off + p.2) p.1) cells).toList = setVals cells.toList (off + s) vs
  | [], _, _ => rfl
  | v :: vs, s, cells => by
    rw [List.zipIdx_cons, List.foldl_cons, setVals_fold off vs (s + 1) _]
    simp only [Array.toList_setIfInBounds, setVals, Nat.add_assoc]
theorem setVals_length : ∀ (cs : List Value) (off : Nat) (vs : List Value), (setVals cs off vs).length = cs.length
  | _, _, [] => rfl
  | cs, off, v :: vs => by rw [setVals, setVals_length]; simp
theorem setVals_mem : ∀ (cs : List Value) (off : Nat) (vs : List Value) (u : Value), u ∈ setVals cs off vs → u ∈ cs ∨ u ∈ vs
  | _, _, [], u, h => .inl h
  | cs, off, v :: vs, u, h => by
    rw [setVals] at h
    rcases setVals_mem _ _ vs u h with h | h
    · rcases List.mem_or_eq_of_mem_set h with h | h
      · exact .inl h
      · exact .inr (by simp [h])
    · exact .inr (List.mem_cons_of_mem _ h)
section
variable {P : Program} {g : Gh} {ω : Type} {r : ω} {w0 : Ent} {wb : World}
theorem fill_ok {σ : St} {a : Act} (hE : EnvR g σ a) {t : TypeId} {fs : Array Field} (hu : P.underlying t = some (.struct fs)) :
    ∀ (ps : List (Nat × Operand)) (l : List AV) (cs : Array Value) (l' : List AV), fillK P t l (ps.map fun p => (p.1, opnd σ p.2)) = some l' → Rels g σ.mem l cs.toList → (∀ u ∈ cs.toList, u.oneCell' = true) →
    ∃ cs', Instr.fill ((fs.toList.map fun f => (f.offset, P.cellsOf f.type)).toArray[·]?) cs (ps.map fun p => (p.1, a.eval p.2)) = some cs' ∧ Rels g σ.mem l' cs'.toList ∧ ∀ u ∈ cs'.toList, u.oneCell' = true
  | [], l, cs, l', h, hr, h1 => by
    simp [fillK] at h; subst h
    exact ⟨cs, rfl, hr, h1⟩
  | (i, x) :: ps, l, cs, l', h, hr, h1 => by
    simp only [List.map_cons, fillK] at h
    split at h
    · rename_i f cx hf hc
      split at h
      · rename_i hle
        obtain ⟨hrx, h1x⟩ := cellsOf_rel hc (hE.opnd x)
        have hlen := hrx.length
        have hcl := hr.length
        simp only [Array.length_toList] at hlen hcl
        have hfs : fs.toList[i]? = some f := by
          unfold fieldOf at hf; rw [hu] at hf; simpa using hf
        obtain ⟨cs', q1, q2, q3⟩ := fill_ok hE hu ps _ ((a.eval x).cells.zipIdx.foldl (fun (cs : Array Value) (p : Value × Nat) => cs.setIfInBounds (f.offset + p.2) p.1) cs) l' h
          (by rw [← Array.foldl_toList, Array.toList_zipIdx, setVals_fold]; exact setCells_rel _ hr hrx)
          (by
            rw [← Array.foldl_toList, Array.toList_zipIdx, setVals_fold]
            intro u hu
            rcases setVals_mem _ _ _ u hu with hu | hu
            · exact h1 u hu
            · exact h1x u hu)
        refine ⟨cs', ?_, q2, q3⟩
        simp only [List.map_cons, Instr.fill]
        rw [show (fs.toList.map fun f => (f.offset, P.cellsOf f.type)).toArray[i]? = some (f.offset, P.cellsOf f.type) by simp [hfs]]
        simp only
        rw [if_neg (by simp; omega)]
        exact q1
      · cases h
    · cases h
theorem fillE_ok {σ : St} {a : Act} (hE : EnvR g σ a) (c : Nat) :
    ∀ (ps : List (Nat × Operand)) (l : List AV) (cs : Array Value) (l' : List AV), fillE c l (ps.map fun p => (p.1, opnd σ p.2)) = some l' → Rels g σ.mem l cs.toList → (∀ u ∈ cs.toList, u.oneCell' = true) →
    ∃ cs', Instr.fill (fun i => some (i * c, c)) cs (ps.map fun p => (p.1, a.eval p.2)) = some cs' ∧ Rels g σ.mem l' cs'.toList ∧ ∀ u ∈ cs'.toList, u.oneCell' = true
  | [], l, cs, l', h, hr, h1 => by
    simp [fillE] at h; subst h
    exact ⟨cs, rfl, hr, h1⟩
  | (i, x) :: ps, l, cs, l', h, hr, h1 => by
    simp only [List.map_cons, fillE] at h
    split at h
    · rename_i cx hc
      split at h
      · rename_i hle
        obtain ⟨hrx, h1x⟩ := cellsOf_rel hc (hE.opnd x)
        have hlen := hrx.length
        have hcl := hr.length
        simp only [Array.length_toList] at hlen hcl
        obtain ⟨cs', q1, q2, q3⟩ := fillE_ok hE c ps _ ((a.eval x).cells.zipIdx.foldl (fun (cs : Array Value) (p : Value × Nat) => cs.setIfInBounds (i * c + p.2) p.1) cs) l' h
          (by rw [← Array.foldl_toList, Array.toList_zipIdx, setVals_fold]; exact setCells_rel _ hr hrx)
          (by
            rw [← Array.foldl_toList, Array.toList_zipIdx, setVals_fold]
            intro u hu
            rcases setVals_mem _ _ _ u hu with hu | hu
            · exact h1 u hu
            · exact h1x u hu)
        refine ⟨cs', ?_, q2, q3⟩
        simp only [List.map_cons, Instr.fill]
        rw [if_neg (by simp; omega)]
        exact q1
      · cases h
    · cases h
theorem mapM_places (P : Program) : ∀ (fs : List Field), (fs.all fun f => (P.info? f.type).isSome) = true → fs.mapM (fun f => (P.info? f.type).map fun i => (f.offset, i.size)) = some (fs.map fun f => (f.offset, P.cellsOf f.type))
  | [], _ => rfl
  | f :: fs, h => by
    simp only [List.all_cons, Bool.and_eq_true] at h
    obtain ⟨i, hi⟩ := Option.isSome_iff_exists.1 h.1
    simp [List.mapM_cons, mapM_places P fs h.2, hi, Program.cellsOf]
theorem build_ok {σ : St} {a : Act} (hE : EnvR g σ a) {t : TypeId} {fs : Array Field} (hu : P.underlying t = some (.struct fs)) {z : List AV} (hz : zeroAV P t = some z)
    (ha : (fs.toList.all fun f => (P.info? f.type).isSome) = true) {ps : Array (Nat × Operand)} {l : List AV} (h : fillK P t z (ps.toList.map fun p => (p.1, opnd σ p.2)) = some l) :
    ∃ v, Rel g σ.mem (.agg l) v ∧ ∀ w, (Instr.build t (ps.map fun p => (p.1, a.eval p.2))).run P w = .ok v w := by
  unfold zeroAV at hz
  split at hz
  · rename_i i hi
    split at hz
    · rename_i zv hzv
      have hzr : Rels g σ.mem z zv.cells.toList := valsAV_rel hz
      have one : ∀ (l : List Value) (as : List AV), valsAV l = some as → ∀ u ∈ l, u.oneCell' = true := by
        intro l
        induction l with
        | nil => simp
        | cons v l ih =>
          intro as h u hu
          unfold valsAV at h
          split at h
          · rename_i q1 q2 e1 e2
            rcases List.mem_cons.1 hu with rfl | hu
            · unfold valAV at e1
              split at e1 <;> first | rfl | (cases e1; done)
            · exact ih _ e2 u hu
          · cases h
      obtain ⟨cs', q1, q2, q3⟩ := fill_ok hE hu ps.toList z zv.cells l h hzr (one _ _ hz)
      refine ⟨.agg cs', by unfold Rel; exact ⟨cs', rfl, q2, q3⟩, fun w => run_build w t _ cs' ?_⟩
      unfold Program.built
      simp only [hi, hu, hzv, mapM_places P fs.toList ha]
      simpa using q1
    · cases hz
  · cases hz
theorem buildE_ok {σ : St} {a : Act} (hE : EnvR g σ a) {t e : TypeId} {n : Nat} (hu : P.underlying t = some (.array n e)) {z : List AV} (hz : zeroAV P t = some z)
    (ha : (P.info? e).isSome = true) {ps : Array (Nat × Operand)} {l : List AV} (h : fillE (P.cellsOf e) z (ps.toList.map fun p => (p.1, opnd σ p.2)) = some l) :
    ∃ v, Rel g σ.mem (.agg l) v ∧ ∀ w, (Instr.build t (ps.map fun p => (p.1, a.eval p.2))).run P w = .ok v w := by
  unfold zeroAV at hz
  split at hz
  · rename_i i hi
    split at hz
    · rename_i zv hzv
      have hzr : Rels g σ.mem z zv.cells.toList := valsAV_rel hz
      have one : ∀ (l : List Value) (as : List AV), valsAV l = some as → ∀ u ∈ l, u.oneCell' = true := by
        intro l
        induction l with
        | nil => simp
        | cons v l ih =>
          intro as h u hu
          unfold valsAV at h
          split at h
          · rename_i q1 q2 e1 e2
            rcases List.mem_cons.1 hu with rfl | hu
            · unfold valAV at e1
              split at e1 <;> first | rfl | (cases e1; done)
            · exact ih _ e2 u hu
          · cases h
      obtain ⟨cs', q1, q2, q3⟩ := fillE_ok hE (P.cellsOf e) ps.toList z zv.cells l h hzr (one _ _ hz)
      obtain ⟨ie, hie⟩ := Option.isSome_iff_exists.1 ha
      refine ⟨.agg cs', by unfold Rel; exact ⟨cs', rfl, q2, q3⟩, fun w => run_build w t _ cs' ?_⟩
      unfold Program.built
      have hce : P.cellsOf e = ie.size := by simp [Program.cellsOf, hie]
      simp only [hi, hu, hzv, hie]
      rw [← hce]
      simpa using q1
    · cases hz
  · cases hz
end
end Go.Den
