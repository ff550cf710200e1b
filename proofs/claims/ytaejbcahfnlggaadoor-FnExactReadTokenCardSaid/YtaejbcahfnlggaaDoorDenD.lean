import Derived.Test.YtaejbcahfnlggaaDoorDenC
import Derived.Laws.Tables
namespace Go.Den
open Go.RowKit (wrap64)
set_option linter.unusedVariables false
set_option linter.unusedSimpArgs false
theorem cells_one {v : Value} (h : v.oneCell' = true) : v.cells = #[v] := by
  cases v <;> first | rfl | (simp [Value.oneCell'] at h)
section
variable {P : Program} {g : Gh} {ω : Type} {r : ω} {w0 : Ent} {wb : World}
theorem ptrOk_rel {m : List AO} {a : AV} (hp : ptrOk m a = true) {v : Value} (h : Rel g m a v) :
    ∃ b o, v = .pointer (some ⟨b, o, none⟩) ∧ ∀ n, Rel g m (shiftP n a) (.pointer (some ⟨b, o + n, none⟩)) := by
  unfold ptrOk at hp
  split at hp
  · rename_i id off
    split at hp
    · rename_i l ho
      have hm : m[id]? = some (.box l) := obj_some (σ := ⟨[], m, 0⟩) ho (by simp)
      unfold Rel at h
      obtain ⟨_, o, ho', h⟩ := h
      rw [hm] at ho'; cases ho'
      simp only at h
      subst h
      exact ⟨_, _, rfl, fun n => by unfold shiftP Rel; exact ⟨rfl, _, hm, rfl⟩⟩
    · cases hp
  · rename_i id i off
    split at hp
    · rename_i t l fr ho
      have hm : m[id]? = some (.row t l fr) := obj_some (σ := ⟨[], m, 0⟩) ho (by simp)
      unfold Rel at h
      obtain ⟨_, o, ho', h⟩ := h
      rw [hm] at ho'; cases ho'
      simp only at h
      obtain ⟨h0, hi, b, hb, rfl⟩ := h
      exact ⟨_, _, rfl, fun n => by unfold shiftP Rel; exact ⟨rfl, _, hm, h0, hi, b, hb, by rw [Nat.add_assoc]⟩⟩
    · cases hp
  · unfold Rel at h
    obtain ⟨b, o, cs, rfl, hr, hz⟩ := h
    exact ⟨_, _, rfl, fun n => by unfold shiftP Rel; exact ⟨b, o, cs, by rw [Nat.add_assoc], hr, hz⟩⟩
  · unfold Rel at h
    obtain ⟨b, o, cs, rfl, hr, h1, hz⟩ := h
    exact ⟨_, _, rfl, fun n => by unfold shiftP Rel; exact ⟨b, o, cs, by rw [Nat.add_assoc], hr, h1, hz⟩⟩
  · cases hp
theorem tryK_some {i : Int} {K : Nat → Option ω} : ∀ (d q : Nat), tryK i K d q = some r → ∃ p, q ≤ p ∧ p < q + d ∧ i = (p : Int) ∧ K p = some r
  | 0, q, h => by cases h
  | d + 1, q, h => by
    unfold tryK at h
    rw [br_val] at h
    split at h
    · rename_i hc
      have hc : i = (q : Int) := by simpa [Cd.val] using hc
      exact ⟨q, by omega, by omega, hc, h⟩
    · obtain ⟨p, h1, h2, h3, h4⟩ := tryK_some d (q + 1) h
      exact ⟨p, by omega, by omega, h3, h4⟩
theorem indexAnyK_ok {σ : St} {t : TypeId} {x i : AV} {K : AV → Option ω} (h : indexAnyK P t σ x i K = some r) {vx vi : Value} (hx : Rel g σ.mem x vx) (hi : Rel g σ.mem i vi) (hW : WF w0 g σ.mem wb) :
    ∃ av v, K av = some r ∧ Rel g σ.mem av v ∧ ∀ w, (Instr.indexAt t vx vi).run P w = .ok v w := by
  unfold indexAnyK at h
  split at h
  · rename_i n e ha
    unfold arrT at ha
    split at ha
    · rename_i n' e' hu
      cases ha
      split at h
      · rename_i j hj
        split at h
        · rename_i hp
          obtain ⟨hp, hc, _⟩ := hp
          obtain ⟨k, rfl⟩ := intOf_rel hj hi
          obtain ⟨p, h1, h2, h3, h4⟩ := tryK_some _ _ h
          obtain ⟨b, o, rfl, hsh⟩ := ptrOk_rel hp hx
          subst h3
          refine ⟨_, _, h4, hsh (p * P.cellsOf e), fun w => ?_⟩
          have hlt : p < n := by omega
          simp [Instr.indexAt, asIntOf, run_underlying hu, Instr.sureAddr, run_sizeOf' hc, addr_add, hlt]
        · cases h
      · cases h
    · cases ha
  · exact indexAddrK_ok h hx hi hW
theorem leaves_rel {m : List AO} : ∀ (t : Sh) (x : sem t) (fr : Bool) (l : List AV) (cs rs : List Value), RepC (g.sel fr) t x cs → Rels g m l rs → Rels g m (leaves t x fr l) (cs ++ rs)
  | .unit, _, _, _, _, _, e, hl => by rw [show _ = _ from e]; exact hl
  | .pair a b, x, fr, l, _, rs, ⟨l1, l2, e, h1, h2⟩, hl => by
    rw [e, List.append_assoc]
    exact leaves_rel a x.1 fr _ _ _ h1 (leaves_rel b x.2 fr _ _ _ h2 hl)
  | .rose t, x, fr, l, _, rs, hx, hl => by
    obtain ⟨l1, l2, e, h1, p, cap, e2, h2, h3⟩ := RepC.rose.1 hx
    subst e2
    rw [e, List.append_assoc]
    exact leaves_rel t _ fr _ _ _ h1 (Rels.cons (Rel.list_mk (t := .rose t) (l := Rose.kids x) h2 h3) hl)
  | .int k, x, fr, l, _, rs, e, hl => by rw [show _ = _ from e]; exact Rels.cons Rel.int hl
  | .bool, x, fr, l, _, rs, e, hl => by rw [show _ = _ from e]; exact Rels.cons Rel.cd hl
  | .str, x, fr, l, _, rs, e, hl => by rw [show _ = _ from e]; exact Rels.cons Rel.str hl
  | .list t, x, fr, l, cs, rs, e, hl => by
    obtain ⟨a, cap, e', h1, h2⟩ := e
    subst e'
    exact Rels.cons (Rel.list_mk (t := t) (l := x) h1 h2) hl
theorem RepV.isP {fz : Fz} {t : Sh} {x : sem t} {v : Value} (h : RepV fz t x v) (hp : t.isP = true) : ∃ vs : Array Value, v = .agg vs ∧ RepC fz t x vs.toList := by
  unfold RepV at h; rw [if_pos hp] at h; exact h
theorem aggCells_rel {m : List AO} {a : AV} {l : List AV} (h : aggCells a = some l) {v : Value} (hr : Rel g m a v) :
    ∃ vs : Array Value, v = .agg vs ∧ Rels g m l vs.toList ∧ ∀ u ∈ vs.toList, u.oneCell' = true := by
  unfold aggCells at h
  split at h
  · cases h; unfold Rel at hr; exact hr
  · rename_i t x fr
    split at h
    · rename_i hp
      cases h
      unfold Rel at hr
      obtain ⟨vs, rfl, hc⟩ := hr.isP hp
      refine ⟨vs, rfl, ?_, RepC.one _ _ _ hc⟩
      have := leaves_rel t x fr [] _ [] hc Rels.nil (m := m)
      simpa using this
    · cases h
  · cases h
def AV.single : AV → Bool
  | .undef => false | .agg _ => false | .tup _ => false | .d t _ _ => !t.isP | _ => true
theorem Rel.one {m : List AO} {a : AV} {v : Value} (h : Rel g m a v) (ha : a.single = true) : v.oneCell' = true := by
  cases a
  case undef => simp [AV.single] at ha
  case agg => simp [AV.single] at ha
  case tup => simp [AV.single] at ha
  case c c => rw [h.cd_inv]; rfl
  case d t x fr =>
    have ha' : t.isP = false := by simpa [AV.single] using ha
    unfold Rel RepV at h
    rw [if_neg (by simp [ha'])] at h
    exact RepC.one _ _ _ h v (by simp)
  case ptr => unfold Rel at h; exact h.1
  case ref => unfold Rel at h; exact h.1
  case rp => unfold Rel at h; exact h.1
  case fp => unfold Rel at h; obtain ⟨b, o, cs, rfl, _⟩ := h; rfl
  case fb => unfold Rel at h; obtain ⟨b, o, cs, rfl, _⟩ := h; rfl
  case nil => unfold Rel at h; subst h; rfl
  case nilp => unfold Rel at h; subst h; rfl
  case nilm => unfold Rel at h; subst h; rfl
  case itr => unfold Rel at h; exact h.1
  case sub => unfold Rel at h; exact h.1
  case fn => unfold Rel at h; obtain ⟨vs, rfl, _⟩ := h; rfl
theorem cellsOf_rel {m : List AO} {a : AV} {l : List AV} (h : cellsOf a = some l) {v : Value} (hr : Rel g m a v) :
    Rels g m l v.cells.toList ∧ ∀ u ∈ v.cells.toList, u.oneCell' = true := by
  have one : ∀ (v : Value), Rel g m a v → v.oneCell' = true → l = [a] → Rels g m l v.cells.toList ∧ ∀ u ∈ v.cells.toList, u.oneCell' = true := fun v hr h1 e => by
    rw [cells_one h1, e]
    exact ⟨Rels.cons hr Rels.nil, by simpa using h1⟩
  cases a
  case undef => cases h
  case tup => cases h
  case agg l' =>
    cases h
    unfold Rel at hr
    obtain ⟨vs, rfl, h1, h2⟩ := hr
    exact ⟨h1, h2⟩
  case d t x fr =>
    simp only [cellsOf] at h
    split at h
    · rename_i hp
      obtain ⟨vs, rfl, h1, h2⟩ := aggCells_rel (a := .d t x fr) (l := l) (by unfold aggCells; simp only [hp, if_true]; exact h) hr
      exact ⟨h1, h2⟩
    · rename_i hp
      cases h
      exact one v hr (hr.one (by simpa [AV.single] using hp)) rfl
  all_goals (cases h; exact one v hr (hr.one rfl) rfl)

theorem field_ok {m : List AO} {t : TypeId} {f : Nat} {gf : Field} (hf : fieldOf P t f = some gf) {a av : AV} {l : List AV} (ha : aggCells a = some l) (hc : cut1 P gf.type l gf.offset = some av) {v : Value} (hr : Rel g m a v) :
    ∃ u, Rel g m av u ∧ ∀ w, (Instr.field t v f).run P w = .ok u w := by
  obtain ⟨vs, rfl, hrs, h1⟩ := aggCells_rel ha hr
  unfold fieldOf at hf
  split at hf
  · rename_i fs hu
    unfold cut1 at hc
    split at hc
    · rename_i hag
      split at hc
      · rename_i hle
        cases hc
        obtain ⟨d, hd, _⟩ := aggT_some hag
        refine ⟨.agg (vs.extract gf.offset (gf.offset + P.cellsOf gf.type)), ?_, fun w => ?_⟩
        · unfold Rel
          refine ⟨_, rfl, ?_, fun u hu => h1 u ?_⟩
          · have := (hrs.drop gf.offset).take (P.cellsOf gf.type)
            simpa [Array.toList_extract, List.extract_eq_take_drop] using this
          · simp [Array.toList_extract, List.extract_eq_take_drop] at hu
            exact List.mem_of_mem_drop (List.mem_of_mem_take hu)
        · simp [Instr.field, run_underlying hu, hf, part, run_isAgg hag, run_sizeOf hd, asAgg]
      · cases hc
    · rename_i hag
      obtain ⟨u, hu', hru⟩ := hrs.get hc
      refine ⟨u, hru, fun w => ?_⟩
      have : vs[gf.offset]? = some u := by simpa using hu'
      simp [Instr.field, run_underlying hu, hf, part, run_isAgg hag, asAgg, this]
    · cases hc
  · cases hf

theorem indexA_ok {m : List AO} {t e : TypeId} {n : Nat} (hu : P.underlying t = some (.array n e)) {l : List AV} {av : AV} {p : Nat} (hp : p < n) (hc : cut1 P e l (p * P.cellsOf e) = some av) {v : Value} (hr : Rel g m (.agg l) v) (k : IntKind) :
    ∃ u, Rel g m av u ∧ ∀ w, (Instr.index t v (.int k (p : Int))).run P w = .ok u w := by
  obtain ⟨vs, rfl, hrs, h1⟩ := aggCells_rel (a := .agg l) (l := l) rfl hr
  unfold cut1 at hc
  split at hc
  · rename_i hag
    split at hc
    · rename_i hle
      cases hc
      obtain ⟨d, hd, _⟩ := aggT_some hag
      refine ⟨.agg (vs.extract (p * P.cellsOf e) (p * P.cellsOf e + P.cellsOf e)), ?_, fun w => ?_⟩
      · unfold Rel
        refine ⟨_, rfl, ?_, fun u hu => h1 u ?_⟩
        · have := (hrs.drop (p * P.cellsOf e)).take (P.cellsOf e)
          simpa [Array.toList_extract, List.extract_eq_take_drop] using this
        · simp [Array.toList_extract, List.extract_eq_take_drop] at hu
          exact List.mem_of_mem_drop (List.mem_of_mem_take hu)
      · simp [Instr.index, asIntOf, run_underlying hu, part, run_isAgg hag, run_sizeOf hd, hp]
    · cases hc
  · rename_i hag
    obtain ⟨u, hu', hru⟩ := hrs.get hc
    refine ⟨u, hru, fun w => ?_⟩
    have hq : vs[p * P.cellsOf e]? = some u := by simpa using hu'
    have hsz : (sizeOf e).run P w = .ok (P.cellsOf e) w := by
      unfold aggT at hag
      cases hd : P.underlying e with
      | none => rw [hd] at hag; cases hag
      | some d => exact run_sizeOf hd w
    simp [Instr.index, asIntOf, run_underlying hu, part, run_isAgg hag, hsz, hp, hq]
  · cases hc
theorem run_fieldAt {t : TypeId} {f : Nat} {gf : Field} (hf : fieldOf P t f = some gf) (hn : P.cellsOf gf.type ≠ 0) (b o : Nat) (w : World) :
    (Instr.fieldAt t (.pointer (some ⟨b, o, none⟩)) f).run P w = .ok (.pointer (some ⟨b, o + gf.offset, none⟩)) w := by
  unfold fieldOf at hf
  split at hf
  · rename_i fs hu
    simp [Instr.fieldAt, run_underlying hu, hf, Instr.sureAddr, fieldPlace, run_sizeOf' hn, hn, addr_add]
  · cases hf

def setVals (cs : List Value) (off : Nat) : List Value → List Value
  | [] => cs | v :: r => setVals (cs.set off v) (off + 1) r
theorem setCells_rel {m : List AO} : ∀ {l : List AV} {cs : List Value} (off : Nat) {as : List AV} {vs : List Value}, Rels g m l cs → Rels g m as vs → Rels g m (setCells l off as) (setVals cs off vs)
  | l, cs, off, [], vs, h, hs => by unfold Rels at hs; subst hs; exact h
  | l, cs, off, a :: as, vs, h, hs => by
    unfold Rels at hs
    obtain ⟨v, rs, rfl, h1, h2⟩ := hs
    exact setCells_rel (off + 1) (h.set off h1) h2
theorem index_ok {m : List AO} {t : TypeId} (hu : P.underlying t = some .string) (s : ByteArray) (k : IntKind) (i : Int) (h0 : 0 ≤ i) (hi : i < (s.size : Int)) (w : World) :
    (Instr.index t (.string s) (.int k i)).run P w = .ok (.int .u8 (bt s i)) w := by
  have hil : i.toNat < s.size := by omega
  simp [Instr.index, asIntOf, run_underlying hu, h0, ByteArray.getElem?_lt' s _ hil, bt, hil]
end
end Go.Den
