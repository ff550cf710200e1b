import Derived.Test.YtaejbcahfnlggaaDoorDenX
import Derived.Great.BuildSlice
import Derived.Maps.RangeRun
import Derived.Lib.ConvBytes
import Derived.Laws.AppendOwn
namespace Go.Den
open Go.RowKit (wrap64)
set_option linter.unusedVariables false
set_option linter.unusedSimpArgs false
section
variable {P : Program} {g : Gh} {ω : Type} {r : ω} {w0 : Ent} {w : World} {Φ : Nat → Nat → List AV → (τ : Sh) → Option (sem τ)} {frs : Frs}
theorem ite_none {α : Type} {c : Prop} [Decidable c] {a : Option α} {r : α} (h : (if c then a else none) = some r) : c ∧ a = some r := by
  split at h
  · rename_i hc; exact ⟨hc, h⟩
  · cases h
/-! maps of one's own -/
theorem sameBits_leaf (n : Nat) : ∀ (t : Sh) (x : sem t), t.flat = true → ∀ v ∈ cellsV t x, Instr.sameBits n v v = true
  | .int k, x, _, v, hv => by
    have : ∀ y : Int, Instr.sameBits n (.int k y) (.int k y) = true := fun y => by cases n <;> simp [Instr.sameBits]
    simp [cellsV] at hv; subst hv; exact this x
  | .bool, x, _, v, hv => by
    have : ∀ y : Bool, Instr.sameBits n (.bool y) (.bool y) = true := fun y => by cases n <;> simp [Instr.sameBits]
    simp [cellsV] at hv; subst hv; exact this x
  | .str, x, _, v, hv => by
    have : ∀ y : ByteArray, Instr.sameBits n (.string y) (.string y) = true := fun y => by
      have hy : (y == y) = true := (Go.MapKept.bytes_beq y y).2 rfl
      cases n <;> simp [Instr.sameBits, hy]
    simp [cellsV] at hv; subst hv; exact this x
  | .unit, x, _, v, hv => by simp [cellsV] at hv
  | .list t, x, hf, v, hv => by simp [Sh.flat] at hf
  | .rose t, x, hf, v, hv => by simp [Sh.flat] at hf
  | .pair a b, x, hf, v, hv => by
    simp only [Sh.flat, Bool.and_eq_true] at hf
    simp only [cellsV, List.mem_append] at hv
    rcases hv with hv | hv
    · exact sameBits_leaf n a _ hf.1 v hv
    · exact sameBits_leaf n b _ hf.2 v hv
theorem sameBits_val (n : Nat) (t : Sh) (x : sem t) (hf : t.flat = true) : Instr.sameBits (n + 1) (valV t x) (valV t x) = true := by
  unfold valV
  split
  · simp only [Instr.sameBits, beq_self_eq_true, Bool.true_and, List.all_eq_true]
    intro p hp
    obtain ⟨i, h1, h2⟩ := List.getElem_of_mem hp
    simp at h2
    rw [← h2]
    exact sameBits_leaf n t x hf _ (by simp)
  · rename_i hp
    have hl := cellsV_len t x hf
    have h1 : t.size = 1 := by cases t <;> simp [Sh.isP] at hp <;> rfl
    rw [h1] at hl
    match hcv : cellsV t x, hl with
    | [u], _ => exact sameBits_leaf (n + 1) t x hf u (by rw [hcv]; simp)
theorem heap_set_other {w : World} {r k : Nat} (o : Obj) (h : k ≠ r) : (w.heap.setIfInBounds r o)[k]? = w.heap[k]? := by simp [Ne.symm h]
theorem heap_set_self {w : World} {r : Nat} (o : Obj) (h : r < w.heap.size) : (w.heap.setIfInBounds r o)[r]? = some o := by simp [h]
theorem modify_born (l : List MapEntry) (j : Nat) (f : MapEntry → MapEntry) (hf : ∀ e : MapEntry, (f e).born = e.born) : (l.modify j f).map (·.born) = l.map (·.born) := by
  apply List.ext_getElem?
  intro q
  simp only [List.getElem?_map, List.getElem?_modify]
  split <;> (cases l[q]? <;> simp [hf])
theorem modify_set (l : List MapEntry) (j : Nat) (f : MapEntry → MapEntry) (e : MapEntry) (h : l[j]? = some e) : l.modify j f = l.set j (f e) := by
  apply List.ext_getElem?
  intro q
  simp only [List.getElem?_modify, List.getElem?_set]
  by_cases hq : j = q
  · subst hq
    have := (List.getElem?_eq_some_iff.1 h).2
    simp [(List.getElem?_eq_some_iff.1 h).1, this]
  · simp [hq]
/-- a map written to -/
theorem mapPut_ok {σ : St} (hW : WF w0 g σ.mem w) {t : TypeId} {a b : Sh} (ht : mapT P t = some (a, b)) {id : Nat} {l : List (sem a × sem b)} {st : Nat} {rem : List (sem a × sem b)} {cur : Option (sem a × sem b)} (hm : σ.mem[id]? = some (.map a b true l st rem cur))
    {vx vy : Value} {u : sem a} {v : sem b} (hx : vx = valV a u) (hy : RepV g.fz b v vy) :
    ∃ w', (Instr.mapUpdate t (g.rv id) vx vy).run P w = .ok () w' ∧ WF w0 g (σ.setObj id (.map a b true (mput a b l u v) (if st = 1 then 2 else st) [] none)).mem w' ∧
      Stays g g σ.mem (σ.setObj id (.map a b true (mput a b l u v) (if st = 1 then 2 else st) [] none)).mem := by
  obtain ⟨k, e, hu, hk, he, haf, hak, hz⟩ := mapT_some ht
  subst hx
  have hstays : (AO.map a b true l st rem cur).stays g g id (.map a b true (mput a b l u v) (if st = 1 then 2 else st) [] none) := by
    refine ⟨rfl, rfl, rfl, ?_, fun h1 h2 => ?_⟩
    · split
      · exact .inr (.inr rfl)
      · exact .inl rfl
    · simp [h1] at h2
  have hs : Stays g g σ.mem (σ.setObj id (.map a b true (mput a b l u v) (if st = 1 then 2 else st) [] none)).mem := ⟨rfl, fun _ _ _ h => h, fun _ _ _ h => h, fun j q hj => by
    by_cases e : j = id
    · subst e
      rw [hm] at hj
      cases hj
      exact ⟨_, by show (List.set _ j _)[j]? = _; rw [List.getElem?_set_self (List.getElem?_eq_some_iff.1 hm).1], hstays⟩
    · exact ⟨q, by show (List.set _ id _)[j]? = _; rw [List.getElem?_set_ne (fun q => e q.symm)]; exact hj, AO.goes.refl _ _ _⟩⟩
  obtain ⟨_, ⟨h1, _⟩ | ⟨r, es, clock, e1, hr0, hh, hst, hl, _⟩⟩ := hW.own id _ hm
  · cases h1
  have hrlt := (Array.getElem?_eq_some_iff.1 hh).1
  have hck : (Instr.checkKey false 10000 k (valV a u)).run P w = .ok () w := checkKey_ok false depth depth 10000 (by decide) k a hk hak haf u w
  have hg : (getObj r).run P w = .ok (.map es clock) w := Go.MapKept.run_getObj_map hh
  have fin : ∀ (es' : Array MapEntry) (clock' : Nat), (Instr.mapUpdate t (g.rv id) (valV a u) vy).run P w = .ok () { w with heap := w.heap.setIfInBounds r (.map es' clock') } → Stamps es' clock' → RepM g.fz a b (mput a b l u v) es'.toList →
      ∃ w', (Instr.mapUpdate t (g.rv id) (valV a u) vy).run P w = .ok () w' ∧ WF w0 g (σ.setObj id (.map a b true (mput a b l u v) (if st = 1 then 2 else st) [] none)).mem w' ∧
        Stays g g σ.mem (σ.setObj id (.map a b true (mput a b l u v) (if st = 1 then 2 else st) [] none)).mem := by
    intro es' clock' hrun hst' hl'
    refine ⟨_, hrun, ?_, hs⟩
    refine hW.write hm hstays (fun c hc hnc => heap_set_other _ (fun e => hnc (.inl (by rw [e1, e]; rfl)))) (by simp) rfl rfl rfl (Nat.le_refl _) ?_ (fun c hc => ?_)
    · refine ⟨haf, .inr ⟨r, es', clock', e1, hr0, heap_set_self _ hrlt, hst', hl', fun h => ?_⟩⟩
      split at h
      · cases h
      · rename_i hne; exact absurd h hne
    · rcases hc with hc | ⟨h, _⟩
      · exact .inl hc
      · split at h
        · cases h
        · rename_i hne; exact absurd h hne
  rcases findKey_ok (P := P) (fz := g.fz) (b := b) hk hak haf u l es.toList hl with ⟨j, e2, h1, hF⟩ | ⟨h1, hF⟩
  · have hj : es[j]? = some e2 := by simpa using hF.at_
    have hjl := (Array.getElem?_eq_some_iff.1 hj).1
    have hje := (Array.getElem?_eq_some_iff.1 hj).2
    have hkt : (Instr.keyThatStays (valV a u) (valV a u)).run P w = .ok (valV a u) w := by
      unfold Instr.keyThatStays
      rw [sameBits_val 9999 a u haf]; simp
    refine fin (es.modify j fun e => { e with key := valV a u, val := vy }) clock ?_ ⟨fun x hx => ?_, ?_⟩ ?_
    · rw [e1]
      simp [Instr.mapUpdate, run_underlying hu, hg, hck, h1 w, hj, hF.key, hkt, Go.MapKept.run_setObj_map _ hh]
    · have : x.born ∈ (es.modify j fun e => { e with key := valV a u, val := vy }).toList.map (·.born) := List.mem_map.2 ⟨x, hx, rfl⟩
      rw [Array.toList_modify, modify_born _ _ (fun e => { e with key := valV a u, val := vy }) (fun _ => rfl)] at this
      obtain ⟨y, hy, e⟩ := List.mem_map.1 this
      rw [← e]; exact hst.1 y hy
    · rw [Array.toList_modify, modify_born _ _ (fun e => { e with key := valV a u, val := vy }) (fun _ => rfl)]
      exact hst.2
    · have := hF.put v { e2 with key := valV a u, val := vy } hF.key.symm hy
      rw [Array.toList_modify, modify_set _ _ (fun e => { e with key := valV a u, val := vy }) e2 (by simpa using hj)]
      exact this
  · refine fin (es.push { key := valV a u, val := vy, born := clock }) (clock + 1) ?_ ⟨fun x hx => ?_, ?_⟩ ?_
    · rw [e1]
      simp [Instr.mapUpdate, run_underlying hu, hg, hck, h1 w, Go.MapKept.run_setObj_map _ hh]
    · simp only [Array.toList_push, List.mem_append, List.mem_singleton] at hx
      rcases hx with hx | rfl
      · exact Nat.lt_succ_of_lt (hst.1 x hx)
      · exact Nat.lt_succ_self _
    · simp only [Array.toList_push, List.map_append, List.map_cons, List.map_nil]
      refine List.nodup_append.2 ⟨hst.2, by simp, ?_⟩
      intro a' ha' b' hb'
      simp only [List.mem_singleton] at hb'
      subst hb'
      obtain ⟨x, hx, rfl⟩ := List.mem_map.1 ha'
      exact Nat.ne_of_lt (hst.1 x hx)
    · rw [Array.toList_push]
      exact hF.put v _ rfl hy
theorem RepM.len {fz : Fz} {a b : Sh} : ∀ {l : List (sem a × sem b)} {es : List MapEntry}, RepM fz a b l es → es.length = l.length
  | [], _, e => by rw [show _ = _ from e]; rfl
  | _ :: l, _, ⟨e, r, e1, _, _, h3⟩ => by rw [e1, List.length_cons, List.length_cons, h3.len]
theorem RepM.get {fz : Fz} {a b : Sh} : ∀ {l : List (sem a × sem b)} {es : List MapEntry}, RepM fz a b l es → ∀ {i : Nat} {e : MapEntry}, es[i]? = some e → ∃ p, l[i]? = some p ∧ RepV fz a p.1 e.key ∧ RepV fz b p.2 e.val
  | [], _, h, i, e, hi => by rw [show _ = _ from h] at hi; simp at hi
  | p :: l, _, ⟨e0, r, e1, h1, h2, h3⟩, 0, e, hi => by subst e1; simp at hi; subst hi; exact ⟨p, rfl, h1, h2⟩
  | p :: l, _, ⟨e0, r, e1, h1, h2, h3⟩, i + 1, e, hi => by subst e1; simp at hi; simpa using h3.get hi
theorem RepM.del {fz : Fz} {a b : Sh} : ∀ {l : List (sem a × sem b)} {es : List MapEntry}, RepM fz a b l es → ∀ i, RepM fz a b (l.eraseIdx i) (es.eraseIdx i)
  | [], _, h, i => by rw [show _ = _ from h]; exact rfl
  | p :: l, _, ⟨e0, r, e1, h1, h2, h3⟩, 0 => by subst e1; exact h3
  | p :: l, _, ⟨e0, r, e1, h1, h2, h3⟩, i + 1 => by subst e1; exact ⟨e0, _, rfl, h1, h2, h3.del i⟩
theorem filter_del : ∀ (l : List MapEntry) (seen : Array Nat) (i : Nat) (e : MapEntry), (l.map (·.born)).Nodup → (l.filter fun x => !seen.contains x.born)[i]? = some e →
    (l.filter fun x => !(seen.push e.born).contains x.born) = (l.filter fun x => !seen.contains x.born).eraseIdx i := by
  intro l seen i e hn hi
  have e1 : (l.filter fun x => !(seen.push e.born).contains x.born) = (l.filter fun x => !seen.contains x.born).filter fun x => !(x.born == e.born) := by
    rw [List.filter_filter]
    apply List.filter_congr
    intro x _
    have : (seen.push e.born).contains x.born = (seen.contains x.born || x.born == e.born) := by
      rw [Bool.eq_iff_iff]
      simp [Array.contains_eq_mem]
    rw [this]
    cases seen.contains x.born <;> cases (x.born == e.born) <;> rfl
  rw [e1]
  have hn' : ((l.filter fun x => !seen.contains x.born).map (·.born)).Nodup := (List.filter_sublist.map _).nodup hn
  generalize (l.filter fun x => !seen.contains x.born) = L at hi hn'
  clear e1 hn
  induction L generalizing i with
  | nil => simp at hi
  | cons y L ih =>
    rw [List.map_cons, List.nodup_cons] at hn'
    cases i with
    | zero =>
      simp at hi
      subst hi
      rw [List.filter_cons, show (!(y.born == y.born)) = false by simp]
      simp only [Bool.false_eq_true, if_false, List.eraseIdx_zero, List.tail_cons]
      rw [List.filter_eq_self]
      intro x hx
      have : x.born ≠ y.born := fun q => hn'.1 (List.mem_map.2 ⟨x, hx, q⟩)
      simp [this]
    | succ i =>
      simp at hi
      have hme : e ∈ L := List.mem_of_getElem? hi
      have : y.born ≠ e.born := fun q => hn'.1 (List.mem_map.2 ⟨e, hme, q.symm⟩)
      rw [List.filter_cons, show (!(y.born == e.born)) = true by simp [this]]
      simp only [if_true, List.eraseIdx_cons_succ]
      rw [ih i hi hn'.2]
theorem mapPut_op {σ : St} {t : TypeId} {m x y : Operand} {op : Op} {dst : Option Nat} {type : TypeId} {pos after guard} (hop : ∀ ρ : Operand → Value, execOp ρ ⟨dst, op, type, pos, after, guard⟩ = (do Instr.mapUpdate t (ρ m) (ρ x) (ρ y); pure .skip)) {K : St → Option ω}
    (h : (let σ' := σ.freezeAll (AV.refs (opnd σ y))
      match mapT P t, opnd σ' m with
      | some (a, b), .ref id => (match σ'.obj id with
        | .map a' b' true l st _ _ => if a = a' ∧ b = b' then (match data a' (opnd σ' x), data b' (opnd σ' y) with
          | some (u, _), some (v, _) => bnd (some (mput a' b' l u v)) fun l' => K ((σ'.setObj id (.map a' b' true l' (if st = 1 then 2 else st) [] none)).put dst .undef)
          | _, _ => none) else none
        | _ => none)
      | _, _ => none) = some r) {a : Act} (hE : EnvR g σ a) (hW : WF w0 g σ.mem w) {N : Act → World → Prop} (hN : Next w0 r K N) (Q : Exit → Act → World → Prop) : Oper.wp P ⟨dst, op, type, pos, after, guard⟩ a w N Q := by
  obtain ⟨g', hE', hW'⟩ := freezeAll_ok (AV.refs (opnd σ y)) hE hW
  dsimp only at h
  split at h
  · rename_i a1 b1 id ht hmo
    split at h
    · rename_i a2 b2 l st rem cur ho
      split at h
      · rename_i hab
        obtain ⟨rfl, rfl⟩ := hab
        split at h
        · rename_i u f1 v f2 hd1 hd2
          have hm := obj_some ho (by simp)
          have hfn : ∀ b o v, g'.fn b o = some v → g'.fz b o = some v := fun b o v hv => (hW'.fnz b o v hv).1
          obtain ⟨k, e, _, _, _, haf, _⟩ := mapT_some ht
          have hx := (data_rel hfn hd1 (hE'.opnd x)).flat_eq haf
          have hy : RepV g'.fz b1 v (a.eval y) := by
            have := data_rel hfn hd2 (hE'.opnd y)
            cases f2 with
            | true => exact this.mono hfn
            | false => exact this
          obtain ⟨w', hrun, hW2, hs⟩ := mapPut_ok (P := P) hW' ht hm hx hy
          have e1 := hE'.opnd m
          rw [hmo] at e1
          unfold Rel at e1
          obtain ⟨_, o, ho', e1⟩ := e1
          rw [hm] at ho'; cases ho'
          simp only at e1
          have hrun' : (execOp a.eval ⟨dst, op, type, pos, after, guard⟩).run P w = .ok .skip w' := by
            rw [hop, e1]
            simp [hrun]
          unfold Oper.wp
          rw [hrun']
          exact hN g' _ _ _ ((hE'.step (σ' := (σ.freezeAll (AV.refs (opnd σ y))).setObj id (.map a1 b1 true (mput a1 b1 l u v) (if st = 1 then 2 else st) [] none)) hs rfl).put dst Rel.undef) (by rw [put_mem]; exact hW2) h
        · cases h
      · cases h
    · cases h
  · cases h
/-- a row of bytes made of a text -/
theorem bytes_made {σ : St} {a : Act} (hE : EnvR g σ a) (hW : WF w0 g σ.mem w) (dst : Option Nat) {s : ByteArray} {e : TypeId} {K : St → Option ω} {N : Act → World → Prop} (hN : Next w0 r K N) (h : K (σ.put dst (.d (.list (.int .u8)) (bytesOf s) true)) = some r) {w' : World} (hw : w' = Go.Lib.bytesWorld w e s) :
    N (a.put dst (.slice (some ⟨w.heap.size, 0, none⟩) s.size (grownCap w s.size 0 e))) w' := by
  subst hw
  have hb : Below w.heap.size w (Go.Lib.bytesWorld w e s) := ⟨rfl, rfl, rfl, by rw [Go.Lib.bytesWorld_size]; omega, fun j hj => Go.Lib.bytesWorld_at_old w e s j hj, Nat.le_succ _⟩
  refine called_ok hE hW hb (fz' := fun b o => if b = w.heap.size ∧ o < s.size then some (.int .u8 (s.data.toList.getD o 0).toNat) else none) (fr := true) (tup := false) (τ := .list (.int .u8)) (x := bytesOf s) (fun b o x hx => ?_) ?_ (by simp) dst hN h
  · split at hx
    · rename_i hc
      cases hx
      rw [hc.1]
      exact Go.Lib.bytesWorld_cell w e s o hc.2
    · cases hx
  · unfold RepR
    simp only [Bool.false_eq_true, if_false]
    have hlen : (bytesOf s).length = s.size := by
      show (s.data.toList.map _).length = s.data.size
      rw [List.length_map, Array.length_toList]
    refine ⟨some ⟨w.heap.size, 0, none⟩, grownCap w s.size 0 e, congrArg (fun n => [Value.slice (some ⟨w.heap.size, 0, none⟩) n (grownCap w s.size 0 e)]) hlen.symm, Nat.le_trans (Nat.le_of_eq hlen) (grownCap_ge w s.size 0 e), .inr ⟨_, 0, (bytesOf s).map (Value.int .u8), rfl, bytes_repl _, fun j v hj => ?_⟩⟩
    rw [List.getElem?_map] at hj
    obtain ⟨n, hn, rfl⟩ := Option.map_eq_some_iff.1 hj
    have hjl : j < s.size := by rw [← hlen]; exact (List.getElem?_eq_some_iff.1 hn).1
    simp only [Nat.le_refl, if_true, Nat.zero_add]
    rw [if_pos ⟨trivial, hjl⟩]
    unfold bytesOf at hn
    rw [List.getElem?_map] at hn
    obtain ⟨b, hb2, rfl⟩ := Option.map_eq_some_iff.1 hn
    rw [List.getD_eq_getElem?_getD, hb2]; rfl
theorem op_ok {σ : St} {k : Nat} {o : Oper} {K : St → Option ω} (h : opK P Φ frs σ k o K = some r) {a : Act} (hE : EnvR g σ a) (hW : WF w0 g σ.mem w)
    (hΦ : ∀ f, SoundX w0.tb P f (Φ f) frs) {N : Act → World → Prop} (hN : Next w0 r K N) (Q : Exit → Act → World → Prop) : o.wp P a w N Q := by
  by_cases hq : quietK P frs o = true
  · obtain ⟨av, v, h1, h2, h3⟩ := quiet_op hq h hE hW hΦ
    refine Oper.wp_of_quiet (C := From w) (K := fun a' => a' = a.put o.dst v) (Below.refl _ _) (fun a' w' hw' he => ?_) ⟨v, fun w' hw' => quietAt_from hw' (h3 w' hw'), rfl⟩
    subst he
    exact hN g _ _ _ (hE.put o.dst h2) (by rw [put_mem]; exact hW.later hw') h1
  obtain ⟨dst, op, type, pos, after, guard⟩ := o
  cases op
  case alloc t =>
    simp only [opK] at h
    split at h
    · rename_i l hl
      unfold zeroAV at hl
      split at hl
      · rename_i i hi
        split at hl
        · rename_i z hz
          have := newBox_ok hE hW (c := z.cells) t (valsAV_rel hl) (valsAV_one _ _ hl) dst hN h
          have hrun : (execOp a.eval ⟨dst, .alloc t, type, pos, after, guard⟩).run P w = .ok (.value (.pointer (some ⟨w.heap.size, 0, none⟩))) (w.alloc (.cells z.cells t)) := by
            simp [execOp, Instr.alloc, zeroValue, typeInfo, hi, hz, newVar, newRow]
          unfold Oper.wp
          rw [hrun]
          exact this
        · cases hl
      · cases hl
    · cases h
  case box t x =>
    simp only [opK] at h
    split at h
    · rename_i l hl
      obtain ⟨h1, h2⟩ := cellsOf_rel hl (hE.opnd x)
      have := newBox_ok hE hW (c := (a.eval x).cells) t h1 h2 dst hN h
      have hrun : (execOp a.eval ⟨dst, .box t x, type, pos, after, guard⟩).run P w = .ok (.value (.pointer (some ⟨w.heap.size, 0, none⟩))) (w.alloc (.cells (a.eval x).cells t)) := by
        simp [execOp, Instr.box, newVar, newRow]
      unfold Oper.wp
      rw [hrun]
      exact this
    · cases h
  case buildSlice t n ps =>
    simp only [opK] at h
    split at h
    · rename_i s hs
      split at h
      · rename_i hz0
        subst hz0
        split at h
        · rename_i hps
          obtain ⟨e, hu, _, hok⟩ := elemSh_some hs
          obtain ⟨i, z, hi, hz, hsz, hzc, hpos, hzr⟩ := elemOk_some hok
          have hps : ps = #[] := by simpa using hps
          subst hps
          have hrun : (execOp a.eval ⟨dst, .buildSlice t 0 #[], type, pos, after, guard⟩).run P w = .ok (.value (.slice (some ⟨w.heap.size, 0, none⟩) 0 0)) (w.alloc (.cells #[] e)) := by
            simp [execOp, Instr.buildSlice, run_underlying hu, sizeOf, typeInfo, hi, Instr.fill, newRow]
            rw [Array.eq_empty_of_size_eq_zero (xs := Array.map (fun x => (default : Value)) (Array.range 0)) (by simp)]
          have hown : OwnR (w.alloc (.cells #[] e)) g.n0 e s.size (.slice (some ⟨w.heap.size, 0, none⟩) 0 0) 0 [] := OwnR.nil _ _ _ _ _
          have := newRow_ok (t := s) (l := []) (fr := true) hE hW (Grown.alloc w _ none) (by simp) (by simp) hown rfl hpos (fun b hb => by simp [rowBlk] at hb) dst hN h
          unfold Oper.wp
          rw [hrun]
          exact this
        · cases h
      split at h
      · rename_i hb
        split at h
        · rename_i l f hrow
          split at h
          · rename_i hln
            obtain ⟨g', hE', hW'⟩ := freezeAll_ok (AV.refsL (ps.toList.map fun p => opnd σ p.2)) hE hW
            obtain ⟨e, hu, _, hok⟩ := elemSh_some hs
            obtain ⟨i, z, hi, hz, hsz, hzc, hpos, hzr⟩ := elemOk_some hok
            generalize hcells : (Array.range (n * i.size)).map (z.cells[· % z.cells.size]!) = cells
            have hclen : cells.toList.length = n * s.size := by rw [← hcells]; simp [hsz]
            obtain ⟨cs', xs, q1, q2, q3⟩ := rowOf_ok hE' (fun b o v hv => (hW'.fnz b o v hv).1) ps.toList 0 l f cells [] cells.toList hrow rfl (by simp) (by rw [hln, hclen]; exact Nat.le_refl _)
            have hxl := RepL.len (fun x c h => RepC.len s x c h) _ _ q3
            have q2' : cs'.toList = xs := by
              rw [q2, hln, List.drop_of_length_le (by rw [hclen]; exact Nat.le_refl _)]; simp
            have hgt : ¬ n * i.size > 2 ^ 24 := by rw [hsz]; omega
            have hne : ¬ n * i.size = 0 := by
              rw [hsz]
              have := Nat.mul_pos hb.2 hpos
              omega
            have hrun := run_buildSlice (P := P) w t e n (ps.map fun p => (p.1, a.eval p.2)) cs' i z hu hi hz hgt hne (by rw [hsz] at hcells ⊢; rw [hcells]; simpa using q1)
            have hown0 : (w.alloc (.cells cs' e)).ownsRow g'.n0 e s.size (.slice (some ⟨w.heap.size, 0, none⟩) n n) l.length xs := by
              rw [hln]
              refine ⟨by rw [hxl, hln], .inr ⟨w.heap.size, n, cs', rfl, hW'.base, heap_alloc_new w _, Nat.le_refl _, by unfold maxLen; have := hb.1; have := Nat.le_mul_of_pos_right n hpos; omega, ?_, ?_⟩⟩
              · rw [← Array.length_toList, q2', hxl, hln]
              · rw [q2', ← hln, ← hxl, List.take_length]
            have hown := OwnR.of hown0
            have := newRow_ok hE' hW' (Grown.alloc w _ none) (by simp) (by simp) hown q3 hpos (fun b hb => .inr (Nat.le_of_eq (rowBlk_new hb).symm)) dst hN h
            have hrun' : (execOp a.eval ⟨dst, .buildSlice t n ps, type, pos, after, guard⟩).run P w = .ok (.value (.slice (some ⟨w.heap.size, 0, none⟩) n n)) (w.alloc (.cells cs' e)) := by
              simp only [execOp, Sem.run_bind]
              rw [hrun]; rfl
            unfold Oper.wp
            rw [hrun']
            exact this
          · cases h
        · cases h
      · cases h
    · cases h
  case makeMap t rsv =>
    cases rsv with
    | some q => simp [opK] at h
    | none =>
    simp only [opK] at h
    split at h
    · rename_i a1 b1 ht
      obtain ⟨k1, e, hu, hk, he, haf, hak, hz⟩ := mapT_some ht
      have hs : Stays g { g with rv := upd g.rv σ.mem.length (.map (some w.heap.size)) } σ.mem (σ.new (.map a1 b1 true [] 0 [] none)).mem := Stays.row _ _ _ rfl
      have hW' : WF w0 { g with rv := upd g.rv σ.mem.length (.map (some w.heap.size)) } (σ.new (.map a1 b1 true [] 0 [] none)).mem (w.alloc (.map #[] 0)) := by
        refine hW.push (row := none) (Grown.alloc w _ none) hs rfl rfl rfl (fun j hj => ⟨rfl, upd_ne _ _ (by omega), rfl⟩) (by simp) (by simp) ?_ (fun b hb => ?_)
        · refine ⟨haf, .inr ⟨w.heap.size, #[], 0, upd_same _ _ _, hW.base, heap_alloc_new w _, ⟨by simp, by simp⟩, rfl, fun h => by cases h⟩⟩
        · rcases hb with hb | ⟨h, _⟩
          · have hb : mapBlk (upd g.rv σ.mem.length (.map (some w.heap.size)) σ.mem.length) = some b := hb
            rw [upd_same] at hb
            exact .inr (Nat.le_of_eq (Option.some.inj hb))
          · cases h
      have hrun : (execOp a.eval ⟨dst, .makeMap t none, type, pos, after, guard⟩).run P w = .ok (.value (.map (some w.heap.size))) (w.alloc (.map #[] 0)) := by
        simp [execOp, Instr.makeMap]
      unfold Oper.wp
      rw [hrun]
      refine hN _ _ _ _ ((hE.step (σ' := σ.new (.map a1 b1 true [] 0 [] none)) hs rfl).put dst ?_) (by rw [put_mem]; exact hW') h
      unfold Rel
      refine ⟨rfl, .map a1 b1 true [] 0 [] none, by simp [St.new], ?_⟩
      show _ = upd g.rv σ.mem.length _ σ.mem.length
      rw [upd_same]
    · cases h
  case mapUpdate t m x y =>
    simp only [opK] at h
    exact mapPut_op (op := .mapUpdate t m x y) (fun ρ => rfl) h hE hW hN Q
  case insert t m x y =>
    simp only [opK] at h
    exact mapPut_op (op := .insert t m x y) (fun ρ => rfl) h hE hW hN Q
  case range t x =>
    simp only [opK] at h
    split at h
    · rename_i a1 b1 id ht hx
      split at h
      · rename_i a2 b2 l rem cur ho
        split at h
        · rename_i hab
          obtain ⟨rfl, rfl⟩ := hab
          obtain ⟨k1, e, hu, hk, he, haf, hak, hz⟩ := mapT_some ht
          have hm := obj_some ho (by simp)
          obtain ⟨_, ⟨h1, _⟩ | ⟨r0, es, clock, e1, hr0, hh, hst, hl, _⟩⟩ := hW.own id _ hm
          · cases h1
          have hb1 : Below w.heap.size w (w.alloc (.mapIter (some r0) clock #[] clock)) := (Below.refl _ _).alloc (Nat.le_refl _) _
          have hW1 := hW.later hb1
          have hs := Stays.iter (g := g) id (.pointer (some ⟨w.heap.size, 0, none⟩)) (l := l) (rem := l) hm
          have hrlt := (Array.getElem?_eq_some_iff.1 hh).1
          have hW2 := hW1.swap hm hs rfl rfl rfl (fun j hj => ⟨rfl, rfl, upd_ne _ _ hj⟩) (show OwnO _ _ _ _ _ from by
            refine ⟨haf, .inr ⟨r0, es, clock, e1, hr0, by rw [hb1.block r0 hrlt]; exact hh, hst, hl, fun _ => ⟨w.heap.size, #[], upd_same _ _ _, hW.base, by omega, heap_alloc_new w _, ?_, fun p hp => by cases hp⟩⟩⟩
            have : (es.toList.filter fun e => !(#[] : Array Nat).contains e.born) = es.toList := List.filter_eq_self.2 (fun x _ => by simp)
            rw [this]; exact hl) (fun b hb => by
            rcases hb with hb | ⟨_, c, hc, rfl⟩
            · exact .inl (.inl hb)
            · have hc : upd g.iv id (.pointer (some ⟨w.heap.size, 0, none⟩)) id = _ := hc
              rw [upd_same] at hc
              have : c = w.heap.size := by simpa using hc.symm
              subst this
              refine .inr ⟨hW.fz_new, fun j q hj hq => ?_, hW.below.size⟩
              have := ((hW.own j q hj).has_lt hq).2; omega)
          have e2 := hE.opnd x
          rw [hx] at e2
          unfold Rel at e2
          obtain ⟨_, o, ho', e2⟩ := e2
          rw [hm] at ho'; cases ho'
          simp only at e2
          have hrun : (execOp a.eval ⟨dst, .range t x, type, pos, after, guard⟩).run P w = .ok (.value (.pointer (some ⟨w.heap.size, 0, none⟩))) (w.alloc (.mapIter (some r0) clock #[] clock)) := by
            simp [execOp, e2, e1, run_range_map w t k1 e r0 es clock hu hh]
          unfold Oper.wp
          rw [hrun]
          refine hN _ _ _ _ ((hE.step (σ' := σ.setObj id (.map a1 b1 true l 1 l none)) hs rfl).put dst ?_) (by rw [put_mem]; exact hW2) h
          unfold Rel
          refine ⟨rfl, .map a1 b1 true l 1 l none, by show (List.set _ id _)[id]? = _; rw [List.getElem?_set_self (List.getElem?_eq_some_iff.1 hm).1], ?_⟩
          refine ⟨by decide, fun _ => ?_⟩
          show _ = upd g.iv id _ id
          rw [upd_same]
        · cases h
      · cases h
    · cases h
  case next it isS =>
    cases isS with
    | true => simp [opK] at h
    | false =>
    simp only [opK] at h
    split at h
    · rename_i id hi
      split at h
      · rename_i a1 b1 nn l rem cur ho
        have hm := obj_some ho (by simp)
        have e0 := hE.opnd it
        rw [hi] at e0
        unfold Rel at e0
        obtain ⟨_, o, ho', e0⟩ := e0
        rw [hm] at ho'; cases ho'
        have e0 := e0.2 rfl
        obtain ⟨haf, ⟨_, h1, _⟩ | ⟨r0, es, clock, e1, hr0, hh, hst, hl, hit⟩⟩ := hW.own id _ hm
        · exact absurd rfl h1
        obtain ⟨c, seen, e2, hc0, hne, hc, hrem, _⟩ := hit rfl
        have hleft : (leftOf es seen).toList = es.toList.filter fun e => !seen.contains e.born := by unfold leftOf; rw [Array.toList_filter]
        have flat : ∀ {t : Sh} {x : sem t} {v : Value}, RepV g.fz t x v → RepV (g.sel t.flat) t x v := fun {t x v} h => by
          unfold Gh.sel
          cases hf : t.flat with
          | true => exact h.flat hf
          | false => exact h
        have stay : ∀ (rem' : List (sem a1 × sem b1)) (cur' : Option (sem a1 × sem b1)), Stays g g σ.mem (σ.setObj id (.map a1 b1 nn l 1 rem' cur')).mem := fun rem' cur' => ⟨rfl, fun _ _ _ h => h, fun _ _ _ h => h, fun j q hj => by
          by_cases e : j = id
          · subst e
            rw [hm] at hj
            cases hj
            exact ⟨_, by show (List.set _ j _)[j]? = _; rw [List.getElem?_set_self (List.getElem?_eq_some_iff.1 hm).1], by simp [AO.stays, AO.goes]⟩
          · exact ⟨q, by show (List.set _ id _)[j]? = _; rw [List.getElem?_set_ne (fun q => e q.symm)]; exact hj, AO.goes.refl _ _ _⟩⟩
        have hlen := hrem.len
        rw [br_val] at h
        simp only [Cd.val, decide_eq_true_eq] at h
        rcases run_next_at (P := P) w type c r0 clock clock seen es clock hc hh hst.1 (Nat.le_refl _) with ⟨hz, hrun⟩ | ⟨e, he, w1, hw1, hrun⟩
        · have hz' : (es.toList.filter fun e => !seen.contains e.born) = [] := by
            rw [← hleft]; exact List.eq_nil_of_length_eq_zero (by simpa using hz)
          rw [hz'] at hlen
          have hr0' : rem = [] := List.eq_nil_of_length_eq_zero (by simpa using hlen.symm)
          rw [if_pos (by rw [hr0']; rfl)] at h
          have hW' : WF w0 g (σ.setObj id (.map a1 b1 nn l 1 rem none)).mem w := hW.write hm (by simp [AO.stays, AO.goes]) (fun _ _ _ => rfl) (Nat.le_refl _) rfl rfl rfl (Nat.le_refl _)
            ⟨haf, .inr ⟨r0, es, clock, e1, hr0, hh, hst, hl, fun _ => ⟨c, seen, e2, hc0, hne, hc, hrem, fun p hp => by cases hp⟩⟩⟩ (fun b hb => hb)
          have hrun' : (execOp a.eval ⟨dst, .next it false, type, pos, after, guard⟩).run P w = .ok (.value (.tuple #[.bool false])) w := by
            simp only [execOp, Sem.run_bind]
            rw [e0, e2, hrun]; rfl
          unfold Oper.wp
          rw [hrun']
          refine hN _ _ _ _ ((hE.step (σ' := σ.setObj id (.map a1 b1 nn l 1 rem none)) (stay _ _) rfl).put dst ?_) (by rw [put_mem]; exact hW') h
          unfold Rel
          exact ⟨_, rfl, Rels.cons (Rel.cd (c := .ff)) Rels.nil⟩
        · rw [hleft] at he
          obtain ⟨i, hilt, hie⟩ := List.getElem_of_mem he
          have hi' : (es.toList.filter fun e => !seen.contains e.born)[i]? = some e := by rw [List.getElem?_eq_getElem hilt, hie]
          obtain ⟨p, hp, hp1, hp2⟩ := hrem.get hi'
          have hil : i < rem.length := (List.getElem?_eq_some_iff.1 hp).1
          rw [if_neg (by show ¬ (rem.length : Int) = 0; omega)] at h
          have hK := (allK_some h).2 (i : Int) (by omega) (by show (i : Int) < (rem.length : Int); omega)
          have hrd : rd (dflt a1, dflt b1) rem (i : Int) = p := by
            unfold rd; rw [Int.toNat_natCast, List.getD_eq_getElem?_getD, hp]; rfl
          have hdel : del rem (i : Int) = rem.eraseIdx i := by unfold del; rw [Int.toNat_natCast]
          rw [hrd, hdel] at hK
          have hcl := (Array.getElem?_eq_some_iff.1 hc).1
          have hw1h : w1.heap = w.heap ∧ w1.os = w.os ∧ w1.tape = w.tape ∧ w1.output = w.output := by rcases hw1 with rfl | rfl <;> exact ⟨rfl, rfl, rfl, rfl⟩
          have hW' : WF w0 g (σ.setObj id (.map a1 b1 nn l 1 (rem.eraseIdx i) (some p))).mem (Go.ChangeMaps.setBlock w1 c (.mapIter (some r0) clock (seen.push e.born) clock)) := by
            refine hW.write hm (by simp [AO.stays, AO.goes]) (fun k _ hk => ?_) ?_ hw1h.2.1 hw1h.2.2.1 hw1h.2.2.2 (by show w.drawn ≤ w1.drawn; rcases hw1 with rfl | rfl; exact Nat.le_refl _; exact Nat.le_succ _) ⟨haf, .inr ⟨r0, es, clock, e1, hr0, ?_, hst, hl, fun _ => ⟨c, seen.push e.born, e2, hc0, hne, ?_, ?_, fun q hq => ?_⟩⟩⟩ (fun b hb => hb)
            · show (w1.heap.setIfInBounds c _)[k]? = _
              rw [hw1h.1]
              exact heap_set_other _ (fun q => hk (.inr ⟨rfl, c, e2, q.symm⟩))
            · show _ ≤ (w1.heap.setIfInBounds c _).size
              rw [hw1h.1]; simp
            · show (w1.heap.setIfInBounds c _)[r0]? = _
              rw [hw1h.1, heap_set_other _ (fun q => hne q.symm)]; exact hh
            · show (w1.heap.setIfInBounds c _)[c]? = _
              rw [hw1h.1]; exact heap_set_self _ hcl
            · rw [filter_del es.toList seen i e hst.2 hi']
              exact hrem.del i
            · cases hq
              exact ⟨e, by simp, (List.mem_filter.1 he).1, hp1, hp2⟩
          have hrun' : (execOp a.eval ⟨dst, .next it false, type, pos, after, guard⟩).run P w = .ok (.value (.tuple #[.bool true, e.key, e.val])) (Go.ChangeMaps.setBlock w1 c (.mapIter (some r0) clock (seen.push e.born) clock)) := by
            simp only [execOp, Sem.run_bind]
            rw [e0, e2, hrun]; rfl
          unfold Oper.wp
          rw [hrun']
          refine hN _ _ _ _ ((hE.step (σ' := σ.setObj id (.map a1 b1 nn l 1 (rem.eraseIdx i) (some p))) (stay _ _) rfl).put dst ?_) (by rw [put_mem]; exact hW') hK
          unfold Rel
          exact ⟨_, rfl, Rels.cons (Rel.cd (c := .tt)) (Rels.cons (mkD_rel (flat hp1)) (Rels.cons (mkD_rel (flat hp2)) Rels.nil))⟩
      · cases h
    · cases h
  case makeSlice t l c =>
    simp only [opK] at h
    split at h
    · rename_i e s x y he hs hx hy
      rw [br_val] at h
      simp only [Cd.val, decide_eq_true_eq] at h
      split at h
      · rename_i hb
        rw [br_val] at h
        simp only [Cd.val, decide_eq_true_eq] at h
        split at h
        · rename_i hxy
          subst hxy
          obtain ⟨h0, _, hmx⟩ := hb
          obtain ⟨e', hu, he', hok⟩ := elemSh_some hs
          rw [he] at he'
          cases he'
          obtain ⟨i, z, hi, hz, hsz, hzc, hpos, hzr⟩ := elemOk_some hok
          obtain ⟨kl, el⟩ := intOf_rel hx (hE.opnd l)
          obtain ⟨kc, ec⟩ := intOf_rel hy (hE.opnd c)
          have hbt : bytesT P e = i.bytes := by unfold bytesT; rw [hi]
          have hm := most_le (bytesT P e) x.toNat (by omega)
          rw [hbt] at hm
          have hxn : ((x.toNat : Nat) : Int) = x := by omega
          have hrun := run_make (P := P) w t e i z hu hi hz kl kc x x h0 (Int.le_refl _)
            (by have := hm.1; rw [Nat.mul_comm] at this; have h3 : ((i.bytes * x.toNat : Nat) : Int) ≤ 35184372088832 := by omega
                rw [Int.natCast_mul, hxn] at h3; omega) (by omega)
          have hrep : RepL (RepC (g.sel true) s) (reps x (dflt s)) (madeCells z.cells (x.toNat * i.size)).toList := by
            have := made_rep (hzr (g.sel true)) (by omega) x.toNat
            rw [hzc] at this
            rw [hsz]
            simpa [madeCells, reps, hzc] using this
          have hlen : (reps x (dflt s)).length = x.toNat := by simp [reps]
          have hown0 : (w.alloc (.cells (madeCells z.cells (x.toNat * i.size)) e)).ownsRow g.n0 e s.size (.slice (some ⟨w.heap.size, 0, none⟩) x.toNat x.toNat) (reps x (dflt s)).length (madeCells z.cells (x.toNat * i.size)).toList := by
            rw [hlen]
            refine ⟨by simp [madeCells, hsz], .inr ⟨w.heap.size, x.toNat, _, rfl, hW.base, heap_alloc_new w _, Nat.le_refl _, by unfold maxLen; omega, by rw [size_madeCells, hsz], ?_⟩⟩
            rw [List.take_of_length_le]
            simp [madeCells, hsz]
          have hown := OwnR.of hown0
          have := newRow_ok hE hW (Grown.alloc w _ none) (by simp) (by simp) hown hrep hpos (fun b hb => .inr (Nat.le_of_eq (rowBlk_new hb).symm)) dst hN h
          have hrun' : (execOp a.eval ⟨dst, .makeSlice t l c, type, pos, after, guard⟩).run P w = .ok (.value (.slice (some ⟨w.heap.size, 0, none⟩) x.toNat x.toNat)) (w.alloc (.cells (madeCells z.cells (x.toNat * i.size)) e)) := by
            simp only [execOp, Sem.run_bind]
            rw [el, ec, hrun]; rfl
          unfold Oper.wp
          rw [hrun']
          exact this
        · cases h
      · cases h
    · cases h
  case store t p x =>
    simp only [opK, storeK] at h
    have fin : ∀ {g' : Gh} {σ' : St} {w' : World} (v : Value), a.eval p = v → (Instr.storeAt t v (a.eval x)).run P w = .ok () w' → EnvR g' σ' a → WF w0 g' σ'.mem w' → K (σ'.put dst .undef) = some r →
        Oper.wp P ⟨dst, .store t p x, type, pos, after, guard⟩ a w N Q := fun {g' σ' w'} v hv hrun hE' hW' hK => by
      have hrun' : (execOp a.eval ⟨dst, .store t p x, type, pos, after, guard⟩).run P w = .ok .skip w' := by
        simp only [execOp, Sem.run_bind]
        rw [hv, hrun]; rfl
      unfold Oper.wp
      rw [hrun']
      exact hN g' _ _ _ (hE'.put dst Rel.undef) (by rw [put_mem]; exact hW') hK
    split at h
    · rename_i id off hp
      split at h
      · rename_i l cs ho hc
        split at h
        · rename_i hcond
          have hm := obj_some ho (by simp)
          have e := hE.opnd p
          rw [hp] at e
          unfold Rel at e
          obtain ⟨_, o, ho', e⟩ := e
          rw [hm] at ho'; cases ho'
          simp only at e
          obtain ⟨w', hrun, hW', _⟩ := storeBox_ok (P := P) (t := t) hE hW hm hc hcond.1 hcond.2.1 hcond.2.2
          refine fin _ e hrun (hE.step (σ' := σ.setObj id (.box (setCells l off cs))) ?_ rfl) hW' h
          exact ⟨rfl, fun _ _ _ h => h, fun _ _ _ h => h, fun j q hj => by
            by_cases e : j = id
            · subst e
              rw [hm] at hj
              cases hj
              exact ⟨_, by show (σ.mem.set j _)[j]? = _; rw [List.getElem?_set_self (List.getElem?_eq_some_iff.1 hm).1], by simp [AO.stays, AO.goes]⟩
            · exact ⟨q, by show (σ.mem.set id _)[j]? = _; rw [List.getElem?_set_ne (fun q => e q.symm)]; exact hj, by cases q <;> simp [AO.stays, AO.goes]⟩⟩
        · cases h
      · cases h
    · obtain ⟨g', hE', hW'⟩ := freezeAll_ok (AV.refs (opnd σ x)) hE hW
      split at h
      · rename_i id i off hp
        split at h
        · rename_i s l fr s' ho hs
          split at h
          · rename_i hn0
            split at h
            · rename_i y f hd
              split at h
              · rename_i z hz
                have h : K (((σ.freezeAll (AV.refs (opnd σ x))).setObj id (.row s (put l i z) (fr && f))).put dst .undef) = some r := h
                have hm := obj_some ho (by simp)
                have e := hE'.opnd p
                rw [hp] at e
                unfold Rel at e
                obtain ⟨_, o, ho', e⟩ := e
                rw [hm] at ho'; cases ho'
                simp only at e
                obtain ⟨h0, hi, b, hb, e⟩ := e
                obtain ⟨w', hrun, hW2⟩ := storeRow_ok (P := P) (t := t) hE' hW' hm hs hd hz h0 hi hn0 hb
                refine fin _ e hrun (hE'.step (σ' := (σ.freezeAll (AV.refs (opnd σ x))).setObj id (.row s (put l i z) (fr && f))) ?_ rfl) hW2 h
                exact ⟨rfl, fun _ _ _ h => h, fun _ _ _ h => h, fun j q hj => by
                  by_cases e : j = id
                  · subst e
                    rw [hm] at hj
                    cases hj
                    exact ⟨_, by show (List.set _ j _)[j]? = _; rw [List.getElem?_set_self (List.getElem?_eq_some_iff.1 hm).1], by simp [AO.stays, AO.goes, put]⟩
                  · exact ⟨q, by show (List.set _ id _)[j]? = _; rw [List.getElem?_set_ne (fun q => e q.symm)]; exact hj, by cases q <;> simp [AO.stays, AO.goes]⟩⟩
              · cases h
            · cases h
          · cases h
        · cases h
      · cases h
    · cases h
  case call c =>
    obtain ⟨callee, args, argTypes⟩ := c
    cases callee with
    | invoke => simp [opK] at h
    | builtin b =>
      cases b <;> first | (simp [quietK] at hq; done) | (simp [opK] at h; done) | skip
      simp only [opK] at h
      split at h
      · rename_i x y t t' hx ht
        split at h
        · cases h
        · rename_i htt
          have htt' : t' = t := by simpa using htt
          subst htt'
          have hx' : args = #[x, y] := by rw [← Array.toArray_toList (xs := args), hx]
          have ht' : argTypes = #[t', t'] := by rw [← Array.toArray_toList (xs := argTypes), ht]
          subst hx' ht'
          unfold appendK at h
          split at h
          · rename_i e s he hs
            obtain ⟨e', hu, he', hok⟩ := elemSh_some hs
            rw [he] at he'
            cases he'
            obtain ⟨i, z, hi, hz, hsz, hzc, hpos, hzr⟩ := elemOk_some hok
            have hbt : bytesT P e = i.bytes := by unfold bytesT; rw [hi]
            split at h
            · rename_i b fb hb
              obtain ⟨ya, yc, news, ey, hrep, hsrc⟩ := src_ok hW hb (hE.opnd y)
              have hnl := RepL.len (fun x c h => RepC.len s x c h) _ _ hrep
              have hn1 := RepL.one (fun x c h => RepC.one s x c h) _ _ hrep
              have fin : ∀ {σ1 : St} {l : List (sem s)} {fr : Bool} {v : Value} {e1 : TypeId} {xs : List Value}, EnvR g σ1 a → WF w0 g σ1.mem w → a.eval x = v → OwnR w g.n0 e1 s.size v l.length xs → RepL (RepC (g.sel fr) s) l xs →
                  l.length + b.length ≤ most (bytesT P e) → (∀ (id : Nat) (o : AO) (c : Nat), σ1.mem[id]? = some o → o.has g id c → rowBlk v ≠ some c) →
                  (∀ c, rowBlk v = some c → (∀ off, g.fz c off = none) ∧ (g.n0 ≤ c ∧ c < w.heap.size) ∧ (w0.w.heap.size ≤ c ∨ w0.io c = true)) →
                  K ((σ1.new (.row s (app l b) (fr && fb))).put dst (.ref σ1.mem.length)) = some r → Oper.wp P ⟨dst, .call ⟨.builtin .append, #[x, y], #[t', t']⟩, type, pos, after, guard⟩ a w N Q := by
                intro σ1 l fr v e1 xs hE1 hW1 hv hown hxs hmost hne hrf hK
                have hmm := most_le _ _ hmost
                rw [hbt] at hmm
                obtain ⟨v', w', e2, hrun, hown', hgb, hblk⟩ := append_ok (P := P) g.n0 t' type e e1 i z s.size hu hi hz hsz hzc hpos v l.length xs hown ya b.length yc news hnl
                  (hsrc.imp (fun q => q) (fun ⟨ad, q1, q2⟩ => ⟨ad, q1, q2⟩)) hn1 hmm.1 hmm.2 hW1.base
                have hfn : ∀ b o v, g.fn b o = some v → g.fz b o = some v := fun b o v hv => (hW1.fnz b o v hv).1
                have hlapp : List.length (app l b : List (sem s)) = l.length + List.length (b : List (sem s)) := List.length_append (as := l) (bs := b)
                have := newRow_ok (l := (app l b : List (sem s))) hE1 hW1 hgb hne hrf (by rw [hlapp]; exact hown')
                  (RepL.append _ _ _ _ (hxs.imp (fun x c h => RepC.mono (sel_le hfn (f := fr) (f' := fr && fb) (by simp; intro a _; exact a)) s x c h) _ _) (hrep.imp (fun x c h => RepC.mono (sel_le hfn (f := fb) (f' := fr && fb) (by simp)) s x c h) _ _)) hpos (fun c hc => (hblk c hc).imp id fun q => Nat.le_of_eq q.symm) dst hN hK
                have hrun' : (execOp a.eval ⟨dst, .call ⟨.builtin .append, #[x, y], #[t', t']⟩, type, pos, after, guard⟩).run P w = .ok (.value v') w' := by
                  simp only [execOp, Sem.run_bind, resolve, Sem.run_pure, Result.andThen_ok, invoke, builtin, List.map_toArray, List.map_cons, List.map_nil]
                  rw [hv, ey, hrun]; rfl
                unfold Oper.wp
                rw [hrun']
                exact this
              split at h
              · rename_i hxn
                rw [br_val] at h
                simp only [Cd.val, decide_eq_true_eq] at h
                split at h
                · rename_i hm
                  have ex := hE.opnd x
                  rw [hxn] at ex
                  unfold Rel at ex
                  refine fin (l := []) (fr := true) (xs := []) hE hW ex (OwnR.nil w _ e s.size none) rfl (by simpa using hm) (fun id o c _ _ => by simp [rowBlk]) (fun c hc => by simp [rowBlk] at hc) ?_
                  exact h
                · cases h
              · rename_i id hxr
                split at h
                · rename_i s' al f ho
                  split at h
                  · rename_i al' hcast
                    obtain ⟨ec, ec'⟩ := cast?_some hcast
                    cases ec
                    have ec'' : al = al' := ec'
                    subst ec''
                    rw [br_val] at h
                    simp only [Cd.val, decide_eq_true_eq] at h
                    split at h
                    · rename_i hm
                      have hmem := obj_some ho (by simp)
                      have e := hE.opnd x
                      rw [hxr] at e
                      unfold Rel at e
                      obtain ⟨_, o, ho', e⟩ := e
                      rw [hmem] at ho'; cases ho'
                      simp only at e
                      obtain ⟨_, e1, xs, hown, hxs⟩ := hW.own id _ hmem
                      refine fin (σ1 := σ.setObj id .gone) (hE.step (Stays.gone id) rfl) (hW.gone id) e hown hxs hm (fun j o c hj hc hbk => ?_) (fun c hc => ?_) ?_
                      · rcases set_some hj with ⟨rfl, rfl⟩ | ⟨hne, hj⟩
                        · exact hc.elim
                        · exact (hW.apart id _ c hmem hbk).2 j o hne hj hc
                      · exact ⟨(hW.apart id _ c hmem hc).1, (hW.own id _ hmem).has_lt hc, hW.mine id _ c hmem hc⟩
                      · have hl : (σ.setObj id .gone).mem.length = σ.mem.length := by simp [St.setObj]
                        rw [hl]; exact h
                    · cases h
                  · cases h
                · cases h
              · cases h
            · cases h
          · cases h
      · cases h
      simp only [opK] at h
      split at h
      · rename_i x t hx ht
        have hx' : args = #[x] := by rw [← Array.toArray_toList (xs := args), hx]
        have ht' : argTypes = #[t] := by rw [← Array.toArray_toList (xs := argTypes), ht]
        subst hx' ht'
        split at h
        · rename_i id i n s' hsub hs
          split at h
          · rename_i s l fr ho
            split at h
            · rename_i hss
              subst hss
              have h : K ((σ.setObj id (.row s (zap (dflt s) l i n) fr)).put dst (.tup [])) = some r := by simpa [bnd] using h
              have hm := obj_some ho (by simp)
              obtain ⟨e, hu, he, hok⟩ := elemSh_some hs
              obtain ⟨ti, z, hi, hz, hsz, hzc, hpos, hzr⟩ := elemOk_some hok
              have hR := hE.opnd x
              rw [hsub] at hR
              unfold Rel at hR
              obtain ⟨_, o, ho', hR⟩ := hR
              rw [hm] at ho'
              cases ho'
              simp only at hR
              obtain ⟨g0, g1, g2, hv⟩ := hR
              obtain ⟨_, e2, xs, hown, hrep⟩ := hW.own id _ hm
              have hzl : (zap (dflt s) l i n).length = l.length := by unfold zap; simp; omega
              have fin : ∀ {w' : World}, (Builtin.clear_ #[t] type #[a.eval x]).run P w = .ok (.tuple #[]) w' → WF w0 g (σ.setObj id (.row s (zap (dflt s) l i n) fr)).mem w' → Oper.wp P ⟨dst, .call ⟨.builtin .clear, #[x], #[t]⟩, type, pos, after, guard⟩ a w N Q := fun {w'} hrun hW' => by
                have hrun' : (execOp a.eval ⟨dst, .call ⟨.builtin .clear, #[x], #[t]⟩, type, pos, after, guard⟩).run P w = .ok (.value (.tuple #[])) w' := by
                  simp only [execOp, Sem.run_bind, resolve, Sem.run_pure, Result.andThen_ok, invoke, builtin, List.map_toArray, List.map_cons, List.map_nil]
                  rw [hrun]; rfl
                unfold Oper.wp
                rw [hrun']
                refine hN g _ _ _ ((hE.step (σ' := σ.setObj id (.row s (zap (dflt s) l i n) fr)) ⟨rfl, fun _ _ _ h => h, fun _ _ _ h => h, fun j q hj => ?_⟩ rfl).put dst ?_) (by rw [put_mem]; exact hW') h
                · by_cases e : j = id
                  · subst e
                    rw [hm] at hj
                    cases hj
                    exact ⟨_, List.getElem?_set_self (List.getElem?_eq_some_iff.1 hm).1, rfl, hzl, rfl⟩
                  · exact ⟨q, by show (σ.mem.set id _)[j]? = _; rw [List.getElem?_set_ne (fun q => e q.symm)]; exact hj, AO.goes.refl _ _ _⟩
                · unfold Rel; exact ⟨#[], rfl, Rels.nil⟩
              by_cases hn : n = 0
              · subst hn
                have hz0 : zap (dflt s) l i 0 = l := by unfold zap; simp
                obtain ⟨p, c, e1, _⟩ := own_slice hown
                refine fin (w' := w) ?_ ?_
                · rw [hv, e1]
                  unfold subV
                  simp only [Int.toNat_zero]
                  generalize (if c = i.toNat then p else p.map (·.add (i.toNat * s.size))) = p'
                  cases p' <;> simp [Builtin.clear_, run_underlying hu]
                · rw [hz0]
                  have : (σ.setObj id (.row s l fr)).mem = σ.mem := by
                    show σ.mem.set id _ = _
                    apply List.ext_getElem?
                    intro j
                    by_cases e : j = id
                    · subst e
                      rw [List.getElem?_set_self (List.getElem?_eq_some_iff.1 hm).1, hm]
                    · rw [List.getElem?_set_ne (fun q => e q.symm)]
                  rw [this]; exact hW
              · rcases hown.2 with ⟨e3, _⟩ | ⟨q, cap, cur, e1, hbq, hg, hle, hcap, hcs, htk⟩
                · omega
                · have hN1 : n.toNat ≠ 0 := by omega
                  have hrepz : RepL (RepC (g.sel fr) s) (List.replicate n.toNat (dflt s)) (Builtin.zeroCells z.cells n.toNat).toList := by
                    have := made_rep (hzr (g.sel fr)) (by omega) n.toNat
                    simpa [Builtin.zeroCells] using this
                  have hzlen : (Builtin.zeroCells z.cells n.toNat).toList.length = n.toNat * s.size := by rw [Array.length_toList, size_zeroCells, hzc]
                  have hin : (i.toNat + n.toNat) * s.size ≤ (cap + 1) * s.size := Nat.mul_le_mul_right _ (by omega)
                  have hst := run_storeCells_at (P := P) q (i.toNat * s.size) e2 (Builtin.zeroCells z.cells n.toNat).toList 0 cur w hg (by rw [hzlen, hcs, Nat.add_zero, ← Nat.add_mul]; exact hin) (by
                    intro u hu'
                    exact RepL.one (fun x c h => RepC.one s x c h) _ _ hrepz u hu')
                  refine fin (w' := w.setRow q (cur.toList.take (i.toNat * s.size + 0) ++ (Builtin.zeroCells z.cells n.toNat).toList ++ cur.toList.drop (i.toNat * s.size + 0 + (Builtin.zeroCells z.cells n.toNat).toList.length)).toArray) ?_ ?_
                  · rw [hv, e1]
                    have e4 : ¬ cap + 1 = i.toNat := by omega
                    obtain ⟨m, hm1⟩ : ∃ m, n.toNat = m + 1 := ⟨n.toNat - 1, by omega⟩
                    rw [hm1] at hst ⊢
                    simp [Builtin.clear_, run_underlying hu, subV, e4, hm1, addr_add, zeroValue, typeInfo, hi, hz]
                    have hst' := hst
                    simp at hst'
                    rw [hst']; rfl
                  · have hA : i.toNat * s.size + n.toNat * s.size ≤ l.length * s.size := by rw [← Nat.add_mul]; exact Nat.mul_le_mul_right _ (by omega)
                    have hL : l.length * s.size ≤ cur.size := by rw [hcs]; exact Nat.mul_le_mul_right _ hle
                    rw [Nat.add_zero, hzlen]
                    generalize (Builtin.zeroCells z.cells n.toNat).toList = Z at hzlen hrepz
                    generalize hC : cur.toList.take (i.toNat * s.size) ++ Z ++ cur.toList.drop (i.toNat * s.size + n.toNat * s.size) = C
                    have hCs : C.length = cur.size := by rw [← hC]; simp [hzlen]; omega
                    have htake : C.take (l.length * s.size) = xs.take (i.toNat * s.size) ++ (Z ++ xs.drop ((i.toNat + n.toNat) * s.size)) := by
                      have hAl : (cur.toList.take (i.toNat * s.size)).length = i.toNat * s.size := by rw [List.length_take, Array.length_toList]; omega
                      rw [← hC, ← htk, Nat.add_mul, List.take_take, Nat.min_eq_left (show i.toNat * s.size ≤ l.length * s.size by omega), List.drop_take, List.append_assoc, List.take_append, hAl, List.take_of_length_le (l := cur.toList.take (i.toNat * s.size)) (by omega), List.take_append, hzlen, List.take_of_length_le (l := Z) (by omega)]
                      congr 3
                      omega
                    refine hW.write (o' := .row s (zap (dflt s) l i n) fr) hm ⟨rfl, hzl, rfl⟩ (fun k _ hk => setRow_other w q k _ (fun e => hk (by show rowBlk (g.rv id) = some k; rw [e1, e]; rfl))) (by simp) rfl rfl rfl (Nat.le_refl _)
                      ⟨hpos, e2, _, ⟨?_, .inr ⟨q, cap, C.toArray, by rw [hzl]; exact e1, hbq, setRow_heap w q cur _ e2 _ hg, by rw [hzl]; exact hle, hcap, by rw [List.size_toArray, hCs, hcs], rfl⟩⟩, ?_⟩ (fun _ h => h)
                    · rw [List.length_take, hzl, hCs]; omega
                    · rw [hzl]
                      show RepL _ _ (C.take (l.length * s.size))
                      rw [htake]
                      exact RepL.append _ _ _ _ (RepL.take (fun x c h => RepC.len s x c h) l xs hrep i.toNat) (RepL.append _ _ _ _ hrepz (RepL.drop (fun x c h => RepC.len s x c h) l xs hrep (i.toNat + n.toNat)))
            · cases h
          · cases h
        · cases h
      · cases h
    | value f =>
      simp only [opK] at h
      split at h
      · rename_i f' caps hf
        split at h
        · rename_i M hmd
          exact Oper.wp_mono (fun a' u hh => by obtain ⟨v, rfl, hn, _⟩ := hh; exact hn) (mp_op hf hmd h (a2 := a) rfl hE hW hΦ hN Q)
        unfold callK at h
        simp only [quietK] at hq
        split at h
        · cases h
        · rename_i τ hτ
          have hargs : ∀ {g1 : Gh} {σ1 : St}, EnvR g1 σ1 a → ∃ vs : Array Value, (∀ f'' caps', opnd σ1 f = .fn f'' caps' → a.eval f = .func (.func f'') #[] vs) ∧
              Rels g1 σ1.mem (args.toList.map (opnd σ1) ++ (match opnd σ1 f with | .fn _ caps => caps | _ => [])) (args.map a.eval ++ vs).toList := by
            intro g1 σ1 hE1
            have hm : Rels g1 σ1.mem (args.toList.map (opnd σ1)) (args.map a.eval).toList := by
              rw [Array.toList_map]
              induction args.toList with
              | nil => exact Rels.nil
              | cons c cs ih => exact Rels.cons (hE1.opnd c) ih
            cases hfo : opnd σ1 f with
            | fn f2 caps2 =>
              have e := hE1.opnd f
              rw [hfo] at e
              unfold Rel at e
              obtain ⟨vs, e, hvs⟩ := e
              exact ⟨vs, fun f'' caps' q => by cases q; exact e, by rw [Array.toList_append]; exact Rels.append hm hvs⟩
            | _ => exact ⟨#[], (fun f'' caps' q => by cases q), by simpa using hm⟩
          have hfv : ∀ vs : Array Value, a.eval f = .func (.func f') #[] vs → (∀ args w, (callFunc f' args).run P w = .ok (.enter f' args) w) →
              (execOp a.eval ⟨dst, .call ⟨.value f, args, argTypes⟩, type, pos, after, guard⟩).run P w = .ok (.enter f' (args.map a.eval ++ vs)) w := fun vs e hent => by
            simp [execOp, resolve, e, Deferred.ofValue, invoke, hent]
          split at h
          · rename_i htup
            split at h
            · rename_i hfr
              rw [Bool.or_eq_true] at hfr
              obtain ⟨x, hx, hK⟩ := bnd_some h
              obtain ⟨hent, hcalls⟩ := (hΦ f').1 htup.1 _ _ _ _ hx
              obtain ⟨vs, hv, hrels⟩ := hargs hE
              unfold Oper.wp
              rw [hfv vs (hv _ _ hf) hent]
              refine (hcalls w _ (allOf w) hW.tab (fun b o v h => h) (normAs_rel fn_none _ _ _ (lendAs_rel hW.lends _ _ _ hrels))).mono ?_
              rintro e w' ⟨v, fz', rfl, hb, hc, _, _, hr⟩
              refine called_ok hE hW hb hc (fr := true) ?_ (by simp) dst hN hK
              rcases hfr with hfr | hfr
              · exact hr.flat hfr
              · rw [hfr] at hr; exact hr
            · rename_i hfr
              have hfr' : frs.contains f' = false := by simp only [Bool.or_eq_true, not_or, Bool.not_eq_true] at hfr; exact hfr.2
              obtain ⟨g1, hE1, hW1⟩ := freezeAll_ok (AV.refsL (args.toList.map (opnd σ) ++ (match opnd σ f with | .fn _ caps => caps | _ => []))) hE hW
              dsimp only at h
              obtain ⟨hno, h⟩ := ite_none h
              obtain ⟨x, hx, hK⟩ := bnd_some h
              obtain ⟨hent, hcalls⟩ := (hΦ f').1 htup.1 _ _ _ _ hx
              obtain ⟨vs, hv, hrels⟩ := hargs hE1
              simp only [Bool.and_eq_true] at hno
              obtain ⟨hno, hchk⟩ := hno
              split at hchk
              · rename_i f2 caps2 hf2
                have hf2' : f2 = f' := by simpa using hchk
                subst hf2'
                unfold Oper.wp
                rw [hfv vs (hv _ _ hf2) hent]
                have hfn : ∀ b o v, g1.fn b o = some v → g1.fz b o = some v := fun b o v hv => (hW1.fnz b o v hv).1
                refine (hcalls w _ g1.fz hW1.tab hW1.fzc (normAs_rel fn_none _ _ _ (lendAs_rel (lends_none hfn) _ _ _ (noIds_rel (m' := []) _ hno _ hrels)))).mono ?_
                rintro e w' ⟨v, fz', rfl, hb, hc, _, hold, hr⟩
                rw [hfr'] at hr
                exact called_ok hE1 hW1 hb hc (fr := false) hr (fun _ => hold) dst hN hK
              · cases hchk
          · cases h
      · cases h
  all_goals first | (simp [quietK] at hq; done) | (simp [opK] at h; done) | skip
  case convert s d x =>
    cases hd : P.underlying d with
    | none => simp [quietK, hd] at hq
    | some dd =>
      cases dd <;> simp [quietK, hd] at hq
      cases hb : bytesT2 P s d (opnd σ x) with
      | none =>
        simp only [opK, hb] at h
        simp [convK, hd] at h
      | some q =>
        simp only [opK, hb] at h
        have hv := hE.opnd x
        unfold bytesT2 at hb
        split at hb
        · rename_i e2 s2 f2 h1 h2 h3
          split at hb
          · rename_i h4
            cases hb
            rw [h3] at hv
            have hv := hv.str_inv
            have := bytes_made (e := e2) hE hW dst hN h (w' := Go.Lib.bytesWorld w e2 q) rfl
            unfold Oper.wp
            rw [show (execOp a.eval ⟨dst, .convert s d x, type, pos, after, guard⟩).run P w = .ok (.value (.slice (some ⟨w.heap.size, 0, none⟩) q.size (grownCap w q.size 0 e2))) (Go.Lib.bytesWorld w e2 q) by simp [execOp, hv, Go.Lib.run_convert_string_bytes w s d _ q h1 h2 h4]]
            exact this
          · cases hb
        · cases hb
/-- a store into one's own box, at a state whose slots may lack what the store does not look at -/
theorem store_ok {σ : St} {k : Nat} {o : Oper} {K : St → Option ω} {t : TypeId} {p x : Operand} {id off : Nat} (hop : o.op = .store t p x) (hp : opnd σ p = .ptr id off) (h : opK P Φ frs σ k o K = some r) {a a2 : Act} (hx2 : execOp a2.eval o = execOp a.eval o) (hE : EnvR g σ a) (hW : WF w0 g σ.mem w)
    {N : Act → World → Prop} (hN : Next w0 r K N) (Q : Exit → Act → World → Prop) : o.wp P a2 w (fun a' w' => ∃ v, a' = a2.put o.dst v ∧ N (a.put o.dst v) w' ∧ ∀ j, j ≠ g.bl id → w'.heap[j]? = w.heap[j]?) Q := by
  obtain ⟨dst, op, type, pos, after, guard⟩ := o
  simp only at hop
  subst hop
  simp only [opK, storeK, hp] at h
  split at h
  · rename_i l cs ho hc
    split at h
    · rename_i hcond
      have hm := obj_some ho (by simp)
      have e := hE.opnd p
      rw [hp] at e
      unfold Rel at e
      obtain ⟨_, o, ho', e⟩ := e
      rw [hm] at ho'; cases ho'
      simp only at e
      obtain ⟨w', hrun, hW', hoth⟩ := storeBox_ok (P := P) (t := t) hE hW hm hc hcond.1 hcond.2.1 hcond.2.2
      have hs : Stays g g σ.mem (σ.setObj id (.box (setCells l off cs))).mem := ⟨rfl, fun _ _ _ h => h, fun _ _ _ h => h, fun j q hj => by
        by_cases e : j = id
        · subst e
          rw [hm] at hj
          cases hj
          exact ⟨_, by show (σ.mem.set j _)[j]? = _; rw [List.getElem?_set_self (List.getElem?_eq_some_iff.1 hm).1], by simp [AO.stays, AO.goes]⟩
        · exact ⟨q, by show (σ.mem.set id _)[j]? = _; rw [List.getElem?_set_ne (fun q => e q.symm)]; exact hj, by cases q <;> simp [AO.stays, AO.goes]⟩⟩
      have hE' := hE.step (σ' := σ.setObj id (.box (setCells l off cs))) hs rfl
      have hrun' : (execOp a2.eval ⟨dst, .store t p x, type, pos, after, guard⟩).run P w = .ok .skip w' := by
        rw [hx2]
        simp only [execOp, Sem.run_bind]
        rw [e, hrun]; rfl
      unfold Oper.wp
      rw [hrun']
      exact ⟨_, rfl, hN g _ _ _ (hE'.put dst Rel.undef) (by rw [put_mem]; exact hW') h, hoth⟩
    · cases h
  · cases h
/-- a call at a state whose slots may lack what the call does not look at -/
theorem call_ok {σ : St} {k : Nat} {o : Oper} {K : St → Option ω} (hcall : isCall frs o = true) (hq : ¬ quietK P frs o = true) (h : opK P Φ frs σ k o K = some r) {a a2 : Act} (hx2 : execOp a2.eval o = execOp a.eval o) (hE : EnvR g σ a) (hW : WF w0 g σ.mem w)
    (hΦ : ∀ f, SoundX w0.tb P f (Φ f) frs) {N : Act → World → Prop} (hN : Next w0 r K N) (Q : Exit → Act → World → Prop) : o.wp P a2 w (fun a' w' => ∃ v, a' = a2.put o.dst v ∧ N (a.put o.dst v) w' ∧ From w w') Q := by
  obtain ⟨dst, op, type, pos, after, guard⟩ := o
  cases op <;> first | (simp [isCall] at hcall; done) | skip
  rename_i c
  obtain ⟨callee, args, argTypes⟩ := c
  cases callee <;> first | (simp [isCall] at hcall; done) | skip
  rename_i f
  simp only [opK] at h
  split at h
  · rename_i f' caps hf
    split at h
    · rename_i M hmd
      have hmv : M.mv = [] := by
        unfold isCall isMv at hcall
        unfold modeAt at hmd
        cases f with
        | func fi =>
          have : fi = f' := by cases hf; rfl
          subst this
          simp only at hcall hmd
          cases hm : frs.mode fi with
          | none => rw [hm] at hmd; cases hmd
          | some M' =>
            rw [hm] at hmd hcall
            cases hmd
            simpa [List.isEmpty_iff] using hcall
        | tmp t =>
          simp only [Bool.not_eq_true'] at hcall
          have hn := modeAt_none (frs := frs) (x := .tmp t) hf (by unfold isM; exact hcall)
          unfold modeAt at hn
          rw [hn] at hmd; cases hmd
        | const v => cases hm : frs.mode f' <;> rw [hm] at hmd <;> cases hmd
        | global q => cases hm : frs.mode f' <;> rw [hm] at hmd <;> cases hmd
      exact Oper.wp_mono (fun a' u hh => by obtain ⟨v, rfl, hn, hb⟩ := hh; exact ⟨v, rfl, hn, hb hmv⟩) (mp_op hf hmd h hx2 hE hW hΦ hN Q)
    unfold callK at h
    simp only [quietK] at hq
    split at h
    · cases h
    · rename_i τ hτ
      have hargs : ∀ {g1 : Gh} {σ1 : St}, EnvR g1 σ1 a → ∃ vs : Array Value, (∀ f'' caps', opnd σ1 f = .fn f'' caps' → a.eval f = .func (.func f'') #[] vs) ∧
          Rels g1 σ1.mem (args.toList.map (opnd σ1) ++ (match opnd σ1 f with | .fn _ caps => caps | _ => [])) (args.map a.eval ++ vs).toList := by
        intro g1 σ1 hE1
        have hm : Rels g1 σ1.mem (args.toList.map (opnd σ1)) (args.map a.eval).toList := by
          rw [Array.toList_map]
          induction args.toList with
          | nil => exact Rels.nil
          | cons c cs ih => exact Rels.cons (hE1.opnd c) ih
        cases hfo : opnd σ1 f with
        | fn f2 caps2 =>
          have e := hE1.opnd f
          rw [hfo] at e
          unfold Rel at e
          obtain ⟨vs, e, hvs⟩ := e
          exact ⟨vs, fun f'' caps' q => by cases q; exact e, by rw [Array.toList_append]; exact Rels.append hm hvs⟩
        | _ => exact ⟨#[], (fun f'' caps' q => by cases q), by simpa using hm⟩
      have hfv : ∀ vs : Array Value, a.eval f = .func (.func f') #[] vs → (∀ args w, (callFunc f' args).run P w = .ok (.enter f' args) w) →
          (execOp a.eval ⟨dst, .call ⟨.value f, args, argTypes⟩, type, pos, after, guard⟩).run P w = .ok (.enter f' (args.map a.eval ++ vs)) w := fun vs e hent => by
        simp [execOp, resolve, e, Deferred.ofValue, invoke, hent]
      split at h
      · rename_i htup
        split at h
        · rename_i hfr
          rw [Bool.or_eq_true] at hfr
          obtain ⟨x, hx, hK⟩ := bnd_some h
          obtain ⟨hent, hcalls⟩ := (hΦ f').1 htup.1 _ _ _ _ hx
          obtain ⟨vs, hv, hrels⟩ := hargs hE
          unfold Oper.wp
          rw [hx2, hfv vs (hv _ _ hf) hent]
          refine (hcalls w _ (allOf w) hW.tab (fun b o v h => h) (normAs_rel fn_none _ _ _ (lendAs_rel hW.lends _ _ _ hrels))).mono ?_
          rintro e w' ⟨v, fz', rfl, hb, hc, _, _, hr⟩
          refine ⟨_, rfl, called_ok hE hW hb hc (fr := true) ?_ (by simp) dst hN hK, hb⟩
          rcases hfr with hfr | hfr
          · exact hr.flat hfr
          · rw [hfr] at hr; exact hr
        · rename_i hfr
          have hfr' : frs.contains f' = false := by simp only [Bool.or_eq_true, not_or, Bool.not_eq_true] at hfr; exact hfr.2
          obtain ⟨g1, hE1, hW1⟩ := freezeAll_ok (AV.refsL (args.toList.map (opnd σ) ++ (match opnd σ f with | .fn _ caps => caps | _ => []))) hE hW
          dsimp only at h
          obtain ⟨hno, h⟩ := ite_none h
          obtain ⟨x, hx, hK⟩ := bnd_some h
          obtain ⟨hent, hcalls⟩ := (hΦ f').1 htup.1 _ _ _ _ hx
          obtain ⟨vs, hv, hrels⟩ := hargs hE1
          simp only [Bool.and_eq_true] at hno
          obtain ⟨hno, hchk⟩ := hno
          split at hchk
          · rename_i f2 caps2 hf2
            have hf2' : f2 = f' := by simpa using hchk
            subst hf2'
            unfold Oper.wp
            rw [hx2, hfv vs (hv _ _ hf2) hent]
            have hfn : ∀ b o v, g1.fn b o = some v → g1.fz b o = some v := fun b o v hv => (hW1.fnz b o v hv).1
            refine (hcalls w _ g1.fz hW1.tab hW1.fzc (normAs_rel fn_none _ _ _ (lendAs_rel (lends_none hfn) _ _ _ (noIds_rel (m' := []) _ hno _ hrels)))).mono ?_
            rintro e w' ⟨v, fz', rfl, hb, hc, _, hold, hr⟩
            rw [hfr'] at hr
            exact ⟨_, rfl, called_ok hE1 hW1 hb hc (fr := false) hr (fun _ => hold) dst hN hK, hb⟩
          · cases hchk
      · cases h
  · cases h
end
end Go.Den
