import Derived.Test.YtbkeooaepmiafaaDenL
import Derived.Great.BuildSlice
namespace Go.Den
open Go.RowKit (Below wrap64)
set_option linter.unusedVariables false
set_option linter.unusedSimpArgs false
section
variable {P : Program} {g : Gh} {ω : Type} {r : ω} {w0 : Ent} {w : World} {Φ : Nat → Nat → List AV → (τ : Sh) → Option (sem τ)} {frs : List Nat}
theorem ite_none {α : Type} {c : Prop} [Decidable c] {a : Option α} {r : α} (h : (if c then a else none) = some r) : c ∧ a = some r := by
  split at h
  · rename_i hc; exact ⟨hc, h⟩
  · cases h
theorem op_ok {σ : St} {k : Nat} {o : Oper} {K : St → Option ω} (h : opK P Φ frs σ k o K = some r) {a : Act} (hE : EnvR g σ a) (hW : WF w0 g σ.mem w)
    (hΦ : ∀ f, Sound P f (Φ f) (frs.contains f)) {N : Act → World → Prop} (hN : Next w0 r K N) (Q : Exit → Act → World → Prop) : o.wp P a w N Q := by
  by_cases hq : quietK P o = true
  · obtain ⟨av, v, h1, h2, h3⟩ := quiet_op hq h hE hW hΦ
    refine Oper.wp_of_quiet (C := From w) (K := fun a' => a' = a.put o.dst v) (Below.refl _ _) (fun a' w' hw' he => ?_) ⟨v, fun w' hw' => quietAt_from hw' (h3 w' hw'), rfl⟩
    subst he
    exact hN g _ _ _ (hE.put o.dst h2) (by rw [put_mem]; exact hW.later hw') h1
  obtain ⟨dst, op, type, pos, after, guard⟩ := o
  cases op
  case alloc t =>
    simp only [opK] at h
    split at h
    · rename_i l hl
      unfold zeroAV at hl
      split at hl
      · rename_i i hi
        split at hl
        · rename_i z hz
          have := newBox_ok hE hW (c := z.cells) t (valsAV_rel hl) (valsAV_one _ _ hl) dst hN h
          have hrun : (execOp a.eval ⟨dst, .alloc t, type, pos, after, guard⟩).run P w = .ok (.value (.pointer (some ⟨w.heap.size, 0, none⟩))) (w.alloc (.cells z.cells t)) := by
            simp [execOp, Instr.alloc, zeroValue, typeInfo, hi, hz, newVar, newRow]
          unfold Oper.wp
          rw [hrun]
          exact this
        · cases hl
      · cases hl
    · cases h
  case box t x =>
    simp only [opK] at h
    split at h
    · rename_i l hl
      obtain ⟨h1, h2⟩ := cellsOf_rel hl (hE.opnd x)
      have := newBox_ok hE hW (c := (a.eval x).cells) t h1 h2 dst hN h
      have hrun : (execOp a.eval ⟨dst, .box t x, type, pos, after, guard⟩).run P w = .ok (.value (.pointer (some ⟨w.heap.size, 0, none⟩))) (w.alloc (.cells (a.eval x).cells t)) := by
        simp [execOp, Instr.box, newVar, newRow]
      unfold Oper.wp
      rw [hrun]
      exact this
    · cases h
  case buildSlice t n ps =>
    simp only [opK] at h
    split at h
    · rename_i s hs
      split at h
      · rename_i hb
        split at h
        · rename_i l f hrow
          split at h
          · rename_i hln
            obtain ⟨g', hE', hW'⟩ := freezeAll_ok (AV.refsL (ps.toList.map fun p => opnd σ p.2)) hE hW
            obtain ⟨e, hu, _, hok⟩ := elemSh_some hs
            obtain ⟨i, z, hi, hz, hsz, hzc, hpos, hzr⟩ := elemOk_some hok
            generalize hcells : (Array.range (n * i.size)).map (z.cells[· % z.cells.size]!) = cells
            have hclen : cells.toList.length = n * s.size := by rw [← hcells]; simp [hsz]
            obtain ⟨cs', xs, q1, q2, q3⟩ := rowOf_ok hE' (fun b o v hv => (hW'.fnz b o v hv).1) ps.toList 0 l f cells [] cells.toList hrow rfl (by simp) (by rw [hln, hclen]; exact Nat.le_refl _)
            have hxl := RepL.len (fun x c h => RepC.len s x c h) _ _ q3
            have q2' : cs'.toList = xs := by
              rw [q2, hln, List.drop_of_length_le (by rw [hclen]; exact Nat.le_refl _)]; simp
            have hgt : ¬ n * i.size > 2 ^ 24 := by rw [hsz]; omega
            have hne : ¬ n * i.size = 0 := by
              rw [hsz]
              have := Nat.mul_pos hb.2 hpos
              omega
            have hrun := run_buildSlice (P := P) w t e n (ps.map fun p => (p.1, a.eval p.2)) cs' i z hu hi hz hgt hne (by rw [hsz] at hcells ⊢; rw [hcells]; simpa using q1)
            have hown : (w.alloc (.cells cs' e)).ownsRow g'.n0 e s.size (.slice (some ⟨w.heap.size, 0, none⟩) n n) l.length xs := by
              rw [hln]
              refine ⟨by rw [hxl, hln], .inr ⟨w.heap.size, n, cs', rfl, hW'.base, heap_alloc_new w _, Nat.le_refl _, by unfold maxLen; have := hb.1; have := Nat.le_mul_of_pos_right n hpos; omega, ?_, ?_⟩⟩
              · rw [← Array.length_toList, q2', hxl, hln]
              · rw [q2', ← hln, ← hxl, List.take_length]
            have := newRow_ok hE' hW' (World.grownBy_alloc w _ none) (by simp) (by simp) hown q3 hpos (fun b hb => .inr (by simpa [Value.ownBlock] using hb.symm)) dst hN h
            have hrun' : (execOp a.eval ⟨dst, .buildSlice t n ps, type, pos, after, guard⟩).run P w = .ok (.value (.slice (some ⟨w.heap.size, 0, none⟩) n n)) (w.alloc (.cells cs' e)) := by
              simp only [execOp, Sem.run_bind]
              rw [hrun]; rfl
            unfold Oper.wp
            rw [hrun']
            exact this
          · cases h
        · cases h
      · cases h
    · cases h
  case makeSlice t l c =>
    simp only [opK] at h
    split at h
    · rename_i e s x y he hs hx hy
      rw [br_val] at h
      simp only [Cd.val, decide_eq_true_eq] at h
      split at h
      · rename_i hb
        rw [br_val] at h
        simp only [Cd.val, decide_eq_true_eq] at h
        split at h
        · rename_i hxy
          subst hxy
          obtain ⟨h0, _, hmx⟩ := hb
          obtain ⟨e', hu, he', hok⟩ := elemSh_some hs
          rw [he] at he'
          cases he'
          obtain ⟨i, z, hi, hz, hsz, hzc, hpos, hzr⟩ := elemOk_some hok
          obtain ⟨kl, el⟩ := intOf_rel hx (hE.opnd l)
          obtain ⟨kc, ec⟩ := intOf_rel hy (hE.opnd c)
          have hbt : bytesT P e = i.bytes := by unfold bytesT; rw [hi]
          have hm := most_le (bytesT P e) x.toNat (by omega)
          rw [hbt] at hm
          have hxn : ((x.toNat : Nat) : Int) = x := by omega
          have hrun := run_make (P := P) w t e i z hu hi hz kl kc x x h0 (Int.le_refl _)
            (by have := hm.1; rw [Nat.mul_comm] at this; have h3 : ((i.bytes * x.toNat : Nat) : Int) ≤ 35184372088832 := by omega
                rw [Int.natCast_mul, hxn] at h3; omega) (by omega)
          have hrep : RepL (RepC (g.sel true) s) (reps x (dflt s)) (madeCells z.cells (x.toNat * i.size)).toList := by
            have := made_rep (hzr (g.sel true)) (by omega) x.toNat
            rw [hzc] at this
            rw [hsz]
            simpa [madeCells, reps, hzc] using this
          have hlen : (reps x (dflt s)).length = x.toNat := by simp [reps]
          have hown : (w.alloc (.cells (madeCells z.cells (x.toNat * i.size)) e)).ownsRow g.n0 e s.size (.slice (some ⟨w.heap.size, 0, none⟩) x.toNat x.toNat) (reps x (dflt s)).length (madeCells z.cells (x.toNat * i.size)).toList := by
            rw [hlen]
            refine ⟨by simp [madeCells, hsz], .inr ⟨w.heap.size, x.toNat, _, rfl, hW.base, heap_alloc_new w _, Nat.le_refl _, by unfold maxLen; omega, by rw [size_madeCells, hsz], ?_⟩⟩
            rw [List.take_of_length_le]
            simp [madeCells, hsz]
          have := newRow_ok hE hW (World.grownBy_alloc w _ none) (by simp) (by simp) hown hrep hpos (fun b hb => .inr (by simpa [Value.ownBlock] using hb.symm)) dst hN h
          have hrun' : (execOp a.eval ⟨dst, .makeSlice t l c, type, pos, after, guard⟩).run P w = .ok (.value (.slice (some ⟨w.heap.size, 0, none⟩) x.toNat x.toNat)) (w.alloc (.cells (madeCells z.cells (x.toNat * i.size)) e)) := by
            simp only [execOp, Sem.run_bind]
            rw [el, ec, hrun]; rfl
          unfold Oper.wp
          rw [hrun']
          exact this
        · cases h
      · cases h
    · cases h
  case store t p x =>
    simp only [opK, storeK] at h
    have fin : ∀ {g' : Gh} {σ' : St} {w' : World} (v : Value), a.eval p = v → (Instr.storeAt t v (a.eval x)).run P w = .ok () w' → EnvR g' σ' a → WF w0 g' σ'.mem w' → K (σ'.put dst .undef) = some r →
        Oper.wp P ⟨dst, .store t p x, type, pos, after, guard⟩ a w N Q := fun {g' σ' w'} v hv hrun hE' hW' hK => by
      have hrun' : (execOp a.eval ⟨dst, .store t p x, type, pos, after, guard⟩).run P w = .ok .skip w' := by
        simp only [execOp, Sem.run_bind]
        rw [hv, hrun]; rfl
      unfold Oper.wp
      rw [hrun']
      exact hN g' _ _ _ (hE'.put dst Rel.undef) (by rw [put_mem]; exact hW') hK
    split at h
    · rename_i id off hp
      split at h
      · rename_i l cs ho hc
        split at h
        · rename_i hcond
          have hm := obj_some ho (by simp)
          have e := hE.opnd p
          rw [hp] at e
          unfold Rel at e
          obtain ⟨_, o, ho', e⟩ := e
          rw [hm] at ho'; cases ho'
          simp only at e
          obtain ⟨w', hrun, hW', _⟩ := storeBox_ok (P := P) (t := t) hE hW hm hc hcond.1 hcond.2.1 hcond.2.2
          refine fin _ e hrun (hE.step (σ' := σ.setObj id (.box (setCells l off cs))) ?_ rfl) hW' h
          exact ⟨fun _ _ _ h => h, fun _ _ _ h => h, fun j q hj => by
            by_cases e : j = id
            · subst e
              rw [hm] at hj
              cases hj
              exact ⟨_, by show (σ.mem.set j _)[j]? = _; rw [List.getElem?_set_self (List.getElem?_eq_some_iff.1 hm).1], by simp [AO.stays]⟩
            · exact ⟨q, by show (σ.mem.set id _)[j]? = _; rw [List.getElem?_set_ne (fun q => e q.symm)]; exact hj, by cases q <;> simp [AO.stays]⟩⟩
        · cases h
      · cases h
    · obtain ⟨g', hE', hW'⟩ := freezeAll_ok (AV.refs (opnd σ x)) hE hW
      split at h
      · rename_i id i off hp
        split at h
        · rename_i s l fr s' ho hs
          split at h
          · rename_i hn0
            split at h
            · rename_i y f hd
              split at h
              · rename_i z hz
                have hm := obj_some ho (by simp)
                have e := hE'.opnd p
                rw [hp] at e
                unfold Rel at e
                obtain ⟨_, o, ho', e⟩ := e
                rw [hm] at ho'; cases ho'
                simp only at e
                obtain ⟨h0, hi, b, hb, e⟩ := e
                obtain ⟨w', hrun, hW2⟩ := storeRow_ok (P := P) (t := t) hE' hW' hm hs hd hz h0 hi hn0 hb
                refine fin _ e hrun (hE'.step (σ' := (σ.freezeAll (AV.refs (opnd σ x))).setObj id (.row s (put l i z) (fr && f))) ?_ rfl) hW2 h
                exact ⟨fun _ _ _ h => h, fun _ _ _ h => h, fun j q hj => by
                  by_cases e : j = id
                  · subst e
                    rw [hm] at hj
                    cases hj
                    exact ⟨_, by show (List.set _ j _)[j]? = _; rw [List.getElem?_set_self (List.getElem?_eq_some_iff.1 hm).1], by simp [AO.stays, put]⟩
                  · exact ⟨q, by show (List.set _ id _)[j]? = _; rw [List.getElem?_set_ne (fun q => e q.symm)]; exact hj, by cases q <;> simp [AO.stays]⟩⟩
              · cases h
            · cases h
          · cases h
        · cases h
      · cases h
    · cases h
  case call c =>
    obtain ⟨callee, args, argTypes⟩ := c
    cases callee with
    | invoke => simp [opK] at h
    | builtin b =>
      cases b <;> first | (simp [quietK] at hq; done) | (simp [opK] at h; done) | skip
      simp only [opK] at h
      split at h
      · rename_i x y t t' hx ht
        split at h
        · cases h
        · rename_i htt
          have htt' : t' = t := by simpa using htt
          subst htt'
          have hx' : args = #[x, y] := by rw [← Array.toArray_toList (xs := args), hx]
          have ht' : argTypes = #[t', t'] := by rw [← Array.toArray_toList (xs := argTypes), ht]
          subst hx' ht'
          unfold appendK at h
          split at h
          · rename_i e s he hs
            obtain ⟨e', hu, he', hok⟩ := elemSh_some hs
            rw [he] at he'
            cases he'
            obtain ⟨i, z, hi, hz, hsz, hzc, hpos, hzr⟩ := elemOk_some hok
            have hbt : bytesT P e = i.bytes := by unfold bytesT; rw [hi]
            split at h
            · rename_i b fb hb
              obtain ⟨ya, yc, news, ey, hrep, hsrc⟩ := src_ok hW hb (hE.opnd y)
              have hnl := RepL.len (fun x c h => RepC.len s x c h) _ _ hrep
              have hn1 := RepL.one (fun x c h => RepC.one s x c h) _ _ hrep
              have fin : ∀ {σ1 : St} {l : List (sem s)} {fr : Bool} {v : Value} {e1 : TypeId} {xs : List Value}, EnvR g σ1 a → WF w0 g σ1.mem w → a.eval x = v → w.ownsRow g.n0 e1 s.size v l.length xs → RepL (RepC (g.sel fr) s) l xs →
                  l.length + b.length ≤ most (bytesT P e) → (∀ (id : Nat) (o : AO) (c : Nat), σ1.mem[id]? = some o → o.blk g id = some c → v.ownBlock ≠ some c) →
                  (∀ c, v.ownBlock = some c → (∀ off, g.fz c off = none) ∧ g.n0 ≤ c ∧ c < w.heap.size) →
                  K ((σ1.new (.row s (app l b) (fr && fb))).put dst (.ref σ1.mem.length)) = some r → Oper.wp P ⟨dst, .call ⟨.builtin .append, #[x, y], #[t', t']⟩, type, pos, after, guard⟩ a w N Q := by
                intro σ1 l fr v e1 xs hE1 hW1 hv hown hxs hmost hne hrf hK
                have hmm := most_le _ _ hmost
                rw [hbt] at hmm
                obtain ⟨v', w', e2, hrun, hown', hgb, hblk⟩ := append_ok (P := P) g.n0 t' type e e1 i z s.size hu hi hz hsz hzc hpos v l.length xs hown ya b.length yc news hnl
                  (hsrc.imp (fun q => q) (fun ⟨ad, q1, q2⟩ => ⟨ad, q1, q2⟩)) hn1 hmm.1 hmm.2 hW1.base
                have hfn : ∀ b o v, g.fn b o = some v → g.fz b o = some v := fun b o v hv => (hW1.fnz b o v hv).1
                have hlapp : List.length (app l b : List (sem s)) = l.length + List.length (b : List (sem s)) := List.length_append (as := l) (bs := b)
                have := newRow_ok (l := (app l b : List (sem s))) hE1 hW1 hgb hne hrf (by rw [hlapp]; exact hown')
                  (RepL.append _ _ _ _ (hxs.imp (fun x c h => RepC.mono (sel_le hfn (f := fr) (f' := fr && fb) (by simp; intro a _; exact a)) s x c h) _ _) (hrep.imp (fun x c h => RepC.mono (sel_le hfn (f := fb) (f' := fr && fb) (by simp)) s x c h) _ _)) hpos hblk dst hN hK
                have hrun' : (execOp a.eval ⟨dst, .call ⟨.builtin .append, #[x, y], #[t', t']⟩, type, pos, after, guard⟩).run P w = .ok (.value v') w' := by
                  simp only [execOp, Sem.run_bind, resolve, Sem.run_pure, Result.andThen_ok, invoke, builtin, List.map_toArray, List.map_cons, List.map_nil]
                  rw [hv, ey, hrun]; rfl
                unfold Oper.wp
                rw [hrun']
                exact this
              split at h
              · rename_i hxn
                rw [br_val] at h
                simp only [Cd.val, decide_eq_true_eq] at h
                split at h
                · rename_i hm
                  have ex := hE.opnd x
                  rw [hxn] at ex
                  unfold Rel at ex
                  refine fin (l := []) (fr := true) (xs := []) hE hW ex (World.ownsRow_nil w _ e s.size) rfl (by simpa using hm) (fun id o c _ _ => by simp [Value.ownBlock]) (fun c hc => by simp [Value.ownBlock] at hc) ?_
                  exact h
                · cases h
              · rename_i id hxr
                split at h
                · rename_i s' al f ho
                  split at h
                  · rename_i al' hcast
                    obtain ⟨ec, ec'⟩ := cast?_some hcast
                    cases ec
                    have ec'' : al = al' := ec'
                    subst ec''
                    rw [br_val] at h
                    simp only [Cd.val, decide_eq_true_eq] at h
                    split at h
                    · rename_i hm
                      have hmem := obj_some ho (by simp)
                      have e := hE.opnd x
                      rw [hxr] at e
                      unfold Rel at e
                      obtain ⟨_, o, ho', e⟩ := e
                      rw [hmem] at ho'; cases ho'
                      simp only at e
                      obtain ⟨_, e1, xs, hown, hxs⟩ := hW.own id _ hmem
                      refine fin (σ1 := σ.setObj id .gone) (hE.step (Stays.gone id) rfl) (hW.gone id) e hown hxs hm (fun j o c hj hc hbk => ?_) (fun c hc => ?_) ?_
                      · rcases set_some hj with ⟨rfl, rfl⟩ | ⟨hne, hj⟩
                        · simp [AO.blk] at hc
                        · exact (hW.apart id _ c hmem hbk).2 j o hne hj hc
                      · exact ⟨(hW.apart id _ c hmem hc).1, (hW.own id _ hmem).blk_lt hc⟩
                      · have hl : (σ.setObj id .gone).mem.length = σ.mem.length := by simp [St.setObj]
                        rw [hl]; exact h
                    · cases h
                  · cases h
                · cases h
              · cases h
            · cases h
          · cases h
      · cases h
    | value f =>
      simp only [opK] at h
      split at h
      · rename_i f' caps hf
        unfold callK at h
        simp only [quietK] at hq
        split at h
        · cases h
        · rename_i τ hτ
          rw [hτ] at hq
          simp only [Bool.not_eq_true] at hq
          have hargs : ∀ {g1 : Gh} {σ1 : St}, EnvR g1 σ1 a → ∃ vs : Array Value, (∀ f'' caps', opnd σ1 f = .fn f'' caps' → a.eval f = .func (.func f'') #[] vs) ∧
              Rels g1 σ1.mem (args.toList.map (opnd σ1) ++ (match opnd σ1 f with | .fn _ caps => caps | _ => [])) (args.map a.eval ++ vs).toList := by
            intro g1 σ1 hE1
            have hm : Rels g1 σ1.mem (args.toList.map (opnd σ1)) (args.map a.eval).toList := by
              rw [Array.toList_map]
              induction args.toList with
              | nil => exact Rels.nil
              | cons c cs ih => exact Rels.cons (hE1.opnd c) ih
            cases hfo : opnd σ1 f with
            | fn f2 caps2 =>
              have e := hE1.opnd f
              rw [hfo] at e
              unfold Rel at e
              obtain ⟨vs, e, hvs⟩ := e
              exact ⟨vs, fun f'' caps' q => by cases q; exact e, by rw [Array.toList_append]; exact Rels.append hm hvs⟩
            | _ => exact ⟨#[], (fun f'' caps' q => by cases q), by simpa using hm⟩
          have hfv : ∀ vs : Array Value, a.eval f = .func (.func f') #[] vs → (∀ args w, (callFunc f' args).run P w = .ok (.enter f' args) w) →
              (execOp a.eval ⟨dst, .call ⟨.value f, args, argTypes⟩, type, pos, after, guard⟩).run P w = .ok (.enter f' (args.map a.eval ++ vs)) w := fun vs e hent => by
            simp [execOp, resolve, e, Deferred.ofValue, invoke, hent]
          split at h
          · rename_i htup
            split at h
            · rename_i hfr
              rw [hq, Bool.false_or] at hfr
              obtain ⟨x, hx, hK⟩ := bnd_some h
              obtain ⟨hent, hcalls⟩ := hΦ f' _ _ _ _ hx
              obtain ⟨vs, hv, hrels⟩ := hargs hE
              unfold Oper.wp
              rw [hfv vs (hv _ _ hf) hent]
              refine (hcalls w _ (allOf w) (fun b o v h => h) (normAs_rel _ _ _ (lendAs_rel hW.lends _ _ _ hrels))).mono ?_
              rintro e w' ⟨v, fz', rfl, hb, hc, _, _, hr⟩
              rw [hfr] at hr
              exact called_ok hE hW hb hc (fr := true) hr (by simp) dst hN hK
            · rename_i hfr
              have hfr' : frs.contains f' = false := by rw [hq, Bool.false_or] at hfr; simpa using hfr
              obtain ⟨g1, hE1, hW1⟩ := freezeAll_ok (AV.refsL (args.toList.map (opnd σ) ++ (match opnd σ f with | .fn _ caps => caps | _ => []))) hE hW
              dsimp only at h
              obtain ⟨hno, h⟩ := ite_none h
              obtain ⟨x, hx, hK⟩ := bnd_some h
              obtain ⟨hent, hcalls⟩ := hΦ f' _ _ _ _ hx
              obtain ⟨vs, hv, hrels⟩ := hargs hE1
              simp only [Bool.and_eq_true] at hno
              obtain ⟨hno, hchk⟩ := hno
              split at hchk
              · rename_i f2 caps2 hf2
                have hf2' : f2 = f' := by simpa using hchk
                subst hf2'
                unfold Oper.wp
                rw [hfv vs (hv _ _ hf2) hent]
                have hfn : ∀ b o v, g1.fn b o = some v → g1.fz b o = some v := fun b o v hv => (hW1.fnz b o v hv).1
                refine (hcalls w _ g1.fz hW1.fzc (normAs_rel _ _ _ (lendAs_rel (lends_none hfn) _ _ _ (noIds_rel (m' := []) _ hno _ hrels)))).mono ?_
                rintro e w' ⟨v, fz', rfl, hb, hc, _, hold, hr⟩
                rw [hfr'] at hr
                exact called_ok hE1 hW1 hb hc (fr := false) hr (fun _ => hold) dst hN hK
              · cases hchk
          · cases h
      · cases h
  all_goals first | (simp [quietK] at hq; done) | (simp [opK] at h; done) | skip
  case convert s d x =>
    exfalso
    cases hd : P.underlying d with
    | none => simp [quietK, hd] at hq
    | some dd =>
      cases dd <;> simp [quietK, hd] at hq
      simp [opK, convK, hd] at h
/-- a store into one's own box, at a state whose slots may lack what the store does not look at -/
theorem store_ok {σ : St} {k : Nat} {o : Oper} {K : St → Option ω} {t : TypeId} {p x : Operand} {id off : Nat} (hop : o.op = .store t p x) (hp : opnd σ p = .ptr id off) (h : opK P Φ frs σ k o K = some r) {a a2 : Act} (hx2 : execOp a2.eval o = execOp a.eval o) (hE : EnvR g σ a) (hW : WF w0 g σ.mem w)
    {N : Act → World → Prop} (hN : Next w0 r K N) (Q : Exit → Act → World → Prop) : o.wp P a2 w (fun a' w' => ∃ v, a' = a2.put o.dst v ∧ N (a.put o.dst v) w' ∧ ∀ j, j ≠ g.bl id → w'.heap[j]? = w.heap[j]?) Q := by
  obtain ⟨dst, op, type, pos, after, guard⟩ := o
  simp only at hop
  subst hop
  simp only [opK, storeK, hp] at h
  split at h
  · rename_i l cs ho hc
    split at h
    · rename_i hcond
      have hm := obj_some ho (by simp)
      have e := hE.opnd p
      rw [hp] at e
      unfold Rel at e
      obtain ⟨_, o, ho', e⟩ := e
      rw [hm] at ho'; cases ho'
      simp only at e
      obtain ⟨w', hrun, hW', hoth⟩ := storeBox_ok (P := P) (t := t) hE hW hm hc hcond.1 hcond.2.1 hcond.2.2
      have hs : Stays g g σ.mem (σ.setObj id (.box (setCells l off cs))).mem := ⟨fun _ _ _ h => h, fun _ _ _ h => h, fun j q hj => by
        by_cases e : j = id
        · subst e
          rw [hm] at hj
          cases hj
          exact ⟨_, by show (σ.mem.set j _)[j]? = _; rw [List.getElem?_set_self (List.getElem?_eq_some_iff.1 hm).1], by simp [AO.stays]⟩
        · exact ⟨q, by show (σ.mem.set id _)[j]? = _; rw [List.getElem?_set_ne (fun q => e q.symm)]; exact hj, by cases q <;> simp [AO.stays]⟩⟩
      have hE' := hE.step (σ' := σ.setObj id (.box (setCells l off cs))) hs rfl
      have hrun' : (execOp a2.eval ⟨dst, .store t p x, type, pos, after, guard⟩).run P w = .ok .skip w' := by
        rw [hx2]
        simp only [execOp, Sem.run_bind]
        rw [e, hrun]; rfl
      unfold Oper.wp
      rw [hrun']
      exact ⟨_, rfl, hN g _ _ _ (hE'.put dst Rel.undef) (by rw [put_mem]; exact hW') h, hoth⟩
    · cases h
  · cases h
/-- a call at a state whose slots may lack what the call does not look at -/
theorem call_ok {σ : St} {k : Nat} {o : Oper} {K : St → Option ω} (hcall : isCall o = true) (hq : ¬ quietK P o = true) (h : opK P Φ frs σ k o K = some r) {a a2 : Act} (hx2 : execOp a2.eval o = execOp a.eval o) (hE : EnvR g σ a) (hW : WF w0 g σ.mem w)
    (hΦ : ∀ f, Sound P f (Φ f) (frs.contains f)) {N : Act → World → Prop} (hN : Next w0 r K N) (Q : Exit → Act → World → Prop) : o.wp P a2 w (fun a' w' => ∃ v, a' = a2.put o.dst v ∧ N (a.put o.dst v) w' ∧ From w w') Q := by
  obtain ⟨dst, op, type, pos, after, guard⟩ := o
  cases op <;> first | (simp [isCall] at hcall; done) | skip
  rename_i c
  obtain ⟨callee, args, argTypes⟩ := c
  cases callee <;> first | (simp [isCall] at hcall; done) | skip
  rename_i f
  simp only [opK] at h
  split at h
  · rename_i f' caps hf
    unfold callK at h
    simp only [quietK] at hq
    split at h
    · cases h
    · rename_i τ hτ
      rw [hτ] at hq
      simp only [Bool.not_eq_true] at hq
      have hargs : ∀ {g1 : Gh} {σ1 : St}, EnvR g1 σ1 a → ∃ vs : Array Value, (∀ f'' caps', opnd σ1 f = .fn f'' caps' → a.eval f = .func (.func f'') #[] vs) ∧
          Rels g1 σ1.mem (args.toList.map (opnd σ1) ++ (match opnd σ1 f with | .fn _ caps => caps | _ => [])) (args.map a.eval ++ vs).toList := by
        intro g1 σ1 hE1
        have hm : Rels g1 σ1.mem (args.toList.map (opnd σ1)) (args.map a.eval).toList := by
          rw [Array.toList_map]
          induction args.toList with
          | nil => exact Rels.nil
          | cons c cs ih => exact Rels.cons (hE1.opnd c) ih
        cases hfo : opnd σ1 f with
        | fn f2 caps2 =>
          have e := hE1.opnd f
          rw [hfo] at e
          unfold Rel at e
          obtain ⟨vs, e, hvs⟩ := e
          exact ⟨vs, fun f'' caps' q => by cases q; exact e, by rw [Array.toList_append]; exact Rels.append hm hvs⟩
        | _ => exact ⟨#[], (fun f'' caps' q => by cases q), by simpa using hm⟩
      have hfv : ∀ vs : Array Value, a.eval f = .func (.func f') #[] vs → (∀ args w, (callFunc f' args).run P w = .ok (.enter f' args) w) →
          (execOp a.eval ⟨dst, .call ⟨.value f, args, argTypes⟩, type, pos, after, guard⟩).run P w = .ok (.enter f' (args.map a.eval ++ vs)) w := fun vs e hent => by
        simp [execOp, resolve, e, Deferred.ofValue, invoke, hent]
      split at h
      · rename_i htup
        split at h
        · rename_i hfr
          rw [hq, Bool.false_or] at hfr
          obtain ⟨x, hx, hK⟩ := bnd_some h
          obtain ⟨hent, hcalls⟩ := hΦ f' _ _ _ _ hx
          obtain ⟨vs, hv, hrels⟩ := hargs hE
          unfold Oper.wp
          rw [hx2, hfv vs (hv _ _ hf) hent]
          refine (hcalls w _ (allOf w) (fun b o v h => h) (normAs_rel _ _ _ (lendAs_rel hW.lends _ _ _ hrels))).mono ?_
          rintro e w' ⟨v, fz', rfl, hb, hc, _, _, hr⟩
          rw [hfr] at hr
          exact ⟨_, rfl, called_ok hE hW hb hc (fr := true) hr (by simp) dst hN hK, hb⟩
        · rename_i hfr
          have hfr' : frs.contains f' = false := by rw [hq, Bool.false_or] at hfr; simpa using hfr
          obtain ⟨g1, hE1, hW1⟩ := freezeAll_ok (AV.refsL (args.toList.map (opnd σ) ++ (match opnd σ f with | .fn _ caps => caps | _ => []))) hE hW
          dsimp only at h
          obtain ⟨hno, h⟩ := ite_none h
          obtain ⟨x, hx, hK⟩ := bnd_some h
          obtain ⟨hent, hcalls⟩ := hΦ f' _ _ _ _ hx
          obtain ⟨vs, hv, hrels⟩ := hargs hE1
          simp only [Bool.and_eq_true] at hno
          obtain ⟨hno, hchk⟩ := hno
          split at hchk
          · rename_i f2 caps2 hf2
            have hf2' : f2 = f' := by simpa using hchk
            subst hf2'
            unfold Oper.wp
            rw [hx2, hfv vs (hv _ _ hf2) hent]
            have hfn : ∀ b o v, g1.fn b o = some v → g1.fz b o = some v := fun b o v hv => (hW1.fnz b o v hv).1
            refine (hcalls w _ g1.fz hW1.fzc (normAs_rel _ _ _ (lendAs_rel (lends_none hfn) _ _ _ (noIds_rel (m' := []) _ hno _ hrels)))).mono ?_
            rintro e w' ⟨v, fz', rfl, hb, hc, _, hold, hr⟩
            rw [hfr'] at hr
            exact ⟨_, rfl, called_ok hE1 hW1 hb hc (fr := false) hr (fun _ => hold) dst hN hK, hb⟩
          · cases hchk
      · cases h
  · cases h
end
end Go.Den
