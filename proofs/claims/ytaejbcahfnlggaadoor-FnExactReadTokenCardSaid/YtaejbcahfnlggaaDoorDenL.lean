import Derived.Test.YtaejbcahfnlggaaDoorDenK
namespace Go.Den
open Go.RowKit (wrap64)
set_option linter.unusedVariables false
set_option linter.unusedSimpArgs false
set_option linter.unnecessarySimpa false
/-! Any operation, one behind the other. -/
section
variable {P : Program} {g : Gh} {ω : Type} {r : ω} {w0 : Ent} {w : World} {Φ : Nat → Nat → List AV → (τ : Sh) → Option (sem τ)} {frs : Frs}
/-- what comes after: in every state that is as said, K's answer carries the post -/
def Next (w0 : Ent) (r : ω) (K : St → Option ω) (N : Act → World → Prop) : Prop :=
  ∀ g σ a w, EnvR g σ a → WF w0 g σ.mem w → K σ = some r → N a w
/-- all but some objects that are gone out of the state -/
theorem WF.lends_but {w0 : Ent} {w : World} {g : Gh} {m : List AO} (h : WF w0 g m w) {m' : List AO} {io : Nat → Bool} (hm : ∀ (i : Nat) (o : AO), m'[i]? = some o → o = .gone ∨ (m[i]? = some o ∧ ∀ b, o.has g i b → io b = false))
    (hio : ∀ b, io b = true → ∀ o, g.fz b o = none) (hst : Stays g g m m') : Lends g m' (fun b o => if io b = true then none else w.cell? ⟨b, o, none⟩) where
  fz := fun b o v hv => by
    have : ¬ io b = true := fun q => by rw [hio b q o] at hv; cases hv
    show (if _ then _ else _) = _
    rw [if_neg this]; exact h.fzc b o v hv
  fn := fun b o v hv => by
    have hv := (h.fnz b o v hv).1
    have : ¬ io b = true := fun q => by rw [hio b q o] at hv; cases hv
    show (if _ then _ else _) = _
    rw [if_neg this]; exact h.fzc b o v hv
  box := fun i l hi => by
    obtain ⟨q1, q2⟩ := (hm i _ hi).resolve_left (by simp)
    obtain ⟨cs, h1, h2, h3⟩ := h.lends.box i l q1
    refine ⟨cs, Rels.mono hst _ _ h1, h2, fun j u hu => ?_⟩
    show (if _ then _ else _) = _
    rw [if_neg (by rw [q2 _ rfl]; simp)]; exact h3 j u hu
  row := fun i t l fr hi => by
    obtain ⟨q1, q2⟩ := (hm i _ hi).resolve_left (by simp)
    obtain ⟨_, e, xs, hown, hr⟩ := h.own i _ q1
    rcases hown.2 with ⟨e2, a0, e1⟩ | ⟨q, cap, cur, e1, _, hg, hle, _⟩
    · refine ⟨a0, 0, by rw [e1, e2], by omega, .inl (List.eq_nil_of_length_eq_zero e2)⟩
    · have hq : rowBlk (g.rv i) = some q := by rw [e1]; rfl
      refine ⟨_, _, e1, hle, .inr ⟨q, xs, rfl, hr, fun j u hu => ?_⟩⟩
      show (if _ then _ else _) = _
      rw [if_neg (by rw [q2 _ hq]; simp)]; exact hown.cells hq j u hu
theorem EnvR.step {g' : Gh} {σ σ' : St} {a : Act} (hE : EnvR g σ a) (hs : Stays g g' σ.mem σ'.mem) (he : σ'.env = σ.env) (hp : σ'.pin = σ.pin := by rfl) : EnvR g' σ' a :=
  ⟨by rw [he]; exact Rels.mono hs _ _ hE.env, hE.dfr, by rw [hp]; exact hs.pin hE.pin⟩
/-- a new box -/
theorem newBox_ok {σ : St} {a : Act} (hE : EnvR g σ a) (hW : WF w0 g σ.mem w) {l : List AV} {c : Array Value} (T : TypeId) (hl : Rels g σ.mem l c.toList) (h1 : ∀ u ∈ c.toList, u.oneCell' = true) (dst : Option Nat)
    {K : St → Option ω} {N : Act → World → Prop} (hN : Next w0 r K N) (h : K ((σ.new (.box l)).put dst (.ptr σ.mem.length 0)) = some r) :
    N (a.put dst (.pointer (some ⟨w.heap.size, 0, none⟩))) (w.alloc (.cells c T)) := by
  have hs : Stays g { g with bl := upd g.bl σ.mem.length w.heap.size } σ.mem (σ.new (.box l)).mem := Stays.box _ _ _ rfl
  refine hN _ _ _ _ ((hE.step (σ' := σ.new (.box l)) hs rfl).put dst ?_) (by rw [put_mem]; exact hW.pushBox T hl h1) h
  unfold Rel
  refine ⟨rfl, .box l, by simp [St.new], ?_⟩
  show Value.pointer (some ⟨w.heap.size, 0, none⟩) = .pointer (some ⟨upd g.bl σ.mem.length w.heap.size σ.mem.length, 0, none⟩)
  rw [upd_same]
/-- a new row -/
theorem newRow_ok {σ : St} {a : Act} (hE : EnvR g σ a) (hW : WF w0 g σ.mem w) {w' : World} {row : Option Nat} (hg : Grown w w' row) (hne : ∀ (id : Nat) (o : AO) (b : Nat), σ.mem[id]? = some o → o.has g id b → row ≠ some b)
    (hrf : ∀ b, row = some b → (∀ off, g.fz b off = none) ∧ (g.n0 ≤ b ∧ b < w.heap.size) ∧ (w0.w.heap.size ≤ b ∨ w0.io b = true)) {t : Sh} {l : List (sem t)} {fr : Bool} {v' : Value} {e : TypeId} {xs : List Value} (hown : OwnR w' g.n0 e t.size v' l.length xs)
    (hr : RepL (RepC (g.sel fr) t) l xs) (hpos : 0 < t.size) (hv' : ∀ b, rowBlk v' = some b → row = some b ∨ w.heap.size ≤ b) (dst : Option Nat)
    {K : St → Option ω} {N : Act → World → Prop} (hN : Next w0 r K N) (h : K ((σ.new (.row t l fr)).put dst (.ref σ.mem.length)) = some r) : N (a.put dst v') w' := by
  have hs : Stays g { g with rv := upd g.rv σ.mem.length v' } σ.mem (σ.new (.row t l fr)).mem := Stays.row _ _ _ rfl
  refine hN _ _ _ _ ((hE.step (σ' := σ.new (.row t l fr)) hs rfl).put dst ?_) (by rw [put_mem]; exact hW.pushRow hg hne hrf hown hr hpos hv') h
  unfold Rel
  refine ⟨?_, .row t l fr, by simp [St.new], ?_⟩
  · exact hown.one
  · show v' = upd g.rv σ.mem.length v' σ.mem.length
    rw [upd_same]

/-- after a call that may have made memory -/
theorem called_ok {σ : St} {a : Act} (hE : EnvR g σ a) (hW : WF w0 g σ.mem w) {w' : World} (hb : Below w.heap.size w w') {fz' : Fz} (hc : ∀ b o x, fz' b o = some x → w'.cell? ⟨b, o, none⟩ = some x)
    {fr tup : Bool} {τ : Sh} {x : sem τ} {v : Value} (hr : RepR tup (if fr then fun b o => if w.heap.size ≤ b then fz' b o else none else fz') τ x v)
    (hold : fr = false → ∀ b o y, fz' b o = some y → g.fz b o = some y ∨ w.heap.size ≤ b) (dst : Option Nat)
    {K : St → Option ω} {N : Act → World → Prop} (hN : Next w0 r K N) (h : K (σ.put dst (if tup then .tup (spread τ x fr) else mkD τ x fr)) = some r) : N (a.put dst v) w' := by
  let F (G : Fz) : Fz := fun b o => if w.heap.size ≤ b then fz' b o else G b o
  let g' : Gh := { g with fz := F g.fz, fn := F g.fn }
  have hlt : ∀ b o y, g.fz b o = some y → ¬ w.heap.size ≤ b := fun b o y hy => by have := hW.fz_lt hy; omega
  have hs : Stays g g' σ.mem σ.mem := ⟨rfl, fun b o y hy => by show F g.fz b o = _; simp only [F]; rw [if_neg (hlt b o y hy)]; exact hy,
    fun b o y hy => by show F g.fn b o = _; simp only [F]; rw [if_neg (hlt b o y (hW.fnz b o y hy).1)]; exact hy,
    fun id o ho => ⟨o, ho, by cases o <;> simp [AO.stays, AO.goes, g']⟩⟩
  have hW1 := hW.later hb
  have hW' : WF w0 g' σ.mem w' := ⟨hW1.nn, hW1.pvn, fun b o y hy => by
      have hy : F g.fz b o = some y := hy
      simp only [F] at hy
      split at hy
      · rename_i hle; exact .inr (.inl (Nat.le_trans hW.below.size hle))
      · exact hW.ext b o y hy, hW1.below, hW1.base, fun b o y hy => by
      have hy : F g.fz b o = some y := hy
      simp only [F] at hy
      split at hy
      · exact hc b o y hy
      · exact hW1.fzc b o y hy,
    fun b o y hy => by
      have hy : F g.fn b o = some y := hy
      simp only [F] at hy
      show F g.fz b o = some y ∧ g.n0 ≤ b
      simp only [F]
      split at hy
      · rename_i hle; rw [if_pos hle]; exact ⟨hy, by have := hW.base; omega⟩
      · rename_i hle; rw [if_neg hle]; exact hW.fnz b o y hy,
    fun i o hi => (hW1.own i o hi).keep hs rfl rfl rfl rfl (fun _ _ => rfl),
    fun i o b hi hbk => by
      have hbk : o.has g i b := (has_cong o rfl rfl rfl b).1 hbk
      obtain ⟨q1, q2⟩ := hW.apart i o b hi hbk
      refine ⟨fun off => ?_, fun j o' hj hjo => fun q => q2 j o' hj hjo ((has_cong o' rfl rfl rfl b).1 q)⟩
      show F g.fz b off = none
      simp only [F]
      have := ((hW.own i o hi).has_lt hbk).2
      rw [if_neg (by omega)]; exact q1 off,
    hW1.bx, fun i o b hi hbk => hW.mine i o b hi ((has_cong o rfl rfl rfl b).1 hbk), hW.tbl⟩
  refine hN g' _ _ _ ((hE.step (σ' := σ) hs rfl).put dst (res_rel ?_)) (by rw [put_mem]; exact hW') h
  have le : ∀ b o y, (if fr then fun b o => if w.heap.size ≤ b then fz' b o else none else fz') b o = some y → g'.sel fr b o = some y := fun b o y hy => by
    cases fr with
    | true =>
      simp only [if_true] at hy
      show F g.fn b o = some y
      simp only [F]
      split at hy
      · rename_i hle; rw [if_pos hle]; exact hy
      · cases hy
    | false =>
      simp only [Bool.false_eq_true, if_false] at hy
      show F g.fz b o = some y
      simp only [F]
      split
      · exact hy
      · rename_i hle
        exact (hold rfl b o y hy).resolve_right hle
  unfold RepR at *
  split
  · rename_i ht
    rw [if_pos ht] at hr
    obtain ⟨vs, rfl, hv⟩ := hr
    refine ⟨vs, rfl, ?_⟩
    have mono : ∀ (t : Sh) (x : sem t) (l : List Value), RepT (if fr then fun b o => if w.heap.size ≤ b then fz' b o else none else fz') t x l → RepT (g'.sel fr) t x l := by
      intro t
      induction t with
      | pair a b iha ihb => rintro x l ⟨v, rest, e, h1, h2⟩; exact ⟨v, rest, e, h1.mono le, ihb _ _ h2⟩
      | unit => exact fun x l e => e
      | _ => exact fun x l e => e.elim
    exact mono _ _ _ hv
  · rename_i ht
    rw [if_neg ht] at hr
    exact hr.mono le

theorem RepC.fresh {fz : Fz} {t : Sh} {x : sem t} {l : List Value} (h : RepC fz t x l) : ∀ u ∈ l, u.oneCell' = true := RepC.one _ _ _ h
theorem getElem?_mid {α : Type} (a b c : List α) (n : Nat) (h : n ≤ a.length) : (a.take n ++ b ++ c).length = n + b.length + c.length := by
  simp [Nat.min_eq_left h]; omega
/-- a store into one's own box -/
theorem storeBox_ok {σ : St} {a : Act} (hE : EnvR g σ a) (hW : WF w0 g σ.mem w) {t : TypeId} {id off : Nat} {l cs : List AV} (hm : σ.mem[id]? = some (.box l)) {x : Operand} (hc : cellsOf (opnd σ x) = some cs)
    (h1 : cs.length = P.cellsOf t) (h0 : P.cellsOf t ≠ 0) (h2 : off + cs.length ≤ l.length) :
    ∃ w', (Instr.storeAt t (.pointer (some ⟨g.bl id, off, none⟩)) (a.eval x)).run P w = .ok () w' ∧ WF w0 g (σ.setObj id (.box (setCells l off cs))).mem w' ∧ ∀ k, k ≠ g.bl id → w'.heap[k]? = w.heap[k]? := by
  obtain ⟨hrx, hox⟩ := cellsOf_rel hc (hE.opnd x)
  obtain ⟨hb, c, T, hh, hrl, hol⟩ := hW.own id _ hm
  have e1 := hrx.length
  have e2 := hrl.length
  simp only [Array.length_toList] at e1 e2
  have hst := run_storeCells_at P (g.bl id) off T (a.eval x).cells.toList 0 c w hh (by simp; omega) hox
  simp only [Nat.add_zero] at hst
  generalize hC : (c.toList.take off ++ (a.eval x).cells.toList ++ c.toList.drop (off + (a.eval x).cells.toList.length)).toArray = C at hst
  have hCl : C.toList = c.toList.take off ++ (a.eval x).cells.toList ++ c.toList.drop (off + (a.eval x).cells.toList.length) := by rw [← hC]
  refine ⟨w.setRow (g.bl id) C, ?_, hW.write (o' := .box (setCells l off cs)) hm (by simp [AO.stays, AO.goes]) (fun k _ hk => setRow_other w _ k _ (fun e => hk e.symm)) (by simp) rfl rfl rfl (Nat.le_refl _) ⟨hb, C, T, setRow_heap w _ c _ T _ hh, ?_, ?_⟩ (fun _ h => h), fun k hk => setRow_other w _ k _ hk⟩
  · simp only [Instr.storeAt, Instr.sureAddr, storeVar, Sem.run_bind, Sem.run_pure, Result.andThen_ok, run_sizeOf' h0]
    rw [if_neg (fun q => q (by omega))]
    exact hst
  · have := setCells_rel (g := g) (m := σ.mem) off hrl hrx
    rw [setVals_eq _ _ _ (by simp; omega)] at this
    rw [hCl]
    have hs : Stays g g σ.mem (σ.mem.set id (.box (setCells l off cs))) := ⟨rfl, fun _ _ _ h => h, fun _ _ _ h => h, fun j q hj => by
      by_cases e : j = id
      · subst e
        rw [hm] at hj
        cases hj
        exact ⟨_, by rw [List.getElem?_set_self (List.getElem?_eq_some_iff.1 hm).1], by simp [AO.stays, AO.goes]⟩
      · exact ⟨q, by rw [List.getElem?_set_ne (fun q => e q.symm)]; exact hj, by cases q <;> simp [AO.stays, AO.goes]⟩⟩
    exact Rels.mono hs _ _ this
  · intro u hu
    rw [hCl] at hu
    simp only [List.mem_append] at hu
    rcases hu with (hu | hu) | hu
    · exact hol u (List.mem_of_mem_take hu)
    · exact hox u hu
    · exact hol u (List.mem_of_mem_drop hu)
/-- a store into an element of one's own row -/
theorem storeRow_ok {σ : St} {a : Act} (hE : EnvR g σ a) (hW : WF w0 g σ.mem w) {t : TypeId} {id : Nat} {i : Int} {off : Nat} {s s' : Sh} {l : List (sem s)} {fr f : Bool} (hm : σ.mem[id]? = some (.row s l fr)) (hs : varSh P t = some s')
    {x : Operand} {y : sem s'} (hd : data s' (opnd σ x) = some (y, f)) {z : sem s} (hz : setAt s (rd (dflt s) l i) off s' y = some z) (h0 : 0 ≤ i) (hi : i < l.length) (hn0 : s'.size ≠ 0) {b : Nat} (hb : rowBlk (g.rv id) = some b) :
    ∃ w', (Instr.storeAt t (.pointer (some ⟨b, i.toNat * s.size + off, none⟩)) (a.eval x)).run P w = .ok () w' ∧ WF w0 g (σ.setObj id (.row s (put l i z) (fr && f))).mem w' := by
  obtain ⟨hsz, _⟩ := varSh_some hs
  have hfn : ∀ b o v, g.fn b o = some v → g.fz b o = some v := fun b o v hv => (hW.fnz b o v hv).1
  have hry := (data_rel hfn hd (hE.opnd x)).cells
  have e1 := RepC.len _ _ _ hry
  have h1y := RepC.one _ _ _ hry
  obtain ⟨hpos, e, xs, hown, hrep⟩ := hW.own id _ hm
  have hil : i.toNat < l.length := by omega
  rcases hown.2 with ⟨_, a0, e0⟩ | ⟨q, cap, cur, e0, hbq, hg, hle, hcap, hcs, htk⟩
  · rw [e0] at hb; cases a0 <;> simp [rowBlk] at hb
  · have hbq' : q = b := by rw [e0] at hb; simpa [rowBlk] using hb
    subst hbq'
    have hel := RepL.get (fun x c h => RepC.len s x c h) l xs hrep i.toNat hil
    rw [show l[i.toNat] = rd (dflt s) l i by simp [rd, hil]] at hel
    have hle1 : ∀ b o v, g.sel fr b o = some v → g.sel (fr && f) b o = some v := sel_le hfn (by simp; intro a _; exact a)
    have hle2 : ∀ b o v, g.sel f b o = some v → g.sel (fr && f) b o = some v := sel_le hfn (by simp)
    obtain ⟨hz1, hz2⟩ := setAt_rep s _ off s' y z hz _ _ (hel.mono hle1) (hry.mono hle2)
    have hxl := hown.1
    have hisz : i.toNat * s.size + s.size ≤ l.length * s.size := by
      have := Nat.mul_le_mul_right s.size (show i.toNat + 1 ≤ l.length by omega)
      rwa [Nat.add_mul, Nat.one_mul] at this
    have hoff : off + s'.size ≤ s.size := by
      have := hz2
      rw [List.length_take, List.length_drop, hxl] at this
      omega
    have hlc : l.length * s.size ≤ cur.size := by rw [hcs]; exact Nat.mul_le_mul_right _ hle
    have hst := run_storeCells_at P q (i.toNat * s.size + off) e (a.eval x).cells.toList 0 cur w hg (by rw [e1]; omega) h1y
    simp only [Nat.add_zero] at hst
    have hset := RepL.set (fun x c h => RepC.len s x c h) z _ hz1 l xs (hrep.imp (fun x c h => RepC.mono hle1 s x c h) _ _) i.toNat hil
    have hlist : (cur.toList.take (i.toNat * s.size + off) ++ (a.eval x).cells.toList ++ cur.toList.drop (i.toNat * s.size + off + (a.eval x).cells.toList.length)).take (l.length * s.size) =
        xs.take (i.toNat * s.size) ++ (((xs.drop (i.toNat * s.size)).take s.size).take off ++ (a.eval x).cells.toList ++ ((xs.drop (i.toNat * s.size)).take s.size).drop (off + s'.size)) ++ xs.drop (i.toNat * s.size + s.size) := by
      rw [e1]
      generalize (a.eval x).cells.toList = cy at e1 ⊢
      generalize hA : i.toNat * s.size = A at *
      generalize hL : l.length * s.size = L at *
      apply List.ext_getElem?
      intro j
      have hx : ∀ k, k < L → xs[k]? = cur.toList[k]? := fun k hk => by rw [← htk, List.getElem?_take, if_pos hk]
      have hcl : cur.toList.length = cur.size := by simp
      rw [List.getElem?_take]
      by_cases hjL : j < L
      · rw [if_pos hjL]
        by_cases h1 : j < A + off
        · rw [List.append_assoc, List.getElem?_append_left (by simp; omega), List.getElem?_take, if_pos h1]
          by_cases h2 : j < A
          · rw [List.append_assoc, List.getElem?_append_left (by simp; omega), List.getElem?_take, if_pos h2, hx j hjL]
          · rw [List.append_assoc, List.getElem?_append_right (by simp; omega), List.append_assoc, List.append_assoc, List.getElem?_append_left (by simp; omega)]
            simp only [List.length_take, List.getElem?_take, List.getElem?_drop]
            rw [Nat.min_eq_left (by omega), if_pos (by omega), if_pos (by omega), show A + (j - A) = j by omega, hx j hjL]
        · by_cases h2 : j < A + off + s'.size
          · rw [List.append_assoc, List.getElem?_append_right (by simp; omega), List.getElem?_append_left (by simp; omega)]
            rw [List.append_assoc, List.getElem?_append_right (by simp; omega), List.append_assoc, List.append_assoc, List.getElem?_append_right (by simp; omega), List.getElem?_append_left (by simp; omega)]
            congr 1
            simp; omega
          · rw [List.getElem?_append_right (by simp; omega), List.getElem?_drop]
            by_cases h3 : j < A + s.size
            · rw [List.append_assoc, List.getElem?_append_right (by simp; omega), List.append_assoc, List.getElem?_append_right (by simp; omega), List.getElem?_append_left (by simp; omega)]
              simp only [List.getElem?_drop, List.getElem?_take, List.length_append, List.length_take, List.length_drop]
              rw [if_pos (by omega), hx _ (by omega)]
              congr 1
              omega
            · rw [List.getElem?_append_right (by simp; omega), List.getElem?_drop]
              simp only [List.length_append, List.length_take, List.length_drop]
              rw [hx _ (by omega)]
              congr 1
              omega
      · rw [if_neg hjL, List.getElem?_eq_none]
        simp; omega
    generalize hC : (cur.toList.take (i.toNat * s.size + off) ++ (a.eval x).cells.toList ++ cur.toList.drop (i.toNat * s.size + off + (a.eval x).cells.toList.length)) = C at hst hlist
    have hpl : (put l i z).length = l.length := by simp [put]
    have hCs : C.length = cur.size := by rw [← hC]; simp [e1] at *; omega
    refine ⟨w.setRow q C.toArray, ?_, hW.write (o' := .row s (put l i z) (fr && f)) hm ⟨rfl, hpl, rfl⟩ (fun k _ hk => setRow_other w q k _ (fun e => hk (by show rowBlk (g.rv id) = some k; rw [e0, e]; rfl))) (by simp) rfl rfl rfl (Nat.le_refl _)
      ⟨hpos, e, _, ⟨?_, .inr ⟨q, cap, C.toArray, by rw [hpl]; exact e0, hbq, setRow_heap w q cur _ e _ hg, by rw [hpl]; exact hle, hcap, by rw [List.size_toArray, hCs, hcs], rfl⟩⟩, ?_⟩ (fun _ h => h)⟩
    · simp only [Instr.storeAt, Instr.sureAddr, storeVar, Sem.run_bind, Sem.run_pure, Result.andThen_ok, run_sizeOf' (P := P) (t := t) (by rw [hsz]; exact hn0)]
      rw [if_neg (fun q => q (by rw [hsz, ← e1]; simp))]
      exact hst
    · rw [List.length_take, hpl, hCs]; omega
    · rw [hpl]
      show RepL _ _ (List.take (l.length * s.size) C)
      rw [hlist]
      exact hset
end
end Go.Den
