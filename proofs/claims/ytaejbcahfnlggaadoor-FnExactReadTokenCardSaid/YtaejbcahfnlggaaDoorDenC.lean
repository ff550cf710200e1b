import Derived.Test.YtaejbcahfnlggaaDoorDenB
import Derived.Laws.MakeOwn
import Derived.WalkLawsBesides
import Derived.WalkKit
namespace Go.Den
open Go.RowKit (wrap64)
set_option linter.unusedVariables false
set_option linter.unusedSimpArgs false
/-! The operations that only compute or read: what the walk over data gives is what the machine gives. -/
theorem wr_eq (k : IntKind) (n : Int) : wr k n = k.wrap n := by
  cases k <;> first | rfl | (show w64 n = _; rw [w64_eq, IntKind.wrap_i64]; unfold wrap64; rfl)
theorem br_val {α : Type} (c : Cd) (A B : α) : br c A B = if c.val = true then A else B := by
  induction c generalizing A B with
  | no c ih => rw [br, ih]; cases h : c.val <;> simp [Cd.val, h]
  | _ => first | rfl | simp [br, Cd.val]
theorem not_val (c : Cd) : c.not.val = !c.val := by cases c <;> simp [Cd.not, Cd.val]

theorem Rel.undef {g : Gh} {m : List AO} {v : Value} : Rel g m .undef v := by unfold Rel; trivial
theorem Rel.int {g : Gh} {m : List AO} {k : IntKind} {n : Int} {fr : Bool} : Rel g m (.d (.int k) n fr) (.int k n) := by
  unfold Rel; exact rfl
theorem Rel.str {g : Gh} {m : List AO} {s : ByteArray} {fr : Bool} : Rel g m (.d .str s fr) (.string s) := by
  unfold Rel; exact rfl
theorem Rel.cd {g : Gh} {m : List AO} {c : Cd} : Rel g m (.c c) (.bool c.val) := by unfold Rel; rfl
theorem Rel.int_inv {g : Gh} {m : List AO} {k : IntKind} {n : sem (.int k)} {fr : Bool} {v : Value} (h : Rel g m (.d (.int k) n fr) v) : v = .int k n := by
  unfold Rel at h; have h' : [v] = [Value.int k n] := h; exact List.cons.inj h' |>.1
theorem Rel.str_inv {g : Gh} {m : List AO} {s : sem .str} {fr : Bool} {v : Value} (h : Rel g m (.d .str s fr) v) : v = .string s := by
  unfold Rel at h; have h' : [v] = [Value.string s] := h; exact List.cons.inj h' |>.1
theorem Rel.bool_inv {g : Gh} {m : List AO} {b : sem .bool} {fr : Bool} {v : Value} (h : Rel g m (.d .bool b fr) v) : v = .bool b := by
  unfold Rel at h; have h' : [v] = [Value.bool b] := h; exact List.cons.inj h' |>.1
theorem Rel.cd_inv {g : Gh} {m : List AO} {c : Cd} {v : Value} (h : Rel g m (.c c) v) : v = .bool c.val := by unfold Rel at h; exact h

theorem valAV_rel {g : Gh} {m : List AO} {v : Value} {a : AV} (h : valAV v = some a) : Rel g m a v := by
  unfold valAV at h
  split at h <;> first | (cases h; done) | skip
  · cases h; exact Rel.cd
  · cases h; exact Rel.cd
  · cases h; exact Rel.int
  · cases h; exact Rel.str
  · cases h; unfold Rel; rfl
  · cases h; unfold Rel; rfl
  · cases h; unfold Rel; rfl
  · cases h; unfold Rel; trivial
theorem valsAV_rel {g : Gh} {m : List AO} : ∀ {l : List Value} {as : List AV}, valsAV l = some as → Rels g m as l
  | [], as, h => by simp [valsAV] at h; subst h; exact Rels.nil
  | v :: l, as, h => by
    unfold valsAV at h
    split at h
    · rename_i a r h1 h2
      cases h
      exact Rels.cons (valAV_rel h1) (valsAV_rel h2)
    · cases h

/-- the slots as they are said to be -/
structure EnvR (g : Gh) (σ : St) (a : Act) : Prop where
  env : Rels g σ.mem σ.env a.tmps.toList
  dfr : a.defers = []
  pin : σ.pin = g.pv.m.length ∧ (∀ (id : Nat) o, g.pv.m[id]? = some o → ∃ o', σ.mem[id]? = some o' ∧ o.goes g.pv.gh g id id o') ∧ ∀ b o v, g.pv.fz b o = some v → g.fz b o = some v

theorem EnvR.size {g : Gh} {σ : St} {a : Act} (h : EnvR g σ a) : a.tmps.size = σ.env.length := by
  have := h.env.length; simpa using this
theorem EnvR.get {g : Gh} {σ : St} {a : Act} (h : EnvR g σ a) (t : Nat) : Rel g σ.mem (σ.get t) (a.tmps.getD t undef) := by
  have := h.env.getD t
  simpa [St.get, Array.getD_eq_getD_getElem?, List.getD] using this
theorem EnvR.opnd {g : Gh} {σ : St} {a : Act} (h : EnvR g σ a) (x : Operand) : Rel g σ.mem (opnd σ x) (a.eval x) := by
  cases x with
  | tmp t => exact h.get t
  | const v =>
    show Rel g σ.mem ((valAV v).getD .undef) v
    cases hv : valAV v with
    | none => exact Rel.undef
    | some b => exact valAV_rel hv
  | global g => exact Rel.undef
  | func f => show Rel g σ.mem (.fn f []) _; unfold Rel; exact ⟨#[], rfl, Rels.nil⟩
theorem EnvR.put {g : Gh} {σ : St} {a : Act} (h : EnvR g σ a) (dst : Option Nat) {av : AV} {v : Value} (hr : Rel g σ.mem av v) : EnvR g (σ.put dst av) (a.put dst v) := by
  cases dst with
  | none => exact h
  | some d =>
    refine ⟨?_, h.dfr, h.pin⟩
    simp only [St.put, Act.put, Array.toList_setIfInBounds]
    exact h.env.set d hr
theorem Stays.pin {g g' : Gh} {m m' : List AO} (hs : Stays g g' m m') {n : Nat} (h : n = g.pv.m.length ∧ (∀ (id : Nat) o, g.pv.m[id]? = some o → ∃ o', m[id]? = some o' ∧ o.goes g.pv.gh g id id o') ∧ ∀ b o v, g.pv.fz b o = some v → g.fz b o = some v) :
    n = g'.pv.m.length ∧ (∀ (id : Nat) o, g'.pv.m[id]? = some o → ∃ o', m'[id]? = some o' ∧ o.goes g'.pv.gh g' id id o') ∧ ∀ b o v, g'.pv.fz b o = some v → g'.fz b o = some v := by
  rw [hs.pv]
  refine ⟨h.1, fun id o ho => ?_, fun b o v hv => hs.fz b o v (h.2.2 b o v hv)⟩
  obtain ⟨o', h1, h2⟩ := h.2.1 id o ho
  obtain ⟨o'', h3, h4⟩ := hs.mem id o' h1
  exact ⟨o'', h3, h2.trans h4⟩
theorem EnvR.mono {g g' : Gh} {σ : St} {m' : List AO} {a : Act} (h : EnvR g σ a) (hs : Stays g g' σ.mem m') : EnvR g' { σ with mem := m' } a :=
  ⟨Rels.mono hs _ _ h.env, h.dfr, hs.pin h.pin⟩
@[simp] theorem put_mem (σ : St) (d : Option Nat) (v : AV) : (σ.put d v).mem = σ.mem := by cases d <;> rfl

/-! #### arithmetic and comparisons -/
section
variable {P : Program} {g : Gh} {m : List AO} {ω : Type} {r : ω}
theorem eqGuard_plain {op : BinOp} {t : TypeId} {x y : Operand} {a b : Value} {w : World} (h : (∃ k n, a = .int k n) ∨ (∃ s, a = .string s) ∨ ∃ c, a = .bool c) :
    (eqGuard op t x y a b).run P w = .ok () w := by
  unfold eqGuard
  rcases h with ⟨k, n, rfl⟩ | ⟨s, rfl⟩ | ⟨c, rfl⟩ <;> cases op <;> simp
theorem bytes_eq (a b : ByteArray) : (a.toList == b.toList) = decide (a.toList = b.toList) := by
  rw [Bool.eq_iff_iff]; simp
theorem intK {op : BinOp} {k : IntKind} {a b : Int} {t : TypeId} {fa fb : Bool} {K : AV → Option ω} (h : binK P op t (.d (.int k) a fa) (.d (.int k) b fb) K = some r) (hs : op ≠ .shl) (hs' : op ≠ .shr) :
    ∃ av v, K av = some r ∧ Rel g m av v ∧ ∀ w, (binOp op t (.int k a) (.int k b)).run P w = .ok v w := by
  cases op <;> simp only [binK, ne_eq, not_true_eq_false, if_false] at h hs hs' <;>
    first
    | (cases h; done)
    | (exact ⟨_, _, h, Rel.int, fun w => by simp [binOp, Op.intArith, Op.intDiv, Op.intBits, addI, subI, mulI, wr_eq, bits]⟩)
    | (exact ⟨_, _, h, Rel.cd, fun w => by simp [binOp, Op.intCmp, Cd.val, bne]; try rfl⟩)
    | skip
  all_goals (rw [br_val] at h; simp only [Cd.val, decide_eq_true_eq] at h; split at h; (cases h); rename_i h0)
  · exact ⟨_, _, h, Rel.int, fun w => by simp [binOp, Op.intDiv, h0, quoI, wr_eq]⟩
  · exact ⟨_, _, h, Rel.int, fun w => by simp [binOp, Op.intDiv, h0, remI]⟩
end

/-! #### types -/
section
variable {P : Program} {t : TypeId}
theorem info_of {d : TypeDesc} (h : P.underlying t = some d) : ∃ i, P.info? t = some i := by
  unfold Program.underlying at h
  split at h
  · rename_i hi; exact ⟨_, hi⟩
  · rename_i hi; exact ⟨_, hi⟩
  · cases h
theorem run_sizeOf {d : TypeDesc} (h : P.underlying t = some d) (w : World) : (sizeOf t).run P w = .ok (P.cellsOf t) w := by
  obtain ⟨i, hi⟩ := info_of h
  simp [sizeOf, typeInfo, hi, Program.cellsOf]
theorem aggT_some {b : Bool} (h : aggT P t = some b) : ∃ d, P.underlying t = some d ∧ aggD d = b := by
  unfold aggT at h
  split at h
  · rename_i d hd; exact ⟨d, hd, by simpa using h⟩
  · cases h
theorem run_isAgg {b : Bool} (h : aggT P t = some b) (w : World) : (isAgg t).run P w = .ok b w := by
  obtain ⟨d, hd, hb⟩ := aggT_some h
  unfold isAgg
  rw [Sem.run_bind, run_underlying hd w]
  subst hb
  cases d <;> rfl
theorem run_sizeOf' (h : P.cellsOf t ≠ 0) (w : World) : (sizeOf t).run P w = .ok (P.cellsOf t) w := by
  cases hi : P.info? t with
  | none => simp [Program.cellsOf, hi] at h
  | some i => simp [sizeOf, typeInfo, hi, Program.cellsOf]
theorem addr_add (b o j : Nat) : (⟨b, o, none⟩ : Addr).add j = ⟨b, o + j, none⟩ := by unfold Addr.add; split <;> simp_all
theorem run_loadAt_agg (h : aggT P t = some true) {w : World} {b o : Nat} {cs : List Value} (hl : cs.length = P.cellsOf t) (hc : ∀ (j : Nat) v, cs[j]? = some v → w.cell? ⟨b, o + j, none⟩ = some v) :
    (Instr.loadAt t (.pointer (some ⟨b, o, none⟩))).run P w = .ok (.agg cs.toArray) w := by
  obtain ⟨d, hd, _⟩ := aggT_some h
  have := run_loadCells_list (P := P) w ⟨b, o, none⟩ cs (fun j v hv => by rw [addr_add]; exact hc j v hv)
  simp [Instr.loadAt, Instr.sureAddr, loadVar, Sem.run_bind, run_isAgg h, run_sizeOf hd, ← hl, this]
theorem run_loadAt_one (h : aggT P t = some false) {w : World} {b o : Nat} {v : Value} (hc : w.cell? ⟨b, o, none⟩ = some v) :
    (Instr.loadAt t (.pointer (some ⟨b, o, none⟩))).run P w = .ok v w := by
  simp [Instr.loadAt, Instr.sureAddr, loadVar, Sem.run_bind, run_isAgg h, hc]
end

/-! #### parts of data -/
theorem cast?_self (t : Sh) (x : sem t) : cast? t t x = some x := by simp [cast?]
theorem cast?_some {t t' : Sh} {x : sem t} {y : sem t'} (h : cast? t t' x = some y) : ∃ e : t = t', e ▸ x = y := by
  unfold cast? at h
  split at h
  · rename_i e; exact ⟨e, Option.some.inj h⟩
  · cases h
theorem getAt_rep {fz : Fz} : ∀ (t : Sh) (x : sem t) (off : Nat) (t' : Sh) (y : sem t'), getAt t x off t' = some y → ∀ cs, RepC fz t x cs →
    RepC fz t' y ((cs.drop off).take t'.size) ∧ off + t'.size ≤ cs.length := by
  intro t
  induction t with
  | pair a b iha ihb =>
    intro x off t' y h cs hr
    unfold getAt at h
    split at h
    · rename_i e
      obtain ⟨rfl, rfl⟩ := e
      rw [cast?_self] at h
      cases h
      have hl := hr.len
      exact ⟨by rw [List.drop_zero, ← hl, List.take_length]; exact hr, by simp [hl]⟩
    · obtain ⟨l1, l2, rfl, h1, h2⟩ := hr
      have e1 := h1.len
      have e2 := h2.len
      simp only at h
      split at h
      · rename_i ho
        obtain ⟨q1, q2⟩ := iha _ _ _ _ h _ h1
        refine ⟨?_, by simp; omega⟩
        rw [List.drop_append, List.take_append]
        have : (l1.drop off).length ≥ t'.size := by simp; omega
        rw [show t'.size - (l1.drop off).length = 0 by omega]
        simpa using q1
      · rename_i ho
        obtain ⟨q1, q2⟩ := ihb _ _ _ _ h _ h2
        refine ⟨?_, by simp; omega⟩
        rw [List.drop_append, List.drop_of_length_le (by omega), List.nil_append, e1]
        exact q1
  | rose t iht =>
    intro x off t' y h cs hr
    unfold getAt at h
    split at h
    · rename_i e
      obtain ⟨rfl, rfl⟩ := e
      rw [cast?_self] at h
      cases h
      have hl := hr.len
      exact ⟨by rw [List.drop_zero, ← hl, List.take_length]; exact hr, by simp [hl]⟩
    · obtain ⟨l1, l2, rfl, h1, h2⟩ := RepC.rose.1 hr
      have e1 := h1.len
      have e2 := h2.len
      simp only at h
      split at h
      · rename_i ho
        obtain ⟨q1, q2⟩ := iht _ _ _ _ h _ h1
        refine ⟨?_, by simp; omega⟩
        rw [List.drop_append, List.take_append]
        have : (l1.drop off).length ≥ t'.size := by simp; omega
        rw [show t'.size - (l1.drop off).length = 0 by omega]
        simpa using q1
      · split at h
        · rename_i ho1 ho
          obtain ⟨e, e'⟩ := cast?_some h
          subst e
          subst e'
          refine ⟨?_, by simp [e1, e2, ho]⟩
          rw [List.drop_append, List.drop_of_length_le (by omega), List.nil_append, show off - l1.length = 0 by omega, List.drop_zero, ← e2, List.take_length]
          exact h2
        · cases h
  | _ =>
    intro x off t' y h cs hr
    unfold getAt at h
    split at h
    · rename_i e
      obtain ⟨rfl, rfl⟩ := e
      rw [cast?_self] at h
      cases h
      have hl := hr.len
      exact ⟨by rw [List.drop_zero, ← hl, List.take_length]; exact hr, by simp [hl]⟩
    · cases h
theorem RepV.of_cells {fz : Fz} {t : Sh} {x : sem t} {cs : List Value} (h : RepC fz t x cs) :
    (t.isP = true → RepV fz t x (.agg cs.toArray)) ∧ (t.isP = false → ∃ v, cs = [v] ∧ RepV fz t x v) := by
  refine ⟨fun hp => by unfold RepV; rw [if_pos hp]; exact ⟨_, rfl, by simpa using h⟩, fun hp => ?_⟩
  have hl := h.len
  have h1 : t.size = 1 := by cases t <;> simp [Sh.isP] at hp <;> rfl
  rw [h1] at hl
  match cs, hl with
  | [v], _ => exact ⟨v, rfl, by unfold RepV; rw [if_neg (by simp [hp])]; exact h⟩
theorem mkD_rel {g : Gh} {m : List AO} {t : Sh} {x : sem t} {fr : Bool} {v : Value} (h : RepV (g.sel fr) t x v) : Rel g m (mkD t x fr) v := by
  cases t
  case bool =>
    have h' : [v] = [Value.bool x] := h
    rw [(List.cons.inj h').1]
    exact Rel.cd
  all_goals (show Rel g m (.d _ x fr) v; unfold Rel; exact h)

/-- in every world that has grown out of wb -/
abbrev From (wb w : World) : Prop := Below wb.heap.size wb w
theorem From.cell {wb w : World} (h : From wb w) {b o : Nat} {v : Value} (hc : wb.cell? ⟨b, o, none⟩ = some v) : w.cell? ⟨b, o, none⟩ = some v := cell_below h hc

section
variable {P : Program} {g : Gh} {ω : Type} {r : ω} {w0 : Ent} {wb : World}
theorem cut1_rel {m : List AO} {t : TypeId} {l : List AV} {off : Nat} {av : AV} (h : cut1 P t l off = some av) {cs : List Value} (hr : Rels g m l cs) (h1 : ∀ u ∈ cs, u.oneCell' = true) {b o : Nat} :
    ∃ v, Rel g m av v ∧ ∀ w : World, (∀ (j : Nat) u, cs[j]? = some u → w.cell? ⟨b, o + j, none⟩ = some u) → (Instr.loadAt t (.pointer (some ⟨b, o + off, none⟩))).run P w = .ok v w := by
  unfold cut1 at h
  split at h
  · rename_i ha
    split at h
    · rename_i hle
      cases h
      refine ⟨.agg ((cs.drop off).take (P.cellsOf t)).toArray, ?_, fun w hw => run_loadAt_agg ha ?_ ?_⟩
      · unfold Rel
        exact ⟨_, rfl, by simpa using (hr.drop off).take _, fun u hu => h1 u (List.mem_of_mem_drop (List.mem_of_mem_take (by simpa using hu)))⟩
      · have := hr.length
        simp; omega
      · intro j v hv
        rw [List.getElem?_take] at hv
        split at hv
        · rw [List.getElem?_drop] at hv
          rw [Nat.add_assoc]; exact hw _ _ hv
        · cases hv
    · cases h
  · rename_i ha
    obtain ⟨v, hv, hrel⟩ := hr.get h
    exact ⟨v, hrel, fun w hw => run_loadAt_one ha (hw off v hv)⟩
  · cases h

theorem varSh_some {t : TypeId} {s : Sh} (h : varSh P t = some s) : P.cellsOf t = s.size ∧ aggT P t = some s.isP := by
  unfold varSh at h
  split at h
  · split at h
    · rename_i hh; cases h; exact hh
    · cases h
  · cases h
/-- a part of data that lies at a place -/
theorem part_rel {m : List AO} {t : TypeId} {s s' : Sh} (hv : varSh P t = some s') {x : sem s} {off : Nat} {y : sem s'} (hg : getAt s x off s' = some y) {fr : Bool} {cs : List Value} (hr : RepC (g.sel fr) s x cs) {b o : Nat} :
    ∃ v, Rel g m (mkD s' y fr) v ∧ ∀ w : World, (∀ (j : Nat) u, cs[j]? = some u → w.cell? ⟨b, o + j, none⟩ = some u) → (Instr.loadAt t (.pointer (some ⟨b, o + off, none⟩))).run P w = .ok v w := by
  obtain ⟨hsz, ha⟩ := varSh_some hv
  obtain ⟨q1, q2⟩ := getAt_rep s x off s' y hg cs hr
  have hcell : ∀ (w : World), (∀ (j : Nat) u, cs[j]? = some u → w.cell? ⟨b, o + j, none⟩ = some u) → ∀ (j : Nat) u, ((cs.drop off).take s'.size)[j]? = some u → w.cell? ⟨b, o + off + j, none⟩ = some u := by
    intro w hw j u hu
    rw [List.getElem?_take] at hu
    split at hu
    · rw [List.getElem?_drop] at hu
      rw [Nat.add_assoc]; exact hw _ _ hu
    · cases hu
  obtain ⟨p1, p2⟩ := RepV.of_cells q1
  cases hp : s'.isP with
  | true =>
    rw [hp] at ha
    exact ⟨_, mkD_rel (p1 hp), fun w hw => run_loadAt_agg ha (by rw [q1.len, hsz]) (hcell w hw)⟩
  | false =>
    rw [hp] at ha
    obtain ⟨v, e, hv'⟩ := p2 hp
    refine ⟨v, mkD_rel hv', fun w hw => run_loadAt_one ha ?_⟩
    have := hcell w hw 0 v (by rw [e]; rfl)
    simpa using this

theorem obj_some {σ : St} {id : Nat} {o : AO} (h : σ.obj id = o) (hn : o ≠ .gone) : σ.mem[id]? = some o := by
  unfold St.obj at h
  rw [List.getD_eq_getElem?_getD] at h
  cases hm : σ.mem[id]? with
  | none => rw [hm] at h; exact absurd h.symm (by simpa using hn)
  | some o' => rw [hm] at h; rw [← h]; rfl

theorem row_rel {σ : St} (hW : WF w0 g σ.mem wb) {id : Nat} {t : Sh} {l : List (sem t)} {fr : Bool} (ho : σ.mem[id]? = some (.row t l fr)) {i : Int} (h0 : 0 ≤ i) (hi : i < l.length) {b : Nat} (hb : rowBlk (g.rv id) = some b) :
    ∃ cs, RepC (g.sel fr) t (rd (dflt t) l i) cs ∧ ∀ (j : Nat) u, cs[j]? = some u → wb.cell? ⟨b, i.toNat * t.size + j, none⟩ = some u := by
  obtain ⟨hpos, e, xs, hown, hrep⟩ := hW.own id _ ho
  have hil : i.toNat < l.length := by omega
  refine ⟨(xs.drop (i.toNat * t.size)).take t.size, ?_, ?_⟩
  · have := RepL.get (fun x c h => RepC.len t x c h) l xs hrep i.toNat hil
    rw [show rd (dflt t) l i = l[i.toNat] by simp [rd, hil]]
    exact this
  · intro j u hu
    rw [List.getElem?_take] at hu
    split at hu
    · rw [List.getElem?_drop] at hu
      exact hown.cells hb (i.toNat * t.size + j) u hu
    · cases hu

/-- a world in which block b is as it was -/
def Keeps (b : Nat) (wb w : World) : Prop := ∀ o x, wb.cell? ⟨b, o, none⟩ = some x → w.cell? ⟨b, o, none⟩ = some x
theorem From.keeps {wb w : World} (h : From wb w) (b : Nat) : Keeps b wb w := fun o x hx => h.cell hx
theorem loadK_at {σ : St} {t : TypeId} {a : AV} {K : AV → Option ω} (h : loadK P σ t a K = some r) {va : Value} (ha : Rel g σ.mem a va) (hW : WF w0 g σ.mem wb) :
    ∃ av v, K av = some r ∧ Rel g σ.mem av v ∧ ∃ b off, va = .pointer (some ⟨b, off, none⟩) ∧ ∀ w, Keeps b wb w → (Instr.loadAt t va).run P w = .ok v w := by
  unfold loadK at h
  split at h
  · rename_i id off
    split at h
    · rename_i l ho
      split at h
      · rename_i av hc
        have hm := obj_some ho (by simp)
        unfold Rel at ha
        obtain ⟨_, o, ho', ha⟩ := ha
        rw [hm] at ho'
        cases ho'
        simp only at ha
        subst ha
        obtain ⟨_, c, T, hh, hr, h1⟩ := hW.own id _ hm
        obtain ⟨v, hv, hrun⟩ := cut1_rel (P := P) (b := g.bl id) (o := 0) hc hr h1
        refine ⟨av, v, h, hv, _, _, rfl, fun w hw => ?_⟩
        have := hrun w (fun j u hu => hw _ _ (by simpa [World.cell?, hh] using hu))
        simpa using this
      · cases h
    · cases h
  · rename_i l off
    split at h
    · rename_i av hc
      unfold Rel at ha
      obtain ⟨b, o, cs, rfl, hr, h1, hz⟩ := ha
      obtain ⟨v, hv, hrun⟩ := cut1_rel (P := P) (b := b) (o := o) hc hr h1
      exact ⟨av, v, h, hv, _, _, rfl, fun w hw => hrun w (fun j u hu => hw _ _ (hW.fzc _ _ _ (hz j u hu)))⟩
    · cases h
  · rename_i s x off fr
    split at h
    · rename_i s' hs
      split at h
      · rename_i y hy
        unfold Rel at ha
        obtain ⟨b, o, cs, rfl, hr, hz⟩ := ha
        obtain ⟨v, hv, hrun⟩ := part_rel (m := σ.mem) hs hy hr (b := b) (o := o)
        exact ⟨_, v, h, hv, _, _, rfl, fun w hw => hrun w (fun j u hu => hw _ _ (hW.fzc _ _ _ (hz j u hu)))⟩
      · cases h
    · cases h
  · rename_i id i off
    split at h
    · rename_i s l fr s' ho hs
      split at h
      · rename_i y hy
        have hm := obj_some ho (by simp)
        unfold Rel at ha
        obtain ⟨_, o, ho', ha⟩ := ha
        rw [hm] at ho'
        cases ho'
        simp only at ha
        obtain ⟨h0, hi, b, hb, rfl⟩ := ha
        obtain ⟨cs, hr, hz⟩ := row_rel hW hm h0 hi hb
        obtain ⟨v, hv, hrun⟩ := part_rel (m := σ.mem) hs hy hr (b := b) (o := i.toNat * s.size)
        exact ⟨_, v, h, hv, _, _, rfl, fun w hw => hrun w (fun j u hu => hw _ _ (hz j u hu))⟩
      · cases h
    · cases h
  · cases h
theorem loadK_ok {σ : St} {t : TypeId} {a : AV} {K : AV → Option ω} (h : loadK P σ t a K = some r) {va : Value} (ha : Rel g σ.mem a va) (hW : WF w0 g σ.mem wb) :
    ∃ av v, K av = some r ∧ Rel g σ.mem av v ∧ ∀ w, From wb w → (Instr.loadAt t va).run P w = .ok v w := by
  obtain ⟨av, v, h1, h2, b, off, _, h3⟩ := loadK_at h ha hW
  exact ⟨av, v, h1, h2, fun w hw => h3 w (hw.keeps b)⟩
end
section
variable {P : Program} {g : Gh} {m : List AO} {ω : Type} {r : ω}
theorem shiftK {op : BinOp} {k k' : IntKind} {a b : Int} {t : TypeId} {fa fb : Bool} {K : AV → Option ω} (h : binK P op t (.d (.int k) a fa) (.d (.int k') b fb) K = some r) (hs : op = .shl ∨ op = .shr) :
    ∃ av v, K av = some r ∧ Rel g m av v ∧ ∀ w, (binOp op t (.int k a) (.int k' b)).run P w = .ok v w := by
  rcases hs with rfl | rfl <;> (simp only [binK] at h; rw [br_val] at h; simp only [Cd.val, decide_eq_true_eq] at h; split at h; (cases h); rename_i h0)
  · exact ⟨_, _, h, Rel.int, fun w => by simp [binOp, Op.shift, h0, shlI]⟩
  · exact ⟨_, _, h, Rel.int, fun w => by simp [binOp, Op.shift, h0, shrI]⟩
theorem intK' {op : BinOp} {k k' : IntKind} {a b : Int} {t : TypeId} {fa fb : Bool} {K : AV → Option ω} (h : binK P op t (.d (.int k) a fa) (.d (.int k') b fb) K = some r) :
    ∃ av v, K av = some r ∧ Rel g m av v ∧ ∀ w, (binOp op t (.int k a) (.int k' b)).run P w = .ok v w := by
  by_cases h1 : op = .shl ∨ op = .shr
  · exact shiftK h h1
  · have e : k = k' := by
      by_cases e : k = k'
      · exact e
      · exfalso
        cases op <;> simp [binK, e] at h h1
    subst e
    exact intK h (fun e => h1 (.inl e)) (fun e => h1 (.inr e))
theorem strK {op : BinOp} {a b : ByteArray} {t : TypeId} {fa fb : Bool} {K : AV → Option ω} (h : binK P op t (.d .str a fa) (.d .str b fb) K = some r) :
    ∃ av v, K av = some r ∧ Rel g m av v ∧ ∀ w, (binOp op t (.string a) (.string b)).run P w = .ok v w := by
  cases op <;> simp only [binK] at h <;>
    first
    | (cases h; done)
    | (exact ⟨_, _, h, Rel.cd, fun w => by simp [binOp, Op.stringOp, Cd.val, bytes_eq]⟩)
    | skip
  rw [br_val] at h
  simp only [Cd.val, decide_eq_true_eq] at h
  split at h
  · rename_i hle
    refine ⟨_, _, h, Rel.str, fun w => ?_⟩
    have : ¬ (((a.size + b.size : Nat) : Int) > IntKind.i64.max) := by
      have : IntKind.i64.max = 9223372036854775807 := by decide
      rw [this]; unfold lim at hle; omega
    simp only [binOp, Op.stringOp]
    rw [if_neg this]
    rfl
  · cases h
theorem run_equal_bool {t : TypeId} (hu : P.underlying t = some .bool) (a b : Bool) (w : World) : (Op.equal t (.bool a) (.bool b)).run P w = .ok (a == b) w := by
  show (Op.equalIn (9999 + 1) t (.bool a) (.bool b)).run P w = _
  rw [Op.equalIn]
  simp only [Sem.run_bind, run_underlying hu, Result.andThen_ok]
  rfl
theorem boolK {op : BinOp} {a b : Cd} {t : TypeId} {K : AV → Option ω} (h : binK P op t (.c a) (.c b) K = some r) :
    ∃ av v, K av = some r ∧ Rel g m av v ∧ ∀ w, (binOp op t (.bool a.val) (.bool b.val)).run P w = .ok v w := by
  simp only [binK] at h
  split at h
  · rename_i hu
    exact ⟨_, _, h, Rel.cd, fun w => by simp only [binOp, Sem.run_bind, run_equal_bool hu, Result.andThen_ok]; rfl⟩
  · rename_i hu
    exact ⟨_, _, h, Rel.cd, fun w => by simp only [binOp, Sem.run_bind, run_equal_bool hu, Result.andThen_ok]; rfl⟩
  · cases h
end
theorem RepL.drop {α : Type} {R : α → List Value → Prop} {n : Nat} (h : ∀ x c, R x c → c.length = n) :
    ∀ (l : List α) c, RepL R l c → ∀ (i : Nat), RepL R (l.drop i) (c.drop (i * n))
  | l, _, hc, 0 => by simpa using hc
  | [], _, hc, i + 1 => by rw [show _ = _ from hc]; simp; exact rfl
  | x :: l, _, ⟨c1, c2, e, h1, h2⟩, i + 1 => by
    subst e
    have hl := h _ _ h1
    have := RepL.drop h l c2 h2 i
    have e : (c1 ++ c2).drop ((i + 1) * n) = c2.drop (i * n) := by
      rw [show (i + 1) * n = c1.length + i * n by rw [hl, Nat.add_mul]; omega, List.drop_append, List.drop_of_length_le (by omega), Nat.add_sub_cancel_left, List.nil_append]
    rw [e, List.drop_succ_cons]
    exact this
theorem RepL.take {α : Type} {R : α → List Value → Prop} {n : Nat} (h : ∀ x c, R x c → c.length = n) :
    ∀ (l : List α) c, RepL R l c → ∀ (i : Nat), RepL R (l.take i) (c.take (i * n))
  | l, _, hc, 0 => by simp; exact rfl
  | [], _, hc, i + 1 => by rw [show _ = _ from hc]; simp; exact rfl
  | x :: l, _, ⟨c1, c2, e, h1, h2⟩, i + 1 => by
    subst e
    have hl := h _ _ h1
    have := RepL.take h l c2 h2 i
    have e : (c1 ++ c2).take ((i + 1) * n) = c1 ++ c2.take (i * n) := by
      rw [show (i + 1) * n = c1.length + i * n by rw [hl, Nat.add_mul]; omega, List.take_append, List.take_of_length_le (by omega), Nat.add_sub_cancel_left]
    rw [e, List.take_succ_cons]
    exact ⟨c1, _, rfl, h1, this⟩
section
variable {P : Program} {g : Gh} {ω : Type} {r : ω} {w0 : Ent} {wb : World}
theorem unK_ok {m : List AO} {op : UnOp} {x : AV} {K : AV → Option ω} (h : unK op x K = some r) {vx : Value} (hx : Rel g m x vx) :
    ∃ av v, K av = some r ∧ Rel g m av v ∧ ∀ w, (Op.unary op vx).run P w = .ok v w := by
  unfold unK at h
  split at h
  · rw [hx.cd_inv]
    exact ⟨_, _, h, Rel.cd, fun w => by simp [Op.unary, not_val]⟩
  · rw [hx.int_inv]
    exact ⟨_, _, h, Rel.int, fun w => by simp [Op.unary, Op.intArith, subI, wr_eq]⟩
  · cases h
theorem intOf_rel {m : List AO} {x : AV} {n : Int} (h : intOf x = some n) {v : Value} (hx : Rel g m x v) : ∃ k, v = .int k n := by
  unfold intOf at h
  split at h
  · cases h; exact ⟨_, hx.int_inv⟩
  · cases h
theorem Rel.list_inv {m : List AO} {t : Sh} {l : List (sem t)} {fr : Bool} {v : Value} (h : Rel g m (.d (.list t) l fr) v) :
    ∃ a cap, v = .slice a l.length cap ∧ l.length ≤ cap ∧ (l = [] ∨ ∃ b o xs, a = some ⟨b, o, none⟩ ∧ RepL (RepC (g.sel fr) t) l xs ∧ ∀ (j : Nat) u, xs[j]? = some u → g.sel fr b (o + j) = some u) := by
  unfold Rel at h
  have h' : RepC (g.sel fr) (.list t) l [v] := h
  obtain ⟨a, cap, e, h1, h2⟩ := h'
  exact ⟨a, cap, (List.cons.inj e).1, h1, h2⟩
theorem Rel.list_mk {m : List AO} {t : Sh} {l : List (sem t)} {fr : Bool} {a : Option Addr} {cap : Nat} (h1 : l.length ≤ cap)
    (h2 : l = [] ∨ ∃ b o xs, a = some ⟨b, o, none⟩ ∧ RepL (RepC (g.sel fr) t) l xs ∧ ∀ (j : Nat) u, xs[j]? = some u → g.sel fr b (o + j) = some u) :
    Rel g m (.d (.list t) l fr) (.slice a l.length cap) := by
  unfold Rel
  show RepC (g.sel fr) (.list t) l [_]
  exact ⟨a, cap, rfl, h1, h2⟩
theorem sel_fz (hW : ∀ b o v, g.fn b o = some v → g.fz b o = some v) {fr : Bool} {b o : Nat} {v : Value} (h : g.sel fr b o = some v) : g.fz b o = some v := by
  cases fr
  · exact h
  · exact hW _ _ _ h

theorem own_slice {w : World} {base : Nat} {e : TypeId} {size : Nat} {v : Value} {n : Nat} {xs : List Value} (h : OwnR w base e size v n xs) : ∃ a c, v = .slice a n c ∧ n ≤ c := by
  rcases h.2 with ⟨e2, a0, e1⟩ | ⟨q, cap, cur, e1, _, _, hle, _⟩
  · exact ⟨a0, 0, by rw [e1, e2], by omega⟩
  · exact ⟨_, _, e1, hle⟩
theorem lenK_ok {σ : St} {t ty : TypeId} {x : AV} {K : AV → Option ω} (h : lenK P t σ.mem x K = some r) {vx : Value} (hx : Rel g σ.mem x vx) (hW : WF w0 g σ.mem wb) :
    ∃ av v, K av = some r ∧ Rel g σ.mem av v ∧ ∀ w, (Builtin.len_ #[t] ty #[vx]).run P w = .ok v w := by
  unfold lenK at h
  split at h
  · rename_i hu
    rw [hx.str_inv]
    exact ⟨_, _, h, Rel.int, fun w => by simp [Builtin.len_, run_underlying hu, sizeI, goInt]⟩
  · rename_i hu
    obtain ⟨a, cap, rfl, _⟩ := hx.list_inv
    exact ⟨_, _, h, Rel.int, fun w => by simp [Builtin.len_, run_underlying hu, lenI, goInt]⟩
  · rename_i hu
    unfold Rel at hx
    subst hx
    exact ⟨_, _, h, Rel.int, fun w => by simp [Builtin.len_, run_underlying hu, goInt]⟩
  · rename_i id hu
    split at h
    · rename_i s l fr ho
      have hm : σ.mem[id]? = some (.row s l fr) := obj_some (σ := σ) ho (by simp)
      unfold Rel at hx
      obtain ⟨_, o, ho', hx⟩ := hx
      rw [hm] at ho'
      cases ho'
      simp only at hx
      subst hx
      obtain ⟨_, e, xs, hown, _⟩ := hW.own id _ hm
      have : ∃ a c, g.rv id = .slice a l.length c := by
        rcases hown.2 with ⟨e2, a0, e1⟩ | ⟨q, cap, cur, e1, _⟩
        · exact ⟨a0, 0, by rw [e1, e2]⟩
        · exact ⟨_, _, e1⟩
      obtain ⟨a, c, e1⟩ := this
      rw [e1]
      exact ⟨_, _, h, Rel.int, fun w => by simp [Builtin.len_, run_underlying hu, lenI, goInt]⟩
    · cases h
  · rename_i id i n hu
    split at h
    · rename_i s l fr ho
      have hm : σ.mem[id]? = some (.row s l fr) := obj_some (σ := σ) ho (by simp)
      unfold Rel at hx
      obtain ⟨_, o, ho', hx⟩ := hx
      rw [hm] at ho'
      cases ho'
      simp only at hx
      obtain ⟨h0, h1, h2, rfl⟩ := hx
      obtain ⟨_, e, xs, hown, _⟩ := hW.own id _ hm
      obtain ⟨a, c, e1, _⟩ := own_slice hown
      rw [e1]
      refine ⟨_, _, h, Rel.int, fun w => ?_⟩
      simp [Builtin.len_, run_underlying hu, goInt, subV, Int.toNat_of_nonneg h1]
    · cases h
  · cases h

theorem opnd_int {σ : St} {a : Act} (hE : EnvR g σ a) {x : Operand} {n : Int} (h : intOf (opnd σ x) = some n) : ∃ k, a.eval x = .int k n := intOf_rel h (hE.opnd x)
theorem cut_len {α : Type} (l : List α) {i j : Int} (h : j.toNat ≤ l.length) : (cut l i j).length = j.toNat - i.toNat := by
  unfold cut; rw [List.length_drop, List.length_take, Nat.min_eq_left h]
theorem run_bound {y : Nat} {k : IntKind} {n : Int} (h0 : 0 ≤ n) (hy : n ≤ y) (w : World) (code : BoundsCode) : (Instr.sliceBound (.int k n) y code).run P w = .ok n.toNat w := by
  simp [Instr.sliceBound, asIntOf, h0, hy]
theorem run_bounds {σ : St} {a : Act} (hE : EnvR g σ a) {lo hi : Option Operand} {x y z : Int} (hl : optInt σ lo 0 = some x) (hh : optInt σ hi z = some y) (h0 : 0 ≤ x) (h1 : x ≤ y) {len cap : Nat} (hz : z = len) (h2 : y ≤ cap) (s : Bool) (w : World) :
    (Instr.sliceBounds s len cap (lo.map a.eval) (hi.map a.eval) none).run P w = .ok (x.toNat, y.toNat, cap) w := by
  unfold optInt at hl hh
  have hy0 : 0 ≤ y := by omega
  have hcast : ((y.toNat : Nat) : Int) = y := by omega
  cases lo with
  | none =>
    cases hl
    cases hi with
    | none => cases hh; subst hz; simp [Instr.sliceBounds]
    | some o =>
      obtain ⟨k, e⟩ := intOf_rel hh (hE.opnd o)
      simp [Instr.sliceBounds, e, run_bound hy0 h2]
  | some p =>
    obtain ⟨k', e'⟩ := intOf_rel hl (hE.opnd p)
    cases hi with
    | none =>
      cases hh; subst hz
      simp [Instr.sliceBounds, e', run_bound h0 h1]
    | some o =>
      obtain ⟨k, e⟩ := intOf_rel hh (hE.opnd o)
      simp [Instr.sliceBounds, e, e', run_bound hy0 h2, run_bound h0 (show x ≤ (y.toNat : Nat) by omega)]
theorem sliceK_ok {σ : St} {a : Act} (hE : EnvR g σ a) {t : TypeId} {x : AV} {lo hi : Option Operand} {K : AV → Option ω} (h : sliceK P t σ x lo hi K = some r) {vx : Value} (hx : Rel g σ.mem x vx) (hW : WF w0 g σ.mem wb) :
    ∃ av v, K av = some r ∧ Rel g σ.mem av v ∧ ∀ w, (Instr.sliceAt t vx (lo.map a.eval) (hi.map a.eval) none).run P w = .ok v w := by
  unfold sliceK at h
  split at h
  · rename_i s fr hu
    split at h
    · rename_i i j hi' hj'
      rw [br_val] at h
      simp only [Cd.val, decide_eq_true_eq] at h
      split at h
      · rename_i hb
        obtain ⟨h0, h1, h2⟩ := hb
        rw [hx.str_inv]
        refine ⟨_, _, h, Rel.str, fun w => ?_⟩
        have := run_bounds (P := P) hE hi' hj' h0 h1 (len := s.size) (cap := s.size) rfl h2 false w
        simp [Instr.sliceAt, Instr.slice, run_underlying hu, this, cutS]
      · cases h
    · cases h
  · rename_i e s l fr hu
    split at h
    · rename_i i j hi' hj'
      split at h
      · rename_i hsz
        rw [br_val] at h
        simp only [Cd.val, decide_eq_true_eq] at h
        split at h
        · rename_i hb
          obtain ⟨h0, h1, h2⟩ := hb
          obtain ⟨ad, cap, rfl, hcap, hrep⟩ := hx.list_inv
          have h2' : j ≤ l.length := h2
          obtain ⟨hsz, hsz0⟩ := hsz
          have hj : j.toNat ≤ l.length := by omega
          have hcut : (cut l i j).length = j.toNat - i.toNat := cut_len (α := sem s) l hj
          refine ⟨.d (.list s) (cut l i j) fr, .slice (if cap = i.toNat then ad else ad.map (·.add (i.toNat * s.size))) (cut l i j).length (cap - i.toNat), h, ?_, fun w => ?_⟩
          · refine Rel.list_mk (by omega) ?_
            by_cases he : cap = i.toNat
            · left
              apply List.eq_nil_of_length_eq_zero
              omega
            · rw [if_neg he]
              rcases hrep with rfl | ⟨b, o, xs, rfl, hr, hz⟩
              · left; simp [cut]
              · right
                refine ⟨b, o + i.toNat * s.size, (xs.take (j.toNat * s.size)).drop (i.toNat * s.size), by simp [addr_add], ?_, fun q u hu => ?_⟩
                · exact RepL.drop (fun x c h => RepC.len s x c h) _ _ (RepL.take (fun x c h => RepC.len s x c h) l xs hr j.toNat) i.toNat
                · rw [List.getElem?_drop, List.getElem?_take] at hu
                  split at hu
                  · rw [Nat.add_assoc]; exact hz _ _ hu
                  · cases hu
          · have := run_bounds (P := P) hE hi' hj' h0 h1 (len := l.length) (cap := cap) rfl (by omega) true w
            simp [Instr.sliceAt, Instr.slice, run_underlying hu, this, run_sizeOf' (by rw [hsz]; exact hsz0), hsz, hcut]
        · cases h
      · cases h
    · cases h
  · rename_i e id hu
    split at h
    · rename_i s l fr ho
      have hm : σ.mem[id]? = some (.row s l fr) := obj_some (σ := σ) ho (by simp)
      unfold Rel at hx
      obtain ⟨_, o, ho', hx⟩ := hx
      rw [hm] at ho'
      cases ho'
      simp only at hx
      subst hx
      obtain ⟨_, e2, xs, hown, _⟩ := hW.own id _ hm
      obtain ⟨ad, c, e1, hc⟩ := own_slice hown
      split at h
      · rename_i i j hi' hj'
        split at h
        · rename_i hsz
          rw [br_val] at h
          simp only [Cd.val, decide_eq_true_eq] at h
          split at h
          · rename_i hb
            obtain ⟨h0, h1, h2⟩ := hb
            have h2' : j ≤ l.length := h2
            obtain ⟨hsz, hsz0⟩ := hsz
            have en : (if lo.isNone = true then j else subI j i) = j - i := by
              cases lo with
              | none => cases hi'; simp
              | some o => rfl
            rw [en] at h
            refine ⟨_, subV i.toNat (j - i).toNat s.size (g.rv id), h, ?_, fun w => ?_⟩
            · unfold Rel
              refine ⟨by rw [e1]; rfl, _, hm, h0, by omega, by omega, rfl⟩
            · rw [e1]
              have := run_bounds (P := P) hE hi' hj' h0 h1 (len := l.length) (cap := c) rfl (by omega) true w
              simp [Instr.sliceAt, Instr.slice, run_underlying hu, this, run_sizeOf' (by rw [hsz]; exact hsz0), hsz, subV]
              omega
          · cases h
        · cases h
      · cases h
    · cases h
  · cases h
theorem list_at (hf : ∀ b o v, g.fn b o = some v → g.fz b o = some v) {m : List AO} {s : Sh} {l : List (sem s)} {fr : Bool} {ad : Option Addr}
    (hrep : l = [] ∨ ∃ b o xs, ad = some ⟨b, o, none⟩ ∧ RepL (RepC (g.sel fr) s) l xs ∧ ∀ (j : Nat) u, xs[j]? = some u → g.sel fr b (o + j) = some u) {i : Int} (h0 : 0 ≤ i) (hi : i < l.length) :
    ∃ b o, ad = some ⟨b, o, none⟩ ∧ Rel g m (.fp s (rd (dflt s) l i) 0 fr) (.pointer (some ⟨b, o + i.toNat * s.size, none⟩)) := by
  have hil : i.toNat < l.length := by omega
  rcases hrep with rfl | ⟨b, o, xs, rfl, hr, hz⟩
  · simp at hil
  · refine ⟨b, o, rfl, ?_⟩
    unfold Rel
    refine ⟨b, o + i.toNat * s.size, (xs.drop (i.toNat * s.size)).take s.size, rfl, ?_, fun j u hu => ?_⟩
    · rw [show rd (dflt s) l i = l[i.toNat] by simp [rd, hil]]
      exact RepL.get (fun x c h => RepC.len s x c h) l xs hr i.toNat hil
    · rw [List.getElem?_take] at hu
      split at hu
      · rw [List.getElem?_drop] at hu
        rw [Nat.add_assoc]; exact sel_fz hf (hz _ _ hu)
      · cases hu
theorem indexAddrK_ok {σ : St} {t : TypeId} {x i : AV} {K : AV → Option ω} (h : indexAddrK P t σ x i K = some r) {vx vi : Value} (hx : Rel g σ.mem x vx) (hi : Rel g σ.mem i vi) (hW : WF w0 g σ.mem wb) :
    ∃ av v, K av = some r ∧ Rel g σ.mem av v ∧ ∀ w, (Instr.indexAt t vx vi).run P w = .ok v w := by
  unfold indexAddrK at h
  split at h
  · rename_i n e hn he
    obtain ⟨k, rfl⟩ := intOf_rel hn hi
    unfold elemT at he
    split at he
    · rename_i e' hu
      cases he
      split at h
      · rename_i s l fr
        split at h
        · rename_i hsz
          obtain ⟨hsz, hsz0⟩ := hsz
          rw [br_val] at h
          simp only [Cd.val, decide_eq_true_eq] at h
          split at h
          · rename_i hb
            obtain ⟨h0, h1⟩ := hb
            have h1' : n < (List.length l : Int) := h1
            obtain ⟨ad, cap, rfl, hcap, hrep⟩ := hx.list_inv
            obtain ⟨b, o, rfl, hrel⟩ := list_at (m := σ.mem) (fun b o v hv => (hW.fnz b o v hv).1) hrep h0 h1'
            refine ⟨_, _, h, hrel, fun w => ?_⟩
            simp [Instr.indexAt, asIntOf, run_underlying hu, run_sizeOf' (P := P) (t := e) (by rw [hsz]; exact hsz0), hsz, h0, h1', addr_add]
          · cases h
        · cases h
      · rename_i id
        split at h
        · rename_i s l fr ho
          split at h
          · rename_i hsz
            obtain ⟨hsz, hsz0⟩ := hsz
            rw [br_val] at h
            simp only [Cd.val, decide_eq_true_eq] at h
            split at h
            · rename_i hb
              obtain ⟨h0, h1⟩ := hb
              have h1' : n < (List.length l : Int) := h1
              have hm := obj_some ho (by simp)
              unfold Rel at hx
              obtain ⟨_, o, ho', hx⟩ := hx
              rw [hm] at ho'
              cases ho'
              simp only at hx
              subst hx
              obtain ⟨_, e2, xs, hown, _⟩ := hW.own id _ hm
              rcases hown.2 with ⟨e2, a0, e1⟩ | ⟨q, cap, cur, e1, hrest⟩
              · omega
              · rw [e1]
                refine ⟨_, .pointer (some ⟨q, n.toNat * s.size, none⟩), h, ?_, fun w => ?_⟩
                · unfold Rel
                  exact ⟨rfl, _, hm, h0, h1', q, by rw [e1]; rfl, rfl⟩
                · simp [Instr.indexAt, asIntOf, run_underlying hu, run_sizeOf' (P := P) (t := e) (by rw [hsz]; exact hsz0), hsz, h0, h1', addr_add]
            · cases h
          · cases h
        · cases h
      · rename_i id i2 n2
        split at h
        · rename_i s l fr ho
          split at h
          · rename_i hsz
            obtain ⟨hsz, hsz0⟩ := hsz
            rw [br_val] at h
            simp only [Cd.val, decide_eq_true_eq] at h
            split at h
            · rename_i hb
              obtain ⟨h0, h1⟩ := hb
              have hm := obj_some ho (by simp)
              unfold Rel at hx
              obtain ⟨_, o, ho', hx⟩ := hx
              rw [hm] at ho'
              cases ho'
              simp only at hx
              obtain ⟨g0, g1, g2, rfl⟩ := hx
              obtain ⟨_, e2, xs, hown, _⟩ := hW.own id _ hm
              rcases hown.2 with ⟨e2, a0, e1⟩ | ⟨q, cap, cur, e1, _, _, hle, _⟩
              · omega
              · rw [e1]
                refine ⟨_, .pointer (some ⟨q, (i2 + n).toNat * s.size, none⟩), h, ?_, fun w => ?_⟩
                · unfold Rel
                  refine ⟨rfl, _, hm, by unfold addI; omega, by unfold addI; omega, q, by rw [e1]; rfl, rfl⟩
                · have e4 : ¬ cap + 1 = i2.toNat := by omega
                  have e5 : n < (n2.toNat : Int) := by omega
                  have e6 : i2.toNat * s.size + n.toNat * s.size = (i2 + n).toNat * s.size := by rw [← Nat.add_mul]; congr 1; omega
                  simp [Instr.indexAt, asIntOf, run_underlying hu, run_sizeOf' (P := P) (t := e) (by rw [hsz]; exact hsz0), hsz, h0, h1, Int.toNat_of_nonneg g1, addr_add, subV, e4, e6]
            · cases h
          · cases h
        · cases h
      · cases h
    · cases he
  · cases h
end
end Go.Den
