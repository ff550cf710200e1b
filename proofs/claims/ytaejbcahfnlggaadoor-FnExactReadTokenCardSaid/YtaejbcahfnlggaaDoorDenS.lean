import Derived.Test.YtaejbcahfnlggaaDoorDenF
import Derived.Laws.StructEq
import Derived.Laws.BytesString
namespace Go.Den
open Go.RowKit (wrap64)
set_option linter.unusedVariables false
set_option linter.unusedSimpArgs false
/-! Two structs held against each other. -/
theorem cellsV_len : ∀ (t : Sh) (x : sem t), t.flat = true → (cellsV t x).length = t.size
  | .int _, _, _ => rfl | .bool, _, _ => rfl | .str, _, _ => rfl | .unit, _, _ => rfl
  | .list _, _, h => by simp [Sh.flat] at h
  | .rose _, _, h => by simp [Sh.flat] at h
  | .pair a b, x, h => by
    simp only [Sh.flat, Bool.and_eq_true] at h
    simp only [cellsV, List.length_append, cellsV_len a _ h.1, cellsV_len b _ h.2]; rfl
section
variable {P : Program}
theorem eqOk_agg {n m : Nat} {t : TypeId} {s : Sh} (h : shOf P n t = some s) (he : eqOk P m t = true) : aggT P t = some s.isP := by
  cases n with
  | zero => simp [shOf] at h
  | succ n =>
  cases m with
  | zero => simp [eqOk] at he
  | succ m =>
    unfold shOf at h
    unfold eqOk at he
    unfold aggT
    cases hu : P.underlying t with
    | none => rw [hu] at h; cases h
    | some d =>
      rw [hu] at h he
      cases d <;> simp only at h he <;> first | (cases h; done) | (cases he; done) | (cases h; rfl) | skip
      rename_i fs
      simp only [aggD]
      by_cases ho : ownRow P t fs.toList = true
      · rw [if_pos ho] at h
        unfold roseOf at h
        split at h
        · split at h
          · cases h; rfl
          · cases h
        · cases h
      rw [if_neg ho] at h
      cases hf : fs.toList with
      | nil => rw [hf] at h; simp [shFs] at h; subst h; rfl
      | cons f r =>
        rw [hf] at h
        unfold shFs at h
        split at h
        · split at h
          · split at h
            · cases h; rfl
            · cases h
          · cases h
        · cases h
theorem eqFields_ok {n m d : Nat} (ih : ∀ (t : TypeId) (s : Sh), shOf P n t = some s → eqOk P m t = true → s.flat = true → ∀ (a b : sem s) (w : World), (Op.equalIn d t (valV s a) (valV s b)).run P w = .ok (eqD s a b) w) :
    ∀ (fs : List Field) (off : Nat) (s : Sh), shFs P (shOf P n) off fs = some s → (fs.all fun f => f.name != "_" && eqOk P m f.type) = true → s.flat = true → ∀ (a b : sem s) (p q : List Value) (xs ys : Array Value),
      xs.toList = p ++ cellsV s a → ys.toList = q ++ cellsV s b → p.length = off → q.length = off → ∀ w, (Op.eqFields d xs ys fs).run P w = .ok (eqD s a b) w
  | [], off, s, h, ha, hf, a, b, p, q, xs, ys, hx, hy, hp, hq, w => by
    simp [shFs] at h; subst h
    simp [Op.eqFields, eqD]
  | f :: fs, off, s, h, ha, hf, a, b, p, q, xs, ys, hx, hy, hp, hq, w => by
    unfold shFs at h
    split at h
    · rename_i s1 h1
      split at h
      · rename_i hoff
        split at h
        · rename_i s2 h2
          cases h
          simp only [List.all_cons, Bool.and_eq_true, bne_iff_ne, ne_eq] at ha
          simp only [Sh.flat, Bool.and_eq_true] at hf
          have hag := eqOk_agg h1 ha.1.2
          have e1 := cellsV_len s1 a.1 hf.1
          have e2 := cellsV_len s1 b.1 hf.1
          have hpart : ∀ (zs : Array Value) (z : List Value) (c : sem s1) (rest : List Value), zs.toList = z ++ (cellsV s1 c ++ rest) → z.length = off → (part f.type zs f.offset).run P w = .ok (valV s1 c) w := by
            intro zs z c rest hz hl
            have e3 := cellsV_len s1 c hf.1
            unfold part
            cases hP : s1.isP with
            | true =>
              rw [hP] at hag
              obtain ⟨dd, hd, _⟩ := aggT_some hag
              simp only [Sem.run_bind, run_isAgg hag, Result.andThen_ok, if_true, run_sizeOf hd, Sem.run_pure]
              unfold valV
              rw [if_pos hP]
              congr 2
              apply Array.ext'
              rw [Array.toList_extract, List.extract_eq_take_drop, hz, hoff.1, hoff.2, Nat.add_sub_cancel_left, ← hl, List.drop_append, List.drop_of_length_le (Nat.le_refl _), Nat.sub_self, List.nil_append, List.drop_zero, ← e3]
              simp
            | false =>
              rw [hP] at hag
              have h1 : s1.size = 1 := by cases s1 <;> simp [Sh.isP] at hP <;> rfl
              rw [h1] at e3
              match hc : cellsV s1 c, e3 with
              | [u], _ =>
                have : zs[f.offset]? = some u := by
                  rw [← Array.getElem?_toList, hz, hc, hoff.1, ← hl, List.getElem?_append_right (Nat.le_refl _)]; simp
                simp only [Sem.run_bind, run_isAgg hag, Result.andThen_ok, Bool.false_eq_true, if_false, this, Sem.run_pure]
                unfold valV
                rw [if_neg (by simp [hP]), hc]; rfl
          have hx1 := hpart xs p a.1 (cellsV s2 a.2) hx hp
          have hy1 := hpart ys q b.1 (cellsV s2 b.2) hy hq
          have hrec := eqFields_ok ih fs (off + s1.size) s2 h2 (by simpa [Bool.and_eq_true] using ha.2) hf.2 a.2 b.2 (p ++ cellsV s1 a.1) (q ++ cellsV s1 b.1) xs ys
            (by rw [hx]; simp [cellsV]) (by rw [hy]; simp [cellsV]) (by simp [hp, e1]) (by simp [hq, e2]) w
          simp only [Op.eqFields, ne_eq, ha.1.1, not_false_eq_true, if_true, Sem.run_bind, hx1, hy1, Result.andThen_ok, ih f.type s1 h1 ha.1.2 hf.1 a.1 b.1 w]
          show _ = Result.ok (eqD s1 a.1 b.1 && eqD s2 a.2 b.2) w
          cases hE : eqD s1 a.1 b.1 with
          | true => simpa using hrec
          | false => simp
        · cases h
      · cases h
    · cases h
theorem notRose {F : TypeId → Option Sh} {t : TypeId} {fs : List Field} {s : Sh} (h : (if ownRow P t fs = true then roseOf P F fs else shFs P F 0 fs) = some s) (hf : s.flat = true) : shFs P F 0 fs = some s := by
  split at h
  · unfold roseOf at h
    split at h
    · split at h
      · cases h; simp [Sh.flat] at hf
      · cases h
    · cases h
  · exact h
theorem equalIn_ok : ∀ (n m d : Nat), m ≤ d → ∀ (t : TypeId) (s : Sh), shOf P n t = some s → eqOk P m t = true → s.flat = true → ∀ (a b : sem s) (w : World), (Op.equalIn d t (valV s a) (valV s b)).run P w = .ok (eqD s a b) w
  | 0, _, _, _, _, _, h, _, _, _, _, _ => by simp [shOf] at h
  | _ + 1, 0, _, _, _, _, _, h, _, _, _, _ => by simp [eqOk] at h
  | n + 1, m + 1, 0, h, _, _, _, _, _, _, _, _ => by omega
  | n + 1, m + 1, d + 1, hd, t, s, h, he, hf, a, b, w => by
    have h' := h
    unfold shOf at h
    unfold eqOk at he
    cases hu : P.underlying t with
    | none => rw [hu] at h; cases h
    | some dd =>
      rw [hu] at h he
      cases dd <;> simp only at h he <;> first | (cases h; done) | (cases he; done) | skip
      · cases h; exact run_equalIn_bool' w d t a b hu
      · rename_i k
        cases h
        exact run_equalIn_int w d t k k a b hu
      · cases h
        rw [show eqD .str a b = ((a : ByteArray).toList == (b : ByteArray).toList) from (bytes_eq a b).symm]
        exact run_equalIn_string w d t a b hu
      · rename_i fs
        have h := notRose h hf
        simp only [Bool.and_eq_true, Bool.not_eq_true'] at he
        have hfo : P.fieldsOf t = fs := by unfold Program.fieldsOf; rw [hu]
        have hag : s.isP = true := by
          have := eqOk_agg h' (m := m + 1) (by unfold eqOk; rw [hu]; simpa [Bool.and_eq_true] using he)
          unfold aggT at this
          rw [hu] at this
          simpa [aggD] using this.symm
        unfold valV
        rw [if_pos hag, if_pos hag, run_equalIn_struct w d t _ _ (by rw [hfo]; exact hu) he.1, hfo]
        exact eqFields_ok (fun t s h1 h2 h3 => equalIn_ok n m d (by omega) t s h1 h2 h3) fs.toList 0 s h he.2 hf a b [] [] _ _ rfl rfl rfl rfl w
end
section
variable {P : Program} {g : Gh} {w0 : Ent} {w wb : World}
/-- what append's second argument lies at -/
theorem src_ok {m : List AO} (hW : WF w0 g m w) {s : Sh} {y : AV} {b : List (sem s)} {fr : Bool} (h : leaf (.list s) (y.view m) = some (b, fr)) {vy : Value} (hy : Rel g m y vy) :
    ∃ a c news, vy = .slice a b.length c ∧ RepL (RepC (g.sel fr) s) b news ∧ (b.length = 0 ∨ ∃ ad, a = some ad ∧ ∀ (j : Nat) u, news[j]? = some u → w.cell? (ad.add j) = some u) := by
  have nonl : ∀ (x : sem (.list s)) f, leaf (.list s) .undef = some (x, f) → False := fun x f h => by simp [leaf] at h
  cases y
  case nil =>
    simp only [AV.view, leaf] at h
    cases h
    unfold Rel at hy
    subst hy
    exact ⟨none, 0, [], rfl, rfl, .inl rfl⟩
  case d t x f =>
    simp only [AV.view, leaf] at h
    split at h
    · rename_i q hq
      obtain ⟨e, e'⟩ := cast?_some hq
      subst e
      cases h
      subst e'
      obtain ⟨a, cap, rfl, hle, hr⟩ := hy.list_inv
      rcases hr with e | ⟨bb, o, xs, rfl, hx, hz⟩
      · refine ⟨a, cap, [], rfl, ?_, .inl ?_⟩
        · show RepL _ (x : List (sem s)) []
          rw [show (x : List (sem s)) = [] from e]; exact rfl
        · show List.length (x : List (sem s)) = 0
          rw [show (x : List (sem s)) = [] from e]; rfl
      · exact ⟨_, cap, xs, rfl, hx, .inr ⟨_, rfl, fun j u hu => by rw [addr_add]; exact hW.fzc _ _ _ (sel_fz (fun b o v hv => (hW.fnz b o v hv).1) (hz j u hu))⟩⟩
    · cases h
  case ref id =>
    simp only [AV.view] at h
    split at h
    · rename_i t l f ho
      have hm : m[id]? = some (.row t l f) := obj_some (σ := ⟨[], m, 0⟩) ho (by simp)
      simp only [leaf] at h
      split at h
      · rename_i q hq
        obtain ⟨e, e'⟩ := cast?_some hq
        cases e
        cases h
        subst e'
        unfold Rel at hy
        obtain ⟨_, o, ho', hy⟩ := hy
        rw [hm] at ho'; cases ho'
        simp only at hy
        subst hy
        obtain ⟨_, e2, xs, hown, hx⟩ := hW.own id _ hm
        rcases hown.2 with ⟨e3, a0, e1⟩ | ⟨bb, cap, cur, e1, _, hg, hle, _⟩
        · refine ⟨a0, 0, xs, ?_, hx, .inl e3⟩
          rw [e1]
          show Value.slice a0 0 0 = Value.slice a0 (List.length l) 0
          rw [e3]
        · refine ⟨_, cap + 1, xs, e1, hx, .inr ⟨_, rfl, fun j u hu => ?_⟩⟩
          rw [addr_add, Nat.zero_add]
          exact hown.cells (q := bb) (by rw [e1]; rfl) j u hu
      · cases h
    · exact (nonl _ _ h).elim
  case rp id i off =>
    simp only [AV.view] at h
    split at h
    · simp [leaf] at h
    · exact (nonl _ _ h).elim
  case sub id i n =>
    simp only [AV.view] at h
    split at h
    · rename_i t l f ho
      have hm : m[id]? = some (.row t l f) := obj_some (σ := ⟨[], m, 0⟩) ho (by simp)
      simp only [leaf] at h
      split at h
      · rename_i q hq
        obtain ⟨e, e'⟩ := cast?_some hq
        cases e
        cases h
        subst e'
        unfold Rel at hy
        obtain ⟨_, o, ho', hy⟩ := hy
        rw [hm] at ho'; cases ho'
        simp only at hy
        obtain ⟨h0, h1, h2, rfl⟩ := hy
        have hcut : (cut l i (addI i n)).length = n.toNat := by rw [cut_len (α := sem s) l (by unfold addI; omega)]; unfold addI; omega
        obtain ⟨_, e2, xs, hown, hx⟩ := hW.own id _ hm
        have hrep : RepL (RepC (g.sel fr) s) (cut l i (addI i n)) ((xs.take ((addI i n).toNat * s.size)).drop (i.toNat * s.size)) := RepL.drop (fun x c h => RepC.len s x c h) _ _ (RepL.take (fun x c h => RepC.len s x c h) l xs hx (addI i n).toNat) i.toNat
        rcases hown.2 with ⟨e3, a0, e1⟩ | ⟨bb, cap, cur, e1, _, hg, hle, _⟩
        · rw [e1]
          exact ⟨_, _, _, (by show Value.slice _ n.toNat _ = Value.slice _ (List.length (cut l i (addI i n))) _; rw [hcut]), hrep, .inl (by show List.length (cut l i (addI i n)) = 0; rw [hcut]; omega)⟩
        · rw [e1]
          by_cases he : cap + 1 = i.toNat
          · exact ⟨_, _, _, (by show Value.slice _ n.toNat _ = Value.slice _ (List.length (cut l i (addI i n))) _; rw [hcut]), hrep, .inl (by show List.length (cut l i (addI i n)) = 0; rw [hcut]; omega)⟩
          · refine ⟨_, _, _, (by show Value.slice _ n.toNat _ = Value.slice _ (List.length (cut l i (addI i n))) _; rw [hcut]), hrep, .inr ⟨⟨bb, i.toNat * s.size, none⟩, by rw [if_neg he]; simp [addr_add], fun j u hu => ?_⟩⟩
            rw [List.getElem?_drop, List.getElem?_take] at hu
            split at hu
            · rw [addr_add]
              exact hown.cells (q := bb) (by rw [e1]; rfl) _ u hu
            · cases hu
      · cases h
    · exact (nonl _ _ h).elim
  all_goals (simp [AV.view, leaf] at h)

theorem bytes_repl {fz : Fz} : ∀ (l : List Int), RepL (RepC fz (.int .u8)) l (l.map (Value.int .u8))
  | [] => rfl
  | x :: l => ⟨[.int .u8 x], l.map (Value.int .u8), rfl, rfl, bytes_repl l⟩
theorem bytes_rep {fz : Fz} : ∀ (l : List Int) (xs : List Value), RepL (RepC fz (.int .u8)) l xs → xs = l.map (Value.int .u8)
  | [], _, h => h
  | n :: l, _, ⟨c1, c2, e, h1, h2⟩ => by rw [e, show c1 = [.int .u8 n] from h1, bytes_rep l c2 h2]; rfl
theorem push_fold (f : Int → UInt8) : ∀ (l : List Int) (s : ByteArray), l.foldl (fun r n => r.push (f n)) s = ⟨s.data ++ (l.map f).toArray⟩
  | [], s => by simp
  | n :: l, s => by
    rw [List.foldl_cons, push_fold f l]
    obtain ⟨d⟩ := s
    show ByteArray.mk (d.push (f n) ++ (l.map f).toArray) = _
    congr 1
    apply Array.ext'
    simp
theorem utf_fold (l : List Int) : l.foldl (fun r n => r.push (UInt8.ofNat n.toNat)) ByteArray.empty = utfB l := by
  rw [push_fold (fun n => UInt8.ofNat n.toNat)]
  unfold utfB
  congr 1
  apply Array.ext'
  rw [Array.toList_append]
  rfl
theorem load_len (l : List Int) (ad : Addr) (w : World) (h : (loadCells ad (l.map (Value.int .u8)).length).run P w = .ok (l.map (Value.int .u8)).toArray w) : (loadCells ad l.length).run P w = .ok (l.map (Value.int .u8)).toArray w := by
  rw [List.length_map] at h; exact h
theorem convK_ok {ω : Type} {r : ω} {m : List AO} (hW : WF w0 g m wb) {src dst : TypeId} {x : AV} {K : AV → Option ω} (h : convK P src dst x m K = some r) {vx : Value} (hx : Rel g m x vx) :
    ∃ av v, K av = some r ∧ Rel g m av v ∧ ∀ w, From wb w → (convert src dst vx).run P w = .ok v w := by
  unfold convK at h
  split at h
  · rename_i h1 h2
    rw [hx.int_inv]
    exact ⟨_, _, h, Rel.int, fun w _ => by simp [convert, run_underlying h1, run_underlying h2, Conv.intToInt]; exact (wr_eq _ _).symm⟩
  · rename_i h1 h2
    rw [hx.str_inv]
    exact ⟨_, _, h, Rel.str, fun w _ => by simp [convert, run_underlying h1, run_underlying h2]⟩
  · rename_i e _ hs hd
    split at h
    · rename_i he
      split at h
      · rename_i l fr hl
        obtain ⟨a, c, news, rfl, hrep, hsrc⟩ := src_ok hW hl hx
        have hn := bytes_rep _ _ hrep
        refine ⟨_, .string (utfB l), h, Rel.str, fun w hw => ?_⟩
        rw [run_convert_bytes_string w src dst _ a _ c hs he hd]
        cases a with
        | none =>
          have h0 : List.length (l : List Int) = 0 := by
            rcases hsrc with q | ⟨ad, q, _⟩
            · exact q
            · cases q
          have : l = ([] : List Int) := List.eq_nil_of_length_eq_zero h0
          subst this
          simp [Conv.bytesToString, utfB]
          rfl
        | some ad =>
          have hld : (loadCells ad (List.length (l : List Int))).run P w = .ok ((l : List Int).map (Value.int .u8)).toArray w := by
            rcases hsrc with q | ⟨ad', q, hc⟩
            · have : l = ([] : List Int) := List.eq_nil_of_length_eq_zero q
              subst this
              show (loadCells ad 0).run P w = .ok #[] w
              simp [loadCells, loadCellsFrom]
            · cases q
              have := run_loadCells_list (P := P) w ad news (fun j v hv => by
                have := hc j v hv
                rw [Below.cell hw (World.block_lt_of_cell? wb _ this)]; exact this)
              rw [hn] at this
              exact load_len (P := P) l ad w this
          rw [run_bytesToString w ad _ c l hld, utf_fold l]
      · cases h
    · cases h
  · cases h
end
end Go.Den
