import Derived.Test.YtaejbcahfnlggaaDoorDenS
import Derived.MapKept
namespace Go.Den
open Go.RowKit (wrap64)
set_option linter.unusedVariables false
set_option linter.unusedSimpArgs false
/-! Maps: what a look-up gives. -/
theorem zrep_rep {fz : Fz} : ∀ (t : Sh) (l r : List Value), zrep t l = some r → ∃ c, l = c ++ r ∧ RepC fz t (dflt t) c
  | .unit, l, r, h => by simp [zrep] at h; subst h; exact ⟨[], rfl, rfl⟩
  | .pair a b, l, r, h => by
    unfold zrep at h
    split at h
    · rename_i q hq
      obtain ⟨c1, rfl, h1⟩ := zrep_rep a l q hq
      obtain ⟨c2, rfl, h2⟩ := zrep_rep b q r h
      exact ⟨c1 ++ c2, by simp, c1, c2, rfl, h1, h2⟩
    · cases h
  | .rose t, l, r, h => by
    unfold zrep at h
    split at h
    · rename_i q hq
      cases h
      obtain ⟨c1, rfl, h1⟩ := zrep_rep t l _ hq
      exact ⟨c1 ++ [.slice none 0 0], by simp, RepC.rose.2 ⟨c1, _, rfl, h1, none, 0, rfl, Nat.le_refl _, .inl rfl⟩⟩
    · cases h
  | .int k, l, r, h => by
    unfold zrep at h
    split at h <;> first | (cases h; done) | skip
    · rename_i q1 q2 q3 q4 q5
      cases q5
      split at h
      · rename_i e; cases h; subst e; exact ⟨[_], rfl, rfl⟩
      · cases h
    all_goals (rename_i q; cases q)
  | .bool, l, r, h => by
    unfold zrep at h
    split at h <;> first | (cases h; done) | skip
    all_goals first | (rename_i q; cases q; done) | skip
    cases h
    exact ⟨[_], rfl, rfl⟩
  | .str, l, r, h => by
    unfold zrep at h
    split at h <;> first | (cases h; done) | skip
    all_goals first | (rename_i q; cases q; done) | skip
    split at h
    · rename_i s _ _ hs
      cases h
      refine ⟨[_], rfl, ?_⟩
      have : s = (⟨#[]⟩ : ByteArray) := by
        obtain ⟨d⟩ := s
        have : d = #[] := Array.eq_empty_of_size_eq_zero hs
        rw [this]
      rw [this]
      exact rfl
    · cases h
  | .list t, l, r, h => by
    unfold zrep at h
    split at h <;> first | (cases h; done) | skip
    all_goals first | (rename_i q; cases q; done) | skip
    cases h
    exact ⟨[_], rfl, none, 0, rfl, Nat.le_refl _, .inl rfl⟩
theorem bytesEq_of_toList {a b : ByteArray} (h : a.toList = b.toList) : a = b := by
  rw [ByteArray.toList_eq, ByteArray.toList_eq] at h
  obtain ⟨x⟩ := a; obtain ⟨y⟩ := b
  have : x = y := Array.ext' h
  rw [this]
theorem eqD_iff : ∀ (t : Sh) (x y : sem t), t.flat = true → (eqD t x y = true ↔ x = y)
  | .int _, x, y, _ => by unfold eqD; exact @decide_eq_true_iff ((x : Int) = (y : Int)) (Int.instDecidableEq x y)
  | .bool, x, y, _ => by unfold eqD; exact @decide_eq_true_iff ((x : Bool) = (y : Bool)) (instDecidableEqBool x y)
  | .str, x, y, _ => by unfold eqD; rw [decide_eq_true_iff]; exact ⟨bytesEq_of_toList, fun h => by rw [h]⟩
  | .unit, _, _, _ => ⟨fun _ => rfl, fun _ => rfl⟩
  | .list _, _, _, h => by simp [Sh.flat] at h
  | .rose _, _, _, h => by simp [Sh.flat] at h
  | .pair a b, x, y, h => by
    simp only [Sh.flat, Bool.and_eq_true] at h
    unfold eqD
    rw [Bool.and_eq_true, eqD_iff a _ _ h.1, eqD_iff b _ _ h.2]
    exact ⟨fun h => Prod.ext h.1 h.2, fun h => by rw [h]; exact ⟨rfl, rfl⟩⟩
section
variable {P : Program} {g : Gh} {ω : Type} {r : ω} {w0 : Ent} {w wb : World}
theorem mapT_some {t : TypeId} {a b : Sh} (h : mapT P t = some (a, b)) : ∃ k e, P.underlying t = some (.map k e) ∧ shOf P depth k = some a ∧ shOf P depth e = some b ∧ a.flat = true ∧ eqOk P depth k = true ∧ zeroOk P e b = true := by
  unfold mapT at h
  split at h
  · rename_i k e hu
    split at h
    · rename_i sk se h1 h2
      split at h
      · rename_i hc
        simp only [Bool.and_eq_true] at hc
        cases h
        exact ⟨k, e, hu, h1, h2, hc.1.1, hc.1.2, hc.2⟩
      · cases h
    · cases h
  · cases h
theorem zeroOk_some {e : TypeId} {s : Sh} (h : zeroOk P e s = true) (w : World) : ∃ z, (zeroValue e).run P w = .ok z w ∧ ∀ fz, RepV fz s (dflt s) z := by
  unfold zeroOk at h
  split at h
  · rename_i i hi
    split at h
    · rename_i z hz
      split at h
      · rename_i hzr
        refine ⟨z, by simp [zeroValue, typeInfo, hi, hz], fun fz => ?_⟩
        obtain ⟨c, hc, hr⟩ := zrep_rep (fz := fz) s _ _ hzr
        rw [List.append_nil] at hc
        unfold RepV
        split at h
        · rename_i cs
          rw [if_pos h]
          exact ⟨cs, rfl, by rw [show cs.toList = c from hc]; exact hr⟩
        · rename_i hn
          simp only [Bool.and_eq_true, Bool.not_eq_true'] at h
          rw [if_neg (by simp [h.1])]
          rw [cells_one h.2] at hc
          rw [show [z] = c from hc]; exact hr
      · cases h
    · cases h
  · cases h
theorem valV_cells (t : Sh) (x : sem t) (hf : t.flat = true) : ∀ fz, RepV fz t x (valV t x) := by
  intro fz
  have hc : ∀ (t : Sh) (x : sem t), t.flat = true → RepC fz t x (cellsV t x) := by
    intro t
    induction t with
    | pair a b iha ihb => intro x hf; simp only [Sh.flat, Bool.and_eq_true] at hf; exact ⟨_, _, rfl, iha _ hf.1, ihb _ hf.2⟩
    | list t => intro x hf; simp [Sh.flat] at hf
    | rose t => intro x hf; simp [Sh.flat] at hf
    | _ => intro x hf; exact rfl
  unfold RepV valV
  split
  · exact ⟨_, rfl, hc t x hf⟩
  · rename_i hp
    have hl := cellsV_len t x hf
    have h1 : t.size = 1 := by cases t <;> simp [Sh.isP] at hp <;> rfl
    rw [h1] at hl
    match hcv : cellsV t x, hl with
    | [u], _ =>
      have := hc t x hf
      rw [hcv] at this
      exact this
theorem valV_pair {a b : Sh} (x : sem (.pair a b)) : valV (.pair a b) x = .agg (cellsV (.pair a b) x).toArray := rfl
/-- a part of a struct's cells -/
theorem part_ok {n m : Nat} {f : Field} {s1 : Sh} (h1 : shOf P n f.type = some s1) (he : eqOk P m f.type = true) (hf : s1.flat = true) (hsz : P.cellsOf f.type = s1.size) (zs : Array Value) (z rest : List Value) (c : sem s1) (hz : zs.toList = z ++ (cellsV s1 c ++ rest)) (hl : z.length = f.offset) (w : World) :
    (part f.type zs f.offset).run P w = .ok (valV s1 c) w := by
  have hag := eqOk_agg h1 he
  have e3 := cellsV_len s1 c hf
  unfold part
  cases hP : s1.isP with
  | true =>
    rw [hP] at hag
    obtain ⟨dd, hd, _⟩ := aggT_some hag
    simp only [Sem.run_bind, run_isAgg hag, Result.andThen_ok, if_true, run_sizeOf hd, Sem.run_pure]
    unfold valV
    rw [if_pos hP]
    congr 2
    apply Array.ext'
    rw [Array.toList_extract, List.extract_eq_take_drop, hz, hsz, Nat.add_sub_cancel_left, ← hl, List.drop_append, List.drop_of_length_le (Nat.le_refl _), Nat.sub_self, List.nil_append, List.drop_zero, ← e3]
    simp
  | false =>
    rw [hP] at hag
    have h1 : s1.size = 1 := by cases s1 <;> simp [Sh.isP] at hP <;> rfl
    rw [h1] at e3
    match hc : cellsV s1 c, e3 with
    | [u], _ =>
      have : zs[f.offset]? = some u := by
        rw [← Array.getElem?_toList, hz, hc, ← hl, List.getElem?_append_right (Nat.le_refl _)]; simp
      simp only [Sem.run_bind, run_isAgg hag, Result.andThen_ok, Bool.false_eq_true, if_false, this, Sem.run_pure]
      unfold valV
      rw [if_neg (by simp [hP]), hc]; rfl
theorem checkKey_fields {n m d : Nat} {em : Bool} (ih : ∀ (t : TypeId) (s : Sh), shOf P n t = some s → eqOk P m t = true → s.flat = true → ∀ (x : sem s) (w : World), (Instr.checkKey em d t (valV s x)).run P w = .ok () w) :
    ∀ (fs : List Field) (off : Nat) (s : Sh), shFs P (shOf P n) off fs = some s → (fs.all fun f => f.name != "_" && eqOk P m f.type) = true → s.flat = true → ∀ (x : sem s) (p : List Value) (xs : Array Value),
      xs.toList = p ++ cellsV s x → p.length = off → ∀ w, (forIn fs () (fun f _ => do
        if f.name ≠ "_" then Instr.checkKey em d f.type (← part f.type xs f.offset)
        pure (ForInStep.yield ())) : Sem Unit).run P w = .ok () w
  | [], off, s, h, ha, hf, x, p, xs, hx, hp, w => by simp
  | f :: fs, off, s, h, ha, hf, x, p, xs, hx, hp, w => by
    unfold shFs at h
    split at h
    · rename_i s1 h1
      split at h
      · rename_i hoff
        split at h
        · rename_i s2 h2
          cases h
          simp only [List.all_cons, Bool.and_eq_true, bne_iff_ne, ne_eq] at ha
          simp only [Sh.flat, Bool.and_eq_true] at hf
          have hpt := part_ok h1 ha.1.2 hf.1 hoff.2 xs p (cellsV s2 x.2) x.1 hx (by rw [hp, hoff.1]) w
          have hrec := checkKey_fields ih fs (off + s1.size) s2 h2 (by simpa [Bool.and_eq_true] using ha.2) hf.2 x.2 (p ++ cellsV s1 x.1) xs (by rw [hx]; simp [cellsV]) (by simp [hp, cellsV_len s1 x.1 hf.1]) w
          simp only [List.forIn_cons, ne_eq, ha.1.1, not_false_eq_true, if_true, Sem.run_bind, hpt, Result.andThen_ok, ih f.type s1 h1 ha.1.2 hf.1 x.1 w, Sem.run_pure]
          exact hrec
        · cases h
      · cases h
    · cases h
theorem checkKey_ok (em : Bool) : ∀ (n m d : Nat), m ≤ d → ∀ (t : TypeId) (s : Sh), shOf P n t = some s → eqOk P m t = true → s.flat = true → ∀ (x : sem s) (w : World), (Instr.checkKey em d t (valV s x)).run P w = .ok () w
  | 0, _, _, _, _, _, h, _, _, _, _ => by simp [shOf] at h
  | _ + 1, 0, _, _, _, _, _, h, _, _, _ => by simp [eqOk] at h
  | n + 1, m + 1, 0, h, _, _, _, _, _, _, _ => by omega
  | n + 1, m + 1, d + 1, hd, t, s, h, he, hf, x, w => by
    have h' := h
    unfold shOf at h
    unfold eqOk at he
    cases hu : P.underlying t with
    | none => rw [hu] at h; cases h
    | some dd =>
      rw [hu] at h he
      unfold Instr.checkKey
      simp only [Sem.run_bind, run_underlying hu, Result.andThen_ok]
      cases dd <;> simp only at h he <;> first | (cases h; done) | (cases he; done) | skip
      · cases h; rfl
      · cases h; rfl
      · cases h; rfl
      · rename_i fs
        have h := notRose h hf
        simp only [Bool.and_eq_true, Bool.not_eq_true'] at he
        have hag : s.isP = true := by
          have := eqOk_agg h' (m := m + 1) (by unfold eqOk; rw [hu]; simpa [Bool.and_eq_true] using he)
          unfold aggT at this
          rw [hu] at this
          simpa [aggD] using this.symm
        unfold valV
        rw [if_pos hag]
        have := checkKey_fields (em := em) (d := d) (fun t s h1 h2 h3 => checkKey_ok em n m d (by omega) t s h1 h2 h3) fs.toList 0 s h he.2 hf x [] _ rfl rfl w
        simpa using this
/-- what is found at a key, and what may stand there then -/
structure Found (fz : Fz) (a b : Sh) (l : List (sem a × sem b)) (x : sem a) (es : List MapEntry) (j : Nat) (e : MapEntry) : Prop where
  at_ : es[j]? = some e
  has : mhas a b l x = true
  val : RepV fz b (mget a b l x) e.val
  key : e.key = valV a x
  put : ∀ (y : sem b) (e' : MapEntry), e'.key = e.key → RepV fz b y e'.val → RepM fz a b (mput a b l x y) (es.set j e')
structure Lacks (fz : Fz) (a b : Sh) (l : List (sem a × sem b)) (x : sem a) (es : List MapEntry) : Prop where
  has : mhas a b l x = false
  val : mget a b l x = dflt b
  put : ∀ (y : sem b) (e' : MapEntry), e'.key = valV a x → RepV fz b y e'.val → RepM fz a b (mput a b l x y) (es ++ [e'])
theorem Found.here {fz : Fz} {a b : Sh} {l : List (sem a × sem b)} {x : sem a} {es : List MapEntry} {p : sem a × sem b} {e : MapEntry} (hf : a.flat = true) (hk : RepV fz a p.1 e.key) (hv : RepV fz b p.2 e.val) (hl : RepM fz a b l es) (h : eqD a x p.1 = true) : Found fz a b (p :: l) x (e :: es) 0 e where
  at_ := rfl
  has := by simp [mhas, mhasA, h]
  val := by simp only [mget, mgetA, h, if_true]; exact hv
  key := by rw [hk.flat_eq hf, (eqD_iff a _ _ hf).1 h]
  put := fun y e' h1 h2 => by
    simp only [mput, mputA, h, if_true, List.set_cons_zero]
    exact ⟨e', es, rfl, by rw [h1]; exact hk, h2, hl⟩
theorem Found.next {fz : Fz} {a b : Sh} {l : List (sem a × sem b)} {x : sem a} {es : List MapEntry} {p : sem a × sem b} {e0 e : MapEntry} {j : Nat} (hk : RepV fz a p.1 e0.key) (hv : RepV fz b p.2 e0.val) (h : eqD a x p.1 = false) (hF : Found fz a b l x es j e) : Found fz a b (p :: l) x (e0 :: es) (j + 1) e where
  at_ := hF.at_
  has := by simp only [mhas, mhasA, Bool.or_eq_true]; exact .inr hF.has
  val := by simp only [mget, mgetA, h, Bool.false_eq_true, if_false]; exact hF.val
  key := hF.key
  put := fun y e' h1 h2 => by
    simp only [mput, mputA, h, Bool.false_eq_true, if_false, List.set_cons_succ]
    exact ⟨e0, _, rfl, hk, hv, hF.put y e' h1 h2⟩
theorem Lacks.nil {fz : Fz} {a b : Sh} {x : sem a} (hf : a.flat = true) : Lacks fz a b [] x [] where
  has := rfl
  val := rfl
  put := fun y e' h1 h2 => ⟨e', [], rfl, by rw [h1]; exact valV_cells a x hf fz, h2, rfl⟩
theorem Lacks.next {fz : Fz} {a b : Sh} {l : List (sem a × sem b)} {x : sem a} {es : List MapEntry} {p : sem a × sem b} {e0 : MapEntry} (hk : RepV fz a p.1 e0.key) (hv : RepV fz b p.2 e0.val) (h : eqD a x p.1 = false) (hF : Lacks fz a b l x es) : Lacks fz a b (p :: l) x (e0 :: es) where
  has := by simp only [mhas, mhasA, h, Bool.false_or]; exact hF.has
  val := by simp only [mget, mgetA, h, Bool.false_eq_true, if_false]; exact hF.val
  put := fun y e' h1 h2 => by
    simp only [mput, mputA, h, Bool.false_eq_true, if_false, List.cons_append]
    exact ⟨e0, _, rfl, hk, hv, hF.put y e' h1 h2⟩
theorem findNow_ok {fz : Fz} {a b : Sh} {d : TypeDesc} (hf : a.flat = true) (hd : ∀ x y : sem a, Instr.sameNow d (valV a x) (valV a y) = some (eqD a x y)) (x : sem a) : ∀ (l : List (sem a × sem b)) (es : List MapEntry) (i : Nat), RepM fz a b l es →
    (∃ j e, Instr.findNow d (valV a x) es i = some (some (i + j, e.val)) ∧ Found fz a b l x es j e) ∨ (Instr.findNow d (valV a x) es i = some none ∧ Lacks fz a b l x es)
  | [], _, i, h => by rw [show _ = _ from h]; exact .inr ⟨rfl, Lacks.nil hf⟩
  | p :: l, _, i, ⟨e, es, e1, hk, hv, hl⟩ => by
    subst e1
    have hs := hd x p.1
    rw [← hk.flat_eq hf] at hs
    cases hq : eqD a x p.1 with
    | true => rw [hq] at hs; exact .inl ⟨0, e, by simp [Instr.findNow, hs], Found.here hf hk hv hl hq⟩
    | false =>
      rw [hq] at hs
      rcases findNow_ok hf hd x l es (i + 1) hl with ⟨j, e2, h1, h2⟩ | ⟨h1, h2⟩
      · exact .inl ⟨j + 1, e2, by simp only [Instr.findNow, hs, h1]; rw [show i + 1 + j = i + (j + 1) by omega], h2.next hk hv hq⟩
      · exact .inr ⟨by simp [Instr.findNow, hs, h1], h2.next hk hv hq⟩
theorem findAsking_ok {fz : Fz} {a b : Sh} {k : TypeId} (hf : a.flat = true) (hd : ∀ (x y : sem a) (w : World), (Op.equal k (valV a x) (valV a y)).run P w = .ok (eqD a x y) w) (x : sem a) : ∀ (l : List (sem a × sem b)) (es : List MapEntry) (i : Nat), RepM fz a b l es →
    (∃ j e, (∀ w, (Instr.findAsking k (valV a x) es i).run P w = .ok (some (i + j, e.val)) w) ∧ Found fz a b l x es j e) ∨ ((∀ w, (Instr.findAsking k (valV a x) es i).run P w = .ok none w) ∧ Lacks fz a b l x es)
  | [], _, i, h => by rw [show _ = _ from h]; exact .inr ⟨fun w => by simp [Instr.findAsking], Lacks.nil hf⟩
  | p :: l, _, i, ⟨e, es, e1, hk, hv, hl⟩ => by
    subst e1
    have hs := hd x p.1
    rw [← hk.flat_eq hf] at hs
    cases hq : eqD a x p.1 with
    | true => rw [hq] at hs; exact .inl ⟨0, e, fun w => by simp [Instr.findAsking, hs w], Found.here hf hk hv hl hq⟩
    | false =>
      rw [hq] at hs
      rcases findAsking_ok hf hd x l es (i + 1) hl with ⟨j, e2, h1, h2⟩ | ⟨h1, h2⟩
      · exact .inl ⟨j + 1, e2, fun w => by simp only [Instr.findAsking, Sem.run_bind, hs w, Result.andThen_ok, Bool.false_eq_true, if_false, h1 w]; rw [show i + 1 + j = i + (j + 1) by omega], h2.next hk hv hq⟩
      · exact .inr ⟨fun w => by simp [Instr.findAsking, hs w, h1 w], h2.next hk hv hq⟩
theorem findKey_ok {fz : Fz} {a b : Sh} {k : TypeId} (hs : shOf P depth k = some a) (he : eqOk P depth k = true) (hf : a.flat = true) (x : sem a) (l : List (sem a × sem b)) (es : List MapEntry) (hl : RepM fz a b l es) :
    (∃ j e, (∀ w, (Instr.findKey k (valV a x) es).run P w = .ok (some (j, e.val)) w) ∧ Found fz a b l x es j e) ∨ ((∀ w, (Instr.findKey k (valV a x) es).run P w = .ok none w) ∧ Lacks fz a b l x es) := by
  have heq : ∀ (x y : sem a) (w : World), (Op.equal k (valV a x) (valV a y)).run P w = .ok (eqD a x y) w := fun x y w => equalIn_ok depth depth 10000 (by decide) k a hs he hf x y w
  cases hu : P.underlying k with
  | none => unfold depth shOf at hs; rw [hu] at hs; cases hs
  | some d =>
    have now : (∀ x y : sem a, Instr.sameNow d (valV a x) (valV a y) = some (eqD a x y)) → _ := fun hd => findNow_ok (fz := fz) (b := b) hf hd x l es 0 hl
    have fin : (∀ x y : sem a, Instr.sameNow d (valV a x) (valV a y) = some (eqD a x y)) → (∃ j e, (∀ w, (Instr.findKey k (valV a x) es).run P w = .ok (some (j, e.val)) w) ∧ Found fz a b l x es j e) ∨ ((∀ w, (Instr.findKey k (valV a x) es).run P w = .ok none w) ∧ Lacks fz a b l x es) := fun hd => by
      rcases now hd with ⟨j, e, h1, h2⟩ | ⟨h1, h2⟩
      · exact .inl ⟨j, e, fun w => by rw [Nat.zero_add] at h1; simp [Instr.findKey, run_underlying hu, h1], h2⟩
      · exact .inr ⟨fun w => by simp [Instr.findKey, run_underlying hu, h1], h2⟩
    have hs' := hs
    unfold depth shOf at hs'
    rw [hu] at hs'
    cases d <;> simp only at hs' <;> first | (cases hs'; done) | skip
    · cases hs'
      exact fin fun (x : Bool) (y : Bool) => by
        show some (x == y) = some (@decide (x = y) _)
        cases x <;> cases y <;> rfl
    · rename_i kk
      cases hs'
      exact fin fun (x : Int) (y : Int) => by
        show (if kk = kk then some (x == y) else none) = some (@decide (x = y) _)
        rw [if_pos rfl]
        rfl
    · cases hs'
      exact fin fun (x : ByteArray) (y : ByteArray) => by
        show some (x == y) = some (decide (x.toList = y.toList))
        congr 1
        rw [Bool.eq_iff_iff, decide_eq_true_iff]
        exact (Go.MapKept.bytes_beq x y).trans ⟨fun h => by rw [h], bytesEq_of_toList⟩
    · split at hs'
      · split at hs' <;> cases hs'
        all_goals simp [Sh.flat] at hf
      · cases hs'
    rotate_left
    · exfalso
      unfold depth eqOk at he
      rw [hu] at he
      cases he
    · rename_i fs
      have hp : a.isP = true := by
        have := eqOk_agg hs he
        unfold aggT at this
        rw [hu] at this
        simpa [aggD] using this.symm
      have hv : ∀ y : sem a, ∃ cs, valV a y = .agg cs := fun y => ⟨_, by unfold valV; rw [if_pos hp]⟩
      rcases findAsking_ok (fz := fz) (b := b) hf heq x l es 0 hl with ⟨j, e, h1, h2⟩ | ⟨h1, h2⟩
      · simp only [Nat.zero_add] at h1
        refine .inl ⟨j, e, fun w => ?_, h2⟩
        obtain ⟨cs, hc⟩ := hv x
        cases es with
        | nil => exact absurd h2.at_ (by simp)
        | cons e0 es => simp [Instr.findKey, run_underlying hu, Instr.findNow, hc, Instr.sameNow, ← h1]
      · refine .inr ⟨?_, h2⟩
        obtain ⟨cs, hc⟩ := hv x
        cases es with
        | nil => simp [Instr.findKey, run_underlying hu, Instr.findNow]
        | cons e0 es => simp [Instr.findKey, run_underlying hu, Instr.findNow, hc, Instr.sameNow, ← h1]
end
end Go.Den
