import Derived.Test.YtaejbcahfnlggaaDoorDenG
namespace Go.Den
open Go.RowKit (wrap64)
set_option linter.unusedVariables false
set_option linter.unusedSimpArgs false
/-! How the memory may change. -/
def upd {α : Type} (f : Nat → α) (i : Nat) (x : α) : Nat → α := fun j => if j = i then x else f j
theorem upd_same {α : Type} (f : Nat → α) (i : Nat) (x : α) : upd f i x i = x := by simp [upd]
theorem upd_ne {α : Type} (f : Nat → α) {i j : Nat} (x : α) (h : j ≠ i) : upd f i x j = f j := by simp [upd, h]
section
variable {g : Gh} {m : List AO} {w0 : Ent} {w w' : World}
theorem Stays.refl (g : Gh) (m : List AO) : Stays g g m m :=
  ⟨rfl, fun _ _ _ h => h, fun _ _ _ h => h, fun id o h => ⟨o, h, by cases o <;> simp [AO.stays, AO.goes]⟩⟩
theorem Stays.trans {g g' g'' : Gh} {m m' m'' : List AO} (h : Stays g g' m m') (k : Stays g' g'' m' m'') : Stays g g'' m m'' :=
  ⟨k.pv.trans h.pv, fun b o v q => k.fz b o v (h.fz b o v q), fun b o v q => k.fn b o v (h.fn b o v q), fun id o q => by
    obtain ⟨o', q', s⟩ := h.mem id o q
    obtain ⟨o'', q'', s'⟩ := k.mem id o' q'
    exact ⟨o'', q'', AO.goes.trans s s'⟩⟩
theorem Stays.box (i : Nat) (b : Nat) (o : AO) (hi : i = m.length) : Stays g { g with bl := upd g.bl i b } m (m ++ [o]) :=
  ⟨rfl, fun _ _ _ h => h, fun _ _ _ h => h, fun id o' h => by
    have hlt : id < m.length := (List.getElem?_eq_some_iff.1 h).1
    refine ⟨o', by rw [List.getElem?_append_left hlt]; exact h, ?_⟩
    cases o' <;> simp [AO.stays, AO.goes, upd_ne _ _ (show id ≠ i by omega)]⟩
theorem Stays.row (i : Nat) (v : Value) (o : AO) (hi : i = m.length) : Stays g { g with rv := upd g.rv i v } m (m ++ [o]) :=
  ⟨rfl, fun _ _ _ h => h, fun _ _ _ h => h, fun id o' h => by
    have hlt : id < m.length := (List.getElem?_eq_some_iff.1 h).1
    refine ⟨o', by rw [List.getElem?_append_left hlt]; exact h, ?_⟩
    cases o' <;> simp [AO.stays, AO.goes, upd_ne _ _ (show id ≠ i by omega)]⟩
theorem Stays.gone (id : Nat) : Stays g g m (m.set id .gone) :=
  ⟨rfl, fun _ _ _ h => h, fun _ _ _ h => h, fun id' o h => by
    by_cases e : id' = id
    · subst e
      exact ⟨.gone, by rw [List.getElem?_set_self (List.getElem?_eq_some_iff.1 h).1], by cases o <;> simp [AO.stays, AO.goes]⟩
    · exact ⟨o, by rw [List.getElem?_set_ne (fun q => e q.symm)]; exact h, by cases o <;> simp [AO.stays, AO.goes]⟩⟩

theorem set_some {l : List AO} {i j : Nat} {x y : AO} (h : (l.set i x)[j]? = some y) : (j = i ∧ y = x) ∨ (j ≠ i ∧ l[j]? = some y) := by
  by_cases e : j = i
  · subst e
    have := List.getElem?_eq_some_iff.1 h
    rw [List.getElem?_set_self (by simpa using this.1)] at h
    exact .inl ⟨rfl, (Option.some.inj h).symm⟩
  · rw [List.getElem?_set_ne (fun q => e q.symm)] at h
    exact .inr ⟨e, h⟩
theorem push_some {l : List AO} {j : Nat} {x y : AO} (h : (l ++ [x])[j]? = some y) : (j = l.length ∧ y = x) ∨ (j < l.length ∧ l[j]? = some y) := by
  by_cases e : j < l.length
  · rw [List.getElem?_append_left e] at h; exact .inr ⟨e, h⟩
  · rw [List.getElem?_append_right (by omega)] at h
    have : j - l.length = 0 := by
      have := (List.getElem?_eq_some_iff.1 h).1
      simp at this; omega
    rw [this] at h
    exact .inl ⟨by omega, by simpa using h.symm⟩

/-- an object whose blocks are as they were -/
theorem OwnO.keep {g' : Gh} {m' : List AO} {id : Nat} {o : AO} (h : OwnO g m w id o) (hs : Stays g g' m m') (hb : g'.bl id = g.bl id) (hr : g'.rv id = g.rv id) (hiv : g'.iv id = g.iv id) (hn : g'.n0 = g.n0)
    (hk : ∀ b, o.has g id b → w'.heap[b]? = w.heap[b]?) : OwnO g' m' w' id o :=
  h.keepAt (fun _ _ _ hr => Rels.mono hs _ _ hr) hs.sel hb hr hiv hn hk
theorem has_cong {g' : Gh} {id : Nat} (o : AO) (hb : g'.bl id = g.bl id) (hr : g'.rv id = g.rv id) (hiv : g'.iv id = g.iv id) (b : Nat) : o.has g' id b ↔ o.has g id b := by
  cases o <;> simp only [AO.has, hb, hr, hiv]
theorem Stays.iter (i : Nat) (v : Value) {k v' : Sh} {l rem : List (sem k × sem v')} {r : List (sem k × sem v')} {c : Option (sem k × sem v')} (hi : m[i]? = some (.map k v' true l 0 r c)) : Stays g { g with iv := upd g.iv i v } m (m.set i (.map k v' true l 1 rem none)) :=
  ⟨rfl, fun _ _ _ h => h, fun _ _ _ h => h, fun id o h => by
    by_cases e : id = i
    · subst e
      rw [hi] at h; cases h
      exact ⟨_, by rw [List.getElem?_set_self (List.getElem?_eq_some_iff.1 hi).1], by simp [AO.stays, AO.goes]⟩
    · exact ⟨o, by rw [List.getElem?_set_ne (fun q => e q.symm)]; exact h, by cases o <;> simp [AO.stays, AO.goes, upd_ne _ _ e]⟩⟩
theorem WF.gone (h : WF w0 g m w) (id : Nat) : WF w0 g (m.set id .gone) w where
  nn := h.nn
  pvn := h.pvn
  ext := h.ext
  below := h.below
  base := h.base
  fzc := h.fzc
  fnz := h.fnz
  own := fun i o hi => by
    rcases set_some hi with ⟨rfl, rfl⟩ | ⟨hne, hi⟩
    · trivial
    · exact (h.own i o hi).keep (Stays.gone id) rfl rfl rfl rfl (fun _ _ => rfl)
  apart := fun i o b hi hb => by
    rcases set_some hi with ⟨rfl, rfl⟩ | ⟨hne, hi⟩
    · exact hb.elim
    · obtain ⟨h1, h2⟩ := h.apart i o b hi hb
      refine ⟨h1, fun j o' hj hjo => ?_⟩
      rcases set_some hjo with ⟨rfl, rfl⟩ | ⟨_, hjo⟩
      · exact fun q => q
      · exact h2 j o' hj hjo
  bx := h.bx
  tbl := h.tbl
  mine := fun i o b hi hb => by
    rcases set_some hi with ⟨rfl, rfl⟩ | ⟨hne, hi⟩
    · exact hb.elim
    · exact h.mine i o b hi hb
theorem WF.fz_lt (h : WF w0 g m w) {b o : Nat} {v : Value} (hv : g.fz b o = some v) : b < w.heap.size := World.block_lt_of_cell? w _ (h.fzc b o v hv)
theorem WF.fz_new (h : WF w0 g m w) (o : Nat) : g.fz w.heap.size o = none := by
  cases hv : g.fz w.heap.size o with
  | none => rfl
  | some v => exact absurd (h.fz_lt hv) (by omega)

/-- a new object beside the others; what is written is in row or new -/
theorem WF.push (h : WF w0 g m w) {g' : Gh} {x : AO} {row : Option Nat} (hg : Grown w w' row) (hs : Stays g g' m (m ++ [x])) (hfz : g'.fz = g.fz) (hfn : g'.fn = g.fn) (hn : g'.n0 = g.n0)
    (hb : ∀ j, j < m.length → g'.bl j = g.bl j ∧ g'.rv j = g.rv j ∧ g'.iv j = g.iv j) (hne : ∀ (id : Nat) (o : AO) (b : Nat), m[id]? = some o → o.has g id b → row ≠ some b)
    (hrf : ∀ b, row = some b → (∀ off, g.fz b off = none) ∧ (g.n0 ≤ b ∧ b < w.heap.size) ∧ (w0.w.heap.size ≤ b ∨ w0.io b = true)) (hown : OwnO g' (m ++ [x]) w' m.length x)
    (hv' : ∀ b, x.has g' m.length b → row = some b ∨ w.heap.size ≤ b) : WF w0 g' (m ++ [x]) w' := by
  have hblk : ∀ b, b < w.heap.size → row ≠ some b → w'.heap[b]? = w.heap[b]? := fun b hb hr => hg.block b hb (fun q => hr q.symm)
  have hbel : Below g.n0 w w' := ⟨hg.os, hg.tape, hg.output, hg.size, fun k hk => hblk k (by have := h.base; omega) (fun q => by have := (hrf k q).2.1.1; omega), hg.drawn⟩
  have hnewf : ∀ b, x.has g' m.length b → ∀ off, g.fz b off = none := fun b hb => by
    rcases hv' b hb with q | q
    · exact (hrf b q).1
    · intro off
      cases hz : g.fz b off with
      | none => rfl
      | some v => exact absurd (h.fz_lt hz) (by omega)
  have hc : ∀ (j : Nat) (o : AO) (b : Nat), j < m.length → (o.has g' j b ↔ o.has g j b) := fun j o b hj => has_cong o (hb j hj).1 (hb j hj).2.1 (hb j hj).2.2 b
  have hold : ∀ (j : Nat) (o : AO) (b : Nat), m[j]? = some o → o.has g j b → ¬ x.has g' m.length b := fun j o b hj hb q => by
    rcases hv' b q with q | q
    · exact hne j o b hj hb q
    · have := ((h.own j o hj).has_lt hb).2; omega
  refine ⟨hn.trans h.nn, hs.pv.trans h.pvn, by rw [hfz]; exact h.ext, by rw [hn]; exact h.below.trans hbel, by rw [hn]; exact Nat.le_trans h.base hg.size, fun b o v hv => ?_, by rw [hfz, hfn, hn]; exact h.fnz, fun i o hi => ?_, fun i o b hi hbk => ?_, fun k hk hio => (hblk k (Nat.lt_of_lt_of_le hk h.below.size) (fun q => by
      rcases (hrf k q).2.2 with z | z
      · omega
      · rw [hio] at z; cases z)).trans (h.bx k hk hio), fun i o b hi hbk => ?_, h.tbl⟩
  · rw [hfz] at hv
    have := h.fzc b o v hv
    rw [World.cell?_of_block (w := w) (hblk b (h.fz_lt hv) (fun q => by rw [(hrf b q).1 o] at hv; cases hv))]
    exact this
  · rcases push_some hi with ⟨rfl, rfl⟩ | ⟨hlt, hi⟩
    · exact hown
    · exact (h.own i o hi).keep hs (hb i hlt).1 (hb i hlt).2.1 (hb i hlt).2.2 hn (fun b hb' => hblk b ((h.own i o hi).has_lt hb').2 (hne i o b hi hb'))
  · rcases push_some hi with ⟨rfl, rfl⟩ | ⟨hlt, hi⟩
    · refine ⟨by rw [hfz]; exact hnewf b hbk, fun j o' hj hjo => ?_⟩
      rcases push_some hjo with ⟨rfl, rfl⟩ | ⟨hlt', hjo⟩
      · exact absurd rfl hj
      · rw [hc j o' b hlt']
        exact fun q => hold j o' b hjo q hbk
    · rw [hc i o b hlt] at hbk
      have hh := hold i o b hi hbk
      obtain ⟨q1, q2⟩ := h.apart i o b hi hbk
      refine ⟨by rw [hfz]; exact q1, fun j o' hj hjo => ?_⟩
      rcases push_some hjo with ⟨rfl, rfl⟩ | ⟨hlt', hjo⟩
      · exact hh
      · rw [hc j o' b hlt']; exact q2 j o' hj hjo
  · rcases push_some hi with ⟨rfl, rfl⟩ | ⟨hlt, hi⟩
    · rcases hv' b hbk with q | q
      · exact (hrf b q).2.2
      · exact .inl (Nat.le_trans h.below.size q)
    · rw [hc i o b hlt] at hbk
      exact h.mine i o b hi hbk
theorem WF.pushBox (h : WF w0 g m w) {l : List AV} {c : Array Value} (T : TypeId) (hl : Rels g m l c.toList) (h1 : ∀ u ∈ c.toList, u.oneCell' = true) :
    WF w0 { g with bl := upd g.bl m.length w.heap.size } (m ++ [.box l]) (w.alloc (.cells c T)) := by
  have hs : Stays g { g with bl := upd g.bl m.length w.heap.size } m (m ++ [.box l]) := Stays.box _ _ _ rfl
  refine h.push (row := none) (Grown.alloc w _ none) hs rfl rfl rfl (fun j hj => ⟨upd_ne _ _ (by omega), rfl, rfl⟩) (by simp) (by simp) ?_ (fun b hb => ?_)
  · refine ⟨show g.n0 ≤ upd g.bl m.length w.heap.size m.length by rw [upd_same]; exact h.base, c, T, ?_, Rels.mono hs _ _ hl, h1⟩
    show (w.alloc (.cells c T)).heap[upd g.bl m.length w.heap.size m.length]? = _
    rw [upd_same]; exact heap_alloc_new w _
  · have hb : upd g.bl m.length w.heap.size m.length = b := hb
    rw [upd_same] at hb
    exact .inr (Nat.le_of_eq hb)
theorem WF.pushRow (h : WF w0 g m w) {row : Option Nat} (hg : Grown w w' row) (hne : ∀ (id : Nat) (o : AO) (b : Nat), m[id]? = some o → o.has g id b → row ≠ some b)
    (hrf : ∀ b, row = some b → (∀ off, g.fz b off = none) ∧ (g.n0 ≤ b ∧ b < w.heap.size) ∧ (w0.w.heap.size ≤ b ∨ w0.io b = true)) {t : Sh} {l : List (sem t)} {fr : Bool} {v' : Value} {e : TypeId} {xs : List Value} (hown : OwnR w' g.n0 e t.size v' l.length xs)
    (hr : RepL (RepC (g.sel fr) t) l xs) (hpos : 0 < t.size) (hv' : ∀ b, rowBlk v' = some b → row = some b ∨ w.heap.size ≤ b) :
    WF w0 { g with rv := upd g.rv m.length v' } (m ++ [.row t l fr]) w' := by
  have hs : Stays g { g with rv := upd g.rv m.length v' } m (m ++ [.row t l fr]) := Stays.row _ _ _ rfl
  refine h.push hg hs rfl rfl rfl (fun j hj => ⟨rfl, upd_ne _ _ (by omega), rfl⟩) hne hrf ?_ (fun b hb => ?_)
  · exact ⟨hpos, e, xs, by show OwnR w' g.n0 e t.size (upd g.rv m.length v' m.length) l.length xs; rw [upd_same]; exact hown, hr.imp (fun x c hc => RepC.mono (hs.sel fr) t x c hc) _ _⟩
  · have hb : rowBlk (upd g.rv m.length v' m.length) = some b := hb
    rw [upd_same] at hb
    exact hv' b hb
/-- an object's own blocks written anew -/
theorem WF.write (h : WF w0 g m w) {id : Nat} {o o' : AO} (ho : m[id]? = some o) (hk : o.stays g g id o') (hblk : ∀ k, k < w.heap.size → ¬ o.has g id k → w'.heap[k]? = w.heap[k]?) (hsz : w.heap.size ≤ w'.heap.size)
    (hos : w'.os = w.os) (htape : w'.tape = w.tape) (hout : w'.output = w.output) (hdr : w.drawn ≤ w'.drawn) (hown : OwnO g (m.set id o') w' id o') (hb' : ∀ b, o'.has g id b → o.has g id b) : WF w0 g (m.set id o') w' := by
  have hs : Stays g g m (m.set id o') := ⟨rfl, fun _ _ _ h => h, fun _ _ _ h => h, fun j q hj => by
    by_cases e : j = id
    · subst e
      rw [ho] at hj
      cases hj
      exact ⟨o', by rw [List.getElem?_set_self (List.getElem?_eq_some_iff.1 ho).1], hk⟩
    · exact ⟨q, by rw [List.getElem?_set_ne (fun q => e q.symm)]; exact hj, AO.goes.refl _ _ _⟩⟩
  refine ⟨h.nn, h.pvn, h.ext, (h.below.trans (⟨hos, htape, hout, hsz, fun k hk => by
    by_cases e : o.has g id k
    · exact absurd ((h.own id o ho).has_lt e).1 (by omega)
    · exact hblk k (by have := h.base; omega) e, hdr⟩ : Below g.n0 w w')), by have := h.base; omega, fun c o' v hv => ?_, h.fnz, fun i q hi => ?_, fun i q c hi hc => ?_, fun k hk hio => (hblk k (Nat.lt_of_lt_of_le hk h.below.size) (fun e => by
      rcases h.mine id o k ho e with z | z
      · omega
      · rw [hio] at z; cases z)).trans (h.bx k hk hio), fun i q c hi hc => ?_, h.tbl⟩
  · rw [World.cell?_of_block (w := w) (hblk c (h.fz_lt hv) (fun e => by rw [(h.apart id o c ho e).1 o'] at hv; cases hv))]
    exact h.fzc c o' v hv
  · rcases set_some hi with ⟨rfl, rfl⟩ | ⟨hne, hi⟩
    · exact hown
    · exact (h.own i q hi).keep hs rfl rfl rfl rfl (fun c hc => hblk c ((h.own i q hi).has_lt hc).2 (fun e => (h.apart id o c ho e).2 i q hne hi hc))
  · rcases set_some hi with ⟨rfl, rfl⟩ | ⟨hne, hi⟩
    · obtain ⟨a1, a2⟩ := h.apart i o c ho (hb' c hc)
      refine ⟨a1, fun j q hj hjo => ?_⟩
      rcases set_some hjo with ⟨rfl, rfl⟩ | ⟨_, hjo⟩
      · exact absurd rfl hj
      · exact a2 j q hj hjo
    · obtain ⟨c1, c2⟩ := h.apart i q c hi hc
      have hh : ∀ e : o.has g id c, False := fun e => (h.apart _ o c ho e).2 i q hne hi hc
      refine ⟨c1, fun j p hj hjo => ?_⟩
      rcases set_some hjo with ⟨rfl, rfl⟩ | ⟨_, hjo⟩
      · exact fun e => hh (hb' c e)
      · exact c2 j p hj hjo
  · rcases set_some hi with ⟨rfl, rfl⟩ | ⟨hne, hi⟩
    · exact h.mine _ o c ho (hb' c hc)
    · exact h.mine i q c hi hc
/-- an object in place of another one, in the same world -/
theorem WF.swap (h : WF w0 g m w) {g' : Gh} {id : Nat} {o o' : AO} (ho : m[id]? = some o) (hs : Stays g g' m (m.set id o')) (hfz : g'.fz = g.fz) (hfn : g'.fn = g.fn) (hn : g'.n0 = g.n0) (hb : ∀ j, j ≠ id → g'.bl j = g.bl j ∧ g'.rv j = g.rv j ∧ g'.iv j = g.iv j)
    (hown : OwnO g' (m.set id o') w id o') (hb' : ∀ b, o'.has g' id b → o.has g id b ∨ ((∀ off, g.fz b off = none) ∧ (∀ (j : Nat) q, m[j]? = some q → ¬ q.has g j b) ∧ w0.w.heap.size ≤ b)) : WF w0 g' (m.set id o') w := by
  have hc : ∀ (j : Nat) (o : AO) (b : Nat), j ≠ id → (o.has g' j b ↔ o.has g j b) := fun j o b hj => has_cong o (hb j hj).1 (hb j hj).2.1 (hb j hj).2.2 b
  refine ⟨hn.trans h.nn, hs.pv.trans h.pvn, by rw [hfz]; exact h.ext, by rw [hn]; exact h.below, by rw [hn]; exact h.base, by rw [hfz]; exact h.fzc, by rw [hfz, hfn, hn]; exact h.fnz, fun i q hi => ?_, fun i q c hi hc' => ?_, h.bx, fun i q c hi hc' => ?_, h.tbl⟩
  · rcases set_some hi with ⟨rfl, rfl⟩ | ⟨hne, hi⟩
    · exact hown
    · exact (h.own i q hi).keep hs (hb i hne).1 (hb i hne).2.1 (hb i hne).2.2 hn (fun _ _ => rfl)
  · rw [hfz]
    rcases set_some hi with ⟨rfl, rfl⟩ | ⟨hne, hi⟩
    · rcases hb' c hc' with q | ⟨q1, q2, _⟩
      · obtain ⟨a1, a2⟩ := h.apart i o c ho q
        refine ⟨a1, fun j p hj hjo => ?_⟩
        rcases set_some hjo with ⟨rfl, rfl⟩ | ⟨_, hjo⟩
        · exact absurd rfl hj
        · rw [hc j p c hj]; exact a2 j p hj hjo
      · refine ⟨q1, fun j p hj hjo => ?_⟩
        rcases set_some hjo with ⟨rfl, rfl⟩ | ⟨_, hjo⟩
        · exact absurd rfl hj
        · rw [hc j p c hj]; exact q2 j p hjo
    · rw [hc i q c hne] at hc'
      obtain ⟨c1, c2⟩ := h.apart i q c hi hc'
      have hh1 : ∀ e : o.has g id c, False := fun e => (h.apart _ o c ho e).2 i q hne hi hc'
      have hh2 : ∀ (q2 : ∀ (j : Nat) q, m[j]? = some q → ¬ q.has g j c), False := fun q2 => q2 i q hi hc'
      refine ⟨c1, fun j p hj hjo => ?_⟩
      rcases set_some hjo with ⟨rfl, rfl⟩ | ⟨hne', hjo⟩
      · intro e
        rcases hb' c e with q' | ⟨_, q2, _⟩
        · exact hh1 q'
        · exact hh2 q2
      · rw [hc j p c hne']; exact c2 j p hj hjo
  · rcases set_some hi with ⟨rfl, rfl⟩ | ⟨hne, hi⟩
    · rcases hb' c hc' with q | ⟨_, _, q⟩
      · exact h.mine _ o c ho q
      · exact .inl q
    · rw [hc i q c hne] at hc'
      exact h.mine i q c hi hc'
end
end Go.Den
