import Derived.Test.YtbkeooaepmiafaaDenG
namespace Go.Den
open Go.RowKit (Below wrap64)
set_option linter.unusedVariables false
set_option linter.unusedSimpArgs false
/-! How the memory may change. -/
def upd {α : Type} (f : Nat → α) (i : Nat) (x : α) : Nat → α := fun j => if j = i then x else f j
theorem upd_same {α : Type} (f : Nat → α) (i : Nat) (x : α) : upd f i x i = x := by simp [upd]
theorem upd_ne {α : Type} (f : Nat → α) {i j : Nat} (x : α) (h : j ≠ i) : upd f i x j = f j := by simp [upd, h]
section
variable {g : Gh} {m : List AO} {w0 : Ent} {w w' : World}
theorem Stays.refl (g : Gh) (m : List AO) : Stays g g m m :=
  ⟨fun _ _ _ h => h, fun _ _ _ h => h, fun id o h => ⟨o, h, by cases o <;> simp [AO.stays]⟩⟩
theorem Stays.trans {g g' g'' : Gh} {m m' m'' : List AO} (h : Stays g g' m m') (k : Stays g' g'' m' m'') : Stays g g'' m m'' :=
  ⟨fun b o v q => k.fz b o v (h.fz b o v q), fun b o v q => k.fn b o v (h.fn b o v q), fun id o q => by
    obtain ⟨o', q', s⟩ := h.mem id o q
    obtain ⟨o'', q'', s'⟩ := k.mem id o' q'
    refine ⟨o'', q'', ?_⟩
    cases o'' <;> cases o' <;> cases o <;> simp only [AO.stays] at s s' ⊢
    · rw [s', s]
    · obtain ⟨rfl, a2, a3⟩ := s
      obtain ⟨rfl, b2, b3⟩ := s'
      exact ⟨rfl, by rw [b2, a2], by rw [b3, a3]⟩⟩
theorem Stays.box (i : Nat) (b : Nat) (o : AO) (hi : i = m.length) : Stays g { g with bl := upd g.bl i b } m (m ++ [o]) :=
  ⟨fun _ _ _ h => h, fun _ _ _ h => h, fun id o' h => by
    have hlt : id < m.length := (List.getElem?_eq_some_iff.1 h).1
    refine ⟨o', by rw [List.getElem?_append_left hlt]; exact h, ?_⟩
    cases o' <;> simp [AO.stays, upd_ne _ _ (show id ≠ i by omega)]⟩
theorem Stays.row (i : Nat) (v : Value) (o : AO) (hi : i = m.length) : Stays g { g with rv := upd g.rv i v } m (m ++ [o]) :=
  ⟨fun _ _ _ h => h, fun _ _ _ h => h, fun id o' h => by
    have hlt : id < m.length := (List.getElem?_eq_some_iff.1 h).1
    refine ⟨o', by rw [List.getElem?_append_left hlt]; exact h, ?_⟩
    cases o' <;> simp [AO.stays, upd_ne _ _ (show id ≠ i by omega)]⟩
theorem Stays.gone (id : Nat) : Stays g g m (m.set id .gone) :=
  ⟨fun _ _ _ h => h, fun _ _ _ h => h, fun id' o h => by
    by_cases e : id' = id
    · subst e
      exact ⟨.gone, by rw [List.getElem?_set_self (List.getElem?_eq_some_iff.1 h).1], by cases o <;> simp [AO.stays]⟩
    · exact ⟨o, by rw [List.getElem?_set_ne (fun q => e q.symm)]; exact h, by cases o <;> simp [AO.stays]⟩⟩

theorem set_some {l : List AO} {i j : Nat} {x y : AO} (h : (l.set i x)[j]? = some y) : (j = i ∧ y = x) ∨ (j ≠ i ∧ l[j]? = some y) := by
  by_cases e : j = i
  · subst e
    have := List.getElem?_eq_some_iff.1 h
    rw [List.getElem?_set_self (by simpa using this.1)] at h
    exact .inl ⟨rfl, (Option.some.inj h).symm⟩
  · rw [List.getElem?_set_ne (fun q => e q.symm)] at h
    exact .inr ⟨e, h⟩
theorem push_some {l : List AO} {j : Nat} {x y : AO} (h : (l ++ [x])[j]? = some y) : (j = l.length ∧ y = x) ∨ (j < l.length ∧ l[j]? = some y) := by
  by_cases e : j < l.length
  · rw [List.getElem?_append_left e] at h; exact .inr ⟨e, h⟩
  · rw [List.getElem?_append_right (by omega)] at h
    have : j - l.length = 0 := by
      have := (List.getElem?_eq_some_iff.1 h).1
      simp at this; omega
    rw [this] at h
    exact .inl ⟨by omega, by simpa using h.symm⟩

theorem OwnO.blk_lt {id : Nat} {o : AO} (h : OwnO g m w id o) {b : Nat} (hb : o.blk g id = some b) : g.n0 ≤ b ∧ b < w.heap.size := by
  cases o with
  | gone => simp [AO.blk] at hb
  | box l =>
    simp [AO.blk] at hb; subst hb
    obtain ⟨h1, c, T, hh, _⟩ := h
    exact ⟨h1, (Array.getElem?_eq_some_iff.1 hh).1⟩
  | row t l fr =>
    obtain ⟨_, e, xs, ho, _⟩ := h
    exact ho.lt b hb
/-- an object whose block is as it was -/
theorem OwnO.keep {g' : Gh} {m' : List AO} {id : Nat} {o : AO} (h : OwnO g m w id o) (hs : Stays g g' m m') (hb : g'.bl id = g.bl id) (hr : g'.rv id = g.rv id) (hn : g'.n0 = g.n0)
    (hk : ∀ b, o.blk g id = some b → w'.heap[b]? = w.heap[b]?) : OwnO g' m' w' id o := by
  cases o with
  | gone => trivial
  | box l =>
    obtain ⟨h1, c, T, hh, hrs, h2⟩ := h
    refine ⟨by rw [hn, hb]; exact h1, c, T, by rw [hb, hk _ rfl]; exact hh, Rels.mono hs _ _ hrs, h2⟩
  | row t l fr =>
    obtain ⟨h1, e, xs, ho, hrs⟩ := h
    refine ⟨h1, e, xs, ?_, hrs.imp (fun x c hc => RepC.mono (hs.sel fr) t x c hc) _ _⟩
    rw [hn, hr]
    refine ⟨ho.1, ho.2.imp (fun q => q) ?_⟩
    rintro ⟨q, cap, cur, e1, hb', hg, rest⟩
    exact ⟨q, cap, cur, e1, hb', by rw [hk q (by show (g.rv id).ownBlock = _; rw [e1]; rfl)]; exact hg, rest⟩
theorem WF.gone (h : WF w0 g m w) (id : Nat) : WF w0 g (m.set id .gone) w where
  nn := h.nn
  ext := h.ext
  below := h.below
  base := h.base
  fzc := h.fzc
  fnz := h.fnz
  own := fun i o hi => by
    rcases set_some hi with ⟨rfl, rfl⟩ | ⟨hne, hi⟩
    · trivial
    · exact (h.own i o hi).keep (Stays.gone id) rfl rfl rfl (fun _ _ => rfl)
  apart := fun i o b hi hb => by
    rcases set_some hi with ⟨rfl, rfl⟩ | ⟨hne, hi⟩
    · simp [AO.blk] at hb
    · obtain ⟨h1, h2⟩ := h.apart i o b hi hb
      refine ⟨h1, fun j o' hj hjo => ?_⟩
      rcases set_some hjo with ⟨rfl, rfl⟩ | ⟨_, hjo⟩
      · simp [AO.blk]
      · exact h2 j o' hj hjo
theorem WF.fz_lt (h : WF w0 g m w) {b o : Nat} {v : Value} (hv : g.fz b o = some v) : b < w.heap.size := World.block_lt_of_cell? w _ (h.fzc b o v hv)
theorem WF.fz_new (h : WF w0 g m w) (o : Nat) : g.fz w.heap.size o = none := by
  cases hv : g.fz w.heap.size o with
  | none => rfl
  | some v => exact absurd (h.fz_lt hv) (by omega)

theorem WF.pushBox (h : WF w0 g m w) {l : List AV} {c : Array Value} (T : TypeId) (hl : Rels g m l c.toList) (h1 : ∀ u ∈ c.toList, u.oneCell' = true) :
    WF w0 { g with bl := upd g.bl m.length w.heap.size } (m ++ [.box l]) (w.alloc (.cells c T)) := by
  have hs : Stays g { g with bl := upd g.bl m.length w.heap.size } m (m ++ [.box l]) := Stays.box _ _ _ rfl
  have hb : Below w.heap.size w (w.alloc (.cells c T)) := (Below.refl _ _).alloc (Nat.le_refl _) _
  have hsz : (w.alloc (.cells c T)).heap.size = w.heap.size + 1 := by simp
  refine ⟨h.nn, h.ext, h.below.trans (hb.mono h.base), by show g.n0 ≤ _; rw [hsz]; have := h.base; omega, fun b o v hv => cell_below hb (h.fzc b o v hv), h.fnz, fun i o hi => ?_, fun i o b hi hbk => ?_⟩
  · rcases push_some hi with ⟨rfl, rfl⟩ | ⟨hlt, hi⟩
    · refine ⟨show g.n0 ≤ upd g.bl m.length w.heap.size m.length by rw [upd_same]; exact h.base, c, T, ?_, Rels.mono hs _ _ hl, h1⟩
      show (w.alloc (.cells c T)).heap[upd g.bl m.length w.heap.size m.length]? = _
      rw [upd_same]; exact heap_alloc_new w _
    · refine (h.own i o hi).keep hs (upd_ne _ _ (by omega)) rfl rfl (fun b hb' => hb.block b ((h.own i o hi).blk_lt hb').2)
  · rcases push_some hi with ⟨rfl, rfl⟩ | ⟨hlt, hi⟩
    · simp [AO.blk, upd_same] at hbk
      subst hbk
      refine ⟨h.fz_new, fun j o' hj hjo => ?_⟩
      rcases push_some hjo with ⟨rfl, rfl⟩ | ⟨hlt', hjo⟩
      · exact absurd rfl hj
      · intro hjb
        have hjb' : o'.blk g j = some w.heap.size := by
          cases o' <;> simp [AO.blk] at hjb ⊢
          · rw [upd_ne _ _ (by omega)] at hjb; exact hjb
          · exact hjb
        have := ((h.own j o' hjo).blk_lt hjb').2
        omega
    · have hbk' : o.blk g i = some b := by
        cases o <;> simp [AO.blk] at hbk ⊢
        · rw [upd_ne _ _ (by omega)] at hbk; exact hbk
        · exact hbk
      obtain ⟨q1, q2⟩ := h.apart i o b hi hbk'
      refine ⟨q1, fun j o' hj hjo => ?_⟩
      rcases push_some hjo with ⟨rfl, rfl⟩ | ⟨hlt', hjo⟩
      · have := ((h.own i o hi).blk_lt hbk').2
        simp [AO.blk, upd_same]; omega
      · have := q2 j o' hj hjo
        cases o' <;> simp [AO.blk] at this ⊢
        · rw [upd_ne _ _ (by omega)]; exact this
        · exact this

theorem WF.pushRow (h : WF w0 g m w) {row : Option Nat} (hg : w.grownBy w' row) (hne : ∀ (id : Nat) (o : AO) (b : Nat), m[id]? = some o → o.blk g id = some b → row ≠ some b)
    (hrf : ∀ b, row = some b → (∀ off, g.fz b off = none) ∧ g.n0 ≤ b ∧ b < w.heap.size) {t : Sh} {l : List (sem t)} {fr : Bool} {v' : Value} {e : TypeId} {xs : List Value} (hown : w'.ownsRow g.n0 e t.size v' l.length xs)
    (hr : RepL (RepC (g.sel fr) t) l xs) (hpos : 0 < t.size) (hv' : ∀ b, v'.ownBlock = some b → row = some b ∨ b = w.heap.size) :
    WF w0 { g with rv := upd g.rv m.length v' } (m ++ [.row t l fr]) w' := by
  have hs : Stays g { g with rv := upd g.rv m.length v' } m (m ++ [.row t l fr]) := Stays.row _ _ _ rfl
  have hblk : ∀ b, b < w.heap.size → row ≠ some b → w'.heap[b]? = w.heap[b]? := fun b hb hr => hg.block b hb (fun q => hr q.symm)
  have hbel : Below g.n0 w w' := ⟨hg.os, hg.tape, hg.output, hg.size, fun k hk => hblk k (by have := h.base; omega) (fun q => by have := (hrf k q).2.1; omega)⟩
  have hnewf : ∀ b, v'.ownBlock = some b → ∀ off, g.fz b off = none := fun b hb => by
    rcases hv' b hb with q | rfl
    · exact (hrf b q).1
    · exact h.fz_new
  have hblkeq : ∀ (j : Nat) (o : AO), j < m.length → o.blk { g with rv := upd g.rv m.length v' } j = o.blk g j := fun j o hj => by
    cases o <;> simp [AO.blk]
    rw [upd_ne _ _ (by omega)]
  have hold : ∀ (j : Nat) (o : AO) (b : Nat), m[j]? = some o → o.blk g j = some b → v'.ownBlock ≠ some b := fun j o b hj hb q => by
    rcases hv' b q with q | q
    · exact hne j o b hj hb q
    · have := ((h.own j o hj).blk_lt hb).2; omega
  refine ⟨h.nn, h.ext, h.below.trans hbel, Nat.le_trans h.base hg.size, fun b o v hv => ?_, h.fnz, fun i o hi => ?_, fun i o b hi hbk => ?_⟩
  · have := h.fzc b o v hv
    rw [World.cell?_of_block (w := w) (hblk b (h.fz_lt hv) (fun q => by rw [(hrf b q).1 o] at hv; cases hv))]
    exact this
  · rcases push_some hi with ⟨rfl, rfl⟩ | ⟨hlt, hi⟩
    · exact ⟨hpos, e, xs, by show w'.ownsRow g.n0 e t.size (upd g.rv m.length v' m.length) l.length xs; rw [upd_same]; exact hown, hr.imp (fun x c hc => RepC.mono (hs.sel fr) t x c hc) _ _⟩
    · exact (h.own i o hi).keep hs rfl (upd_ne _ _ (by omega)) rfl (fun b hb' => hblk b ((h.own i o hi).blk_lt hb').2 (hne i o b hi hb'))
  · rcases push_some hi with ⟨rfl, rfl⟩ | ⟨hlt, hi⟩
    · simp [AO.blk, upd_same] at hbk
      refine ⟨hnewf b hbk, fun j o' hj hjo => ?_⟩
      rcases push_some hjo with ⟨rfl, rfl⟩ | ⟨hlt', hjo⟩
      · exact absurd rfl hj
      · rw [hblkeq j o' hlt']
        exact fun q => hold j o' b hjo q hbk
    · rw [hblkeq i o hlt] at hbk
      obtain ⟨q1, q2⟩ := h.apart i o b hi hbk
      refine ⟨q1, fun j o' hj hjo => ?_⟩
      rcases push_some hjo with ⟨rfl, rfl⟩ | ⟨hlt', hjo⟩
      · simp only [AO.blk, upd_same]
        exact hold i o b hi hbk
      · rw [hblkeq j o' hlt']; exact q2 j o' hj hjo
/-- an object's own block written anew -/
theorem WF.write (h : WF w0 g m w) {id : Nat} {o o' : AO} (ho : m[id]? = some o) {b : Nat} (hb : o.blk g id = some b) (hk : o.stays g g id o') (hblk : ∀ k, k ≠ b → w'.heap[k]? = w.heap[k]?) (hsz : w'.heap.size = w.heap.size)
    (hos : w'.os = w.os) (htape : w'.tape = w.tape) (hout : w'.output = w.output) (hown : OwnO g (m.set id o') w' id o') (hb' : o'.blk g id = some b) : WF w0 g (m.set id o') w' := by
  obtain ⟨a1, a2⟩ := h.apart id o b ho hb
  obtain ⟨b1, b2⟩ := (h.own id o ho).blk_lt hb
  have hs : Stays g g m (m.set id o') := ⟨fun _ _ _ h => h, fun _ _ _ h => h, fun j q hj => by
    by_cases e : j = id
    · subst e
      rw [ho] at hj
      cases hj
      exact ⟨o', by rw [List.getElem?_set_self (List.getElem?_eq_some_iff.1 ho).1], hk⟩
    · exact ⟨q, by rw [List.getElem?_set_ne (fun q => e q.symm)]; exact hj, by cases q <;> simp [AO.stays]⟩⟩
  refine ⟨h.nn, h.ext, h.below.trans ⟨hos, htape, hout, by omega, fun k hk => hblk k (by omega)⟩, by have := h.base; omega, fun c o v hv => ?_, h.fnz, fun i q hi => ?_, fun i q c hi hc => ?_⟩
  · rw [World.cell?_of_block (w := w) (hblk c (fun e => by subst e; rw [a1 o] at hv; cases hv))]
    exact h.fzc c o v hv
  · rcases set_some hi with ⟨rfl, rfl⟩ | ⟨hne, hi⟩
    · exact hown
    · exact (h.own i q hi).keep hs rfl rfl rfl (fun c hc => hblk c (fun e => by subst e; exact a2 i q hne hi hc))
  · rcases set_some hi with ⟨rfl, rfl⟩ | ⟨hne, hi⟩
    · rw [hb'] at hc
      cases hc
      refine ⟨a1, fun j q hj hjo => ?_⟩
      rcases set_some hjo with ⟨rfl, rfl⟩ | ⟨_, hjo⟩
      · exact absurd rfl hj
      · exact a2 j q hj hjo
    · obtain ⟨c1, c2⟩ := h.apart i q c hi hc
      have hcb : c ≠ b := fun e => by subst e; exact a2 i q hne hi hc
      refine ⟨c1, fun j p hj hjo => ?_⟩
      rcases set_some hjo with ⟨rfl, rfl⟩ | ⟨_, hjo⟩
      · rw [hb']
        exact fun e => hcb (Option.some.inj e).symm
      · exact c2 j p hj hjo
end
end Go.Den
