import Derived.Test.YtaejbcahfnlggaaDoorDenA
import Derived.Below
import Derived.Deep.Quiet
import Derived.StillTail
namespace Go.Den
/-- below B nothing has turned; no draw is taken back -/
structure Below (B : Nat) (w w' : World) : Prop where
  os : w'.os = w.os
  tape : w'.tape = w.tape
  output : w'.output = w.output
  size : w.heap.size ≤ w'.heap.size
  block : ∀ k, k < B → w'.heap[k]? = w.heap[k]?
  drawn : w.drawn ≤ w'.drawn
theorem Below.k {B : Nat} {w w' : World} (h : Below B w w') : Go.RowKit.Below B w w' := ⟨h.os, h.tape, h.output, h.size, h.block⟩
theorem Below.refl (B : Nat) (w : World) : Below B w w := ⟨rfl, rfl, rfl, Nat.le_refl _, fun _ _ => rfl, Nat.le_refl _⟩
theorem Below.trans {B : Nat} {a b c : World} (h : Below B a b) (k : Below B b c) : Below B a c :=
  ⟨k.os.trans h.os, k.tape.trans h.tape, k.output.trans h.output, Nat.le_trans h.size k.size, fun i hi => (k.block i hi).trans (h.block i hi), Nat.le_trans h.drawn k.drawn⟩
theorem Below.mono {B B' : Nat} {w w' : World} (h : Below B w w') (hB : B' ≤ B) : Below B' w w' := ⟨h.os, h.tape, h.output, h.size, fun k hk => h.block k (Nat.lt_of_lt_of_le hk hB), h.drawn⟩
theorem Below.alloc {B : Nat} {a w : World} (h : Below B a w) (hB : B ≤ w.heap.size) (o : Obj) : Below B a (w.alloc o) :=
  h.trans ⟨rfl, rfl, rfl, by simp, fun k hk => Go.RowKit.Below.heap_alloc _ _ _ (by omega), Nat.le_refl _⟩
theorem Below.cell {B : Nat} {w w' : World} (h : Below B w w') {p : Addr} (hp : p.block < B) : w'.cell? p = w.cell? p := h.k.cell hp
theorem Below.ofk {B : Nat} {w w' : World} (h : Go.RowKit.Below B w w') (hd : w.drawn ≤ w'.drawn) : Below B w w' := ⟨h.os, h.tape, h.output, h.size, h.block, hd⟩
theorem Below.drew {B : Nat} {a w : World} (h : Below B a w) : Below B a w.drew := ⟨h.os, h.tape, h.output, h.size, h.block, Nat.le_trans h.drawn (Nat.le_succ _)⟩
theorem Below.setCell {B : Nat} {a w : World} (h : Below B a w) {p : Addr} (hp : B ≤ p.block) (u : Value) : Below B a (w.setCell p u) := Below.ofk (h.k.setCell hp u) h.drawn
theorem Below.grown {B : Nat} {a w w' : World} {row : Option Nat} (h : Below B a w) (hg : w.grownBy w' row) (hd : w.drawn ≤ w'.drawn) (hB : B ≤ w.heap.size) (hr : ∀ k, row = some k → B ≤ k) : Below B a w' := Below.ofk (h.k.grown hg hB hr) (Nat.le_trans h.drawn hd)
theorem drawn_freeze (w : World) (p : Addr) (n : Nat) : (w.freeze p n).drawn = w.drawn := by
  unfold World.freeze
  split <;> rfl
/-- the heap has grown; of what was there only this block may have been written -/
structure Grown (w w' : World) (row : Option Nat) : Prop where
  os : w'.os = w.os
  tape : w'.tape = w.tape
  output : w'.output = w.output
  size : w.heap.size ≤ w'.heap.size
  block : ∀ k, k < w.heap.size → some k ≠ row → w'.heap[k]? = w.heap[k]?
  drawn : w.drawn ≤ w'.drawn
theorem Grown.refl (w : World) (row : Option Nat) : Grown w w row := ⟨rfl, rfl, rfl, Nat.le_refl _, fun _ _ _ => rfl, Nat.le_refl _⟩
theorem Grown.of {w w' : World} {row : Option Nat} (h : w.grownBy w' row) (hd : w.drawn ≤ w'.drawn) : Grown w w' row := ⟨h.os, h.tape, h.output, h.size, h.block, hd⟩
theorem Grown.alloc (w : World) (o : Obj) (row : Option Nat) : Grown w (w.alloc o) row := Grown.of (World.grownBy_alloc w o row) (Nat.le_refl _)
/-! What a slot's holding says of a value in memory. -/
abbrev Fz := Nat → Nat → Option Value

def RepL {α : Type} (R : α → List Value → Prop) : List α → List Value → Prop
  | [], c => c = []
  | x :: l, c => ∃ c1 c2, c = c1 ++ c2 ∧ R x c1 ∧ RepL R l c2

mutual
def RoseR {α : Type} (R : α → List Value → Prop) (fz : Fz) : Rose α → List Value → Prop
  | .node a ks, l => ∃ c1 p cap, l = c1 ++ [.slice p ks.length cap] ∧ R a c1 ∧ ks.length ≤ cap ∧
      (ks = [] ∨ ∃ b o xs, p = some ⟨b, o, none⟩ ∧ RoseL R fz ks xs ∧ ∀ (j : Nat) v, xs[j]? = some v → fz b (o + j) = some v)
def RoseL {α : Type} (R : α → List Value → Prop) (fz : Fz) : List (Rose α) → List Value → Prop
  | [], c => c = []
  | x :: l, c => ∃ c1 c2, c = c1 ++ c2 ∧ RoseR R fz x c1 ∧ RoseL R fz l c2
end
theorem RoseL.eq {α : Type} {R : α → List Value → Prop} {fz : Fz} : ∀ (l : List (Rose α)) (c : List Value), RoseL R fz l c ↔ RepL (RoseR R fz) l c
  | [], c => by simp [RoseL, RepL]
  | x :: l, c => by simp [RoseL, RepL, RoseL.eq l]

def RepC (fz : Fz) : (t : Sh) → sem t → List Value → Prop
  | .int k, x, l => l = [.int k x]
  | .bool, x, l => l = [.bool x]
  | .str, x, l => l = [.string x]
  | .unit, _, l => l = []
  | .list t, x, l => ∃ a cap, l = [.slice a (x : List (sem t)).length cap] ∧ (x : List (sem t)).length ≤ cap ∧
      ((x : List (sem t)) = [] ∨ ∃ b o xs, a = some ⟨b, o, none⟩ ∧ RepL (RepC fz t) x xs ∧ ∀ (j : Nat) v, xs[j]? = some v → fz b (o + j) = some v)
  | .pair a b, x, l => ∃ l1 l2, l = l1 ++ l2 ∧ RepC fz a x.1 l1 ∧ RepC fz b x.2 l2
  | .rose t, x, l => RoseR (RepC fz t) fz x l
theorem RepC.rose {fz : Fz} {t : Sh} : ∀ {x : Rose (sem t)} {l : List Value}, RepC fz (.rose t) x l ↔ ∃ l1 l2, l = l1 ++ l2 ∧ RepC fz t x.root l1 ∧ RepC fz (.list (.rose t)) x.kids l2
  | .node a ks, l => by
    constructor
    · intro h
      have h : RoseR (RepC fz t) fz (Rose.node a ks) l := h
      unfold RoseR at h
      obtain ⟨c1, p, cap, e, h1, h2, h3⟩ := h
      refine ⟨c1, _, e, h1, p, cap, rfl, h2, h3.imp id fun ⟨b, o, xs, ea, hr, hz⟩ => ⟨b, o, xs, ea, ?_, hz⟩⟩
      have := (RoseL.eq ks xs).1 hr
      exact this
    · rintro ⟨l1, l2, e, h1, p, cap, e2, h2, h3⟩
      subst e2
      show RoseR (RepC fz t) fz (Rose.node a ks) l
      unfold RoseR
      refine ⟨l1, p, cap, e, h1, h2, h3.imp id fun ⟨b, o, xs, ea, hr, hz⟩ => ⟨b, o, xs, ea, ?_, hz⟩⟩
      exact (RoseL.eq ks xs).2 hr

def RepV (fz : Fz) (t : Sh) (x : sem t) (v : Value) : Prop :=
  if t.isP then ∃ vs : Array Value, v = .agg vs ∧ RepC fz t x vs.toList else RepC fz t x [v]

theorem RepL.imp {α : Type} {R S : α → List Value → Prop} (h : ∀ x c, R x c → S x c) : ∀ (l : List α) c, RepL R l c → RepL S l c
  | [], _, hc => hc
  | _ :: l, _, ⟨c1, c2, e, h1, h2⟩ => ⟨c1, c2, e, h _ _ h1, RepL.imp h l c2 h2⟩

mutual
theorem RoseR.mono {α : Type} {R S : α → List Value → Prop} {fz fz' : Fz} (hR : ∀ x c, R x c → S x c) (h : ∀ b o v, fz b o = some v → fz' b o = some v) : ∀ (x : Rose α) (l : List Value), RoseR R fz x l → RoseR S fz' x l
  | .node a ks, l, hx => by
    unfold RoseR at hx ⊢
    obtain ⟨c1, p, cap, e, h1, h2, h3⟩ := hx
    exact ⟨c1, p, cap, e, hR _ _ h1, h2, h3.imp id fun ⟨b, o, xs, ea, hr, hz⟩ => ⟨b, o, xs, ea, RoseL.mono hR h ks xs hr, fun j v hv => h _ _ _ (hz j v hv)⟩⟩
theorem RoseL.mono {α : Type} {R S : α → List Value → Prop} {fz fz' : Fz} (hR : ∀ x c, R x c → S x c) (h : ∀ b o v, fz b o = some v → fz' b o = some v) : ∀ (x : List (Rose α)) (l : List Value), RoseL R fz x l → RoseL S fz' x l
  | [], l, hx => by unfold RoseL at hx ⊢; exact hx
  | x :: r, l, hx => by
    unfold RoseL at hx ⊢
    obtain ⟨c1, c2, e, h1, h2⟩ := hx
    exact ⟨c1, c2, e, RoseR.mono hR h x c1 h1, RoseL.mono hR h r c2 h2⟩
end

theorem RepC.mono {fz fz' : Fz} (h : ∀ b o v, fz b o = some v → fz' b o = some v) : ∀ (t : Sh) (x : sem t) (l : List Value), RepC fz t x l → RepC fz' t x l
  | .int _, _, _, e => e
  | .bool, _, _, e => e
  | .str, _, _, e => e
  | .unit, _, _, e => e
  | .list t, _, _, ⟨a, cap, e, hl, hx⟩ => ⟨a, cap, e, hl, hx.imp id fun ⟨b, o, xs, ea, hr, hz⟩ => ⟨b, o, xs, ea, hr.imp (RepC.mono h t) _ _, fun j v hv => h _ _ _ (hz j v hv)⟩⟩
  | .pair a b, _, _, ⟨l1, l2, e, h1, h2⟩ => ⟨l1, l2, e, RepC.mono h a _ _ h1, RepC.mono h b _ _ h2⟩
  | .rose t, x, l, hx => RoseR.mono (RepC.mono h t) h x l hx

theorem RepC.flat {fz fz' : Fz} : ∀ (t : Sh) (x : sem t) (l : List Value), t.flat = true → RepC fz t x l → RepC fz' t x l
  | .int _, _, _, _, e => e
  | .bool, _, _, _, e => e
  | .str, _, _, _, e => e
  | .unit, _, _, _, e => e
  | .list t, _, _, hf, _ => by simp [Sh.flat] at hf
  | .rose t, _, _, hf, _ => by simp [Sh.flat] at hf
  | .pair a b, _, _, hf, ⟨l1, l2, e, h1, h2⟩ => by
    simp only [Sh.flat, Bool.and_eq_true] at hf
    exact ⟨l1, l2, e, RepC.flat a _ _ hf.1 h1, RepC.flat b _ _ hf.2 h2⟩

theorem RepC.len {fz : Fz} : ∀ (t : Sh) (x : sem t) (l : List Value), RepC fz t x l → l.length = t.size
  | .int _, _, _, e => by rw [show _ = _ from e]; rfl
  | .bool, _, _, e => by rw [show _ = _ from e]; rfl
  | .str, _, _, e => by rw [show _ = _ from e]; rfl
  | .unit, _, _, e => by rw [show _ = _ from e]; rfl
  | .list t, _, _, ⟨a, cap, e, _⟩ => by rw [e]; rfl
  | .pair a b, _, _, ⟨l1, l2, e, h1, h2⟩ => by rw [e, List.length_append, RepC.len a _ _ h1, RepC.len b _ _ h2]; rfl
  | .rose t, _, _, hx => by
    obtain ⟨l1, l2, e, h1, _, _, e2, _⟩ := RepC.rose.1 hx
    rw [e, List.length_append, RepC.len t _ _ h1, e2]; rfl

theorem RepL.len {α : Type} {R : α → List Value → Prop} {n : Nat} (h : ∀ x c, R x c → c.length = n) : ∀ (l : List α) c, RepL R l c → c.length = l.length * n
  | [], _, hc => by rw [show _ = _ from hc]; simp
  | _ :: l, _, ⟨c1, c2, e, h1, h2⟩ => by rw [e, List.length_append, h _ _ h1, RepL.len h l c2 h2, List.length_cons, Nat.add_mul, Nat.one_mul, Nat.add_comm]

theorem RepL.one {α : Type} {R : α → List Value → Prop} (h : ∀ x c, R x c → ∀ u ∈ c, u.oneCell' = true) : ∀ (l : List α) c, RepL R l c → ∀ u ∈ c, u.oneCell' = true
  | [], _, hc => by rw [show _ = _ from hc]; simp
  | _ :: l, _, ⟨c1, c2, e, h1, h2⟩ => by
    rw [e]; intro u hu
    rcases List.mem_append.1 hu with hu | hu
    · exact h _ _ h1 u hu
    · exact RepL.one h l c2 h2 u hu
theorem RepC.one {fz : Fz} : ∀ (t : Sh) (x : sem t) (l : List Value), RepC fz t x l → ∀ u ∈ l, u.oneCell' = true
  | .int _, _, _, e => by rw [show _ = _ from e]; simp [Value.oneCell']
  | .bool, _, _, e => by rw [show _ = _ from e]; simp [Value.oneCell']
  | .str, _, _, e => by rw [show _ = _ from e]; simp [Value.oneCell']
  | .unit, _, _, e => by rw [show _ = _ from e]; simp
  | .list t, _, _, ⟨a, cap, e, _⟩ => by rw [e]; simp [Value.oneCell']
  | .rose t, _, _, hx => by
    obtain ⟨l1, l2, e, h1, _, _, e2, _⟩ := RepC.rose.1 hx
    rw [e]; intro u hu
    rcases List.mem_append.1 hu with hu | hu
    · exact RepC.one t _ _ h1 u hu
    · rw [e2] at hu; simp at hu; subst hu; simp [Value.oneCell']
  | .pair a b, _, _, ⟨l1, l2, e, h1, h2⟩ => by
    rw [e]; intro u hu
    rcases List.mem_append.1 hu with hu | hu
    · exact RepC.one a _ _ h1 u hu
    · exact RepC.one b _ _ h2 u hu

theorem RepL.append {α : Type} {R : α → List Value → Prop} : ∀ (l l' : List α) c c', RepL R l c → RepL R l' c' → RepL R (l ++ l') (c ++ c')
  | [], _, _, _, hc, h' => by rw [show _ = _ from hc]; exact h'
  | _ :: l, l', _, c', ⟨c1, c2, e, h1, h2⟩, h' => ⟨c1, c2 ++ c', by rw [e, List.append_assoc], h1, RepL.append l l' c2 c' h2 h'⟩

/-- the i-th element's cells -/
theorem RepL.get {α : Type} {R : α → List Value → Prop} {n : Nat} (h : ∀ x c, R x c → c.length = n) :
    ∀ (l : List α) c, RepL R l c → ∀ (i : Nat) (hi : i < l.length), R l[i] ((c.drop (i * n)).take n)
  | x :: l, _, ⟨c1, c2, e, h1, h2⟩, 0, _ => by
    subst e
    have hl := h _ _ h1
    simpa [← hl] using h1
  | x :: l, _, ⟨c1, c2, e, h1, h2⟩, i + 1, hi => by
    subst e
    have hl := h _ _ h1
    have := RepL.get h l c2 h2 i (by simpa using hi)
    rw [List.getElem_cons_succ, show (i + 1) * n = c1.length + i * n by rw [hl, Nat.add_mul]; omega, List.drop_append, List.drop_of_length_le (by omega), Nat.add_sub_cancel_left, List.nil_append]
    exact this

theorem RepL.set {α : Type} {R : α → List Value → Prop} {n : Nat} (h : ∀ x c, R x c → c.length = n) (y : α) (cy : List Value) (hy : R y cy) :
    ∀ (l : List α) c, RepL R l c → ∀ (i : Nat), i < l.length → RepL R (l.set i y) (c.take (i * n) ++ cy ++ c.drop (i * n + n))
  | x :: l, _, ⟨c1, c2, e, h1, h2⟩, 0, _ => by
    subst e
    have hl := h _ _ h1
    refine ⟨cy, c2, ?_, hy, h2⟩
    simp [← hl]
  | x :: l, _, ⟨c1, c2, e, h1, h2⟩, i + 1, hi => by
    subst e
    have hl := h _ _ h1
    have := RepL.set h y cy hy l c2 h2 i (by simpa using hi)
    refine ⟨c1, c2.take (i * n) ++ cy ++ c2.drop (i * n + n), ?_, h1, this⟩
    rw [show (i + 1) * n = c1.length + i * n by rw [hl, Nat.add_mul]; omega, Nat.add_assoc, List.take_append, List.drop_append, List.take_of_length_le (by omega), List.drop_of_length_le (by omega), Nat.add_sub_cancel_left, Nat.add_sub_cancel_left]
    simp

/-! ### what is known beside the state: fixed cells, the blocks of the objects -/
/-- how the caller's objects were when the call began -/
structure Pin where
  m : List AO
  bl : Nat → Nat
  rv : Nat → Value
  fz : Fz
def Pin.no : Pin := ⟨[], fun _ => 0, fun _ => undef, fun _ _ => none⟩
structure Gh where
  n0 : Nat
  pv : Pin
  fz : Fz
  fn : Fz
  bl : Nat → Nat
  rv : Nat → Value
  /-- the loop over a map -/
  iv : Nat → Value

def Gh.sel (g : Gh) (fr : Bool) : Fz := if fr then g.fn else g.fz

/-- the block of a row that has room -/
def rowBlk : Value → Option Nat
  | .slice (some a) _ (_ + 1) => some a.block
  | _ => none
theorem rowBlk_new {q n c b : Nat} (h : rowBlk (.slice (some ⟨q, 0, none⟩) n c) = some b) : b = q := by
  cases c with
  | zero => simp [rowBlk] at h
  | succ c => simpa [rowBlk] using h.symm
def mapBlk : Value → Option Nat
  | .map b => b
  | _ => none
/-- a value that is the loop over a map, where one is on -/
def itrAt (g : Gh) (id : Nat) (v : Value) : AO → Prop
  | .map _ _ _ _ st _ _ => st ≠ 0 ∧ (st = 1 → v = g.iv id) | _ => True
/-- a part of a slice -/
def subV (a n size : Nat) : Value → Value
  | .slice p _ c => .slice (if c = a then p else p.map (·.add (a * size))) n (c - a)
  | v => v
mutual
def Rel (g : Gh) (m : List AO) : AV → Value → Prop
  | .undef, _ => True
  | .c c, v => v = .bool c.val
  | .d t x fr, v => RepV (g.sel fr) t x v
  | .agg l, v => ∃ vs : Array Value, v = .agg vs ∧ Rels g m l vs.toList ∧ ∀ u ∈ vs.toList, u.oneCell' = true
  | .tup l, v => ∃ vs : Array Value, v = .tuple vs ∧ Rels g m l vs.toList
  | .ptr id off, v => v.oneCell' = true ∧ ∃ o, m[id]? = some o ∧ match o with | .box _ => v = .pointer (some ⟨g.bl id, off, none⟩) | _ => True
  | .fp t x off fr, v => ∃ b o cs, v = .pointer (some ⟨b, o + off, none⟩) ∧ RepC (g.sel fr) t x cs ∧ ∀ (j : Nat) u, cs[j]? = some u → g.fz b (o + j) = some u
  | .fb l off, v => ∃ b o cs, v = .pointer (some ⟨b, o + off, none⟩) ∧ Rels g m l cs ∧ (∀ u ∈ cs, u.oneCell' = true) ∧ ∀ (j : Nat) u, cs[j]? = some u → g.fz b (o + j) = some u
  | .ref id, v => v.oneCell' = true ∧ ∃ o, m[id]? = some o ∧ match o with | .row _ _ _ => v = g.rv id | .map _ _ _ _ _ _ _ => v = g.rv id | _ => True
  | .nil, v => v = .slice none 0 0
  | .nilp, v => v = .pointer none
  | .nilm, v => v = .map none
  | .itr id, v => v.oneCell' = true ∧ ∃ o, m[id]? = some o ∧ itrAt g id v o
  | .rp id i off, v => v.oneCell' = true ∧ ∃ o, m[id]? = some o ∧ match o with
    | .row t l _ => 0 ≤ i ∧ i < l.length ∧ ∃ b, rowBlk (g.rv id) = some b ∧ v = .pointer (some ⟨b, i.toNat * t.size + off, none⟩)
    | _ => True
  | .sub id i n, v => v.oneCell' = true ∧ ∃ o, m[id]? = some o ∧ match o with
    | .row t l _ => 0 ≤ i ∧ 0 ≤ n ∧ i + n ≤ l.length ∧ v = subV i.toNat n.toNat t.size (g.rv id)
    | _ => True
  | .fn f caps, v => ∃ vs : Array Value, v = .func (.func f) #[] vs ∧ Rels g m caps vs.toList
def Rels (g : Gh) (m : List AO) : List AV → List Value → Prop
  | [], vs => vs = []
  | a :: l, vs => ∃ v r, vs = v :: r ∧ Rel g m a v ∧ Rels g m l r
end

/-- object i of (g, ..) as object j of (g', ..) -/
def AO.goes (g g' : Gh) (i j : Nat) : AO → AO → Prop
  | _, .gone => True
  | .box _, .box _ => g'.bl j = g.bl i
  | .row t l _, .row t' l' _ => t' = t ∧ l'.length = l.length ∧ g'.rv j = g.rv i
  | .map k v _ _ st _ _, .map k' v' _ _ st' _ _ => k' = k ∧ v' = v ∧ g'.rv j = g.rv i ∧ (st' = st ∨ (st = 0 ∧ st' = 1) ∨ st' = 2) ∧ (st = 1 → st' = 1 → g'.iv j = g.iv i)
  | _, _ => False
/-- from (g, m) to (g', m') nothing is lost but objects that are gone -/
def AO.stays (g g' : Gh) (id : Nat) (o o' : AO) : Prop := o.goes g g' id id o'
structure Stays (g g' : Gh) (m m' : List AO) : Prop where
  pv : g'.pv = g.pv
  fz : ∀ b o v, g.fz b o = some v → g'.fz b o = some v
  fn : ∀ b o v, g.fn b o = some v → g'.fn b o = some v
  mem : ∀ (id : Nat) (o : AO), m[id]? = some o → ∃ o' : AO, m'[id]? = some o' ∧ o.stays g g' id o'

theorem Stays.sel {g g' : Gh} {m m' : List AO} (h : Stays g g' m m') (fr : Bool) : ∀ b o v, g.sel fr b o = some v → g'.sel fr b o = some v := by
  cases fr
  · exact h.fz
  · exact h.fn
theorem RepV.mono {fz fz' : Fz} (h : ∀ b o v, fz b o = some v → fz' b o = some v) {t : Sh} {x : sem t} {v : Value} (hv : RepV fz t x v) : RepV fz' t x v := by
  unfold RepV at *
  split
  · rename_i hp
    rw [if_pos hp] at hv
    obtain ⟨vs, e, hr⟩ := hv
    exact ⟨vs, e, hr.mono h⟩
  · rename_i hp
    rw [if_neg hp] at hv
    exact hv.mono h

theorem itr_goes {g g' : Gh} {i j : Nat} {o o' : AO} {v : Value} (hs : o.goes g g' i j o') (e : itrAt g i v o) : itrAt g' j v o' := by
  cases o' with
  | map k' v' nn' l' st' r' c' =>
    cases o with
    | map k2 v2 nn l st r c =>
      obtain ⟨_, _, _, h5, h6⟩ := hs
      obtain ⟨e1, e2⟩ := e
      refine ⟨by omega, fun h => ?_⟩
      have h1 : st = 1 := by omega
      rw [h6 h1 h]; exact e2 h1
    | _ => exact hs.elim
  | _ => trivial
mutual
theorem Rel.mono {g g' : Gh} {m m' : List AO} (h : Stays g g' m m') : ∀ (a : AV) (v : Value), Rel g m a v → Rel g' m' a v
  | .undef, _, _ => by unfold Rel; trivial
  | .c _, _, e => by unfold Rel at *; exact e
  | .d t x fr, _, e => by unfold Rel at *; exact e.mono (h.sel fr)
  | .agg l, _, e => by unfold Rel at *; obtain ⟨vs, e, hl, h1⟩ := e; exact ⟨vs, e, Rels.mono h l _ hl, h1⟩
  | .tup l, _, e => by unfold Rel at *; obtain ⟨vs, e, hl⟩ := e; exact ⟨vs, e, Rels.mono h l _ hl⟩
  | .ptr id off, v, e => by
    unfold Rel at *
    obtain ⟨h1, o, ho, e⟩ := e
    obtain ⟨o', ho', hs⟩ := h.mem id o ho
    refine ⟨h1, o', ho', ?_⟩
    cases o' <;> cases o <;> simp only [AO.stays, AO.goes] at hs e ⊢
    rw [hs]; exact e
  | .fp t x off fr, v, e => by
    unfold Rel at *
    obtain ⟨b, o, cs, e, hr, hz⟩ := e
    exact ⟨b, o, cs, e, hr.mono (h.sel fr), fun j u hu => h.fz _ _ _ (hz j u hu)⟩
  | .fb l off, v, e => by
    unfold Rel at *
    obtain ⟨b, o, cs, e, hr, h1, hz⟩ := e
    exact ⟨b, o, cs, e, Rels.mono h l _ hr, h1, fun j u hu => h.fz _ _ _ (hz j u hu)⟩
  | .ref id, v, e => by
    unfold Rel at *
    obtain ⟨h1, o, ho, e⟩ := e
    obtain ⟨o', ho', hs⟩ := h.mem id o ho
    refine ⟨h1, o', ho', ?_⟩
    cases o' <;> cases o <;> simp only [AO.stays, AO.goes] at hs e ⊢
    · rw [hs.2.2]; exact e
    · rw [hs.2.2.1]; exact e
  | .nil, _, e => by unfold Rel at *; exact e
  | .nilp, _, e => by unfold Rel at *; exact e
  | .nilm, _, e => by unfold Rel at *; exact e
  | .itr id, v, e => by
    unfold Rel at *
    obtain ⟨h1, o, ho, e⟩ := e
    obtain ⟨o', ho', hs⟩ := h.mem id o ho
    exact ⟨h1, o', ho', itr_goes hs e⟩
  | .rp id i off, v, e => by
    unfold Rel at *
    obtain ⟨h1, o, ho, e⟩ := e
    obtain ⟨o', ho', hs⟩ := h.mem id o ho
    refine ⟨h1, o', ho', ?_⟩
    cases o' <;> cases o <;> simp only [AO.stays, AO.goes] at hs e ⊢
    obtain ⟨e1, h2, h3⟩ := hs
    subst e1
    rw [h2, h3]; exact e
  | .sub id i n, v, e => by
    unfold Rel at *
    obtain ⟨h1, o, ho, e⟩ := e
    obtain ⟨o', ho', hs⟩ := h.mem id o ho
    refine ⟨h1, o', ho', ?_⟩
    cases o' <;> cases o <;> simp only [AO.stays, AO.goes] at hs e ⊢
    obtain ⟨e1, h2, h3⟩ := hs
    subst e1
    rw [h2, h3]; exact e
  | .fn f l, _, e => by unfold Rel at *; obtain ⟨vs, e, hl⟩ := e; exact ⟨vs, e, Rels.mono h l _ hl⟩
theorem Rels.mono {g g' : Gh} {m m' : List AO} (h : Stays g g' m m') : ∀ (l : List AV) (vs : List Value), Rels g m l vs → Rels g' m' l vs
  | [], _, e => by unfold Rels at *; exact e
  | a :: l, _, e => by
    unfold Rels at *
    obtain ⟨v, r, e, h1, h2⟩ := e
    exact ⟨v, r, e, Rel.mono h a v h1, Rels.mono h l r h2⟩
end

theorem Rels.length {g : Gh} {m : List AO} : ∀ {l : List AV} {vs : List Value}, Rels g m l vs → vs.length = l.length
  | [], _, e => by unfold Rels at e; rw [e]; rfl
  | _ :: l, _, e => by unfold Rels at e; obtain ⟨v, r, e, _, h2⟩ := e; rw [e, List.length_cons, List.length_cons, Rels.length h2]
theorem Rels.get {g : Gh} {m : List AO} : ∀ {l : List AV} {vs : List Value}, Rels g m l vs → ∀ {i : Nat} {a : AV}, l[i]? = some a → ∃ v, vs[i]? = some v ∧ Rel g m a v
  | [], _, _, i, a, hi => by simp at hi
  | _ :: l, _, e, 0, a, hi => by unfold Rels at e; obtain ⟨v, r, e, h1, h2⟩ := e; subst e; simp at hi; subst hi; exact ⟨v, rfl, h1⟩
  | _ :: l, _, e, i + 1, a, hi => by unfold Rels at e; obtain ⟨v, r, e, h1, h2⟩ := e; subst e; simp at hi ⊢; exact Rels.get h2 hi
theorem Rels.getD {g : Gh} {m : List AO} {l : List AV} {vs : List Value} (h : Rels g m l vs) (i : Nat) : Rel g m (l.getD i .undef) (vs.getD i undef) := by
  cases hl : l[i]? with
  | none => simp [List.getD, hl]; unfold Rel; trivial
  | some a => obtain ⟨v, hv, hr⟩ := h.get hl; simpa [List.getD, hl, hv] using hr
theorem Rels.set {g : Gh} {m : List AO} : ∀ {l : List AV} {vs : List Value}, Rels g m l vs → ∀ (i : Nat) {a : AV} {v : Value}, Rel g m a v → Rels g m (l.set i a) (vs.set i v)
  | [], _, e, i, a, v, h => by unfold Rels at e; subst e; simp; unfold Rels; rfl
  | _ :: l, _, e, 0, a, v, h => by unfold Rels at e; obtain ⟨u, r, e, h1, h2⟩ := e; subst e; simp; unfold Rels; exact ⟨v, r, rfl, h, h2⟩
  | b :: l, _, e, i + 1, a, v, h => by unfold Rels at e; obtain ⟨u, r, e, h1, h2⟩ := e; subst e; simp; unfold Rels; exact ⟨u, _, rfl, h1, Rels.set h2 i h⟩
theorem Rels.append {g : Gh} {m : List AO} : ∀ {l l' : List AV} {vs vs' : List Value}, Rels g m l vs → Rels g m l' vs' → Rels g m (l ++ l') (vs ++ vs')
  | [], _, _, _, e, h' => by unfold Rels at e; subst e; exact h'
  | _ :: l, l', _, vs', e, h' => by
    unfold Rels at e; obtain ⟨u, r, e, h1, h2⟩ := e; subst e
    rw [List.cons_append]; unfold Rels; exact ⟨u, r ++ vs', rfl, h1, Rels.append h2 h'⟩
theorem Rels.drop {g : Gh} {m : List AO} : ∀ {l : List AV} {vs : List Value}, Rels g m l vs → ∀ n, Rels g m (l.drop n) (vs.drop n)
  | l, _, e, 0 => by simpa using e
  | [], _, e, n + 1 => by unfold Rels at e; subst e; simp; unfold Rels; rfl
  | _ :: l, _, e, n + 1 => by unfold Rels at e; obtain ⟨u, r, e, h1, h2⟩ := e; subst e; simpa using Rels.drop h2 n
theorem Rels.take {g : Gh} {m : List AO} : ∀ {l : List AV} {vs : List Value}, Rels g m l vs → ∀ n, Rels g m (l.take n) (vs.take n)
  | l, _, e, 0 => by simp; unfold Rels; rfl
  | [], _, e, n + 1 => by unfold Rels at e; subst e; simp; unfold Rels; rfl
  | _ :: l, _, e, n + 1 => by unfold Rels at e; obtain ⟨u, r, e, h1, h2⟩ := e; subst e; simp; unfold Rels; exact ⟨u, _, rfl, h1, Rels.take h2 n⟩
theorem Rels.nil {g : Gh} {m : List AO} : Rels g m [] [] := by unfold Rels; rfl
theorem Rels.cons {g : Gh} {m : List AO} {a : AV} {l : List AV} {v : Value} {vs : List Value} (h : Rel g m a v) (hl : Rels g m l vs) : Rels g m (a :: l) (v :: vs) := by
  unfold Rels; exact ⟨v, vs, rfl, h, hl⟩
theorem Rels.undefs {g : Gh} {m : List AO} (x : Value) : ∀ n, Rels g m (List.replicate n .undef) (List.replicate n x)
  | 0 => by simp; exact Rels.nil
  | n + 1 => by simp only [List.replicate_succ]; exact Rels.cons (by unfold Rel; trivial) (Rels.undefs x n)

/-! ### the memory as it is said to be -/
/-- a row with room, in a block of its own; or an empty one -/
def OwnR (w : World) (base : Nat) (e : TypeId) (size : Nat) (v : Value) (n : Nat) (xs : List Value) : Prop :=
  xs.length = n * size ∧ ((n = 0 ∧ ∃ a, v = .slice a 0 0) ∨ ∃ q cap cur, v = .slice (some ⟨q, 0, none⟩) n (cap + 1) ∧ base ≤ q ∧ w.heap[q]? = some (.cells cur e (0, 0)) ∧ n ≤ cap + 1 ∧ cap + 1 ≤ maxLen ∧ cur.size = (cap + 1) * size ∧ cur.toList.take (n * size) = xs)
theorem OwnR.nil (w : World) (base : Nat) (e : TypeId) (size : Nat) (a : Option Addr) : OwnR w base e size (.slice a 0 0) 0 [] := ⟨by simp, .inl ⟨rfl, a, rfl⟩⟩
theorem OwnR.of {w : World} {base : Nat} {e : TypeId} {size : Nat} {v : Value} {n : Nat} {xs : List Value} (h : w.ownsRow base e size v n xs) : OwnR w base e size v n xs := by
  refine ⟨h.1, ?_⟩
  rcases h.2 with ⟨rfl, rfl⟩ | ⟨q, cap, cur, rfl, h1, h2, h3, h4, h5, h6⟩
  · exact .inl ⟨rfl, none, rfl⟩
  · cases cap with
    | zero => obtain rfl : n = 0 := by omega
              exact .inl ⟨rfl, _, rfl⟩
    | succ cap => exact .inr ⟨q, cap, cur, rfl, h1, h2, h3, h4, h5, h6⟩
theorem OwnR.lt {w : World} {base : Nat} {e : TypeId} {size : Nat} {v : Value} {n : Nat} {xs : List Value} (h : OwnR w base e size v n xs) {b : Nat} (hb : rowBlk v = some b) : base ≤ b ∧ b < w.heap.size := by
  rcases h.2 with ⟨_, a, rfl⟩ | ⟨q, cap, cur, rfl, h1, h2, _⟩
  · cases a <;> simp [rowBlk] at hb
  · simp [rowBlk] at hb
    subst hb
    exact ⟨h1, (Array.getElem?_eq_some_iff.1 h2).1⟩
theorem OwnR.one {w : World} {base : Nat} {e : TypeId} {size : Nat} {v : Value} {n : Nat} {xs : List Value} (h : OwnR w base e size v n xs) : v.oneCell' = true := by
  rcases h.2 with ⟨_, a, rfl⟩ | ⟨q, cap, cur, rfl, _⟩ <;> rfl
/-- where its block is as it was -/
theorem OwnR.kept {w w' : World} {base : Nat} {e : TypeId} {size : Nat} {v : Value} {n : Nat} {xs : List Value} (h : OwnR w base e size v n xs) (hk : ∀ b, rowBlk v = some b → w'.heap[b]? = w.heap[b]?) : OwnR w' base e size v n xs := by
  refine ⟨h.1, h.2.imp id ?_⟩
  rintro ⟨q, cap, cur, rfl, h1, h2, rest⟩
  exact ⟨q, cap, cur, rfl, h1, by rw [hk q rfl]; exact h2, rest⟩
theorem OwnR.base {w : World} {base base' : Nat} {e : TypeId} {size : Nat} {v : Value} {n : Nat} {xs : List Value} (h : OwnR w base e size v n xs) (hb : ∀ b, rowBlk v = some b → base' ≤ b) : OwnR w base' e size v n xs := by
  refine ⟨h.1, h.2.imp id ?_⟩
  rintro ⟨q, cap, cur, rfl, h1, rest⟩
  exact ⟨q, cap, cur, rfl, hb q rfl, rest⟩
theorem OwnR.cells {w : World} {base : Nat} {e : TypeId} {size : Nat} {v : Value} {n : Nat} {xs : List Value} (h : OwnR w base e size v n xs) {q : Nat} (hq : rowBlk v = some q) : ∀ (j : Nat) u, xs[j]? = some u → w.cell? ⟨q, j, none⟩ = some u := by
  intro j u hu
  rcases h.2 with ⟨_, a, rfl⟩ | ⟨q', cap, cur, rfl, h1, h2, _, _, _, h6⟩
  · cases a <;> simp [rowBlk] at hq
  · simp [rowBlk] at hq
    subst hq
    rw [← h6, List.getElem?_take] at hu
    split at hu
    · simpa [World.cell?, h2] using hu
    · cases hu
/-- what a map's entries hold -/
def RepM (fz : Fz) (k v : Sh) : List (sem k × sem v) → List MapEntry → Prop
  | [], es => es = []
  | p :: l, es => ∃ e r, es = e :: r ∧ RepV fz k p.1 e.key ∧ RepV fz v p.2 e.val ∧ RepM fz k v l r
theorem RepM.mono {fz fz' : Fz} (h : ∀ b o v, fz b o = some v → fz' b o = some v) {k v : Sh} : ∀ {l : List (sem k × sem v)} {es : List MapEntry}, RepM fz k v l es → RepM fz' k v l es
  | [], _, e => e
  | _ :: _, _, ⟨e, r, e1, h1, h2, h3⟩ => ⟨e, r, e1, h1.mono h, h2.mono h, h3.mono h⟩
/-- the map's stamps: each its own, all of them old -/
def Stamps (es : Array MapEntry) (clock : Nat) : Prop := (∀ x ∈ es.toList, x.born < clock) ∧ (es.toList.map (·.born)).Nodup
def OwnO (g : Gh) (m : List AO) (w : World) (id : Nat) : AO → Prop
  | .gone => True
  | .box l => g.n0 ≤ g.bl id ∧ ∃ (c : Array Value) (T : TypeId), w.heap[g.bl id]? = some (.cells c T (0, 0)) ∧ Rels g m l c.toList ∧ ∀ u ∈ c.toList, u.oneCell' = true
  | .row t l fr => 0 < t.size ∧ ∃ e xs, OwnR w g.n0 e t.size (g.rv id) l.length xs ∧ RepL (RepC (g.sel fr) t) l xs
  | .map k v nn l st rem cur => k.flat = true ∧ ((nn = false ∧ st ≠ 1 ∧ g.rv id = .map none ∧ l = []) ∨ ∃ b es clock, g.rv id = .map (some b) ∧ g.n0 ≤ b ∧ w.heap[b]? = some (.map es clock) ∧ Stamps es clock ∧ RepM g.fz k v l es.toList ∧
      (st = 1 → ∃ c seen, g.iv id = .pointer (some ⟨c, 0, none⟩) ∧ g.n0 ≤ c ∧ c ≠ b ∧ w.heap[c]? = some (.mapIter (some b) clock seen clock) ∧ RepM g.fz k v rem (es.toList.filter fun e => !seen.contains e.born) ∧
        ∀ p, cur = some p → ∃ e, seen.back? = some e.born ∧ e ∈ es.toList ∧ RepV g.fz k p.1 e.key ∧ RepV g.fz v p.2 e.val))
/-- the blocks that an object takes -/
def AO.has (g : Gh) (id : Nat) : AO → Nat → Prop
  | .gone, _ => False | .box _, b => g.bl id = b | .row _ _ _, b => rowBlk (g.rv id) = some b
  | .map _ _ _ _ st _ _, b => mapBlk (g.rv id) = some b ∨ (st = 1 ∧ ∃ c, g.iv id = .pointer (some ⟨c, 0, none⟩) ∧ c = b)
/-- package-level tables, by their blocks -/
abbrev Tbls := Nat → Option (Array Value → Prop)
def Tbl (T : Tbls) (w : World) : Prop := ∀ b p, T b = some p → ∃ cs ty fr, w.heap[b]? = some (.cells cs ty fr) ∧ p cs
theorem Tbl.below {T : Tbls} {w w' : World} (h : Tbl T w) (hb : Below w.heap.size w w') : Tbl T w' := fun b p e => by
  obtain ⟨cs, ty, fr, hh, hp⟩ := h b p e
  exact ⟨cs, ty, fr, by rw [hb.block b (Array.getElem?_eq_some_iff.1 hh).1]; exact hh, hp⟩
/-- how the call began -/
structure Ent where
  w : World
  fz : Fz
  /-- from here on blocks may be one's own -/
  n0 : Nat
  /-- elder blocks that the call may write to -/
  io : Nat → Bool
  /-- the caller's objects -/
  pv : Pin
  /-- tables that nobody writes to -/
  tb : Tbls
def Ent.of (T : Tbls) (w : World) (fz : Fz) : Ent := ⟨w, fz, w.heap.size, fun _ => false, Pin.no, T⟩
structure WF (w0 : Ent) (g : Gh) (m : List AO) (w : World) : Prop where
  nn : g.n0 = w0.n0
  pvn : g.pv = w0.pv
  ext : ∀ b o v, g.fz b o = some v → w0.fz b o = some v ∨ w0.w.heap.size ≤ b ∨ w0.io b = true
  below : Below g.n0 w0.w w
  base : g.n0 ≤ w.heap.size
  fzc : ∀ b o v, g.fz b o = some v → w.cell? ⟨b, o, none⟩ = some v
  fnz : ∀ b o v, g.fn b o = some v → g.fz b o = some v ∧ g.n0 ≤ b
  own : ∀ (id : Nat) (o : AO), m[id]? = some o → OwnO g m w id o
  apart : ∀ (id : Nat) (o : AO) (b : Nat), m[id]? = some o → o.has g id b → (∀ off, g.fz b off = none) ∧ ∀ (id' : Nat) (o' : AO), id' ≠ id → m[id']? = some o' → ¬ o'.has g id' b
  bx : ∀ k, k < w0.w.heap.size → w0.io k = false → w.heap[k]? = w0.w.heap[k]?
  mine : ∀ (id : Nat) (o : AO) (b : Nat), m[id]? = some o → o.has g id b → w0.w.heap.size ≤ b ∨ w0.io b = true
  tbl : Tbl w0.tb w0.w ∧ ∀ b cs, w0.tb b = some cs → w0.io b = false
theorem WF.tab {w0 : Ent} {g : Gh} {m : List AO} {w : World} (h : WF w0 g m w) : Tbl w0.tb w := fun b p e => by
  obtain ⟨cs, ty, fr, hh, hp⟩ := h.tbl.1 b p e
  exact ⟨cs, ty, fr, by rw [h.bx b (Array.getElem?_eq_some_iff.1 hh).1 (h.tbl.2 b p e)]; exact hh, hp⟩

theorem cell_below {w w' : World} (hb : Below w.heap.size w w') {b o : Nat} {v : Value} (h : w.cell? ⟨b, o, none⟩ = some v) : w'.cell? ⟨b, o, none⟩ = some v := by
  rw [hb.cell (p := ⟨b, o, none⟩) (World.block_lt_of_cell? w _ h)]; exact h
theorem OwnO.has_lt {g : Gh} {m : List AO} {w : World} {id : Nat} {o : AO} (h : OwnO g m w id o) {b : Nat} (hb : o.has g id b) : g.n0 ≤ b ∧ b < w.heap.size := by
  cases o with
  | gone => exact hb.elim
  | box l =>
    have hb : g.bl id = b := hb
    subst hb
    obtain ⟨h1, c, T, hh, _⟩ := h
    exact ⟨h1, (Array.getElem?_eq_some_iff.1 hh).1⟩
  | row t l fr =>
    obtain ⟨_, e, xs, ho, _⟩ := h
    exact ho.lt hb
  | map k v nn l st rem cur =>
    obtain ⟨_, ⟨_, hst, e, _⟩ | ⟨b', es, clock, e, h1, hh, _, _, hit⟩⟩ := h
    · rcases hb with hb | ⟨hb, _⟩
      · rw [e] at hb; simp [mapBlk] at hb
      · exact absurd hb hst
    · rcases hb with hb | ⟨rfl, c, hc, rfl⟩
      · rw [e] at hb
        simp [mapBlk] at hb
        subst hb
        exact ⟨h1, (Array.getElem?_eq_some_iff.1 hh).1⟩
      · obtain ⟨c', seen, e', h2, _, h3, _⟩ := hit rfl
        rw [hc] at e'
        simp at e'
        subst e'
        exact ⟨h2, (Array.getElem?_eq_some_iff.1 h3).1⟩
/-- an object whose blocks are as they were -/
theorem OwnO.keepAt {g g' : Gh} {m m' : List AO} {w w' : World} {i j : Nat} {l : AO} (h : OwnO g m w i l) (hR : ∀ a v, l = .box a → Rels g m a v → Rels g' m' a v) (hf : ∀ fr b o v, g.sel fr b o = some v → g'.sel fr b o = some v) (hb : g'.bl j = g.bl i) (hr : g'.rv j = g.rv i) (hiv : g'.iv j = g.iv i) (hn : g'.n0 = g.n0)
    (hk : ∀ b, l.has g i b → w'.heap[b]? = w.heap[b]?) : OwnO g' m' w' j l := by
  cases l with
  | gone => trivial
  | box l =>
    obtain ⟨h1, c, T, hh, hrs, h2⟩ := h
    exact ⟨by rw [hn, hb]; exact h1, c, T, by rw [hb, hk _ rfl]; exact hh, hR _ _ rfl hrs, h2⟩
  | row t l fr =>
    obtain ⟨h1, e, xs, ho, hrs⟩ := h
    exact ⟨h1, e, xs, by rw [hn, hr]; exact ho.kept hk, hrs.imp (fun x c hc => RepC.mono (hf fr) t x c hc) _ _⟩
  | map k v nn l st rem cur =>
    obtain ⟨h0, h⟩ := h
    refine ⟨h0, ?_⟩
    rw [hr, hiv, hn]
    refine h.imp id ?_
    rintro ⟨b, es, clock, e, h1, hh, hs, hl, hit⟩
    refine ⟨b, es, clock, e, h1, by rw [hk b (.inl (by rw [e]; rfl))]; exact hh, hs, hl.mono (hf false), fun h1 => ?_⟩
    obtain ⟨c, seen, e2, h2, hc, h3, h4, h5⟩ := hit h1
    refine ⟨c, seen, e2, h2, hc, by rw [hk c (.inr ⟨h1, c, e2, rfl⟩)]; exact h3, h4.mono (hf false), fun p hp => ?_⟩
    obtain ⟨e3, q1, q2, q3, q4⟩ := h5 p hp
    exact ⟨e3, q1, q2, q3.mono (hf false), q4.mono (hf false)⟩
/-- new memory beside it changes nothing that is said -/
theorem WF.later {w0 : Ent} {g : Gh} {m : List AO} {w w' : World} (h : WF w0 g m w) (hb : Below w.heap.size w w') : WF w0 g m w' where
  nn := h.nn
  pvn := h.pvn
  ext := h.ext
  below := h.below.trans (hb.mono h.base)
  base := Nat.le_trans h.base hb.size
  fzc := fun b o v hv => cell_below hb (h.fzc b o v hv)
  fnz := h.fnz
  apart := h.apart
  tbl := h.tbl
  bx := fun k hk hio => (hb.block k (Nat.lt_of_lt_of_le hk h.below.size)).trans (h.bx k hk hio)
  mine := h.mine
  own := fun id o ho => (h.own id o ho).keepAt (fun _ _ _ h => h) (fun _ _ _ _ h => h) rfl rfl rfl rfl (fun b hb' => hb.block b ((h.own id o ho).has_lt hb').2)
theorem WF.draw {w0 : Ent} {g : Gh} {m : List AO} {w : World} (h : WF w0 g m w) : WF w0 g m { w with drawn := w.drawn + 1 } :=
  h.later ⟨rfl, rfl, rfl, Nat.le_refl _, fun _ _ => rfl, Nat.le_succ _⟩
theorem AO.goes.trans {g g' g'' : Gh} {i j k : Nat} {o o' o'' : AO} (h : o.goes g g' i j o') (h' : o'.goes g' g'' j k o'') : o.goes g g'' i k o'' := by
  cases o'' <;> cases o' <;> cases o <;> simp only [AO.goes] at h h' ⊢
  · rw [h', h]
  · obtain ⟨rfl, a2, a3⟩ := h
    obtain ⟨rfl, b2, b3⟩ := h'
    exact ⟨rfl, by rw [b2, a2], by rw [b3, a3]⟩
  · obtain ⟨rfl, rfl, a1, a2, a3⟩ := h
    obtain ⟨rfl, rfl, b1, b2, b3⟩ := h'
    refine ⟨rfl, rfl, by rw [b1, a1], by omega, fun q1 q2 => ?_⟩
    rw [b3 (by omega) q2, a3 q1 (by omega)]
theorem AO.goes.refl (g : Gh) (i : Nat) (o : AO) : o.goes g g i i o := by cases o <;> simp [AO.goes]
/-- the ghost of what a call began with -/
def Pin.gh (p : Pin) : Gh := ⟨0, Pin.no, fun _ _ => none, fun _ _ => none, p.bl, p.rv, fun _ => undef⟩
end Go.Den
