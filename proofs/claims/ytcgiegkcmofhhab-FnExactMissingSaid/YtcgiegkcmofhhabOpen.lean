/- What an argument of any type that the laws have reads as: by the print's kinds, a value whose strings and slices are of bounded size.
Conditions: none. -/
import Derived.Test.YtcgiegkcmofhhabWWords
import Derived.Deep.Slices
import Derived.SizedLaws
import Derived.ChangeSlices
import Derived.KernelRfl
namespace Go.Proofs.YtcgiegkcmofhhabOpen
open Go.ChangeShapes Go.WideShapes Go.Deep Go.Proofs.YtcgiegkcmofhhabW.PrintWords
set_option linter.unusedVariables false
set_option linter.unusedSimpArgs false

/-- Whatever reads by type t is of kind d and fits F. -/
def Opens (P : Program) (t : TypeId) {α : Type} (d : Kd α) (F : α → Prop) : Prop :=
  ∀ {H : Type} (enc : TypeId × Value → H) (w : World) (base : Nat) (spare : Nat → Bool) (held : Bool) (fuel : Nat) (cs : List Value) (D : DataW H) (ps : List MemPlace),
    DataW.trod enc P w base spare held fuel t cs = some (D, ps) → (∀ n ∈ D.weights P t, n ≤ reachBytes) → ∃ x : α, d.K w x cs ∧ F x
theorem Opens.int {P : Program} {t : TypeId} {k : IntKind} (ht : P.underlying t = some (.int k)) : Opens P t (Kd.int k) (fun x => (Lit.int k x).wf = true) := by
  intro H enc w base spare held fuel cs D ps h _
  obtain ⟨n, rfl, _, hw⟩ := DataW.trod_int ht h
  exact ⟨n, rfl, hw⟩
theorem Opens.bool {P : Program} {t : TypeId} (ht : P.underlying t = some .bool) : Opens P t Kd.bool (fun _ => True) := by
  intro H enc w base spare held fuel cs D ps h _
  obtain ⟨n, rfl, _⟩ := DataW.trod_bool ht h
  exact ⟨n, rfl, trivial⟩
theorem Opens.string {P : Program} {t : TypeId} (ht : P.underlying t = some .string) : Opens P t Kd.string (fun s => s.size ≤ 140737488351232) := by
  intro H enc w base spare held fuel cs D ps h hz
  obtain ⟨s, rfl, he, _⟩ := DataW.trod_string ht h
  obtain ⟨rfl, rfl⟩ := Prod.mk.inj he
  refine ⟨s, rfl, ?_⟩
  have z := hz s.data.toList.length (by simp [DataW.weights])
  rw [Array.length_toList] at z
  exact z
/-- A slice's own fit: its length, and each element's. -/
def FitS {α : Type} (B : Nat) (F : α → Prop) (l : List α) : Prop := l.length ≤ maxLen ∧ l.length * B ≤ 140737488351232 ∧ ∀ x ∈ l, F x
theorem weights_all {H : Type} {P : Program} {e : TypeId} : ∀ {l : List (DataW H)} {d : DataW H}, d ∈ l → ∀ n ∈ d.weights P e, n ∈ DataW.weightsAll P e l
  | a :: l, d, hd, n, hn => by
    simp only [DataW.weightsAll, List.mem_append]
    rcases List.mem_cons.1 hd with rfl | h
    · exact Or.inl hn
    · exact Or.inr (weights_all h n hn)
theorem Opens.slice {P : Program} {t e e' : TypeId} {α : Type} {d : Kd α} {F : α → Prop} {B : Nat} (ht : P.underlying t = some (.slice e)) (hc : P.cellsOf e = d.sz) (hB : P.bytesOf e = B) (he : Opens P e d F) :
    Opens P t (Kd.slice e' d) (FitS B F) := by
  intro H enc w base spare held fuel cs D ps h hz
  rcases open_slice ht h with ⟨rfl, hx⟩ | ⟨a, len, cap, m, n, Dx, Pl, rfl, hb, hl, hm, hmm, hx, hel⟩
  · exact ⟨[], ⟨none, 0, rfl, Nat.le_refl _, rfl, by simp, fun h => absurd h (Nat.lt_irrefl _)⟩, by simp, by simp, fun x hx => by simp at hx⟩
  obtain ⟨rfl, rfl⟩ := Prod.mk.inj hx
  have hlm : len ≤ m := by rw [hmm]; split <;> omega
  have each : ∀ i, i < len → ∃ q : α × List Value, w.cells? base (a.add (i * P.cellsOf e)) (P.cellsOf e) = some q.2 ∧ d.K w q.1 q.2 ∧ F q.1 := by
    intro i hi
    obtain ⟨cs', h1, h2⟩ := hel i (by omega)
    obtain ⟨x, hx, hf⟩ := he enc w base spare held n cs' (Dx i) (Pl i) h2 (fun z hzz => hz z (by
      simp only [DataW.weights, ht, List.mem_cons, List.mem_append]
      exact Or.inr (Or.inl (weights_all (List.mem_map.2 ⟨i, List.mem_range.2 hi, rfl⟩) z hzz))))
    exact ⟨(x, cs'), h1, hx, hf⟩
  have ex : ∃ l : List α, l.length = len ∧ ∀ j p, l[j]? = some p → ∃ c, w.cells? base (a.add (j * P.cellsOf e)) (P.cellsOf e) = some c ∧ d.K w p c ∧ F p := by
    clear hmm hm hl hel hz h hx hlm
    induction len with
    | zero => exact ⟨[], rfl, fun j p h => by simp at h⟩
    | succ k ih =>
      obtain ⟨l, h1, h2⟩ := ih (fun i hi => each i (by omega))
      obtain ⟨q, q1, q2, q3⟩ := each k (by omega)
      refine ⟨l ++ [q.1], by simp [h1], fun j p hj => ?_⟩
      rcases Nat.lt_or_ge j l.length with hlt | hge
      · rw [List.getElem?_append_left hlt] at hj
        exact h2 j p hj
      · have hj1 : j = k := by
          have := (List.getElem?_eq_some_iff.1 hj).1
          rw [List.length_append, List.length_singleton] at this
          omega
        subst hj1
        rw [← h1, List.getElem?_append_right (Nat.le_refl _), Nat.sub_self] at hj
        simp only [List.getElem?_cons_zero, Option.some.injEq] at hj
        subst hj
        exact ⟨q.2, q1, q2, q3⟩
  obtain ⟨l, hlen, hall⟩ := ex
  have hsz := hz ((((List.range len).map Dx).length + ((List.range (m - len)).map fun j => Dx (len + j)).length) * P.bytesOf e) (by simp [DataW.weights, ht])
  rw [hB] at hsz
  refine ⟨l, ⟨some a, cap, by rw [hlen], by omega, ?_⟩, by omega, ?_, ?_⟩
  · refine ⟨rfl, by simp only [maxLen] at hm; omega, fun _ => ⟨a, rfl, fun j p hj => ?_⟩⟩
    obtain ⟨c, h1, h2, _⟩ := hall j p hj
    refine ⟨c, d.K_len h2, h2, fun i u hu => ?_⟩
    obtain ⟨_, hcl, hcell⟩ := World.cells?_some h1
    have hi : i < P.cellsOf e := by rw [← hcl]; exact (List.getElem?_eq_some_iff.1 hu).1
    have z := hcell i hi
    rw [Go.Deep.add_add, hc] at z
    rw [z]
    exact hu
  · rw [hlen]
    refine Nat.le_trans (Nat.mul_le_mul_right _ ?_) hsz
    simp only [List.length_map, List.length_range]
    omega
  · intro x hx
    obtain ⟨j, hj, rfl⟩ := List.mem_iff_getElem.1 hx
    obtain ⟨c, _, _, hf⟩ := hall j _ (List.getElem?_eq_getElem hj)
    exact hf
/-- Fields in line: each read off the cells that come next. -/
def Cut {H : Type} (enc : TypeId × Value → H) (P : Program) (w : World) (base : Nat) (spare : Nat → Bool) (held : Bool) (fuel : Nat) : List TypeId → List Value → List (DataW H × List MemPlace) → Prop
  | [], cs, xs => cs = [] ∧ xs = []
  | t :: ts, cs, xs => ∃ y r, xs = y :: r ∧ (cs.take (P.cellsOf t)).length = P.cellsOf t ∧ DataW.trod enc P w base spare held fuel t (cs.take (P.cellsOf t)) = some y ∧ Cut enc P w base spare held fuel ts (cs.drop (P.cellsOf t)) r
def OpensFs (P : Program) (ts : List TypeId) {α : Type} (d : Kd α) (F : α → Prop) : Prop :=
  ∀ {H : Type} (enc : TypeId × Value → H) (w : World) (base : Nat) (spare : Nat → Bool) (held : Bool) (fuel : Nat) (cs : List Value) (xs : List (DataW H × List MemPlace)),
    Cut enc P w base spare held fuel ts cs xs → (∀ n ∈ DataW.weightsEach P ts (xs.map (·.1)), n ≤ reachBytes) → ∃ x : α, d.K w x cs ∧ F x
theorem OpensFs.one {P : Program} {t : TypeId} {α : Type} {d : Kd α} {F : α → Prop} (h : Opens P t d F) : OpensFs P [t] d F := by
  intro H enc w base spare held fuel cs xs hc hz
  obtain ⟨y, r, rfl, hl, ht, hd, rfl⟩ := hc
  have e : cs.take (P.cellsOf t) = cs := by
    have z := List.take_append_drop (P.cellsOf t) cs
    rw [hd, List.append_nil] at z
    exact z
  rw [e] at ht
  exact h enc w base spare held fuel cs y.1 y.2 ht (fun n hn => hz n (by simp [DataW.weightsEach, hn]))
theorem OpensFs.cons {P : Program} {t : TypeId} {ts : List TypeId} {α β : Type} {d : Kd α} {d' : Kd β} {F : α → Prop} {F' : β → Prop} (h : Opens P t d F) (k : OpensFs P ts d' F') :
    OpensFs P (t :: ts) (Kd.pair d d') (fun x => F x.1 ∧ F' x.2) := by
  intro H enc w base spare held fuel cs xs hc hz
  obtain ⟨y, r, rfl, hl, ht, hr⟩ := hc
  obtain ⟨x, hx, fx⟩ := h enc w base spare held fuel _ y.1 y.2 ht (fun n hn => hz n (by simp [DataW.weightsEach, hn]))
  obtain ⟨z, hz', fz⟩ := k enc w base spare held fuel _ r hr (fun n hn => hz n (by
    simp only [List.map_cons, DataW.weightsEach, List.mem_append]
    exact Or.inr hn))
  exact ⟨(x, z), ⟨_, _, (List.take_append_drop (P.cellsOf t) cs).symm, hx, hz'⟩, fx, fz⟩
/-- The fields lie one behind the other, and fill the struct. -/
def inLine (P : Program) (all : Nat) : Nat → List Field → Bool
  | off, [] => off == all
  | off, f :: fs => f.offset == off && decide (off + P.cellsOf f.type ≤ all) && inLine P all (off + P.cellsOf f.type) fs
theorem cut_of {H : Type} {enc : TypeId × Value → H} {P : Program} {w : World} {base : Nat} {spare : Nat → Bool} {held : Bool} {fuel : Nat} {cs : List Value} :
    ∀ (fs : List Field) (off : Nat) (xs : List (DataW H × List MemPlace)), inLine P cs.length off fs = true → xs.length = fs.length →
      (∀ (i : Nat) (f : Field), fs[i]? = some f → DataW.trod enc P w base spare held fuel f.type ((cs.drop f.offset).take (P.cellsOf f.type)) = xs[i]?) →
      Cut enc P w base spare held fuel (fs.map (·.type)) (cs.drop off) xs
  | [], off, xs, hi, hx, _ => by
    simp only [inLine, beq_iff_eq] at hi
    exact ⟨List.drop_eq_nil_of_le (by omega), List.eq_nil_of_length_eq_zero hx⟩
  | f :: fs, off, xs, hi, hx, h => by
    simp only [inLine, Bool.and_eq_true, beq_iff_eq, decide_eq_true_eq] at hi
    obtain ⟨⟨h1, h2⟩, h3⟩ := hi
    match xs, hx with
    | y :: r, hx =>
      refine ⟨y, r, rfl, ?_, ?_, ?_⟩
      · show ((cs.drop off).take (P.cellsOf f.type)).length = P.cellsOf f.type
        rw [List.length_take, List.length_drop]; omega
      · have z := h 0 f rfl
        rw [h1] at z
        exact z
      · rw [List.drop_drop]
        have z := cut_of fs (off + P.cellsOf f.type) r h3 (by simpa using hx) (fun i g hg => by
          have q := h (i + 1) g (by simpa using hg)
          simpa using q)
        exact z
theorem Opens.struct {P : Program} {t : TypeId} {fs : Array Field} {α β : Type} {d : Kd α} {F : α → Prop} (f : β → α) (g : α → β) (hg : ∀ y, f (g y) = y) (ht : P.underlying t = some (.struct fs)) (hi : inLine P (P.cellsOf t) 0 fs.toList = true)
    (h : OpensFs P (fs.toList.map (·.type)) d F) : Opens P t (Kd.iso d f) (fun x => F (f x)) := by
  intro H enc w base spare held fuel cs D ps hd hz
  obtain ⟨xs, n, rfl, hx, hl, hlen, hf⟩ := DataW.trod_struct ht hd
  obtain ⟨rfl, rfl⟩ := Prod.mk.inj hx
  have hc : Cut enc P w base spare held n (fs.toList.map (·.type)) cs xs := by
    have z := cut_of (enc := enc) (P := P) (w := w) (base := base) (spare := spare) (held := held) (fuel := n) (cs := cs) fs.toList 0 xs (by rw [hl]; exact hi) (by rw [hlen]; simp) (fun i g hg => hf i g (by simpa using hg))
    simpa using z
  obtain ⟨y, hy, hF⟩ := h enc w base spare held n cs xs hc (fun m hm => hz m (by simpa [DataW.weights, ht] using hm))
  exact ⟨g y, by show d.K w (f (g y)) cs; rw [hg]; exact hy, by show F (f (g y)); rw [hg]; exact hF⟩
end Go.Proofs.YtcgiegkcmofhhabOpen
