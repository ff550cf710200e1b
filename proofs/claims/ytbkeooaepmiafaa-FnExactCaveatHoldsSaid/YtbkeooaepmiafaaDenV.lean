import Derived.Test.YtbkeooaepmiafaaDenU
namespace Go.Den
open Go.RowKit (Below wrap64)
set_option linter.unusedVariables false
/-! All the functions of a law together: each call costs one round. -/
/-- slots by their numbers -/
def slotAt (i : Nat) : List (Nat × AV) → AV
  | [] => .undef
  | (j, v) :: r => if j = i then v else slotAt i r
def mkEfrom : Nat → Nat → List (Nat × AV) → List AV
  | 0, _, _ => []
  | m + 1, i, l => slotAt i l :: mkEfrom m (i + 1) l
def mkE (n : Nat) (l : List (Nat × AV)) : List AV := mkEfrom n 0 l
structure FD where
  fn : Nat
  hints : List (Nat × Hint)
  fresh : Bool
structure Env where
  prog : Program
  fs : List FD
  plugs : Tab
  pf : List Nat
def Env.frs (E : Env) : List Nat := (E.fs.filter (·.fresh)).map (·.fn) ++ E.pf
def Env.of (E : Env) (d : FD) : Fun := ⟨E.prog, d.fn, d.hints, E.frs, d.fresh⟩
def findF (f : Nat) : List FD → Option FD
  | [] => none | d :: l => if d.fn = f then some d else findF f l
def Env.run (E : Env) : Nat → Nat → List AV → (τ : Sh) → Option (sem τ)
  | 0, _ => fun _ _ => none
  | k + 1, f => match findF f E.fs with
    | some d => fun as τ => (E.of d).run (fun f' _ => Env.run E k f') k as τ
    | none => fun as τ => E.plugs.get f k as τ
/-- a function from one of its rounds on -/
def Env.den (E : Env) (f : Nat) (K : Nat) (τ : Sh) (j l : Nat) (σ : St) : Option (sem τ) := match findF f E.fs with
  | some d => (E.of d).den (fun f' _ => E.run K f') τ j l σ
  | none => none
def FD.ok (E : Env) (d : FD) : Bool := (match E.prog.funcs[d.fn]? with | some fn => !(fn.name == "runtime.NumGoroutine") && fn.body.isSome | none => false) && (E.frs.contains d.fn == d.fresh)
def Env.ok (E : Env) : Bool := E.fs.all (FD.ok E)
theorem findF_some : ∀ {l : List FD} {f : Nat} {d : FD}, findF f l = some d → d ∈ l ∧ d.fn = f
  | [], f, d, h => by simp [findF] at h
  | x :: l, f, d, h => by
    unfold findF at h
    split at h
    · rename_i e; cases h; exact ⟨List.mem_cons_self, e⟩
    · obtain ⟨h1, h2⟩ := findF_some h
      exact ⟨List.mem_cons_of_mem _ h1, h2⟩
theorem Env.sound (E : Env) (hmix : E.prog.follows .mixedOrders = true) (hok : E.ok = true) (hp : E.plugs.Ok E.prog E.frs) : ∀ (k f : Nat), Sound E.prog f (fun _ => E.run k f) (E.frs.contains f)
  | 0, f => fun _ as τ r h => by simp [Env.run] at h
  | k + 1, f => by
    intro k' as τ r h
    simp only [Env.run] at h
    cases hd : findF f E.fs with
    | some d =>
      rw [hd] at h
      obtain ⟨hm, hf⟩ := findF_some hd
      have hdk := List.all_eq_true.1 hok d hm
      unfold FD.ok at hdk
      simp only [Bool.and_eq_true, beq_iff_eq] at hdk
      obtain ⟨h1, h2⟩ := hdk
      split at h1
      · rename_i fn hfn
        simp only [Bool.and_eq_true, Bool.not_eq_true'] at h1
        obtain ⟨c, hc⟩ := Option.isSome_iff_exists.1 h1.2
        have := (E.of d).sound (Φ := fun f' _ => E.run k f') hfn h1.1 hc (fun f' => Env.sound E hmix hok hp k f') hmix k as τ r h
        rw [← hf, h2]
        exact this
      · cases h1
    | none =>
      rw [hd] at h
      exact Tab.sound hp f k as τ r h
/-- what the row of a law asks of its function -/
theorem Env.law (E : Env) (hmix : E.prog.follows .mixedOrders = true) (hok : E.ok = true) (hp : E.plugs.Ok E.prog E.frs) {k f : Nat} {as : List AV} (h : E.run k f as .bool = some true) (ht : retTup E.prog f = false) {w : World} {vs : Array Value}
    (hr : Rels (G0 w.heap.size (allOf w)) [] as vs.toList) : Calls E.prog f vs w fun e w' => e = .returned (.bool true) ∧ Below w.heap.size w w' := by
  obtain ⟨_, hc⟩ := E.sound hmix hok hp k f 0 as .bool true h
  refine (hc w vs (allOf w) (fun b o v h => h) hr).mono ?_
  rintro e w' ⟨v, fz', rfl, hb, _, _, _, hR⟩
  unfold RepR at hR
  rw [ht] at hR
  exact ⟨by rw [List.cons.inj (show [v] = [Value.bool true] from hR) |>.1], hb⟩
end Go.Den
