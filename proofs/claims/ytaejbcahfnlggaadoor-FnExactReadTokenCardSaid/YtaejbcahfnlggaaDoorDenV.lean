import Derived.Test.YtaejbcahfnlggaaDoorDenY
namespace Go.Den
open Go.RowKit (wrap64)
set_option linter.unusedVariables false
/-! All the functions of a law together: each call costs one round. -/
/-- slots by their numbers -/
def slotAt (i : Nat) : List (Nat × AV) → AV
  | [] => .undef
  | (j, v) :: r => if j = i then v else slotAt i r
def mkEfrom : Nat → Nat → List (Nat × AV) → List AV
  | 0, _, _ => []
  | m + 1, i, l => slotAt i l :: mkEfrom m (i + 1) l
def mkE (n : Nat) (l : List (Nat × AV)) : List AV := mkEfrom n 0 l
structure FD where
  fn : Nat
  hints : List (Nat × Hint)
  fresh : Bool
structure Env where
  prog : Program
  fs : List FD
  plugs : Tab
  pf : List Nat
  md : List (Nat × Mode)
  /-- sorts of a row, by their indices (xs0 calls that are handed memory) -/
  sorts : List (Nat × Sh)
  /-- tables -/
  tb : Tbls
def Env.frs (E : Env) : Frs := ⟨(E.fs.filter (·.fresh)).map (·.fn) ++ E.pf, E.md⟩
def Env.of (E : Env) (d : FD) : Fun := ⟨E.prog, d.fn % 1000000, d.hints, E.frs, d.fresh⟩
def findF (f : Nat) : List FD → Option FD
  | [] => none | d :: l => if d.fn = f then some d else findF f l
def findS (f : Nat) : List (Nat × Sh) → Option Sh
  | [] => none | (g, t) :: l => if g = f then some t else findS f l
def SortsOk (P : Program) (frs : Frs) : List (Nat × Sh) → Prop
  | [] => True
  | (f, t) :: l => (1000000 ≤ f ∧ frs.mode (f - 1000000) = some (sortMode t) ∧ SortOk P (f - 1000000) t) ∧ SortsOk P frs l
theorem SortsOk.find {P : Program} {frs : Frs} : ∀ {l : List (Nat × Sh)} {f : Nat} {t : Sh}, SortsOk P frs l → findS f l = some t → 1000000 ≤ f ∧ frs.mode (f - 1000000) = some (sortMode t) ∧ SortOk P (f - 1000000) t
  | [], f, t, _, h => by simp [findS] at h
  | (g, s) :: l, f, t, hl, h => by
    unfold findS at h
    split at h
    · rename_i e; cases h; subst e; exact hl.1
    · exact SortsOk.find hl.2 h
noncomputable def Env.run (E : Env) : Nat → Nat → List AV → (τ : Sh) → Option (sem τ)
  | 0, _ => fun _ _ => none
  | k + 1, f => match findF f E.fs with
    | some d => fun xs0 τ => if f < 1000000 then (E.of d).run (fun f' _ => Env.run E k f') k xs0 τ
      else (match findM (f - 1000000) E.md with
        | some M => (E.of d).runM M (fun f' _ => Env.run E k f') k xs0 τ
        | none => none)
    | none => match findS f E.sorts with
      | some t => fun xs0 τ => sortAny t (fun g => Env.run E k g) xs0 τ
      | none => fun xs0 τ => E.plugs.get f k xs0 τ
/-- a function from one of its rounds on -/
noncomputable def Env.den (E : Env) (f : Nat) (K : Nat) (τ : Sh) (j l : Nat) (σ : St) : Option (sem τ) := match findF f E.fs with
  | some d => if f < 1000000 then (E.of d).den (fun f' _ => E.run K f') τ j l σ
    else (match findM (f - 1000000) E.md with
      | some M => (E.of d).denM M (fun f' _ => E.run K f') τ j l σ
      | none => none)
  | none => none
def FD.ok (E : Env) (d : FD) : Bool := (match E.prog.funcs[d.fn % 1000000]? with | some fn => !(fn.name == "runtime.NumGoroutine") && fn.body.isSome | none => false) && (E.frs.contains d.fn == d.fresh) && decide (d.fn < 2000000)
def Env.ok (E : Env) : Bool := E.fs.all (FD.ok E)
theorem findF_some : ∀ {l : List FD} {f : Nat} {d : FD}, findF f l = some d → d ∈ l ∧ d.fn = f
  | [], f, d, h => by simp [findF] at h
  | x :: l, f, d, h => by
    unfold findF at h
    split at h
    · rename_i e; cases h; exact ⟨List.mem_cons_self, e⟩
    · obtain ⟨h1, h2⟩ := findF_some h
      exact ⟨List.mem_cons_of_mem _ h1, h2⟩
theorem Env.sound (E : Env) (hmix : E.prog.follows .mixedOrders = true) (hok : E.ok = true) (hp : E.plugs.Ok E.tb E.prog E.frs) (hso : SortsOk E.prog E.frs E.sorts) (hst : E.sorts = [] ∨ ∀ b, E.tb b = none) : ∀ (k f : Nat), SoundX E.tb E.prog f (fun _ => E.run k f) E.frs
  | 0, f => SoundX.none _ _ _ _
  | k + 1, f => by
    cases hd : findF f E.fs with
    | some d =>
      obtain ⟨hm, hf⟩ := findF_some hd
      have hdk := List.all_eq_true.1 hok d hm
      unfold FD.ok at hdk
      simp only [Bool.and_eq_true, beq_iff_eq] at hdk
      obtain ⟨⟨h1, h2⟩, hlt2⟩ := hdk
      split at h1
      · rename_i fn hfn
        simp only [Bool.and_eq_true, Bool.not_eq_true'] at h1
        obtain ⟨c, hc⟩ := Option.isSome_iff_exists.1 h1.2
        have ih := fun f' => Env.sound E hmix hok hp hso hst k f'
        refine ⟨fun hlt => ?_, fun hge M hM => ?_⟩
        · intro k' xs0 τ r h
          simp only [Env.run, hd, if_pos hlt] at h
          have := (E.of d).sound (Φ := fun f' _ => E.run k f') hfn h1.1 hc ih hmix k xs0 τ r h
          rw [← hf, h2]
          rwa [show (E.of d).fn = d.fn from Nat.mod_eq_of_lt (by rw [hf]; exact hlt)] at this
        · intro k' objs xs0 r h
          have hM' : findM (f - 1000000) E.md = some M := hM
          simp only [Env.run, hd, if_neg (Nat.not_lt.2 hge), hM'] at h
          have := (E.of d).soundM (M := M) (Φ := fun f' _ => E.run k f') hfn h1.1 hc ih hmix k objs xs0 r h
          have hlt2 : d.fn < 2000000 := by simpa using hlt2
          rwa [show (E.of d).fn = f - 1000000 by show d.fn % 1000000 = _; rw [hf] at hlt2 ⊢; omega] at this
      · cases h1
    | none =>
      cases hs : findS f E.sorts with
      | some t =>
        obtain ⟨hge, hm, hS⟩ := hso.find hs
        refine ⟨fun hlt => absurd hlt (by omega), fun _ M hM => ?_⟩
        rw [hm] at hM
        cases hM
        intro k' objs xs0 r h
        simp only [Env.run, hd, hs] at h
        exact sort_ok hS (hst.resolve_left fun q => by rw [q] at hs; cases hs) (fun g => Env.sound E hmix hok hp hso hst k g) k objs xs0 r h
      | none =>
        have := Tab.sound hp f
        refine ⟨fun hlt => ?_, fun hge M hM => ?_⟩
        · intro k' xs0 τ r h
          simp only [Env.run, hd, hs] at h
          exact this.1 hlt k xs0 τ r h
        · intro k' objs xs0 r h
          simp only [Env.run, hd, hs] at h
          exact this.2 hge M hM k objs xs0 r h
/-- what the row of a law asks of its function -/
theorem Env.law (E : Env) (hmix : E.prog.follows .mixedOrders = true) (hok : E.ok = true) (hp : E.plugs.Ok E.tb E.prog E.frs) (hso : SortsOk E.prog E.frs E.sorts) (hst : E.sorts = [] ∨ ∀ b, E.tb b = none) {k f : Nat} {xs0 : List AV} (h : E.run k f xs0 .bool = some true) (hf : (decide (f < 1000000)) = true) (ht : retTup E.prog f = false) {w : World} (htb : Tbl E.tb w) {vs : Array Value}
    (hr : Rels (G0 w.heap.size (allOf w)) [] xs0 vs.toList) : Calls E.prog f vs w fun e w' => e = .returned (.bool true) ∧ Below w.heap.size w w' := by
  obtain ⟨_, hc⟩ := (E.sound hmix hok hp hso hst k f).1 (of_decide_eq_true hf) 0 xs0 .bool true h
  refine (hc w vs (allOf w) htb (fun b o v h => h) hr).mono ?_
  rintro e w' ⟨v, fz', rfl, hb, _, _, _, hR⟩
  unfold RepR at hR
  rw [ht] at hR
  exact ⟨by rw [List.cons.inj (show [v] = [Value.bool true] from hR) |>.1], hb⟩
end Go.Den
