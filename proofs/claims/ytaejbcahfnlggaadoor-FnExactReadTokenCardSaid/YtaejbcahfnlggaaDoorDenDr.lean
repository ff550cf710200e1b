import Derived.RunT
import Derived.Listen
import Derived.Calls
namespace Go.Den
open Go
def RW {α : Type} : Result α → World
  | .ok _ w => w | .halt _ w => w
theorem exbind {ε α β : Type} {a : Except ε α} {f : α → Except ε β} {b : β} (h : (a >>= f) = .ok b) : ∃ x, a = .ok x ∧ f x = .ok b := by
  cases a with
  | error e => cases h
  | ok x => exact ⟨x, rfl, h⟩
theorem viewStore_drawn {p : Program} {w w' : World} {a0 a : Addr} {u : TypeId} {v : Value} {b : Bool} {l : List Addr} (h : w.viewStore p a0 u a v b = .ok (w', l)) : w'.drawn = w.drawn := by
  unfold World.viewStore at h
  dsimp only at h
  by_cases h0 : (!tight p p.depth u) = true
  · rw [if_pos h0] at h
    obtain ⟨_, hx, _⟩ := exbind h
    cases hx
  rw [if_neg h0] at h
  obtain ⟨⟨c, e, frozen, first, like, cells⟩, _, h⟩ := exbind h
  dsimp only at h
  cases hb : v.bytes? with
  | none => rw [hb] at h; cases h
  | some bytes =>
    rw [hb] at h
    dsimp only at h
    by_cases h1 : some bytes.length ≠ Option.map (fun x => x.length) like.bytes?
    · rw [if_pos h1] at h
      obtain ⟨_, hx, _⟩ := exbind h
      cases hx
    rw [if_neg h1] at h
    obtain ⟨_, _, h⟩ := exbind h
    cases h
    rfl
theorem farStore_drawn {p : Program} {w w' : World} {a : Addr} {v : Value} {b : Bool} {l : List Addr} (h : w.farStore p a v b = .ok (w', l)) : w'.drawn = w.drawn := by
  unfold World.farStore at h
  split at h
  · split at h
    · rename_i r hr
      cases h
      exact viewStore_drawn hr
    · cases h
  · cases h
theorem ask_drawn {α : Type} : ∀ (t : Ask α) (w : World), w.drawn ≤ (w.ask t).2.drawn := by
  intro t
  induction t with
  | done a => intro w; exact Nat.le_refl _
  | ask q r k ih =>
    intro w
    unfold World.ask
    dsimp only
    split
    · exact ih _ _
    · exact Nat.le_trans (Nat.le_succ _) (ih _ { w with drawn := w.drawn + 1 })
theorem sys_drawn (w : World) (c : Sys) : w.drawn ≤ (w.sys c).2.drawn := by
  have h := ask_drawn (Kernel.perform c w.os) w
  unfold World.sys
  split
  · exact Nat.le_refl _
  · rename_i h2
    rw [h2] at h
    exact h
theorem run_drawn {α : Type} (p : Program) : ∀ (t : Sem α) (w : World), w.drawn ≤ (RW (t.run p w)).drawn := by
  intro t
  induction t with
  | pure a => intro w; exact Nat.le_refl _
  | halt h => intro w; exact Nat.le_refl _
  | load m a k ih => intro w; unfold Sem.run; repeat' split
                     all_goals first | exact ih _ _ | exact Nat.le_refl _
  | store m a v k ih =>
    intro w
    cases v <;> simp only [Sem.run] <;> (repeat' split)
    all_goals first | exact Nat.le_refl _ | exact ih (World.setCell _ _ _) | (rename_i h; exact Nat.le_trans (Nat.le_of_eq (farStore_drawn h).symm) (ih _))
  | new o k ih => intro w; unfold Sem.run; exact ih _ { w with heap := w.heap.push o }
  | shape r k ih => intro w; unfold Sem.run; exact ih _ _
  | freeze a n k ih => intro w; unfold Sem.run; have h := ih (w.freeze a n); rwa [show (w.freeze a n).drawn = w.drawn by (unfold World.freeze; repeat' split) <;> rfl] at h
  | frozen a k ih => intro w; unfold Sem.run; exact ih _ _
  | getObj r k ih => intro w; unfold Sem.run; repeat' split
                     all_goals first | exact ih _ _ | exact Nat.le_refl _
  | setObj r o k ih =>
    intro w
    unfold Sem.run
    repeat' split
    all_goals first | exact Nat.le_refl _ | exact ih { w with heap := w.heap.setIfInBounds r o }
  | choose q k ih =>
    intro w
    unfold Sem.run
    split
    · exact ih _ _
    · exact Nat.le_trans (Nat.le_succ _) (ih _ { w with drawn := w.drawn + 1 })
  | sys c k ih => intro w; unfold Sem.run; exact Nat.le_trans (sys_drawn w c) (ih (w.sys c).1 (w.sys c).2)
  | program k ih => intro w; unfold Sem.run; exact ih _ _
  | mark m k ih => intro w; unfold Sem.run; exact ih _
theorem run_ok {α : Type} {p : Program} {t : Sem α} {w w' : World} {a : α} (h : t.run p w = .ok a w') : w.drawn ≤ w'.drawn := by have := run_drawn p t w; rwa [h] at this
theorem run_halt {α : Type} {p : Program} {t : Sem α} {w w' : World} {a : Halt} (h : t.run p w = .halt a w') : w.drawn ≤ w'.drawn := by have := run_drawn p t w; rwa [h] at this
theorem runT_ok {α : Type} {p : Program} {t : Sem α} {w w' : World} {a : α} {es : Array Event} (h : (t.runT p w es).1 = .ok a w') : w.drawn ≤ w'.drawn := run_ok ((Sem.runT_fst p t w es).symm.trans h)
theorem runT_halt {α : Type} {p : Program} {t : Sem α} {w w' : World} {a : Halt} {es : Array Event} (h : (t.runT p w es).1 = .halt a w') : w.drawn ≤ w'.drawn := run_halt ((Sem.runT_fst p t w es).symm.trans h)
def GW : GStep → World
  | .go _ w _ => w | .comm _ _ _ _ w _ => w | .spawn _ _ w _ => w | .count _ w _ => w | .timer _ _ w _ => w | .alone _ _ w _ => w | .newcoro _ _ _ w _ => w | .coroswitch _ _ _ w _ => w | .collect _ w _ => w | .watch _ w _ => w | .ended _ w _ => w
theorem GW_after (es : Array Event) (s : GStep) : GW (s.after es) = GW s := by cases s <;> rfl
def SW : Stepped → World
  | .next m => m.world | .ended _ w => w
theorem elim_w {α : Type} {o : Option α} {a : GStep} {f : α → GStep} {w : World} (h1 : w.drawn ≤ (GW a).drawn) (h2 : ∀ x, w.drawn ≤ (GW (f x)).drawn) : w.drawn ≤ (GW (o.elim a f)).drawn := by
  cases o with
  | none => exact h1
  | some x => exact h2 x
theorem ite_w {c : Prop} [Decidable c] {a b : GStep} {w : World} (h1 : w.drawn ≤ (GW a).drawn) (h2 : w.drawn ≤ (GW b).drawn) : w.drawn ≤ (GW (if c then a else b)).drawn := by split <;> assumption
theorem doReturn_drawn (p : Program) (main : Bool) (fr : Frame) (cs : List Frame) (dy : Option Dying) (v : Value) (w : World) : GW (doReturn p main fr cs dy v w) = w := by
  unfold doReturn
  repeat' split
  all_goals rfl
theorem dieOf_w (fr : Frame) (l : List ByteArray) (m : String) (b : Bool) (w : World) : GW (dieOf fr l m b w) = w := rfl
theorem endThrow_w (fr : Frame) (m : String) (w : World) : GW (endThrow fr m w) = w := rfl
theorem endFatal_drawn (p : Program) (fr : Frame) (cs : List Frame) (dy : Option Dying) (m : String) (w : World) : w.drawn ≤ (GW (endFatal p fr cs dy m w)).drawn := by
  unfold endFatal
  dsimp only
  split
  · rename_i h; exact run_ok h
  · rename_i h; exact run_halt h
  · rename_i h; exact run_halt h
theorem endPrinting_w (p : Program) (fr : Frame) (v : Value) (w : World) : GW (endPrinting p fr v w) = w := by
  unfold endPrinting
  dsimp only
  split <;> rfl
theorem endWith_drawn (w : World) (fd : Nat) (t : ByteArray) (o : Outcome) : w.drawn ≤ (GW (endWith w fd t o)).drawn := by
  unfold endWith
  have h := sys_drawn w (.write fd t)
  dsimp only
  generalize w.sys (.write fd t) = q at h ⊢
  obtain ⟨r, w'⟩ := q
  cases r <;> dsimp only <;> (repeat' split) <;> exact h
theorem callDeferred_drawn (p : Program) (fr : Frame) (cs : List Frame) (dy : Option Dying) (d : Deferred) (w : World) : w.drawn ≤ (GW (callDeferred p fr cs dy d w)).drawn := by
  unfold callDeferred
  refine ite_w (Nat.le_refl _) ?_
  · dsimp only
    rw [GW_after]
    have h := run_drawn p (invoke d.target d.args) w
    rw [← Sem.runT_fst p (invoke d.target d.args) w #[]] at h
    generalize ((invoke d.target d.args).runT p w #[]).1 = q at h ⊢
    repeat' split
    all_goals first | exact h | exact Nat.le_trans h (endFatal_drawn _ _ _ _ _ _) | exact Nat.le_trans h (Nat.le_of_eq (congrArg World.drawn (endThrow_w _ _ _)).symm)
theorem unwind_drawn (p : Program) (main : Bool) (fr : Frame) (cs : List Frame) (dy : Option Dying) (w : World) : w.drawn ≤ (GW (unwind p main fr cs dy w)).drawn := by
  unfold unwind
  split
  · rename_i block _ _ _
    dsimp only
    rw [GW_after]
    have h := run_drawn p (Instr.takeDeferred block) w
    rw [← Sem.runT_fst p _ w #[]] at h
    generalize ((Instr.takeDeferred block).runT p w #[]).1 = q at h ⊢
    split <;> exact h
  · exact callDeferred_drawn _ _ _ _ _ _
  · split
    · exact Nat.le_refl _
    · split
      · exact Nat.le_refl _
      · split
        · exact Nat.le_refl _
        · split
          · split
            · exact Nat.le_refl _
            · split
              · rename_i h; exact run_ok h
              · rename_i h; exact run_halt h
              · rename_i h; exact run_halt h
          · split
            · exact Nat.le_of_eq (congrArg World.drawn (endPrinting_w _ _ _ _)).symm
            · exact Nat.le_refl _
    · split
      · exact Nat.le_of_eq (congrArg World.drawn (doReturn_drawn _ _ _ _ _ _ _)).symm
      · rename_i fn _
        dsimp only
        rw [GW_after]
        have h := run_drawn p (results fn fr.tmps) w
        rw [← Sem.runT_fst p _ w #[]] at h
        generalize ((results fn fr.tmps).runT p w #[]).1 = q at h ⊢
        split
        · exact Nat.le_trans h (Nat.le_of_eq (congrArg World.drawn (doReturn_drawn _ _ _ _ _ _ _)).symm)
        · exact h
        · exact h
theorem writeOn_drawn (p : Program) (fr : Frame) (d : Dying) (f : Fatal) (w : World) : w.drawn ≤ (GW (writeOn p fr d f w)).drawn := by
  unfold writeOn
  dsimp only
  split
  · exact Nat.le_refl _
  · split
    all_goals (rename_i h; first | exact runT_ok (congrArg Prod.fst h) | exact runT_halt (congrArg Prod.fst h))
theorem die_drawn (p : Program) (fr : Frame) (d : Dying) (w : World) : w.drawn ≤ (GW (die p fr d w)).drawn := by
  unfold die
  split
  · exact writeOn_drawn _ _ _ _ _
  · split
    · split
      · exact Nat.le_refl _
      · exact endWith_drawn _ _ _ _
    · dsimp only
      split
      · exact Nat.le_refl _
      · split
        · rename_i h; exact run_ok h
        · rename_i h; exact run_halt h
      · rename_i t recv name _
        rw [GW_after]
        have h := run_drawn p (invoke (.fn (.method name) #[]) #[.iface t recv]) w
        rw [← Sem.runT_fst p _ w #[]] at h
        generalize ((invoke (.fn (.method name) #[]) #[.iface t recv]).runT p w #[]).1 = q at h ⊢
        split
        all_goals first | exact h | exact Nat.le_trans h (Nat.le_of_eq (congrArg World.drawn (endPrinting_w _ _ _ _)).symm) | exact Nat.le_refl _
      · exact Nat.le_refl _
theorem early_drawn (p : Program) (fr : Frame) (cs : List Frame) (dy : Option Dying) (g : Nat) (w : World) : w.drawn ≤ (GW (early p fr cs dy g w)).drawn := by
  have ny : ∀ w : World, w.drawn ≤ (GW (match w.heap[g]? with
    | some (.pending c elem) =>
      GStep.go { frame := fr, callers := cs, status := .running, dying := dy } { w with heap := w.heap.setIfInBounds g (.cells c elem) }            
    | _ => .ended (.stuck "early: the variable does not wait" (fr.pos p)) w)).drawn := fun w => by split <;> exact Nat.le_refl _
  unfold early
  dsimp only
  repeat' split
  all_goals first | exact Nat.le_refl _ | (have z := run_ok ‹Sem.run p (choose (Question.early g)) w = Result.ok _ _›; exact z) | (have z := run_halt ‹Sem.run p (choose (Question.early g)) w = Result.halt _ _›; exact z)
theorem apply_drawn (p : Program) (listen : Bool) (fr : Frame) (cs : List Frame) (dy : Option Dying) (s : Sem Next) (w : World) : w.drawn ≤ (GW (stepG.apply p listen fr cs dy s w)).drawn := by
  unfold stepG.apply
  dsimp only
  rw [GW_after]
  have h := run_drawn p s w
  have e : (if listen = true then s.runT p w #[] else (s.run p w, #[])).1 = s.run p w := by
    split
    · exact Sem.runT_fst _ _ _ _
    · rfl
  rw [← e] at h
  generalize (if listen = true then s.runT p w #[] else (s.run p w, #[])).1 = q at h ⊢
  cases q with
  | ok a w' =>
    have h : w.drawn ≤ w'.drawn := h
    cases a <;> (try dsimp only) <;> (repeat' split) <;> exact h
  | halt a w' =>
    have h : w.drawn ≤ w'.drawn := h
    cases a
    case unsupported u => cases u <;> (try dsimp only) <;> first | exact h | exact Nat.le_trans h (early_drawn _ _ _ _ _ _)
    all_goals ((try dsimp only); first | exact h | exact Nat.le_trans h (endFatal_drawn _ _ _ _ _ _))
theorem oper_drawn (p : Program) (listen : Bool) (fr : Frame) (cs : List Frame) (dy : Option Dying) (w : World) : w.drawn ≤ (GW (stepG.oper p listen fr cs dy w)).drawn := by
  unfold stepG.oper
  repeat' split
  all_goals first | exact apply_drawn _ _ _ _ _ _ _ | exact Nat.le_refl _
set_option maxHeartbeats 2000000 in
theorem exec_drawn (p : Program) (main listen : Bool) (fr : Frame) (cs : List Frame) (dy : Option Dying) (w : World) : w.drawn ≤ (GW (stepG.exec p main listen fr cs dy w)).drawn := by
  have leave : ∀ jump : Option Code, w.drawn ≤ (GW (match fr.roundOf with
      | none => if jump matches none | some .ret then .go { frame := { fr with mode := .returning }, callers := cs, status := .running, dying := dy } w else .ended (.stuck "exit, goto: no such block or label" (fr.pos p)) w        
      | some l =>
        let (r, es) := (Instr.endRound l jump).runT p w #[]
        GStep.after (seen p fr.fn es) <| match r with
        | .ok v w => doReturn p main fr cs dy v w        
        | .halt _ w => .ended (.stuck "range over a function: no such loop" (fr.pos p)) w)).drawn := fun jump => by
    split
    · exact ite_w (Nat.le_refl _) (Nat.le_refl _)
    · rename_i l _
      dsimp only
      rw [GW_after]
      have h := run_drawn p (Instr.endRound l jump) w
      rw [← Sem.runT_fst p _ w #[]] at h
      generalize ((Instr.endRound l jump).runT p w #[]).1 = q at h ⊢
      split
      · exact Nat.le_trans h (Nat.le_of_eq (congrArg World.drawn (doReturn_drawn _ _ _ _ _ _ _)).symm)
      · exact h
  unfold stepG.exec
  dsimp only
  split
  · exact leave none
  · exact leave (some .ret)
  all_goals first | exact Nat.le_refl _ | exact apply_drawn _ _ _ _ _ _ _ | skip
  · split <;> exact Nat.le_refl _
  · exact elim_w (leave (some (.exit _))) fun _ => Nat.le_refl _
  · exact elim_w (leave (some (.goto _))) fun _ => Nat.le_refl _
  · rename_i f params assign body k _
    rw [GW_after]
    have h := run_drawn p (Instr.enterLoop fr.fn fr.tmps params assign body fr.roundOf) w
    rw [← Sem.runT_fst p _ w #[]] at h
    generalize ((Instr.enterLoop fr.fn fr.tmps params assign body fr.roundOf).runT p w #[]).1 = q at h ⊢
    split
    · exact Nat.le_trans h (apply_drawn _ _ _ _ _ _ _)
    · exact h
  · rename_i l k _
    rw [GW_after]
    have h := run_drawn p (Instr.endLoop l) w
    rw [← Sem.runT_fst p _ w #[]] at h
    generalize ((Instr.endLoop l).runT p w #[]).1 = q at h ⊢
    split <;> exact h
  · exact elim_w (Nat.le_refl _) fun _ => apply_drawn _ _ _ _ _ _ _
  · refine ite_w (Nat.le_refl _) ?_
    split
    · rename_i h; exact run_ok h
    · rename_i h; exact run_halt h
  · exact ite_w (oper_drawn _ _ _ _ _ _) (Nat.le_refl _)
theorem stepG_drawn (p : Program) (main : Bool) (g : Goroutine) (w : World) (listen : Bool) : w.drawn ≤ (GW (stepG p main g w listen)).drawn := by
  unfold stepG
  dsimp only
  split
  · exact die_drawn _ _ _ _
  · exact exec_drawn _ _ _ _ _ _ _
  · exact unwind_drawn _ _ _ _ _ _
theorem communicate_drawn (p : Program) (rest : Rest) (gs : Array Goroutine) (i : Nat) (g : Goroutine) (cases : Array CommCase) (b : Bool) (shape : CommShape) (w : World) : w.drawn ≤ (SW (communicate p rest gs i g cases b shape w).1).drawn := by
  have wa : ∀ w', waitingAt rest cases w = some w' → w.drawn ≤ w'.drawn := fun w' h => by
    unfold waitingAt at h
    split at h
    · split at h
      · cases h; exact Nat.le_refl _
      · cases h
    · cases h; exact Nat.le_refl _
  unfold communicate
  dsimp only
  repeat' split
  all_goals first | exact Nat.le_refl _ | exact wa _ ‹_› | (have z := run_halt ‹Sem.run p _ w = Result.halt _ _›; exact z) | (have z := run_ok ‹Sem.run p _ w = Result.ok _ _›; first | exact z | (have y := run_halt ‹Sem.run p (runtimePanic _ : Sem Unit) _ = Result.halt _ _›; exact Nat.le_trans z y) | (have y := run_ok ‹Sem.run p (choose _) _ = Result.ok _ _›; exact Nat.le_trans z y) | (have y := run_halt ‹Sem.run p (choose _) _ = Result.halt _ _›; exact Nat.le_trans z y))
theorem look_drawn (p : Program) (gs : Array Goroutine) (rest : Rest) (w : World) : w.drawn ≤ (SW (look p gs rest w)).drawn := by
  unfold look
  split
  · dsimp only
    repeat' split
    all_goals first | exact Nat.le_refl _ | (have z := run_ok ‹Sem.run p _ w = Result.ok _ _›; exact z) | (have z := run_halt ‹Sem.run p _ w = Result.halt _ _›; exact z) | skip
  · exact Nat.le_refl _
theorem serve_drawn (p : Program) (m : Machine) (k : Nat) : m.world.drawn ≤ (SW (serve p m k)).drawn := by
  unfold serve
  dsimp only
  repeat' split
  all_goals exact Nat.le_refl _
theorem drain_drawn (w : World) (c : Nat) : (drain w c).2.drawn = w.drawn := by unfold drain; split <;> rfl
theorem retime_drawn (m : Machine) (k : Nat) (t : Timer) (a b : Nat) : (retime m k t a b).2.world.drawn = m.world.drawn := by
  unfold retime
  dsimp only
  split
  · exact drain_drawn _ _
  · rfl
theorem named_drawn {m m' m0 : Machine} {var : Addr} {f : Nat → Timer → Value × Machine} {v : Value} (hf : ∀ k t, m.world.drawn ≤ (f k t).2.world.drawn) (h : timerOp.named m0 var f = .ok (v, m')) : m.world.drawn ≤ m'.world.drawn := by
  unfold timerOp.named at h
  split at h
  · rename_i k _
    have z := hf k (m0.rest.timers.getD k default)
    rw [Except.ok.inj h] at z
    exact z
  · cases h
theorem timerOp_drawn (m m' : Machine) (op : TimerOp) (v : Value) (h : timerOp m op = .ok (v, m')) : m.world.drawn ≤ m'.world.drawn := by
  unfold timerOp at h
  split at h
  · split at h
    · cases h; exact Nat.le_refl _
    · split at h
      · split at h
        · cases h
        · cases h; exact Nat.le_refl _
      · cases h
  · exact named_drawn (fun k t => Nat.le_of_eq (retime_drawn _ _ _ _ _).symm) h
  · split at h
    · rename_i h1
      refine named_drawn (fun k t => ?_) h
      rw [retime_drawn]
      unfold timerOp.opened at h1
      split at h1
      · split at h1
        · cases h1; exact Nat.le_refl _
        · cases h1
      · cases h1; exact Nat.le_refl _
    · cases h
  · cases h; exact Nat.le_refl _
theorem runT_drawn (p : Program) (m : Machine) (i : Nat) (b : Bool) : m.world.drawn ≤ (SW (runT p m i b).1).drawn := by
  unfold runT
  dsimp only
  generalize (m.gs.swapAt! i { (default : Goroutine) with status := .finished }) = q
  obtain ⟨g, gs⟩ := q
  dsimp only
  have h := stepG_drawn p (i == 0) g m.world b
  generalize stepG p (i == 0) g m.world b = s at h ⊢
  cases s with
  | go g w es => exact h
  | comm g cases b shape w es => exact Nat.le_trans h (communicate_drawn _ _ _ _ _ _ _ _ _)
  | spawn g c w es => exact h
  | count g w es => dsimp only; split <;> exact h
  | timer g op w es =>
    dsimp only
    split
    · rename_i h1; exact Nat.le_trans h (timerOp_drawn _ _ _ _ h1)
    · split
      · rename_i h1; cases h1; exact h
      · exact h
    · exact h
    · exact h
  | alone g on w es => exact h
  | newcoro g c d w es => exact h
  | coroswitch g c e w es =>
    dsimp only
    repeat' split
    all_goals (first | exact h | (rename_i h1; cases h1; exact h))
  | collect g w es => exact Nat.le_trans h (look_drawn _ _ _ _)
  | watch g w es => exact h
  | ended o w es => exact h
def SOk (d : Nat) : Stepped → Prop
  | .next m => d ≤ m.world.drawn | .ended _ _ => True
theorem SOk.of {d : Nat} : ∀ {s : Stepped}, d ≤ (SW s).drawn → SOk d s
  | .next _, h => h | .ended _ _, _ => trivial
def MOk (d : Nat) : Move → Prop
  | .goroutine m _ => d ≤ m.world.drawn | .machine s _ => SOk d s
theorem askOn_drawn (p : Program) (m : Machine) : MOk m.world.drawn (askOn p m) := by
  unfold askOn
  dsimp only
  repeat' split
  all_goals try have z1 := run_ok ‹Sem.run p (if _ then _ else _) _ = Result.ok _ _›
  all_goals try have z2 := run_ok ‹Sem.run p (choose (Question.extern "clock.wait" _)) _ = Result.ok _ _›
  all_goals try have z3 := run_ok ‹Sem.run p (choose (Question.sched _)) _ = Result.ok _ _›
  all_goals try have z4 := run_ok ‹Sem.run p (choose (Question.extern "sched.slice" _)) _ = Result.ok _ _›
  all_goals first | trivial | exact (SOk.of (Nat.le_trans z1 (serve_drawn p { world := _, gs := m.gs, rest := m.rest } _)) : SOk _ _) | (dsimp only [MOk, SOk, Machine.advanceTo] at *; omega)
theorem SOk.mono {d d' : Nat} (h : d ≤ d') : ∀ {s : Stepped}, SOk d' s → SOk d s
  | .next _, k => Nat.le_trans h k | .ended _ _, _ => trivial
theorem MOk.mono {d d' : Nat} (h : d ≤ d') : ∀ {s : Move}, MOk d' s → MOk d s
  | .goroutine _ _, k => Nat.le_trans h k | .machine _ _, k => SOk.mono h k
theorem ask_move_drawn (p : Program) (m : Machine) : MOk m.world.drawn (Go.ask p m) := by
  unfold Go.ask
  split
  · split
    · trivial
    · rename_i w h
      have z := run_ok h
      have l := look_drawn p m.gs m.rest w
      split
      · rename_i m2 h2
        rw [h2] at l
        exact MOk.mono (Nat.le_trans z l) (askOn_drawn p m2)
      · exact SOk.mono z (SOk.of l)
    · rename_i w _ h
      exact MOk.mono (run_ok h) (askOn_drawn p { m with world := w })
  · exact askOn_drawn p m
theorem move_drawn (p : Program) (m : Machine) : MOk m.world.drawn (move p m) := by
  unfold move
  split
  · split
    · exact Nat.le_refl _
    · trivial
  · split
    · split
      · exact Nat.le_refl _
      · exact ask_move_drawn p { m with rest := { m.rest with slice := none } }
    · exact ask_move_drawn p m
theorem step_drawn {p : Program} {m m' : Machine} (h : step p m = .next m') : m.world.drawn ≤ m'.world.drawn := by
  have z := move_drawn p m
  have k : SOk m.world.drawn (step p m) := by
    unfold step stepT
    split
    · rename_i m2 i h2
      rw [h2] at z
      exact SOk.mono z (SOk.of (runT_drawn p m2 i true))
    · rename_i h2
      rw [h2] at z
      exact z
  rw [h] at k
  exact k
theorem runN_drawn {p : Program} : ∀ (n : Nat) {m m' : Machine}, runN p n m = .next m' → m.world.drawn ≤ m'.world.drawn
  | 0, m, m', h => by
    unfold runN at h
    cases h; exact Nat.le_refl _
  | n + 1, m, m', h => by
    unfold runN at h
    split at h
    · rename_i h2; exact Nat.le_trans (step_drawn h2) (runN_drawn n h)
    · rename_i h2; exact absurd h (h2 _)
theorem Calls.drawn {P : Program} {f : FuncId} {args : Array Value} {w : World} {R : Ending → World → Prop} (h : Calls P f args w R) (hr : ∀ e w', R e w' → e ≠ .outgrown) : Calls P f args w fun e w' => R e w' ∧ w.drawn ≤ w'.drawn := fun cs => by
  obtain ⟨e, w', fr, r, c, x⟩ := h cs
  refine ⟨e, w', fr, ⟨r, ?_⟩, c, x⟩
  have ⟨n, hn⟩ : Steps P (lone (Frame.enter P f args .normal) cs w) (lone fr cs w') := by
    cases e with
    | returned v => exact c
    | panicked l => exact c
    | outgrown => exact absurd rfl (hr _ _ r)
  exact runN_drawn n hn
end Go.Den
