-- Written for this claim by a program of this session (mklaw.py).
import Derived.Test.YtaejbcahfnlggaaDoorRows
import Derived.Test.YtaejbcahfnlggaaDoorPureFnExactReadToken
import Derived.Test.YtaejbcahfnlggaaDoorInsT
import Derived.Test.YtaejbcahfnlggaaDoorCards
import Derived.Test.YtaejbcahfnlggaaDoorTie
import Derived.WalkKit
import Derived.ProofKit
import Derived.OpenShut
import Derived.ShutString
import Derived.ChangeOld
import Derived.Below
import Derived.SizedLaws
import Derived.LaidMore
import Derived.Stop.Joined
import Derived.Stop.LaidErr
import Derived.Lib.LaidTab
import Derived.SevenTiedAt
namespace Go.Proofs.YtaejbcahfnlggaaDoor.fnExactReadToken
open Go.ChangeShapes Go.WideShapes Go.ChangeAt Go.RowKit Go.Den Go.Proofs.YtaejbcahfnlggaaDoor.PT
open Go.ChangeMaps (open_string shut_string)
set_option linter.unusedVariables false
theorem own : ownKnob Tryd.prog.godebug = none := by kernel_rfl
theorem laidOut : laidOutB Tryd.prog = true := by kernel_rfl
theorem mixed : Tryd.prog.follows .mixedOrders = true := by kernel_rfl
theorem sure : E.ok = true := by kernel_rfl
theorem single : retTup E.prog 3 = false := by kernel_rfl
set_option maxRecDepth 100000
theorem door_met (os : Os) (args : Array Value) : laidMetH Tryd.prog Rows.fnExactReadTokenRow.laid ((World.doorLaid Tryd.prog 400 os).forCall (fun _ _ => 0) ⟨#[], args, []⟩).memory :=
  laidMetH_of_parts3 (fuel := 8) (laidMet_of_run' 8 (by kernel_rfl) (by kernel_rfl)) (by kernel_rfl) (by kernel_rfl)
theorem datum : (Rows.laid_internal_strconv_uint64pow10 : DataW Unit) = Lib.tabData .u64 Lib.pow10Tab := by kernel_rfl
theorem starN : "*" ++ "errors.errorString" = "*errors.errorString" := by decide
theorem rowN (u : TypeId) (h : Tryd.prog.typeName? 3 u = some "*errors.errorString") : u = 86 :=
  typeName_ptr_named (nm := "errors.errorString") (by rw [starN]; kernel_rfl) (by kernel_rfl) (by decide) u (by rw [starN]; exact h)
theorem tabs {W : World} (h : laidMetH Tryd.prog Rows.fnExactReadTokenRow.laid W) : Tbl E.tb W := by
  rw [MakeChecks.laidMetH_plain _ _ _ (by kernel_rfl)] at h
  have p0 : ∃ cs ty fr, W.heap[3]? = some (.cells cs ty fr) ∧ cs = (Lib.pow10Tab.map fun z => Value.int .u64 z).toArray := by
    have h1 : laidMet Tryd.prog (("internal/strconv.uint64pow10", Rows.laid_internal_strconv_uint64pow10) :: [("strconv.ErrRange", Rows.laid_strconv_ErrRange), ("strconv.ErrSyntax", Rows.laid_strconv_ErrSyntax)]) W := (laidMet.tail (laidMet.tail h))
    rw [datum] at h1
    have hT : Lib.TabIs Tryd.prog W "internal/strconv.uint64pow10" .u64 Lib.pow10Tab := Lib.tabIs_of_head (g := 3) (t := 90) (e := 70) (n := 20) (by kernel_rfl) (by kernel_rfl) Tryd.underlying90 Tryd.underlying70 (by kernel_rfl) (by kernel_rfl) h1
    unfold Lib.TabIs World.var? at hT
    rw [show Tryd.prog.globalNamed "internal/strconv.uint64pow10" = some 3 by kernel_rfl] at hT
    simp only [Option.bind_some] at hT
    split at hT
    · rename_i cs' ty fr hh
      cases hT
      exact ⟨_, ty, fr, hh, rfl⟩
    · cases hT
  have p1 : ∃ cs ty fr, W.heap[1]? = some (.cells cs ty fr) ∧ ∃ te pe, cs = #[Value.iface te pe] := by
    have h1 : laidMet Tryd.prog (("strconv.ErrSyntax", Rows.laid_strconv_ErrSyntax) :: []) W := (laidMet.tail (laidMet.tail (laidMet.tail (laidMet.tail h))))
    obtain ⟨a0, s0, hv0, -, -, -⟩ := laid_sentinel (g := 1) (ti := 36) (tp := 86) (te := 88) (ts := 9) h1 (by kernel_rfl) (by kernel_rfl) Tryd.underlying36 rowN Tryd.underlying86 Tryd.underlying88 rfl rfl Tryd.underlying9 (by kernel_rfl) (by kernel_rfl)
    unfold World.var? at hv0
    rw [show Tryd.prog.globalNamed "strconv.ErrSyntax" = some 1 by kernel_rfl] at hv0
    simp only [Option.bind_some] at hv0
    split at hv0
    · rename_i cs' ty fr hh
      cases hv0
      exact ⟨_, ty, fr, hh, _, _, rfl⟩
    · cases hv0
  have p2 : ∃ cs ty fr, W.heap[2]? = some (.cells cs ty fr) ∧ ∃ te pe, cs = #[Value.iface te pe] := by
    have h1 : laidMet Tryd.prog (("strconv.ErrRange", Rows.laid_strconv_ErrRange) :: [("strconv.ErrSyntax", Rows.laid_strconv_ErrSyntax)]) W := (laidMet.tail (laidMet.tail (laidMet.tail h)))
    obtain ⟨a0, s0, hv0, -, -, -⟩ := laid_sentinel (g := 2) (ti := 36) (tp := 86) (te := 88) (ts := 9) h1 (by kernel_rfl) (by kernel_rfl) Tryd.underlying36 rowN Tryd.underlying86 Tryd.underlying88 rfl rfl Tryd.underlying9 (by kernel_rfl) (by kernel_rfl)
    unfold World.var? at hv0
    rw [show Tryd.prog.globalNamed "strconv.ErrRange" = some 2 by kernel_rfl] at hv0
    simp only [Option.bind_some] at hv0
    split at hv0
    · rename_i cs' ty fr hh
      cases hv0
      exact ⟨_, ty, fr, hh, _, _, rfl⟩
    · cases hv0
  intro b p hb
  have hb : (if b = 3 then some (fun cs => cs = (Lib.pow10Tab.map fun z => Value.int .u64 z).toArray) else if b = 1 then some (fun cs => ∃ te pe, cs = #[Value.iface te pe]) else if b = 2 then some (fun cs => ∃ te pe, cs = #[Value.iface te pe]) else none) = some p := hb
  split at hb
  · rename_i e
    subst e
    cases hb
    exact p0
  · split at hb
    · rename_i e
      subst e
      cases hb
      exact p1
    · split at hb
      · rename_i e
        subst e
        cases hb
        exact p2
      · cases hb
set_option maxHeartbeats 2000000 in
set_option maxRecDepth 100000 in
theorem lifted (os : Os) (started : os.Started) (H : Type) (enc : TypeId × Value → H) :
    ReturnsInHanded {} Tryd.checked os 3 .any (fun w args => (Rows.fnExactReadTokenSpec.pre enc Tryd.prog Tryd.f3 [] false w args ∧ laidMetH Tryd.prog Rows.fnExactReadTokenRow.laid w) ∧ sizedMet enc Tryd.prog Tryd.f3 (OpenSpec.ofChange Rows.fnExactReadTokenSpec) false w args) (Rows.fnExactReadTokenSpec.post enc Tryd.prog Tryd.f3 false true false false) := by
  refine returnsInHanded_of_change_and (C := Tryd.checked) (X := fun w _ => laidMetH Tryd.prog Rows.fnExactReadTokenRow.laid w) (fun _ _ _ hh h => h.of_heap hh) own started (by kernel_rfl) Tryd.func3
    (ChangeSpec.witness_shaped (enc := enc) (C := Tryd.checked) (os := os) (X := fun w _ => laidMetH Tryd.prog Rows.fnExactReadTokenRow.laid w) false (World.doorLaid Tryd.prog 400 os) #[.int .i64 0, .string ByteArray.empty] 8 rfl (World.shaped_of_RefB (by kernel_rfl) (by kernel_rfl)) (by kernel_rfl) (by kernel_rfl) (by kernel_rfl) (door_met os _)) ?_
  intro W base args ds gs before hval0 hW hcnd hsz0 hL _
  have hsz : (DataW.weightsEach Tryd.prog (Tryd.f3.params.toList ++ Rows.fnExactReadTokenSpec.plain.varTypes Tryd.prog) (ds ++ gs)).all (· ≤ reachBytes) = true := hsz0
  have hval : ∀ (j : Nat) t v, Tryd.f3.params[j]? = some t → args[j]? = some v → Value.okWide Tryd.prog W .any base t v := hval0
  have hW' := hW
  obtain ⟨p, q, hA0, hV, rfl, hfz, hnd⟩ := hW
  have hA : DataW.TrodAll enc Tryd.prog W 0 (fun _ => true) true Tryd.f3.params.toList args.toList ds p := hA0
  rw [Tryd.params3] at hA hval hsz
  obtain ⟨v0, vs0, d0, ds0, p0, q0, hargs, rfl, rfl, h0, r0⟩ := trodAll_cons hA
  obtain ⟨v1, vs1, d1, ds1, p1, q1, rfl, rfl, rfl, h1, r1⟩ := trodAll_cons r0
  obtain ⟨rfl, rfl, rfl⟩ := trodAll_nil r1
  obtain rfl : args = #[v0, v1] := by cases args; simp_all
  obtain ⟨rfl, rfl⟩ := trodVars_none hV
  have b0 : ∀ m ∈ d0.weights Tryd.prog 3, m ≤ reachBytes := fun m hm => by simpa using List.all_eq_true.1 hsz m (DataW.weights_mem_each (j := 0) (t := 3) (d := d0) rfl rfl m hm)
  have e0 := h0
  have lt0 : ∀ x ∈ p0, x.block < W.heap.size := by obtain ⟨m, hm⟩ := e0; exact DataW.trod_lt m _ _ _ hm
  obtain ⟨a0, fit0, rel0⟩ : ∃ x : sem (.int .i64), fitSh (.int .i64) x ∧ ∀ n, Rel (G0 n (allOf W)) [] (.d (.int .i64) x (Sh.flat (.int .i64))) v0 := by
    obtain ⟨fuel, hf⟩ := h0
    exact arg_ok (by kernel_rfl) (hval 0 3 v0 rfl rfl) hf b0
  have b1 : ∀ m ∈ d1.weights Tryd.prog 9, m ≤ reachBytes := fun m hm => by simpa using List.all_eq_true.1 hsz m (DataW.weights_mem_each (j := 1) (t := 9) (d := d1) rfl rfl m hm)
  have e1 := h1
  have lt1 : ∀ x ∈ p1, x.block < W.heap.size := by obtain ⟨m, hm⟩ := e1; exact DataW.trod_lt m _ _ _ hm
  obtain ⟨a1, fit1, rel1⟩ : ∃ x : sem .str, fitSh .str x ∧ ∀ n, Rel (G0 n (allOf W)) [] (.d .str x (Sh.flat .str)) v1 := by
    obtain ⟨fuel, hf⟩ := h1
    exact arg_ok (by kernel_rfl) (hval 1 9 v1 rfl rfl) hf b1
  obtain ⟨k, hk⟩ := Pure.FnExactReadToken a0 a1 fit0 fit1
  clear hA0 hval0 hsz0 hsz
  have rels : Rels (G0 W.heap.size (allOf W)) [] [.d (.int .i64) a0 true, .d .str a1 true] [v0, v1] := (Rels.cons (rel0 _) (Rels.cons (rel1 _) Rels.nil))
  refine (Env.law E mixed sure plugs trivial (.inl rfl) (k := k) (f := 3) (xs0 := [.d (.int .i64) a0 true, .d .str a1 true]) hk rfl single (w := W) (tabs hL) (vs := #[v0, v1]) rels).mono fun e W' ⟨he, bel⟩ => ?_
  subst he
  replace bel := bel.k
  exact ⟨_, rfl, _, _, _, [], _, [], hW', trodAll_mk1 (shut_bool Tryd.underlying4 _), (trodAll_cons_mk (Go.RowKit.Below.trod laidOut (by kernel_rfl) (of_decide_eq_true (by kernel_rfl)) e0 bel lt0) (trodAll_cons_mk (Go.RowKit.Below.trod laidOut (by kernel_rfl) (of_decide_eq_true (by kernel_rfl)) e1 bel lt1) trodAll_mk0)), rfl, bel.frame _, fun h => by cases h⟩
theorem over : Rows.fnExactReadTokenRow.holds Tryd.pinned (OpenSpec.ofChange Rows.fnExactReadTokenSpec) :=
  OpenClaim.holds_of_wide 3 Tryd.f3 rfl rfl rfl rfl rfl rfl rfl ⟨rfl, rfl, rfl, rfl, rfl⟩ rfl rfl rfl rfl rfl (by kernel_rfl) Tryd.func3 (by kernel_rfl)
    (of_decide_eq_true (by kernel_rfl)) (by unfold Func.isWrapper; first | (rw [if_pos (by decide +kernel)]; kernel_rfl) | (rw [if_neg (by decide +kernel)]; exact ⟨rfl, rfl⟩))
    (fun os started H enc _ => lifted os started H enc)
theorem card : Rows.FnExactReadTokenCardSaid :=
  Claim7.holds_tied_plain_at .later [] [.data, .data, .data, .sentinel, .sentinel] true (true, "c7ef222ecf3657fbdf935efe11450473d50ed278f0d3b7728271974c3cad4c89") true
    over (fun _ h => (by cases h)) (by kernel_rfl) (fun _ h => (by cases h)) fnExactReadToken_row_tie rfl ⟨rfl, rfl⟩ (by kernel_rfl) rfl
    (fun f fn hf hfn => by
      obtain rfl : f = 3 := Option.some.inj ((show Tryd.prog.funcNamed "loop.example/g00036/laws.FnExactReadToken" = some 3 by kernel_rfl).symm.trans hf) |>.symm
      obtain rfl : fn = Tryd.f3 := (Option.some.inj (Tryd.func3.symm.trans hfn)).symm
      exact ⟨by kernel_rfl, fun j t ht => by
        rw [Tryd.params3] at ht
        have hm : t ∈ [3, 9] := by simpa using Array.mem_of_getElem? ht
        have hall : ([3, 9].all fun u => !Tryd.prog.wantsStandIn u) = true := by kernel_rfl
        exact (show Tryd.prog.wantsStandIn t = false by simpa using List.all_eq_true.1 hall t hm)⟩)
    (by kernel_rfl)
#print axioms card
end Go.Proofs.YtaejbcahfnlggaaDoor.fnExactReadToken
namespace Go.Proofs.YtaejbcahfnlggaaDoor
/-- The card, under a short name, for the claim. -/
theorem fnExactReadToken_holds : Rows.FnExactReadTokenCardSaid := fnExactReadToken.card
end Go.Proofs.YtaejbcahfnlggaaDoor
