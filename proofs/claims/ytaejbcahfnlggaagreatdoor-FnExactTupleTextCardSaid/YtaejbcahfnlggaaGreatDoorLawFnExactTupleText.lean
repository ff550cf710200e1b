-- Written for this claim by a program of this session (mklaw.py).
import Derived.Test.YtaejbcahfnlggaaGreatDoorRows
import Derived.Test.YtaejbcahfnlggaaGreatDoorPureFnExactTupleText
import Derived.Test.YtaejbcahfnlggaaGreatDoorInsU
import Derived.Test.YtaejbcahfnlggaaGreatDoorCards
import Derived.Test.YtaejbcahfnlggaaGreatDoorTie
import Derived.WalkKit
import Derived.ProofKit
import Derived.OpenShut
import Derived.ShutString
import Derived.ChangeOld
import Derived.Below
import Derived.SizedLaws
import Derived.LaidMore
import Derived.Stop.Joined
import Derived.Stop.LaidErr
import Derived.Lib.LaidTab
import Derived.SevenTiedAt
namespace Go.Proofs.YtaejbcahfnlggaaGreatDoor.fnExactTupleText
open Go.ChangeShapes Go.WideShapes Go.ChangeAt Go.RowKit Go.Den Go.Proofs.YtaejbcahfnlggaaGreatDoor.PU
open Go.ChangeMaps (open_string shut_string)
set_option linter.unusedVariables false
theorem own : ownKnob Tryz.prog.godebug = none := by kernel_rfl
theorem laidOut : laidOutB Tryz.prog = true := by kernel_rfl
theorem mixed : Tryz.prog.follows .mixedOrders = true := by kernel_rfl
theorem sure : E.ok = true := by kernel_rfl
theorem single : retTup E.prog 6 = false := by kernel_rfl
set_option maxRecDepth 100000
theorem door_met (os : Os) (args : Array Value) : laidMetH Tryz.prog Rows.fnExactTupleTextRow.laid ((World.doorLaid Tryz.prog 400 os).forCall (fun _ _ => 0) ⟨#[], args, []⟩).memory :=
  laidMetH_of_parts3 (fuel := 8) (laidMet_of_run' 8 (by kernel_rfl) (by kernel_rfl)) (by kernel_rfl) (by kernel_rfl)
theorem datum : (Rows.laid_internal_strconv_uint64pow10 : DataW Unit) = Lib.tabData .u64 Lib.pow10Tab := by kernel_rfl
theorem tabs {W : World} (h : laidMetH Tryz.prog Rows.fnExactTupleTextRow.laid W) : Tbl E.tb W := by
  rw [MakeChecks.laidMetH_plain _ _ _ (by kernel_rfl)] at h
  have h1 : laidMet Tryz.prog [("internal/strconv.uint64pow10", Rows.laid_internal_strconv_uint64pow10)] W := (laidMet.tail (laidMet.tail h))
  rw [datum] at h1
  have hT : Lib.TabIs Tryz.prog W "internal/strconv.uint64pow10" .u64 Lib.pow10Tab := Lib.tabIs_of_head (g := 1) (t := 154) (e := 69) (n := 20) (by kernel_rfl) (by kernel_rfl) Tryz.underlying154 Tryz.underlying69 (by kernel_rfl) (by kernel_rfl) h1
  intro b cs hb
  have hb : (if b = 1 then some (Lib.pow10Tab.map fun z => Value.int .u64 z).toArray else none) = some cs := hb
  split at hb
  · rename_i e
    subst e
    cases hb
    unfold Lib.TabIs World.var? at hT
    rw [show Tryz.prog.globalNamed "internal/strconv.uint64pow10" = some 1 by kernel_rfl] at hT
    simp only [Option.bind_some] at hT
    split at hT
    · rename_i cs' ty fr hh
      cases hT
      exact ⟨ty, fr, hh⟩
    · cases hT
  · cases hb
set_option maxHeartbeats 2000000 in
set_option maxRecDepth 100000 in
theorem lifted (os : Os) (started : os.Started) (H : Type) (enc : TypeId × Value → H) :
    ReturnsInHanded {} Tryz.checked os 6 .any (fun w args => (Rows.fnExactTupleTextSpec.pre enc Tryz.prog Tryz.f6 [] false w args ∧ laidMetH Tryz.prog Rows.fnExactTupleTextRow.laid w) ∧ sizedMet enc Tryz.prog Tryz.f6 (OpenSpec.ofChange Rows.fnExactTupleTextSpec) false w args) (Rows.fnExactTupleTextSpec.post enc Tryz.prog Tryz.f6 false true false false) := by
  refine returnsInHanded_of_change_and (C := Tryz.checked) (X := fun w _ => laidMetH Tryz.prog Rows.fnExactTupleTextRow.laid w) (fun _ _ _ hh h => h.of_heap hh) own started (by kernel_rfl) Tryz.func6
    (ChangeSpec.witness_shaped (enc := enc) (C := Tryz.checked) (os := os) (X := fun w _ => laidMetH Tryz.prog Rows.fnExactTupleTextRow.laid w) false (World.doorLaid Tryz.prog 400 os) #[.agg #[.string ByteArray.empty, .string ByteArray.empty, .string ByteArray.empty, .string ByteArray.empty, .string ByteArray.empty, .string ByteArray.empty, .string ByteArray.empty, .int .i64 0, .int .i64 0, .int .i64 0, .string ByteArray.empty, .string ByteArray.empty, .slice none 0 0, .slice none 0 0]] 8 rfl (World.shaped_of_RefB (by kernel_rfl) (by kernel_rfl)) (by kernel_rfl) (by kernel_rfl) (by kernel_rfl) (door_met os _)) ?_
  intro W base args ds gs before hval0 hW hcnd hsz0 hL _
  have hsz : (DataW.weightsEach Tryz.prog (Tryz.f6.params.toList ++ Rows.fnExactTupleTextSpec.plain.varTypes Tryz.prog) (ds ++ gs)).all (· ≤ reachBytes) = true := hsz0
  have hval : ∀ (j : Nat) t v, Tryz.f6.params[j]? = some t → args[j]? = some v → Value.okWide Tryz.prog W .any base t v := hval0
  have hW' := hW
  obtain ⟨p, q, hA0, hV, rfl, hfz, hnd⟩ := hW
  have hA : DataW.TrodAll enc Tryz.prog W 0 (fun _ => true) true Tryz.f6.params.toList args.toList ds p := hA0
  rw [Tryz.params6] at hA hval hsz
  obtain ⟨v0, vs0, d0, ds0, p0, q0, hargs, rfl, rfl, h0, r0⟩ := trodAll_cons hA
  obtain ⟨rfl, rfl, rfl⟩ := trodAll_nil r0
  obtain rfl : args = #[v0] := by cases args; simp_all
  obtain ⟨rfl, rfl⟩ := trodVars_none hV
  have b0 : ∀ m ∈ d0.weights Tryz.prog 49, m ≤ reachBytes := fun m hm => by simpa using List.all_eq_true.1 hsz m (DataW.weights_mem_each (j := 0) (t := 49) (d := d0) rfl rfl m hm)
  have e0 := h0
  have lt0 : ∀ x ∈ p0, x.block < W.heap.size := by obtain ⟨m, hm⟩ := e0; exact DataW.trod_lt m _ _ _ hm
  obtain ⟨a0, fit0, rel0⟩ : ∃ x : sem S28, fitSh S28 x ∧ ∀ n, Rel (G0 n (allOf W)) [] (.d S28 x (Sh.flat S28)) v0 := by
    obtain ⟨fuel, hf⟩ := h0
    exact arg_ok (by kernel_rfl) (hval 0 49 v0 rfl rfl) hf b0
  obtain ⟨k, hk⟩ := Pure.FnExactTupleText a0 fit0
  clear hA0 hval0 hsz0 hsz
  have rels : Rels (G0 W.heap.size (allOf W)) [] [.d S28 a0 false] [v0] := (Rels.cons (rel0 _) Rels.nil)
  refine (Env.law E mixed sure plugs trivial (.inl rfl) (k := k) (f := 6) (xs0 := [.d S28 a0 false]) hk rfl single (w := W) (tabs hL) (vs := #[v0]) rels).mono fun e W' ⟨he, bel⟩ => ?_
  subst he
  replace bel := bel.k
  exact ⟨_, rfl, _, _, _, [], _, [], hW', trodAll_mk1 (shut_bool Tryz.underlying4 _), (trodAll_cons_mk (Go.RowKit.Below.trod laidOut (by kernel_rfl) (of_decide_eq_true (by kernel_rfl)) e0 bel lt0) trodAll_mk0), rfl, bel.frame _, fun h => by cases h⟩
theorem over : Rows.fnExactTupleTextRow.holds Tryz.pinned (OpenSpec.ofChange Rows.fnExactTupleTextSpec) :=
  OpenClaim.holds_of_wide 6 Tryz.f6 rfl rfl rfl rfl rfl rfl rfl ⟨rfl, rfl, rfl, rfl, rfl⟩ rfl rfl rfl rfl rfl (by kernel_rfl) Tryz.func6 (by kernel_rfl)
    (of_decide_eq_true (by kernel_rfl)) (by unfold Func.isWrapper; first | (rw [if_pos (by decide +kernel)]; kernel_rfl) | (rw [if_neg (by decide +kernel)]; exact ⟨rfl, rfl⟩))
    (fun os started H enc _ => lifted os started H enc)
theorem card : Rows.FnExactTupleTextCardSaid :=
  Claim7.holds_tied_plain_at .later [] [.data, .data, .data] true (true, "aec2e4492f7f81994a724b81b575582e12f01836696226367aaa9dd5dcf69467") true
    over (fun _ h => (by cases h)) (by kernel_rfl) (fun _ h => (by cases h)) fnExactTupleText_row_tie rfl ⟨rfl, rfl⟩ (by kernel_rfl) rfl
    (fun f fn hf hfn => by
      obtain rfl : f = 6 := Option.some.inj ((show Tryz.prog.funcNamed "loop.example/g00036/laws.FnExactTupleText" = some 6 by kernel_rfl).symm.trans hf) |>.symm
      obtain rfl : fn = Tryz.f6 := (Option.some.inj (Tryz.func6.symm.trans hfn)).symm
      exact ⟨by kernel_rfl, fun j t ht => by
        rw [Tryz.params6] at ht
        have hm : t ∈ [49] := by simpa using Array.mem_of_getElem? ht
        have hall : ([49].all fun u => !Tryz.prog.wantsStandIn u) = true := by kernel_rfl
        exact (show Tryz.prog.wantsStandIn t = false by simpa using List.all_eq_true.1 hall t hm)⟩)
    (by kernel_rfl)
#print axioms card
end Go.Proofs.YtaejbcahfnlggaaGreatDoor.fnExactTupleText
namespace Go.Proofs.YtaejbcahfnlggaaGreatDoor
/-- The card, under a short name, for the claim. -/
theorem fnExactTupleText_holds : Rows.FnExactTupleTextCardSaid := fnExactTupleText.card
end Go.Proofs.YtaejbcahfnlggaaGreatDoor
