/-
  The statement RangesTwo: for every input the law returns true, and each argument reads behind the call as it read before.
  Its conditions: none.
-/
import Derived.Test.YtcahamgecejmnaaDoorRows
import Derived.Test.YtcahamgecejmnaaDoorTie
import Derived.Test.YtcahamgecejmnaaDoorCards
import Derived.Test.YtcahamgecejmnaaDoorPureSetF
import Derived.LaidMore
import Derived.Stop.Joined
import Derived.SevenTiedAt
import Derived.WalkKit
import Derived.ProofKit
import Derived.OpenShut
import Derived.ShutString
import Derived.ChangeOld
import Derived.Below
import Derived.SizedLaws
import Derived.KernelRfl
namespace Go.Proofs.YtcahamgecejmnaaDoor.rangesTwo
open Go Go.Den Go.ChangeShapes Go.WideShapes Go.ChangeAt Go.RowKit
set_option linter.unusedVariables false
set_option linter.unusedSimpArgs false
theorem own : ownKnob Tryd.prog.godebug = none := by kernel_rfl
theorem laidOut : laidOutB Tryd.prog = true := by kernel_rfl
theorem kinds : [22, 22].map (typeCT Tryd.prog 20) = ([(false, [.sl true [.int .i64, .int .i64]]), (false, [.sl true [.int .i64, .int .i64]])] : List (Bool × List CT)).map some := by kernel_rfl
theorem rows : ([22, 22] : List TypeId).all (fun t => Tryd.prog.readableRec t && decide (t < Tryd.prog.types.size)) = true := by kernel_rfl
theorem walk {xs : List AV} (hty : All2 TyA [(false, [.sl true [.int .i64, .int .i64]]), (false, [.sl true [.int .i64, .int .i64]])] xs) : ∃ k H', call X k 9 xs [] Heap.none = some (.bool true, H') := by
  obtain ⟨⟩ | ⟨⟨cs0, rfl, hc0⟩, hty⟩ := hty
  have h := hc0
  try simp only [TyL] at h
  obtain ⟨v0, c0, rfl, hv0, h⟩ := h
  simp only [TyC] at hv0
  obtain ⟨es0, rfl, w0, q0⟩ := hv0
  obtain ⟨n0, rfl, z0⟩ := encL_of (f := api_Span.enc) (p := fun y => y.wf) (fun e he => by obtain ⟨cs, rfl, hc⟩ := q0 e he; obtain ⟨x, rfl, hx⟩ := api_Span.of_ hc; exact ⟨x, rfl, hx⟩)
  rw [encL_length] at w0
  try simp only [TyL] at h
  subst h
  obtain ⟨⟩ | ⟨⟨cs1, rfl, hc1⟩, hty⟩ := hty
  have h := hc1
  try simp only [TyL] at h
  obtain ⟨v1, c1, rfl, hv1, h⟩ := h
  simp only [TyC] at hv1
  obtain ⟨es1, rfl, w1, q1⟩ := hv1
  obtain ⟨n1, rfl, z1⟩ := encL_of (f := api_Span.enc) (p := fun y => y.wf) (fun e he => by obtain ⟨cs, rfl, hc⟩ := q1 e he; obtain ⟨x, rfl, hx⟩ := api_Span.of_ hc; exact ⟨x, rfl, hx⟩)
  rw [encL_length] at w1
  try simp only [TyL] at h
  subst h
  cases hty
  refine ans_callL rfl ?_
  have h := mandolinelaw02_RangesTwo.ok n0 n1
  rw [law_RangesTwo n0 n1 w0 w1] at h
  exact h
/-- The door's own heap meets the condition. -/
theorem door_met (os : Os) (args : Array Value) : laidMetH Tryd.prog Rows.rangesTwoRow.laid ((World.doorLaid Tryd.prog 4000 os).forCall (fun _ _ => 0) ⟨#[], args, []⟩).memory :=
  laidMetH_of_parts3 (fuel := 8) (laidMet_of_run' 8 (by kernel_rfl) (by kernel_rfl)) (by kernel_rfl) (by kernel_rfl)
set_option maxRecDepth 100000 in
theorem lifted (os : Os) (started : os.Started) (H : Type) (enc : TypeId × Value → H) :
    ReturnsInHanded {} Tryd.checked os 9 .any (fun w args => (Rows.rangesTwoSpec.pre enc Tryd.prog Tryd.f9 [] false w args ∧ laidMetH Tryd.prog Rows.rangesTwoRow.laid w) ∧ sizedMet enc Tryd.prog Tryd.f9 (OpenSpec.ofChange Rows.rangesTwoSpec) false w args) (Rows.rangesTwoSpec.post enc Tryd.prog Tryd.f9 false true false false) := by
  refine returnsInHanded_of_change_and (C := Tryd.checked) (X := fun w _ => laidMetH Tryd.prog Rows.rangesTwoRow.laid w) (fun _ _ _ hh h => h.of_heap hh) own started (by kernel_rfl) Tryd.func9
    (ChangeSpec.witness_shaped (enc := enc) (C := Tryd.checked) (os := os) (X := fun w _ => laidMetH Tryd.prog Rows.rangesTwoRow.laid w) false (World.doorLaid Tryd.prog 4000 os) #[.slice none 0 0, .slice none 0 0] 8 rfl (World.shaped_of_RefB (by kernel_rfl) (by kernel_rfl)) (by kernel_rfl) (by kernel_rfl) (by kernel_rfl) (door_met os _)) ?_
  intro W base args ds gs before hval0 hW _ _ hL _
  have hval : ∀ (j : Nat) t v, Tryd.f9.params[j]? = some t → args[j]? = some v → Value.okWide Tryd.prog W .any base t v := hval0
  have hW' := hW
  obtain ⟨p, q, hA0, hV, rfl, hfz, hnd⟩ := hW
  have hA : DataW.TrodAll enc Tryd.prog W 0 (fun _ => true) true Tryd.f9.params.toList args.toList ds p := hA0
  rw [Tryd.params9] at hA hval
  obtain ⟨xs, hxs, hty⟩ := args_read kinds hA (fun j t v h1 h2 => hval j t v (by simpa using h1) (by simpa using h2))
  obtain ⟨k, H', hk⟩ := walk hty
  have back := fun W' bel => args_back (W' := W') laidOut bel rows hA
  obtain ⟨v0, vs0, d0, ds0, p0, q0, hargs, rfl, rfl, h0, r0⟩ := trodAll_cons hA
  obtain ⟨v1, vs1, d1, ds1, p1, q1, rfl, rfl, rfl, h1, r1⟩ := trodAll_cons r0
  obtain ⟨rfl, rfl, rfl⟩ := trodAll_nil r1
  obtain rfl : args = #[v0, v1] := by cases args; simp_all
  obtain ⟨rfl, rfl⟩ := trodVars_none hV
  clear hA0 hval0
  refine (law_says (P := Tryd.prog) (w := W) ctx hk hxs (fun n v h => by cases h)).mono fun e W' ⟨he, bel⟩ => ?_
  subst he
  exact ⟨_, rfl, _, _, _, [], _, [], hW', trodAll_mk1 (shut_bool Tryd.underlying4 _), back W' bel, rfl, bel.frame _, fun h => by cases h⟩
theorem over : Rows.rangesTwoRow.holds Tryd.pinned (OpenSpec.ofChange Rows.rangesTwoSpec) :=
  OpenClaim.holds_of_wide 9 Tryd.f9 rfl rfl rfl rfl rfl rfl rfl ⟨rfl, rfl, rfl, rfl, rfl⟩ rfl rfl rfl rfl rfl (by kernel_rfl) Tryd.func9 (by kernel_rfl)
    (of_decide_eq_true (by kernel_rfl)) (by unfold Func.isWrapper; first | (rw [if_pos (by decide +kernel)]; kernel_rfl) | (rw [if_neg (by decide +kernel)]; exact ⟨rfl, rfl⟩))
    (fun os started H enc _ => lifted os started H enc)
theorem proved : Rows.RangesTwoSaid := over
#print axioms proved
end Go.Proofs.YtcahamgecejmnaaDoor.rangesTwo
namespace Go.Proofs.YtcahamgecejmnaaDoor
/-- The row, under a short name, for the claim. -/
theorem rangesTwo_holds : Rows.RangesTwoSaid := rangesTwo.proved
end Go.Proofs.YtcahamgecejmnaaDoor

namespace Go.Proofs.YtcahamgecejmnaaDoor
open Go
/-- The tied card. -/
theorem rangesTwo_card : Rows.RangesTwoCardSaid :=
  Claim7.holds_tied_plain_at .later [] [.data, .data, .data] true (true, "90b53404b4472e9a141bbbcbe29320fab8d2b0c061ee352f868ac0a525554f54") false
    rangesTwo.proved (fun _ h => by cases h) (by kernel_rfl) (fun _ h => by cases h) rangesTwo_row_tie rfl ⟨rfl, rfl⟩ (by kernel_rfl) rfl
    (fun f fn hf hfn => by
      obtain rfl : f = 9 := Option.some.inj ((show Tryd.prog.funcNamed "mandoline/mandolinelaw02.RangesTwo" = some 9 by kernel_rfl).symm.trans hf) |>.symm
      obtain rfl : fn = Tryd.f9 := (Option.some.inj (Tryd.func9.symm.trans hfn)).symm
      exact ⟨by kernel_rfl, fun j t ht => by
        rw [Tryd.params9] at ht
        have hm : t ∈ [22, 22] := by simpa using Array.mem_of_getElem? ht
        have hall : ([22, 22].all fun u => !Tryd.prog.wantsStandIn u) = true := by kernel_rfl
        exact (show Tryd.prog.wantsStandIn t = false by simpa using List.all_eq_true.1 hall t hm)⟩)
    (by kernel_rfl)
#print axioms rangesTwo_card
end Go.Proofs.YtcahamgecejmnaaDoor
