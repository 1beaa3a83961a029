/-
  The statement CondNone: for every input the law returns true, and each argument reads behind the call as it read before.
  Its conditions: none.
-/
import Derived.Test.YtchlkbnjamgihaaDoorRows
import Derived.Test.YtchlkbnjamgihaaDoorTie
import Derived.Test.YtchlkbnjamgihaaDoorCards
import Derived.Test.YtchlkbnjamgihaaDoorPureCondN
import Derived.LaidMore
import Derived.Stop.Joined
import Derived.SevenTiedAt
import Derived.WalkKit
import Derived.ProofKit
import Derived.OpenShut
import Derived.ShutString
import Derived.ChangeOld
import Derived.Below
import Derived.SizedLaws
import Derived.KernelRfl
namespace Go.Proofs.YtchlkbnjamgihaaDoor.condNone
open Go Go.Den Go.ChangeShapes Go.WideShapes Go.ChangeAt Go.RowKit
set_option linter.unusedVariables false
set_option linter.unusedSimpArgs false
theorem own : ownKnob Tryd.prog.godebug = none := by kernel_rfl
theorem laidOut : laidOutB Tryd.prog = true := by kernel_rfl
theorem kinds : [29, 32, 4].map (typeCT Tryd.prog 20) = ([(true, [.bool, .str, .sl true [.int .i64, .int .i64], .sl true [.str, .bool], .sl true [.str, .bool], .bool, .bool, .int .i64, .int .i64, .str, .bool]), (true, [.str, .bool, .int .i64, .int .i64, .int .i64, .int .i64, .int .i64, .int .i64, .sl false [.str], .str, .bool]), (false, [.bool])] : List (Bool × List CT)).map some := by kernel_rfl
theorem rows : ([29, 32, 4] : List TypeId).all (fun t => Tryd.prog.readableRec t && decide (t < Tryd.prog.types.size)) = true := by kernel_rfl
theorem walk {xs : List AV} (hty : All2 TyA [(true, [.bool, .str, .sl true [.int .i64, .int .i64], .sl true [.str, .bool], .sl true [.str, .bool], .bool, .bool, .int .i64, .int .i64, .str, .bool]), (true, [.str, .bool, .int .i64, .int .i64, .int .i64, .int .i64, .int .i64, .int .i64, .sl false [.str], .str, .bool]), (false, [.bool])] xs) : ∃ k H', call X k 3 xs [] Heap.none = some (.bool true, H') := by
  obtain ⟨⟩ | ⟨⟨cs0, rfl, hc0⟩, hty⟩ := hty
  obtain ⟨a0, rfl, ha0⟩ := api_Request.of_ hc0
  obtain ⟨⟩ | ⟨⟨cs1, rfl, hc1⟩, hty⟩ := hty
  obtain ⟨a1, rfl, ha1⟩ := api_Meta.of_ hc1
  obtain ⟨⟩ | ⟨⟨cs2, rfl, hc2⟩, hty⟩ := hty
  have h := hc2
  try simp only [TyL] at h
  obtain ⟨v2, c2, rfl, hv2, h⟩ := h
  obtain ⟨n2, rfl⟩ := hv2
  try simp only [TyL] at h
  subst h
  cases hty
  refine ans_callL rfl ?_
  have h := mandolinelaw08_CondNone.ok a0 a1 n2
  rw [law_CondNone a0 a1 n2 ha0 ha1] at h
  exact h
/-- The door's own heap meets the condition. -/
theorem door_met (os : Os) (args : Array Value) : laidMetH Tryd.prog Rows.condNoneRow.laid ((World.doorLaid Tryd.prog 4000 os).forCall (fun _ _ => 0) ⟨#[], args, []⟩).memory :=
  laidMetH_of_parts3 (fuel := 8) (laidMet_of_run' 8 (by kernel_rfl) (by kernel_rfl)) (by kernel_rfl) (by kernel_rfl)
set_option maxRecDepth 100000 in
theorem lifted (os : Os) (started : os.Started) (H : Type) (enc : TypeId × Value → H) :
    ReturnsInHanded {} Tryd.checked os 3 .any (fun w args => (Rows.condNoneSpec.pre enc Tryd.prog Tryd.f3 [] false w args ∧ laidMetH Tryd.prog Rows.condNoneRow.laid w) ∧ sizedMet enc Tryd.prog Tryd.f3 (OpenSpec.ofChange Rows.condNoneSpec) false w args) (Rows.condNoneSpec.post enc Tryd.prog Tryd.f3 false true false false) := by
  refine returnsInHanded_of_change_and (C := Tryd.checked) (X := fun w _ => laidMetH Tryd.prog Rows.condNoneRow.laid w) (fun _ _ _ hh h => h.of_heap hh) own started (by kernel_rfl) Tryd.func3
    (ChangeSpec.witness_shaped (enc := enc) (C := Tryd.checked) (os := os) (X := fun w _ => laidMetH Tryd.prog Rows.condNoneRow.laid w) false (World.doorLaid Tryd.prog 4000 os) #[.agg #[.bool false, .string ByteArray.empty, .slice none 0 0, .slice none 0 0, .slice none 0 0, .bool false, .bool false, .int .i64 0, .int .i64 0, .string ByteArray.empty, .bool false], .agg #[.string ByteArray.empty, .bool false, .int .i64 0, .int .i64 0, .int .i64 0, .int .i64 0, .int .i64 0, .int .i64 0, .slice none 0 0, .string ByteArray.empty, .bool false], .bool false] 8 rfl (World.shaped_of_RefB (by kernel_rfl) (by kernel_rfl)) (by kernel_rfl) (by kernel_rfl) (by kernel_rfl) (door_met os _)) ?_
  intro W base args ds gs before hval0 hW _ _ hL _
  have hval : ∀ (j : Nat) t v, Tryd.f3.params[j]? = some t → args[j]? = some v → Value.okWide Tryd.prog W .any base t v := hval0
  have hW' := hW
  obtain ⟨p, q, hA0, hV, rfl, hfz, hnd⟩ := hW
  have hA : DataW.TrodAll enc Tryd.prog W 0 (fun _ => true) true Tryd.f3.params.toList args.toList ds p := hA0
  rw [Tryd.params3] at hA hval
  obtain ⟨xs, hxs, hty⟩ := args_read kinds hA (fun j t v h1 h2 => hval j t v (by simpa using h1) (by simpa using h2))
  obtain ⟨k, H', hk⟩ := walk hty
  have back := fun W' bel => args_back (W' := W') laidOut bel rows hA
  obtain ⟨v0, vs0, d0, ds0, p0, q0, hargs, rfl, rfl, h0, r0⟩ := trodAll_cons hA
  obtain ⟨v1, vs1, d1, ds1, p1, q1, rfl, rfl, rfl, h1, r1⟩ := trodAll_cons r0
  obtain ⟨v2, vs2, d2, ds2, p2, q2, rfl, rfl, rfl, h2, r2⟩ := trodAll_cons r1
  obtain ⟨rfl, rfl, rfl⟩ := trodAll_nil r2
  obtain rfl : args = #[v0, v1, v2] := by cases args; simp_all
  obtain ⟨rfl, rfl⟩ := trodVars_none hV
  clear hA0 hval0
  refine (law_says (P := Tryd.prog) (w := W) ctx hk hxs (fun n v h => by cases h)).mono fun e W' ⟨he, bel⟩ => ?_
  subst he
  exact ⟨_, rfl, _, _, _, [], _, [], hW', trodAll_mk1 (shut_bool Tryd.underlying4 _), back W' bel, rfl, bel.frame _, fun h => by cases h⟩
theorem over : Rows.condNoneRow.holds Tryd.pinned (OpenSpec.ofChange Rows.condNoneSpec) :=
  OpenClaim.holds_of_wide 3 Tryd.f3 rfl rfl rfl rfl rfl rfl rfl ⟨rfl, rfl, rfl, rfl, rfl⟩ rfl rfl rfl rfl rfl (by kernel_rfl) Tryd.func3 (by kernel_rfl)
    (of_decide_eq_true (by kernel_rfl)) (by unfold Func.isWrapper; first | (rw [if_pos (by decide +kernel)]; kernel_rfl) | (rw [if_neg (by decide +kernel)]; exact ⟨rfl, rfl⟩))
    (fun os started H enc _ => lifted os started H enc)
theorem proved : Rows.CondNoneSaid := over
#print axioms proved
end Go.Proofs.YtchlkbnjamgihaaDoor.condNone
namespace Go.Proofs.YtchlkbnjamgihaaDoor
/-- The row, under a short name, for the claim. -/
theorem condNone_holds : Rows.CondNoneSaid := condNone.proved
end Go.Proofs.YtchlkbnjamgihaaDoor

namespace Go.Proofs.YtchlkbnjamgihaaDoor
open Go
/-- The tied card. -/
theorem condNone_card : Rows.CondNoneCardSaid :=
  Claim7.holds_tied_plain_at .later [] [.data, .data, .data] true (true, "c2952406c3d0199c4926530defd07cacbf80ee6404e2080c2cd27313e1d6749b") false
    condNone.proved (fun _ h => by cases h) (by kernel_rfl) (fun _ h => by cases h) condNone_row_tie rfl ⟨rfl, rfl⟩ (by kernel_rfl) rfl
    (fun f fn hf hfn => by
      obtain rfl : f = 3 := Option.some.inj ((show Tryd.prog.funcNamed "mandoline/mandolinelaw08.CondNone" = some 3 by kernel_rfl).symm.trans hf) |>.symm
      obtain rfl : fn = Tryd.f3 := (Option.some.inj (Tryd.func3.symm.trans hfn)).symm
      exact ⟨by kernel_rfl, fun j t ht => by
        rw [Tryd.params3] at ht
        have hm : t ∈ [29, 32, 4] := by simpa using Array.mem_of_getElem? ht
        have hall : ([29, 32, 4].all fun u => !Tryd.prog.wantsStandIn u) = true := by kernel_rfl
        exact (show Tryd.prog.wantsStandIn t = false by simpa using List.all_eq_true.1 hall t hm)⟩)
    (by kernel_rfl)
#print axioms condNone_card
end Go.Proofs.YtchlkbnjamgihaaDoor
