/-
  The statement CondOrder: for every input the law returns true, and each argument reads behind the call as it read before.
  Its conditions: none.
-/
import Derived.Test.YtchlkbnjamgihaaRows
import Derived.Test.YtchlkbnjamgihaaPureCond
import Derived.WalkKit
import Derived.ProofKit
import Derived.OpenShut
import Derived.ShutString
import Derived.ChangeOld
import Derived.Below
import Derived.SizedLaws
import Derived.KernelRfl
namespace Go.Proofs.Ytchlkbnjamgihaa.condOrder
open Go Go.Den Go.ChangeShapes Go.WideShapes Go.ChangeAt Go.RowKit
set_option linter.unusedVariables false
set_option linter.unusedSimpArgs false
theorem own : ownKnob Try.prog.godebug = none := by kernel_rfl
theorem laidOut : laidOutB Try.prog = true := by kernel_rfl
theorem kinds : [29, 32, 27].map (typeCT Try.prog 20) = ([(true, [.bool, .str, .sl true [.int .i64, .int .i64], .sl true [.str, .bool], .sl true [.str, .bool], .bool, .bool, .int .i64, .int .i64, .str, .bool]), (true, [.str, .bool, .int .i64, .int .i64, .int .i64, .int .i64, .int .i64, .int .i64, .sl false [.str], .str, .bool]), (true, [.sl true [.str, .bool], .sl true [.str, .bool], .bool, .bool, .int .i64, .int .i64, .str, .bool])] : List (Bool × List CT)).map some := by kernel_rfl
theorem rows : ([29, 32, 27] : List TypeId).all (fun t => Try.prog.readableRec t && decide (t < Try.prog.types.size)) = true := by kernel_rfl
theorem walk {xs : List AV} (hty : All2 TyA [(true, [.bool, .str, .sl true [.int .i64, .int .i64], .sl true [.str, .bool], .sl true [.str, .bool], .bool, .bool, .int .i64, .int .i64, .str, .bool]), (true, [.str, .bool, .int .i64, .int .i64, .int .i64, .int .i64, .int .i64, .int .i64, .sl false [.str], .str, .bool]), (true, [.sl true [.str, .bool], .sl true [.str, .bool], .bool, .bool, .int .i64, .int .i64, .str, .bool])] xs) : ∃ k H', call X k 4 xs [] Heap.none = some (.bool true, H') := by
  obtain ⟨⟩ | ⟨⟨cs0, rfl, hc0⟩, hty⟩ := hty
  obtain ⟨a0, rfl, ha0⟩ := api_Request.of_ hc0
  obtain ⟨⟩ | ⟨⟨cs1, rfl, hc1⟩, hty⟩ := hty
  obtain ⟨a1, rfl, ha1⟩ := api_Meta.of_ hc1
  obtain ⟨⟩ | ⟨⟨cs2, rfl, hc2⟩, hty⟩ := hty
  obtain ⟨a2, rfl, ha2⟩ := api_Cond.of_ hc2
  cases hty
  refine ans_callL rfl ?_
  have h := mandolinelaw08_CondOrder.ok a0 a1 a2
  rw [law_CondOrder a0 a1 a2 ha0 ha1 ha2] at h
  exact h
set_option maxRecDepth 100000 in
theorem lifted (os : Os) (started : os.Started) (H : Type) (enc : TypeId × Value → H) :
    ReturnsInHanded {} Try.checked os 4 .any (Rows.condOrderSpec.pre6 enc Try.prog Try.f4 Rows.condOrderRow.domain false) (Rows.condOrderSpec.post enc Try.prog Try.f4 false true false false) := by
  refine returnsInHanded_of_change (C := Try.checked) own started (by kernel_rfl) Try.func4
    (ChangeSpec.witness6 (enc := enc) (C := Try.checked) false ⟨#[], #[.agg #[.bool false, .string ByteArray.empty, .slice none 0 0, .slice none 0 0, .slice none 0 0, .bool false, .bool false, .int .i64 0, .int .i64 0, .string ByteArray.empty, .bool false], .agg #[.string ByteArray.empty, .bool false, .int .i64 0, .int .i64 0, .int .i64 0, .int .i64 0, .int .i64 0, .int .i64 0, .slice none 0 0, .string ByteArray.empty, .bool false], .agg #[.slice none 0 0, .slice none 0 0, .bool false, .bool false, .int .i64 0, .int .i64 0, .string ByteArray.empty, .bool false]], []⟩ 8 (by kernel_rfl) (by kernel_rfl) (by kernel_rfl) (by kernel_rfl)) ?_
  intro W base args ds gs before hval0 hW hcnd _
  have hval : ∀ (j : Nat) t v, Try.f4.params[j]? = some t → args[j]? = some v → Value.okWide Try.prog W .any base t v := hval0
  have hW' := hW
  obtain ⟨p, q, hA0, hV, rfl, hfz, hnd⟩ := hW
  have hA : DataW.TrodAll enc Try.prog W 0 (fun _ => true) true Try.f4.params.toList args.toList ds p := hA0
  rw [Try.params4] at hA hval
  obtain ⟨xs, hxs, hty⟩ := args_read kinds hA (fun j t v h1 h2 => hval j t v (by simpa using h1) (by simpa using h2))
  obtain ⟨k, H', hk⟩ := walk hty
  have back := fun W' bel => args_back (W' := W') laidOut bel rows hA
  obtain ⟨v0, vs0, d0, ds0, p0, q0, hargs, rfl, rfl, h0, r0⟩ := trodAll_cons hA
  obtain ⟨v1, vs1, d1, ds1, p1, q1, rfl, rfl, rfl, h1, r1⟩ := trodAll_cons r0
  obtain ⟨v2, vs2, d2, ds2, p2, q2, rfl, rfl, rfl, h2, r2⟩ := trodAll_cons r1
  obtain ⟨rfl, rfl, rfl⟩ := trodAll_nil r2
  obtain rfl : args = #[v0, v1, v2] := by cases args; simp_all
  obtain ⟨rfl, rfl⟩ := trodVars_none hV
  clear hA0 hval0
  refine (law_says (P := Try.prog) (w := W) ctx hk hxs (fun n v h => by cases h)).mono fun e W' ⟨he, bel⟩ => ?_
  subst he
  exact ⟨_, rfl, _, _, _, [], _, [], hW', trodAll_mk1 (shut_bool Try.underlying4 _), back W' bel, rfl, bel.frame _, fun h => by cases h⟩
theorem over : Rows.condOrderRow.holds Try.pinned (OpenSpec.ofChange Rows.condOrderSpec) :=
  OpenClaim.holds_of_wide 4 Try.f4 rfl rfl rfl rfl rfl rfl rfl ⟨rfl, rfl, rfl, rfl, rfl⟩ rfl rfl rfl rfl rfl (by kernel_rfl) Try.func4 (by kernel_rfl)
    (of_decide_eq_true (by kernel_rfl)) (by unfold Func.isWrapper; first | (rw [if_pos (by decide +kernel)]; kernel_rfl) | (rw [if_neg (by decide +kernel)]; exact ⟨rfl, rfl⟩))
    (fun os started H enc _ => lifted os started H enc)
theorem proved : Rows.CondOrderSaid := over
#print axioms proved
end Go.Proofs.Ytchlkbnjamgihaa.condOrder
namespace Go.Proofs.Ytchlkbnjamgihaa
/-- The row, under a short name, for the claim. -/
theorem condOrder_holds : Rows.CondOrderSaid := condOrder.proved
end Go.Proofs.Ytchlkbnjamgihaa
