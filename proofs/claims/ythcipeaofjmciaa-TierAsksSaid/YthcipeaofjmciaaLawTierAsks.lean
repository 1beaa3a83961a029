/-
  The statement TierAsks: for every input the law returns true, and each argument reads behind the call as it read before.
  Its conditions: none.
-/
import Derived.Test.YthcipeaofjmciaaRows
import Derived.Test.YthcipeaofjmciaaTierLaw
import Derived.WalkKit
import Derived.ProofKit
import Derived.OpenShut
import Derived.ShutString
import Derived.ChangeOld
import Derived.Below
import Derived.SizedLaws
namespace Go.Proofs.Ythcipeaofjmciaa.tierAsks
open Go Go.Den Go.ChangeShapes Go.WideShapes Go.ChangeAt Go.RowKit
set_option linter.unusedVariables false
theorem own : ownKnob Try.prog.godebug = none := by kernel_rfl
theorem laidOut : laidOutB Try.prog = true := by kernel_rfl
theorem kinds : [27].map (typeCT Try.prog 20) = ([(true, [.str, .int .i64, .int .i64, .str, .bool, .str, .bool])] : List (Bool × List CT)).map some := by kernel_rfl
theorem rows : ([27] : List TypeId).all (fun t => Try.prog.readableRec t && decide (t < Try.prog.types.size)) = true := by kernel_rfl
theorem walk {xs : List AV} (hty : All2 TyA [(true, [.str, .int .i64, .int .i64, .str, .bool, .str, .bool])] xs) : ∃ k H', call X k 3 xs [] Heap.none = some (.bool true, H') := by
  cases hty with
  | cons h hr =>
    cases hr
    obtain ⟨cs, rfl, h⟩ := h
    obtain ⟨v0, c0, rfl, ⟨o, rfl, ho⟩, h⟩ := h
    obtain ⟨v1, c1, rfl, ⟨a, rfl, ha⟩, h⟩ := h
    obtain ⟨v2, c2, rfl, ⟨b, rfl, hb⟩, h⟩ := h
    obtain ⟨v3, c3, rfl, ⟨mt, rfl, hmt⟩, h⟩ := h
    obtain ⟨v4, c4, rfl, ⟨mw, rfl⟩, h⟩ := h
    obtain ⟨v5, c5, rfl, ⟨nt, rfl, hnt⟩, h⟩ := h
    obtain ⟨v6, c6, rfl, ⟨nw, rfl⟩, h⟩ := h
    simp only [TyL] at h
    subst h
    exact ⟨_, ans_call rfl (ans3 1000 (by decide) o mt nt a b mw nw)⟩
set_option maxRecDepth 100000 in
theorem lifted (os : Os) (started : os.Started) (H : Type) (enc : TypeId × Value → H) :
    ReturnsInHanded {} Try.checked os 3 .any (Rows.tierAsksSpec.pre6 enc Try.prog Try.f3 Rows.tierAsksRow.domain false) (Rows.tierAsksSpec.post enc Try.prog Try.f3 false true false false) := by
  refine returnsInHanded_of_change (C := Try.checked) own started (by kernel_rfl) Try.func3
    (ChangeSpec.witness6 (enc := enc) (C := Try.checked) false ⟨#[], #[.agg #[.string ByteArray.empty, .int .i64 0, .int .i64 0, .string ByteArray.empty, .bool false, .string ByteArray.empty, .bool false]], []⟩ 8 (by kernel_rfl) (by kernel_rfl) (by kernel_rfl) (by kernel_rfl)) ?_
  intro W base args ds gs before hval0 hW hcnd _
  have hval : ∀ (j : Nat) t v, Try.f3.params[j]? = some t → args[j]? = some v → Value.okWide Try.prog W .any base t v := hval0
  have hW' := hW
  obtain ⟨p, q, hA0, hV, rfl, hfz, hnd⟩ := hW
  have hA : DataW.TrodAll enc Try.prog W 0 (fun _ => true) true Try.f3.params.toList args.toList ds p := hA0
  rw [Try.params3] at hA hval
  obtain ⟨xs, hxs, hty⟩ := args_read kinds hA (fun j t v h1 h2 => hval j t v (by simpa using h1) (by simpa using h2))
  obtain ⟨k, H', hk⟩ := walk hty
  have back := fun W' bel => args_back (W' := W') laidOut bel rows hA
  obtain ⟨v0, vs0, d0, ds0, p0, q0, hargs, rfl, rfl, h0, r0⟩ := trodAll_cons hA
  obtain ⟨rfl, rfl, rfl⟩ := trodAll_nil r0
  obtain rfl : args = #[v0] := by cases args; simp_all
  obtain ⟨rfl, rfl⟩ := trodVars_none hV
  clear hA0 hval0
  refine (law_says (P := Try.prog) (w := W) ctx hk hxs (fun n v h => by cases h)).mono fun e W' ⟨he, bel⟩ => ?_
  subst he
  exact ⟨_, rfl, _, _, _, [], _, [], hW', trodAll_mk1 (shut_bool Try.underlying4 _), back W' bel, rfl, bel.frame _, fun h => by cases h⟩
theorem over : Rows.tierAsksRow.holds Try.pinned (OpenSpec.ofChange Rows.tierAsksSpec) :=
  OpenClaim.holds_of_wide 3 Try.f3 rfl rfl rfl rfl rfl rfl rfl ⟨rfl, rfl, rfl, rfl, rfl⟩ rfl rfl rfl rfl rfl (by kernel_rfl) Try.func3 (by kernel_rfl)
    (of_decide_eq_true (by kernel_rfl)) (by unfold Func.isWrapper; first | (rw [if_pos (by decide +kernel)]; kernel_rfl) | (rw [if_neg (by decide +kernel)]; exact ⟨rfl, rfl⟩))
    (fun os started H enc _ => lifted os started H enc)
theorem proved : Rows.TierAsksSaid := over
#print axioms proved
end Go.Proofs.Ythcipeaofjmciaa.tierAsks
namespace Go.Proofs.Ythcipeaofjmciaa
/-- The row, under a short name, for the claim. -/
theorem tierAsks_holds : Rows.TierAsksSaid := tierAsks.proved
end Go.Proofs.Ythcipeaofjmciaa
