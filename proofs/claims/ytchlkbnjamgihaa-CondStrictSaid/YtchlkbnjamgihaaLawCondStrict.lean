/-
  The statement CondStrict: for every input the law returns true, and each argument reads behind the call as it read before.
  Its conditions: none.
-/
import Derived.Test.YtchlkbnjamgihaaRows
import Derived.Test.YtchlkbnjamgihaaPureCond
import Derived.WalkKit
import Derived.ProofKit
import Derived.OpenShut
import Derived.ShutString
import Derived.ChangeOld
import Derived.Below
import Derived.SizedLaws
import Derived.KernelRfl
namespace Go.Proofs.Ytchlkbnjamgihaa.condStrict
open Go Go.Den Go.ChangeShapes Go.WideShapes Go.ChangeAt Go.RowKit
set_option linter.unusedVariables false
set_option linter.unusedSimpArgs false
theorem own : ownKnob Try.prog.godebug = none := by kernel_rfl
theorem laidOut : laidOutB Try.prog = true := by kernel_rfl
theorem kinds : [25, 25, 22].map (typeCT Try.prog 20) = ([(true, [.str, .bool]), (true, [.str, .bool]), (false, [.sl true [.int .i64, .int .i64]])] : List (Bool × List CT)).map some := by kernel_rfl
theorem rows : ([25, 25, 22] : List TypeId).all (fun t => Try.prog.readableRec t && decide (t < Try.prog.types.size)) = true := by kernel_rfl
theorem walk {xs : List AV} (hty : All2 TyA [(true, [.str, .bool]), (true, [.str, .bool]), (false, [.sl true [.int .i64, .int .i64]])] xs) : ∃ k H', call X k 5 xs [] Heap.none = some (.bool true, H') := by
  obtain ⟨⟩ | ⟨⟨cs0, rfl, hc0⟩, hty⟩ := hty
  obtain ⟨a0, rfl, ha0⟩ := api_Tag.of_ hc0
  obtain ⟨⟩ | ⟨⟨cs1, rfl, hc1⟩, hty⟩ := hty
  obtain ⟨a1, rfl, ha1⟩ := api_Tag.of_ hc1
  obtain ⟨⟩ | ⟨⟨cs2, rfl, hc2⟩, hty⟩ := hty
  have h := hc2
  try simp only [TyL] at h
  obtain ⟨v2, c2, rfl, hv2, h⟩ := h
  simp only [TyC] at hv2
  obtain ⟨es2, rfl, w2, q2⟩ := hv2
  obtain ⟨n2, rfl, z2⟩ := encL_of (f := api_Spec.enc) (p := fun y => y.wf) (fun e he => by obtain ⟨cs, rfl, hc⟩ := q2 e he; obtain ⟨x, rfl, hx⟩ := api_Spec.of_ hc; exact ⟨x, rfl, hx⟩)
  rw [encL_length] at w2
  try simp only [TyL] at h
  subst h
  cases hty
  refine ans_callL rfl ?_
  have h := mandolinelaw08_CondStrict.ok a0 a1 n2
  rw [law_CondStrict a0 a1 n2 ha0 ha1] at h
  exact h
set_option maxRecDepth 100000 in
theorem lifted (os : Os) (started : os.Started) (H : Type) (enc : TypeId × Value → H) :
    ReturnsInHanded {} Try.checked os 5 .any (Rows.condStrictSpec.pre6 enc Try.prog Try.f5 Rows.condStrictRow.domain false) (Rows.condStrictSpec.post enc Try.prog Try.f5 false true false false) := by
  refine returnsInHanded_of_change (C := Try.checked) own started (by kernel_rfl) Try.func5
    (ChangeSpec.witness6 (enc := enc) (C := Try.checked) false ⟨#[], #[.agg #[.string ByteArray.empty, .bool false], .agg #[.string ByteArray.empty, .bool false], .slice none 0 0], []⟩ 8 (by kernel_rfl) (by kernel_rfl) (by kernel_rfl) (by kernel_rfl)) ?_
  intro W base args ds gs before hval0 hW hcnd _
  have hval : ∀ (j : Nat) t v, Try.f5.params[j]? = some t → args[j]? = some v → Value.okWide Try.prog W .any base t v := hval0
  have hW' := hW
  obtain ⟨p, q, hA0, hV, rfl, hfz, hnd⟩ := hW
  have hA : DataW.TrodAll enc Try.prog W 0 (fun _ => true) true Try.f5.params.toList args.toList ds p := hA0
  rw [Try.params5] at hA hval
  obtain ⟨xs, hxs, hty⟩ := args_read kinds hA (fun j t v h1 h2 => hval j t v (by simpa using h1) (by simpa using h2))
  obtain ⟨k, H', hk⟩ := walk hty
  have back := fun W' bel => args_back (W' := W') laidOut bel rows hA
  obtain ⟨v0, vs0, d0, ds0, p0, q0, hargs, rfl, rfl, h0, r0⟩ := trodAll_cons hA
  obtain ⟨v1, vs1, d1, ds1, p1, q1, rfl, rfl, rfl, h1, r1⟩ := trodAll_cons r0
  obtain ⟨v2, vs2, d2, ds2, p2, q2, rfl, rfl, rfl, h2, r2⟩ := trodAll_cons r1
  obtain ⟨rfl, rfl, rfl⟩ := trodAll_nil r2
  obtain rfl : args = #[v0, v1, v2] := by cases args; simp_all
  obtain ⟨rfl, rfl⟩ := trodVars_none hV
  clear hA0 hval0
  refine (law_says (P := Try.prog) (w := W) ctx hk hxs (fun n v h => by cases h)).mono fun e W' ⟨he, bel⟩ => ?_
  subst he
  exact ⟨_, rfl, _, _, _, [], _, [], hW', trodAll_mk1 (shut_bool Try.underlying4 _), back W' bel, rfl, bel.frame _, fun h => by cases h⟩
theorem over : Rows.condStrictRow.holds Try.pinned (OpenSpec.ofChange Rows.condStrictSpec) :=
  OpenClaim.holds_of_wide 5 Try.f5 rfl rfl rfl rfl rfl rfl rfl ⟨rfl, rfl, rfl, rfl, rfl⟩ rfl rfl rfl rfl rfl (by kernel_rfl) Try.func5 (by kernel_rfl)
    (of_decide_eq_true (by kernel_rfl)) (by unfold Func.isWrapper; first | (rw [if_pos (by decide +kernel)]; kernel_rfl) | (rw [if_neg (by decide +kernel)]; exact ⟨rfl, rfl⟩))
    (fun os started H enc _ => lifted os started H enc)
theorem proved : Rows.CondStrictSaid := over
#print axioms proved
end Go.Proofs.Ytchlkbnjamgihaa.condStrict
namespace Go.Proofs.Ytchlkbnjamgihaa
/-- The row, under a short name, for the claim. -/
theorem condStrict_holds : Rows.CondStrictSaid := condStrict.proved
end Go.Proofs.Ytchlkbnjamgihaa
