/-
  The statement TierAsks, of the functional reading: it answers true. Its conditions: none.
-/
import Derived.Test.YthcipeaofjmciaaTier
namespace Go.Proofs.Ythcipeaofjmciaa
open Go Go.Den
set_option maxRecDepth 100000
set_option linter.unusedSimpArgs false
set_option linter.unusedVariables false

theorem okT_eq (c : UInt8) : okT c = okT' c := by unfold okT okT'; grind
theorem okO_eq (c : UInt8) : okO c = okO' c := by unfold okO okO'; grind
theorem tag_eq (s : List UInt8) : tagRight s = refTag s := by
  have : okT = okT' := funext okT_eq
  unfold tagRight refTag
  rw [this]
  grind
theorem object_eq (s : List UInt8) : object s = refObject s := by
  have : okO = okO' := funext okO_eq
  unfold object refObject
  rw [this]
  have : (s == []) = decide ((s.length : Int) < 1) := by
    cases s <;> simp
    omega
  rw [this]
theorem good_eq (o mt nt : List UInt8) (a b : Int) (mw nw : Bool) : good o mt nt a b mw nw = refGood o mt nt a b mw nw := by
  unfold good refGood
  rw [tag_eq, tag_eq, object_eq]
  grind

/-- A value that lies in one cell and stays as it is. -/
structure Atom (y : AV) : Prop where
  cells : y.cells = [y]
  solid : y.solid = true
  pure : y.pure = true
  snap : ∀ H, snap H y = some y
theorem atom_osl {x : Option AV} (h : ∀ y, x = some y → y.pure = true) : Atom (osl x) := by
  cases x with
  | none => exact ⟨rfl, rfl, rfl, fun H => by simp only [osl, Go.Den.snap]⟩
  | some y => exact ⟨rfl, rfl, by simp only [osl, AV.pure], fun H => by simp only [osl, Go.Den.snap]⟩

theorem specs_osl (a b : Int) : ∃ sp : Option (Int × Int), specs a b = osl (sp.map fun p => .agg [.int .i64 p.1, .int .i64 p.2]) := by
  unfold specs
  split
  · split
    · exact ⟨some (a, -1), rfl⟩
    · exact ⟨none, rfl⟩
  · exact ⟨some (a, IntKind.i64.wrap (b - 1)), rfl⟩
theorem tags_osl (s : List UInt8) (b : Bool) : ∃ ma : Option (List UInt8 × Bool), tags s b = osl (ma.map fun p => tagA p.1 p.2) := by
  unfold tags
  split
  · exact ⟨none, rfl⟩
  · exact ⟨some (s, b), rfl⟩

set_option maxHeartbeats 8000000 in
theorem ans5 (k : Nat) : ansA X (call X (k + 7)) 5 [] = some (.bool true) := by
  have e6 : ansA X (call X (k + 6)) 6 [.agg [.str [47, 97], .int .i64 4, .int .i64 8, .str [118], .bool false, .str [], .bool false]] = some (.tup [.agg [.bool false, .str [47, 97], .sl false 2 [.agg [.int .i64 4, .int .i64 7]], .sl false 2 [.agg [.str [118], .bool false]], .zs true, .bool false, .bool false, .int .i64 (-1), .int .i64 (-1), .str [], .bool false], .int .i64 0]) := by
    rw [ans6 (k + 3) [47, 97] [118] [] 4 8 false false (by simp) (by simp) (by simp) (by decide) (by decide) (by decide), if_pos (by decide)]
    rfl
  rw [ans_run (fd := c5) rfl rfl]
  simp only [c5, run_nil, run_seq, run_skip, run_reg, run_dreg, run_cond, run_block, run_loop, run_exit, run_ret, run_blk, out_c, out_it, out_blk, run_ops_nil, run_q_nil, run_ops, run_q, run_guard, run_guardQ, cond_t, cond_f, step_some, stepS_some, guard_tt, guard_ff, guard_tf, guard_ft, guard_u, guardS_tt, guardS_ff, guardS_tf, guardS_ft, guardS_u, put_some, put_none, set_get, hset_get, hnone_get, finS, stepI, stepQ, valueOf, withH, Opd.ev, initEnv, pickA, boxA, loadA, storeA, elemAt, partA, cells_agg, cells_bool, cells_int, cells_str, cells_sl, cells_zs, cells_own, cells_rp, cells_ptr, cells_nilp, cells_fn, cells_nilfn, cells_map, cells_nilmap, cells_iface, cells_nilif, solid_agg, solid_bool, solid_int, solid_str, solid_sl, solid_zs, solid_own, solid_rp, solid_ptr, solid_nilp, solid_fn, solid_nilfn, solid_map, solid_nilmap, solid_iface, solid_nilif, AV.pure, AV.pureL, AV.flat, AV.flatL, fillA, setFrom, like, Heap.live, fresh, binA, intA, shiftA, strA, eqA, cellsEq, scalEq, nilCheckA, notA, negA, convA, fieldAddrA, fieldA, slstrA, sliceA, indexAddrA, indexStrA, extractA, lenA, nat?, slBounds, foldArgs, foldA, maxA, minA, result, resultL, result1, callArgs, callQ, snapL, snap, frozen1, shared_no, reduceIte, Nat.reduceEqDiff, reduceCtorEq, decide_true, decide_false, beq_self_eq_true, Int.toNat_natCast, Bool.false_eq_true, List.map_cons, List.map_nil, List.cons_append, List.nil_append, List.getElem?_cons_zero, List.getElem?_cons_succ, Bool.not_true, Bool.not_false, Bool.or_self, Bool.and_self, Bool.and_true, Bool.true_and, Bool.and_false, Bool.false_and, Bool.or_true, Bool.true_or, Bool.or_false, Bool.false_or, Nat.reduceAdd, Nat.add_zero, Nat.zero_add, Nat.reduceLT, Nat.reduceLeDiff, List.length_cons, List.length_nil, List.take_succ_cons, List.take_zero, List.drop_succ_cons, List.drop_zero, List.cons.injEq, and_true, true_and, and_self, Nat.reduceBEq, List.all_cons, List.all_nil, Option.getD_some, Option.getD_none, Option.map_some, Option.map_none, Int.reduceLE, Int.reduceLT, Int.reduceEq, Int.reduceToNat, Bool.not_eq_true, decide_eq_true_eq, decide_eq_false_iff_not, not_true_eq_false, not_false_eq_true, List.set_cons_zero, List.set_cons_succ, List.replicate_succ, List.replicate_zero, List.foldl_cons, List.foldl_nil, List.getElem?_nil, List.headD_cons, Option.some.injEq, List.append_nil, Bool.decide_eq_true, Option.bind_eq_bind, Option.bind_some, Option.pure_def, Option.isSome_some, implies_true, false_implies, true_implies, ne_eq, Int.reduceNeg, cast_0, cast_1, cast_2, cast_3, cast_4, cast_5, cast_6, cast_7, cast_8, e6]

set_option maxHeartbeats 8000000 in
theorem ans3 (k : Nat) (hk : 300 < k) (o mt nt : List UInt8) (a b : Int) (mw nw : Bool) :
    ansA X (call X (k + 8)) 3 [.agg [.str o, .int .i64 a, .int .i64 b, .str mt, .bool mw, .str nt, .bool nw]] = some (.bool true) := by
  have e4 := ans4 (k + 6) o mt nt a b mw nw
  have e5 := ans5 k
  have e9 := ans9 (k + 5) o mt nt a b mw nw
  obtain ⟨sp, hsp⟩ := specs_osl a b
  obtain ⟨ma, hma⟩ := tags_osl mt mw
  obtain ⟨no, hno⟩ := tags_osl nt nw
  have e8 := ans8 (k + 3) false false false false o [] (-1) (-1) sp ma no
  have e8z := ans8 (k + 3) false false false false [] [] 0 0 none none none
  rw [← hsp, ← hma, ← hno] at e8
  have a1 : Atom (specs a b) := by rw [hsp]; exact atom_osl (by cases sp <;> simp [AV.pure, AV.pureL])
  have a2 : Atom (tags mt mw) := by rw [hma]; exact atom_osl (by cases ma <;> simp [tagA, AV.pure, AV.pureL])
  have a3 : Atom (tags nt nw) := by rw [hno]; exact atom_osl (by cases no <;> simp [tagA, AV.pure, AV.pureL])
  simp only [Option.map_none, osl] at e8z
  rw [ans_run (fd := c3) rfl rfl]
  by_cases hf : (decide ((o.length : Int) ≤ 300) && (decide ((mt.length : Int) ≤ 200) && decide ((nt.length : Int) ≤ 200))) = true
  · rw [hf] at e4
    simp only [Bool.and_eq_true, decide_eq_true_eq] at hf
    have e6 := ans6 (k + 4) o mt nt a b mw nw (by omega) (by omega) (by omega) (by omega) (by omega) (by omega)
    have e7 := ans7 (k + 5) o mt nt a b mw nw (by omega) (by omega) (by omega) (by omega) (by omega) (by omega)
    rw [← good_eq] at e7
    cases hg : good o mt nt a b mw nw
    · rw [hg, if_neg (by decide)] at e6
      rw [hg] at e7
      simp only [zeroReq] at e6
      simp only [c3, run_nil, run_seq, run_skip, run_reg, run_dreg, run_cond, run_block, run_loop, run_exit, run_ret, run_blk, out_c, out_it, out_blk, run_ops_nil, run_q_nil, run_ops, run_q, run_guard, run_guardQ, cond_t, cond_f, step_some, stepS_some, guard_tt, guard_ff, guard_tf, guard_ft, guard_u, guardS_tt, guardS_ff, guardS_tf, guardS_ft, guardS_u, put_some, put_none, set_get, hset_get, hnone_get, finS, stepI, stepQ, valueOf, withH, Opd.ev, initEnv, pickA, boxA, loadA, storeA, elemAt, partA, cells_agg, cells_bool, cells_int, cells_str, cells_sl, cells_zs, cells_own, cells_rp, cells_ptr, cells_nilp, cells_fn, cells_nilfn, cells_map, cells_nilmap, cells_iface, cells_nilif, solid_agg, solid_bool, solid_int, solid_str, solid_sl, solid_zs, solid_own, solid_rp, solid_ptr, solid_nilp, solid_fn, solid_nilfn, solid_map, solid_nilmap, solid_iface, solid_nilif, AV.pure, AV.pureL, AV.flat, AV.flatL, fillA, setFrom, like, Heap.live, fresh, binA, intA, shiftA, strA, eqA, cellsEq, scalEq, nilCheckA, notA, negA, convA, fieldAddrA, fieldA, slstrA, sliceA, indexAddrA, indexStrA, extractA, lenA, nat?, slBounds, foldArgs, foldA, maxA, minA, result, resultL, result1, callArgs, callQ, snapL, snap, frozen1, shared_no, reduceIte, Nat.reduceEqDiff, reduceCtorEq, decide_true, decide_false, beq_self_eq_true, Int.toNat_natCast, Bool.false_eq_true, List.map_cons, List.map_nil, List.cons_append, List.nil_append, List.getElem?_cons_zero, List.getElem?_cons_succ, Bool.not_true, Bool.not_false, Bool.or_self, Bool.and_self, Bool.and_true, Bool.true_and, Bool.and_false, Bool.false_and, Bool.or_true, Bool.true_or, Bool.or_false, Bool.false_or, Nat.reduceAdd, Nat.add_zero, Nat.zero_add, Nat.reduceLT, Nat.reduceLeDiff, List.length_cons, List.length_nil, List.take_succ_cons, List.take_zero, List.drop_succ_cons, List.drop_zero, List.cons.injEq, and_true, true_and, and_self, Nat.reduceBEq, List.all_cons, List.all_nil, Option.getD_some, Option.getD_none, Option.map_some, Option.map_none, Int.reduceLE, Int.reduceLT, Int.reduceEq, Int.reduceToNat, Bool.not_eq_true, decide_eq_true_eq, decide_eq_false_iff_not, not_true_eq_false, not_false_eq_true, List.set_cons_zero, List.set_cons_succ, List.replicate_succ, List.replicate_zero, List.foldl_cons, List.foldl_nil, List.getElem?_nil, List.headD_cons, Option.some.injEq, List.append_nil, Bool.decide_eq_true, Option.bind_eq_bind, Option.bind_some, Option.pure_def, Option.isSome_some, implies_true, false_implies, true_implies, ne_eq, Int.reduceNeg, cast_0, cast_1, cast_2, cast_3, cast_4, cast_5, cast_6, cast_7, cast_8, e4, e5, e6, e7, e8z]
    · rw [hg, if_pos rfl] at e6
      rw [hg] at e7
      simp only [req] at e6 e9
      generalize specs a b = y1 at *
      generalize tags mt mw = y2 at *
      generalize tags nt nw = y3 at *
      simp only [c3, run_nil, run_seq, run_skip, run_reg, run_dreg, run_cond, run_block, run_loop, run_exit, run_ret, run_blk, out_c, out_it, out_blk, run_ops_nil, run_q_nil, run_ops, run_q, run_guard, run_guardQ, cond_t, cond_f, step_some, stepS_some, guard_tt, guard_ff, guard_tf, guard_ft, guard_u, guardS_tt, guardS_ff, guardS_tf, guardS_ft, guardS_u, put_some, put_none, set_get, hset_get, hnone_get, finS, stepI, stepQ, valueOf, withH, Opd.ev, initEnv, pickA, boxA, loadA, storeA, elemAt, partA, cells_agg, cells_bool, cells_int, cells_str, cells_sl, cells_zs, cells_own, cells_rp, cells_ptr, cells_nilp, cells_fn, cells_nilfn, cells_map, cells_nilmap, cells_iface, cells_nilif, solid_agg, solid_bool, solid_int, solid_str, solid_sl, solid_zs, solid_own, solid_rp, solid_ptr, solid_nilp, solid_fn, solid_nilfn, solid_map, solid_nilmap, solid_iface, solid_nilif, AV.pure, AV.pureL, AV.flat, AV.flatL, fillA, setFrom, like, Heap.live, fresh, binA, intA, shiftA, strA, eqA, cellsEq, scalEq, nilCheckA, notA, negA, convA, fieldAddrA, fieldA, slstrA, sliceA, indexAddrA, indexStrA, extractA, lenA, nat?, slBounds, foldArgs, foldA, maxA, minA, result, resultL, result1, callArgs, callQ, snapL, snap, frozen1, shared_no, reduceIte, Nat.reduceEqDiff, reduceCtorEq, decide_true, decide_false, beq_self_eq_true, Int.toNat_natCast, Bool.false_eq_true, List.map_cons, List.map_nil, List.cons_append, List.nil_append, List.getElem?_cons_zero, List.getElem?_cons_succ, Bool.not_true, Bool.not_false, Bool.or_self, Bool.and_self, Bool.and_true, Bool.true_and, Bool.and_false, Bool.false_and, Bool.or_true, Bool.true_or, Bool.or_false, Bool.false_or, Nat.reduceAdd, Nat.add_zero, Nat.zero_add, Nat.reduceLT, Nat.reduceLeDiff, List.length_cons, List.length_nil, List.take_succ_cons, List.take_zero, List.drop_succ_cons, List.drop_zero, List.cons.injEq, and_true, true_and, and_self, Nat.reduceBEq, List.all_cons, List.all_nil, Option.getD_some, Option.getD_none, Option.map_some, Option.map_none, Int.reduceLE, Int.reduceLT, Int.reduceEq, Int.reduceToNat, Bool.not_eq_true, decide_eq_true_eq, decide_eq_false_iff_not, not_true_eq_false, not_false_eq_true, List.set_cons_zero, List.set_cons_succ, List.replicate_succ, List.replicate_zero, List.foldl_cons, List.foldl_nil, List.getElem?_nil, List.headD_cons, Option.some.injEq, List.append_nil, Bool.decide_eq_true, Option.bind_eq_bind, Option.bind_some, Option.pure_def, Option.isSome_some, implies_true, false_implies, true_implies, ne_eq, Int.reduceNeg, cast_0, cast_1, cast_2, cast_3, cast_4, cast_5, cast_6, cast_7, cast_8, e4, e5, e6, e7, e8, e9, a1.cells, a1.solid, a1.pure, a1.snap, a2.cells, a2.solid, a2.pure, a2.snap, a3.cells, a3.solid, a3.pure, a3.snap]
  · have : (decide ((o.length : Int) ≤ 300) && (decide ((mt.length : Int) ≤ 200) && decide ((nt.length : Int) ≤ 200))) = false := by simpa using hf
    rw [this] at e4
    simp only [c3, run_nil, run_seq, run_skip, run_reg, run_dreg, run_cond, run_block, run_loop, run_exit, run_ret, run_blk, out_c, out_it, out_blk, run_ops_nil, run_q_nil, run_ops, run_q, run_guard, run_guardQ, cond_t, cond_f, step_some, stepS_some, guard_tt, guard_ff, guard_tf, guard_ft, guard_u, guardS_tt, guardS_ff, guardS_tf, guardS_ft, guardS_u, put_some, put_none, set_get, hset_get, hnone_get, finS, stepI, stepQ, valueOf, withH, Opd.ev, initEnv, pickA, boxA, loadA, storeA, elemAt, partA, cells_agg, cells_bool, cells_int, cells_str, cells_sl, cells_zs, cells_own, cells_rp, cells_ptr, cells_nilp, cells_fn, cells_nilfn, cells_map, cells_nilmap, cells_iface, cells_nilif, solid_agg, solid_bool, solid_int, solid_str, solid_sl, solid_zs, solid_own, solid_rp, solid_ptr, solid_nilp, solid_fn, solid_nilfn, solid_map, solid_nilmap, solid_iface, solid_nilif, AV.pure, AV.pureL, AV.flat, AV.flatL, fillA, setFrom, like, Heap.live, fresh, binA, intA, shiftA, strA, eqA, cellsEq, scalEq, nilCheckA, notA, negA, convA, fieldAddrA, fieldA, slstrA, sliceA, indexAddrA, indexStrA, extractA, lenA, nat?, slBounds, foldArgs, foldA, maxA, minA, result, resultL, result1, callArgs, callQ, snapL, snap, frozen1, shared_no, reduceIte, Nat.reduceEqDiff, reduceCtorEq, decide_true, decide_false, beq_self_eq_true, Int.toNat_natCast, Bool.false_eq_true, List.map_cons, List.map_nil, List.cons_append, List.nil_append, List.getElem?_cons_zero, List.getElem?_cons_succ, Bool.not_true, Bool.not_false, Bool.or_self, Bool.and_self, Bool.and_true, Bool.true_and, Bool.and_false, Bool.false_and, Bool.or_true, Bool.true_or, Bool.or_false, Bool.false_or, Nat.reduceAdd, Nat.add_zero, Nat.zero_add, Nat.reduceLT, Nat.reduceLeDiff, List.length_cons, List.length_nil, List.take_succ_cons, List.take_zero, List.drop_succ_cons, List.drop_zero, List.cons.injEq, and_true, true_and, and_self, Nat.reduceBEq, List.all_cons, List.all_nil, Option.getD_some, Option.getD_none, Option.map_some, Option.map_none, Int.reduceLE, Int.reduceLT, Int.reduceEq, Int.reduceToNat, Bool.not_eq_true, decide_eq_true_eq, decide_eq_false_iff_not, not_true_eq_false, not_false_eq_true, List.set_cons_zero, List.set_cons_succ, List.replicate_succ, List.replicate_zero, List.foldl_cons, List.foldl_nil, List.getElem?_nil, List.headD_cons, Option.some.injEq, List.append_nil, Bool.decide_eq_true, Option.bind_eq_bind, Option.bind_some, Option.pure_def, Option.isSome_some, implies_true, false_implies, true_implies, ne_eq, Int.reduceNeg, cast_0, cast_1, cast_2, cast_3, cast_4, cast_5, cast_6, cast_7, cast_8, e4, e5]
end Go.Proofs.Ythcipeaofjmciaa
