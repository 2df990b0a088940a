/- May a record be? In the program. -/
import Derived.Test.YtocalihefpafgaaAW
import Derived.Test.YtocalihefpafgaaR3
set_option maxRecDepth 100000
set_option maxHeartbeats 4000000
set_option linter.unusedSimpArgs false
set_option linter.unusedVariables false
namespace Go.AW
open Go.Proofs

theorem c108_1 (r : Rec) (hk : r.k = 1) (co ro : Bool) (hco : chOk r.ch = co) (hro : rowsOk r = ro) : ConSem Try.prog tab 108 [.agg (recC r)] [] (vb (recOk r)) [] := by
  refine con_pure tabOk mixedOk Try.func108 rfl (by decide) (by kernel_rfl) (by show (1:Nat) ≤ _; decide) fun E hE => go_start ?_
  have hb : ∀ b : Bool, (b = true ↔ recOkP r) → V.one (Ce.p (PV.bool b)) = V.one (Ce.p (PV.bool (recOk r))) := recOk_leaf r
  have h0 := c122 r
  have h1 := c50 r.ch
  have h2 := c123 r
  obtain ⟨k, lsn, txn, prev, ch, next, save, beg, ts, ds⟩ := r
  simp only [recOkP] at hb
  rw [hco] at h1 hb
  rw [hro] at h2 hb
  clear hco hro
  simp only at hk h0 h1 h2
  subst hk
  cases co
  all_goals
    simp only [Try.f108, wk, upd, binR, ↓reduceIte, Nat.reduceEqDiff, reduceCtorEq, ofConst, ofCell, okCell, arI, cmpI, RetQ, RetM, finV, finC, finMV, finMC, resOf, V.w1, cellsV, refsC, refsO, callR, Nat.reduceAdd, Nat.reduceMul, Nat.reduceSub, Nat.reduceLeDiff, Nat.reduceLT, Nat.reduceBEq, boxR, idxR, loadR, storeR, readSl, lenR, sliceR, boundR, makeR, pureC, pureL, TD.isAgg, Int.reduceEq, Int.reduceNe, Int.reduceLT, Int.reduceLE, Int.reduceGT, Int.reduceGE, Int.reduceToNat, Int.reduceSub, Int.reduceAdd, Int.reduceMul, likeL, likeP, eqLP, recC, noS_mk, trs_length, drs_length, ← Bool.decide_and, ← decide_not, headC]
    repeat' (first
      | (refine hb _ ?_; clear hb h1 h2 h0; simp only [decide_eq_true_eq, Bool.false_eq_true, Bool.and_eq_true, false_iff, true_iff, noS_iff, and_false, false_and, false_or, or_false, true_and, and_true] at *; omega)
      | (refine call_by h0 ?_; simp only [wk, upd, binR, ↓reduceIte, Nat.reduceEqDiff, reduceCtorEq, ofConst, ofCell, okCell, arI, cmpI, RetQ, RetM, finV, finC, finMV, finMC, resOf, V.w1, cellsV, refsC, refsO, callR, Nat.reduceAdd, Nat.reduceMul, Nat.reduceSub, Nat.reduceLeDiff, Nat.reduceLT, Nat.reduceBEq, boxR, idxR, loadR, storeR, readSl, lenR, sliceR, boundR, makeR, pureC, pureL, TD.isAgg, Int.reduceEq, Int.reduceNe, Int.reduceLT, Int.reduceLE, Int.reduceGT, Int.reduceGE, Int.reduceToNat, Int.reduceSub, Int.reduceAdd, Int.reduceMul, likeL, likeP, eqLP, recC, noS_mk, trs_length, drs_length, ← Bool.decide_and, ← decide_not, headC])
      | (refine call_by h1 ?_; simp only [wk, upd, binR, ↓reduceIte, Nat.reduceEqDiff, reduceCtorEq, ofConst, ofCell, okCell, arI, cmpI, RetQ, RetM, finV, finC, finMV, finMC, resOf, V.w1, cellsV, refsC, refsO, callR, Nat.reduceAdd, Nat.reduceMul, Nat.reduceSub, Nat.reduceLeDiff, Nat.reduceLT, Nat.reduceBEq, boxR, idxR, loadR, storeR, readSl, lenR, sliceR, boundR, makeR, pureC, pureL, TD.isAgg, Int.reduceEq, Int.reduceNe, Int.reduceLT, Int.reduceLE, Int.reduceGT, Int.reduceGE, Int.reduceToNat, Int.reduceSub, Int.reduceAdd, Int.reduceMul, likeL, likeP, eqLP, recC, noS_mk, trs_length, drs_length, ← Bool.decide_and, ← decide_not, headC])
      | (refine call_by h2 ?_; simp only [wk, upd, binR, ↓reduceIte, Nat.reduceEqDiff, reduceCtorEq, ofConst, ofCell, okCell, arI, cmpI, RetQ, RetM, finV, finC, finMV, finMC, resOf, V.w1, cellsV, refsC, refsO, callR, Nat.reduceAdd, Nat.reduceMul, Nat.reduceSub, Nat.reduceLeDiff, Nat.reduceLT, Nat.reduceBEq, boxR, idxR, loadR, storeR, readSl, lenR, sliceR, boundR, makeR, pureC, pureL, TD.isAgg, Int.reduceEq, Int.reduceNe, Int.reduceLT, Int.reduceLE, Int.reduceGT, Int.reduceGE, Int.reduceToNat, Int.reduceSub, Int.reduceAdd, Int.reduceMul, likeL, likeP, eqLP, recC, noS_mk, trs_length, drs_length, ← Bool.decide_and, ← decide_not, headC])
      | with_reducible apply And.intro
      | rfl
      | (with_reducible (intro hh); first | (exfalso; omega) | skip))

theorem c108_2 (r : Rec) (hk : r.k = 2) (co ro : Bool) (hco : chOk r.ch = co) (hro : rowsOk r = ro) : ConSem Try.prog tab 108 [.agg (recC r)] [] (vb (recOk r)) [] := by
  refine con_pure tabOk mixedOk Try.func108 rfl (by decide) (by kernel_rfl) (by show (1:Nat) ≤ _; decide) fun E hE => go_start ?_
  have hb : ∀ b : Bool, (b = true ↔ recOkP r) → V.one (Ce.p (PV.bool b)) = V.one (Ce.p (PV.bool (recOk r))) := recOk_leaf r
  have h0 := c122 r
  have h1 := c50 r.ch
  have h2 := c123 r
  obtain ⟨k, lsn, txn, prev, ch, next, save, beg, ts, ds⟩ := r
  simp only [recOkP] at hb
  rw [hco] at h1 hb
  rw [hro] at h2 hb
  clear hco hro
  simp only at hk h0 h1 h2
  subst hk
  cases co
  all_goals
    simp only [Try.f108, wk, upd, binR, ↓reduceIte, Nat.reduceEqDiff, reduceCtorEq, ofConst, ofCell, okCell, arI, cmpI, RetQ, RetM, finV, finC, finMV, finMC, resOf, V.w1, cellsV, refsC, refsO, callR, Nat.reduceAdd, Nat.reduceMul, Nat.reduceSub, Nat.reduceLeDiff, Nat.reduceLT, Nat.reduceBEq, boxR, idxR, loadR, storeR, readSl, lenR, sliceR, boundR, makeR, pureC, pureL, TD.isAgg, Int.reduceEq, Int.reduceNe, Int.reduceLT, Int.reduceLE, Int.reduceGT, Int.reduceGE, Int.reduceToNat, Int.reduceSub, Int.reduceAdd, Int.reduceMul, likeL, likeP, eqLP, recC, noS_mk, trs_length, drs_length, ← Bool.decide_and, ← decide_not, headC]
    repeat' (first
      | (refine hb _ ?_; clear hb h1 h2 h0; simp only [decide_eq_true_eq, Bool.false_eq_true, Bool.and_eq_true, false_iff, true_iff, noS_iff, and_false, false_and, false_or, or_false, true_and, and_true] at *; omega)
      | (refine call_by h0 ?_; simp only [wk, upd, binR, ↓reduceIte, Nat.reduceEqDiff, reduceCtorEq, ofConst, ofCell, okCell, arI, cmpI, RetQ, RetM, finV, finC, finMV, finMC, resOf, V.w1, cellsV, refsC, refsO, callR, Nat.reduceAdd, Nat.reduceMul, Nat.reduceSub, Nat.reduceLeDiff, Nat.reduceLT, Nat.reduceBEq, boxR, idxR, loadR, storeR, readSl, lenR, sliceR, boundR, makeR, pureC, pureL, TD.isAgg, Int.reduceEq, Int.reduceNe, Int.reduceLT, Int.reduceLE, Int.reduceGT, Int.reduceGE, Int.reduceToNat, Int.reduceSub, Int.reduceAdd, Int.reduceMul, likeL, likeP, eqLP, recC, noS_mk, trs_length, drs_length, ← Bool.decide_and, ← decide_not, headC])
      | (refine call_by h1 ?_; simp only [wk, upd, binR, ↓reduceIte, Nat.reduceEqDiff, reduceCtorEq, ofConst, ofCell, okCell, arI, cmpI, RetQ, RetM, finV, finC, finMV, finMC, resOf, V.w1, cellsV, refsC, refsO, callR, Nat.reduceAdd, Nat.reduceMul, Nat.reduceSub, Nat.reduceLeDiff, Nat.reduceLT, Nat.reduceBEq, boxR, idxR, loadR, storeR, readSl, lenR, sliceR, boundR, makeR, pureC, pureL, TD.isAgg, Int.reduceEq, Int.reduceNe, Int.reduceLT, Int.reduceLE, Int.reduceGT, Int.reduceGE, Int.reduceToNat, Int.reduceSub, Int.reduceAdd, Int.reduceMul, likeL, likeP, eqLP, recC, noS_mk, trs_length, drs_length, ← Bool.decide_and, ← decide_not, headC])
      | (refine call_by h2 ?_; simp only [wk, upd, binR, ↓reduceIte, Nat.reduceEqDiff, reduceCtorEq, ofConst, ofCell, okCell, arI, cmpI, RetQ, RetM, finV, finC, finMV, finMC, resOf, V.w1, cellsV, refsC, refsO, callR, Nat.reduceAdd, Nat.reduceMul, Nat.reduceSub, Nat.reduceLeDiff, Nat.reduceLT, Nat.reduceBEq, boxR, idxR, loadR, storeR, readSl, lenR, sliceR, boundR, makeR, pureC, pureL, TD.isAgg, Int.reduceEq, Int.reduceNe, Int.reduceLT, Int.reduceLE, Int.reduceGT, Int.reduceGE, Int.reduceToNat, Int.reduceSub, Int.reduceAdd, Int.reduceMul, likeL, likeP, eqLP, recC, noS_mk, trs_length, drs_length, ← Bool.decide_and, ← decide_not, headC])
      | with_reducible apply And.intro
      | rfl
      | (with_reducible (intro hh); first | (exfalso; omega) | skip))

theorem c108_3 (r : Rec) (hk : r.k = 3) (co ro : Bool) (hco : chOk r.ch = co) (hro : rowsOk r = ro) : ConSem Try.prog tab 108 [.agg (recC r)] [] (vb (recOk r)) [] := by
  refine con_pure tabOk mixedOk Try.func108 rfl (by decide) (by kernel_rfl) (by show (1:Nat) ≤ _; decide) fun E hE => go_start ?_
  have hb : ∀ b : Bool, (b = true ↔ recOkP r) → V.one (Ce.p (PV.bool b)) = V.one (Ce.p (PV.bool (recOk r))) := recOk_leaf r
  have h0 := c122 r
  have h1 := c50 r.ch
  have h2 := c123 r
  obtain ⟨k, lsn, txn, prev, ch, next, save, beg, ts, ds⟩ := r
  simp only [recOkP] at hb
  rw [hco] at h1 hb
  rw [hro] at h2 hb
  clear hco hro
  simp only at hk h0 h1 h2
  subst hk
  cases ro
  all_goals
    simp only [Try.f108, wk, upd, binR, ↓reduceIte, Nat.reduceEqDiff, reduceCtorEq, ofConst, ofCell, okCell, arI, cmpI, RetQ, RetM, finV, finC, finMV, finMC, resOf, V.w1, cellsV, refsC, refsO, callR, Nat.reduceAdd, Nat.reduceMul, Nat.reduceSub, Nat.reduceLeDiff, Nat.reduceLT, Nat.reduceBEq, boxR, idxR, loadR, storeR, readSl, lenR, sliceR, boundR, makeR, pureC, pureL, TD.isAgg, Int.reduceEq, Int.reduceNe, Int.reduceLT, Int.reduceLE, Int.reduceGT, Int.reduceGE, Int.reduceToNat, Int.reduceSub, Int.reduceAdd, Int.reduceMul, likeL, likeP, eqLP, recC, noS_mk, trs_length, drs_length, ← Bool.decide_and, ← decide_not, headC]
    repeat' (first
      | (refine hb _ ?_; clear hb h1 h2 h0; simp only [decide_eq_true_eq, Bool.false_eq_true, Bool.and_eq_true, false_iff, true_iff, noS_iff, and_false, false_and, false_or, or_false, true_and, and_true] at *; omega)
      | (refine call_by h0 ?_; simp only [wk, upd, binR, ↓reduceIte, Nat.reduceEqDiff, reduceCtorEq, ofConst, ofCell, okCell, arI, cmpI, RetQ, RetM, finV, finC, finMV, finMC, resOf, V.w1, cellsV, refsC, refsO, callR, Nat.reduceAdd, Nat.reduceMul, Nat.reduceSub, Nat.reduceLeDiff, Nat.reduceLT, Nat.reduceBEq, boxR, idxR, loadR, storeR, readSl, lenR, sliceR, boundR, makeR, pureC, pureL, TD.isAgg, Int.reduceEq, Int.reduceNe, Int.reduceLT, Int.reduceLE, Int.reduceGT, Int.reduceGE, Int.reduceToNat, Int.reduceSub, Int.reduceAdd, Int.reduceMul, likeL, likeP, eqLP, recC, noS_mk, trs_length, drs_length, ← Bool.decide_and, ← decide_not, headC])
      | (refine call_by h1 ?_; simp only [wk, upd, binR, ↓reduceIte, Nat.reduceEqDiff, reduceCtorEq, ofConst, ofCell, okCell, arI, cmpI, RetQ, RetM, finV, finC, finMV, finMC, resOf, V.w1, cellsV, refsC, refsO, callR, Nat.reduceAdd, Nat.reduceMul, Nat.reduceSub, Nat.reduceLeDiff, Nat.reduceLT, Nat.reduceBEq, boxR, idxR, loadR, storeR, readSl, lenR, sliceR, boundR, makeR, pureC, pureL, TD.isAgg, Int.reduceEq, Int.reduceNe, Int.reduceLT, Int.reduceLE, Int.reduceGT, Int.reduceGE, Int.reduceToNat, Int.reduceSub, Int.reduceAdd, Int.reduceMul, likeL, likeP, eqLP, recC, noS_mk, trs_length, drs_length, ← Bool.decide_and, ← decide_not, headC])
      | (refine call_by h2 ?_; simp only [wk, upd, binR, ↓reduceIte, Nat.reduceEqDiff, reduceCtorEq, ofConst, ofCell, okCell, arI, cmpI, RetQ, RetM, finV, finC, finMV, finMC, resOf, V.w1, cellsV, refsC, refsO, callR, Nat.reduceAdd, Nat.reduceMul, Nat.reduceSub, Nat.reduceLeDiff, Nat.reduceLT, Nat.reduceBEq, boxR, idxR, loadR, storeR, readSl, lenR, sliceR, boundR, makeR, pureC, pureL, TD.isAgg, Int.reduceEq, Int.reduceNe, Int.reduceLT, Int.reduceLE, Int.reduceGT, Int.reduceGE, Int.reduceToNat, Int.reduceSub, Int.reduceAdd, Int.reduceMul, likeL, likeP, eqLP, recC, noS_mk, trs_length, drs_length, ← Bool.decide_and, ← decide_not, headC])
      | with_reducible apply And.intro
      | rfl
      | (with_reducible (intro hh); first | (exfalso; omega) | skip))

theorem c108_4 (r : Rec) (hk : r.k = 4) (co ro : Bool) (hco : chOk r.ch = co) (hro : rowsOk r = ro) : ConSem Try.prog tab 108 [.agg (recC r)] [] (vb (recOk r)) [] := by
  refine con_pure tabOk mixedOk Try.func108 rfl (by decide) (by kernel_rfl) (by show (1:Nat) ≤ _; decide) fun E hE => go_start ?_
  have hb : ∀ b : Bool, (b = true ↔ recOkP r) → V.one (Ce.p (PV.bool b)) = V.one (Ce.p (PV.bool (recOk r))) := recOk_leaf r
  have h0 := c122 r
  have h1 := c50 r.ch
  have h2 := c123 r
  obtain ⟨k, lsn, txn, prev, ch, next, save, beg, ts, ds⟩ := r
  simp only [recOkP] at hb
  rw [hco] at h1 hb
  rw [hro] at h2 hb
  clear hco hro
  simp only at hk h0 h1 h2
  subst hk
  cases ro
  all_goals
    simp only [Try.f108, wk, upd, binR, ↓reduceIte, Nat.reduceEqDiff, reduceCtorEq, ofConst, ofCell, okCell, arI, cmpI, RetQ, RetM, finV, finC, finMV, finMC, resOf, V.w1, cellsV, refsC, refsO, callR, Nat.reduceAdd, Nat.reduceMul, Nat.reduceSub, Nat.reduceLeDiff, Nat.reduceLT, Nat.reduceBEq, boxR, idxR, loadR, storeR, readSl, lenR, sliceR, boundR, makeR, pureC, pureL, TD.isAgg, Int.reduceEq, Int.reduceNe, Int.reduceLT, Int.reduceLE, Int.reduceGT, Int.reduceGE, Int.reduceToNat, Int.reduceSub, Int.reduceAdd, Int.reduceMul, likeL, likeP, eqLP, recC, noS_mk, trs_length, drs_length, ← Bool.decide_and, ← decide_not, headC]
    repeat' (first
      | (refine hb _ ?_; clear hb h1 h2 h0; simp only [decide_eq_true_eq, Bool.false_eq_true, Bool.and_eq_true, false_iff, true_iff, noS_iff, and_false, false_and, false_or, or_false, true_and, and_true] at *; omega)
      | (refine call_by h0 ?_; simp only [wk, upd, binR, ↓reduceIte, Nat.reduceEqDiff, reduceCtorEq, ofConst, ofCell, okCell, arI, cmpI, RetQ, RetM, finV, finC, finMV, finMC, resOf, V.w1, cellsV, refsC, refsO, callR, Nat.reduceAdd, Nat.reduceMul, Nat.reduceSub, Nat.reduceLeDiff, Nat.reduceLT, Nat.reduceBEq, boxR, idxR, loadR, storeR, readSl, lenR, sliceR, boundR, makeR, pureC, pureL, TD.isAgg, Int.reduceEq, Int.reduceNe, Int.reduceLT, Int.reduceLE, Int.reduceGT, Int.reduceGE, Int.reduceToNat, Int.reduceSub, Int.reduceAdd, Int.reduceMul, likeL, likeP, eqLP, recC, noS_mk, trs_length, drs_length, ← Bool.decide_and, ← decide_not, headC])
      | (refine call_by h1 ?_; simp only [wk, upd, binR, ↓reduceIte, Nat.reduceEqDiff, reduceCtorEq, ofConst, ofCell, okCell, arI, cmpI, RetQ, RetM, finV, finC, finMV, finMC, resOf, V.w1, cellsV, refsC, refsO, callR, Nat.reduceAdd, Nat.reduceMul, Nat.reduceSub, Nat.reduceLeDiff, Nat.reduceLT, Nat.reduceBEq, boxR, idxR, loadR, storeR, readSl, lenR, sliceR, boundR, makeR, pureC, pureL, TD.isAgg, Int.reduceEq, Int.reduceNe, Int.reduceLT, Int.reduceLE, Int.reduceGT, Int.reduceGE, Int.reduceToNat, Int.reduceSub, Int.reduceAdd, Int.reduceMul, likeL, likeP, eqLP, recC, noS_mk, trs_length, drs_length, ← Bool.decide_and, ← decide_not, headC])
      | (refine call_by h2 ?_; simp only [wk, upd, binR, ↓reduceIte, Nat.reduceEqDiff, reduceCtorEq, ofConst, ofCell, okCell, arI, cmpI, RetQ, RetM, finV, finC, finMV, finMC, resOf, V.w1, cellsV, refsC, refsO, callR, Nat.reduceAdd, Nat.reduceMul, Nat.reduceSub, Nat.reduceLeDiff, Nat.reduceLT, Nat.reduceBEq, boxR, idxR, loadR, storeR, readSl, lenR, sliceR, boundR, makeR, pureC, pureL, TD.isAgg, Int.reduceEq, Int.reduceNe, Int.reduceLT, Int.reduceLE, Int.reduceGT, Int.reduceGE, Int.reduceToNat, Int.reduceSub, Int.reduceAdd, Int.reduceMul, likeL, likeP, eqLP, recC, noS_mk, trs_length, drs_length, ← Bool.decide_and, ← decide_not, headC])
      | with_reducible apply And.intro
      | rfl
      | (with_reducible (intro hh); first | (exfalso; omega) | skip))

theorem c108_5 (r : Rec) (hk : r.k = 5) (co ro : Bool) (hco : chOk r.ch = co) (hro : rowsOk r = ro) : ConSem Try.prog tab 108 [.agg (recC r)] [] (vb (recOk r)) [] := by
  refine con_pure tabOk mixedOk Try.func108 rfl (by decide) (by kernel_rfl) (by show (1:Nat) ≤ _; decide) fun E hE => go_start ?_
  have hb : ∀ b : Bool, (b = true ↔ recOkP r) → V.one (Ce.p (PV.bool b)) = V.one (Ce.p (PV.bool (recOk r))) := recOk_leaf r
  have h0 := c122 r
  have h1 := c50 r.ch
  have h2 := c123 r
  obtain ⟨k, lsn, txn, prev, ch, next, save, beg, ts, ds⟩ := r
  simp only [recOkP] at hb
  rw [hco] at h1 hb
  rw [hro] at h2 hb
  clear hco hro
  simp only at hk h0 h1 h2
  subst hk
  cases ro
  all_goals
    simp only [Try.f108, wk, upd, binR, ↓reduceIte, Nat.reduceEqDiff, reduceCtorEq, ofConst, ofCell, okCell, arI, cmpI, RetQ, RetM, finV, finC, finMV, finMC, resOf, V.w1, cellsV, refsC, refsO, callR, Nat.reduceAdd, Nat.reduceMul, Nat.reduceSub, Nat.reduceLeDiff, Nat.reduceLT, Nat.reduceBEq, boxR, idxR, loadR, storeR, readSl, lenR, sliceR, boundR, makeR, pureC, pureL, TD.isAgg, Int.reduceEq, Int.reduceNe, Int.reduceLT, Int.reduceLE, Int.reduceGT, Int.reduceGE, Int.reduceToNat, Int.reduceSub, Int.reduceAdd, Int.reduceMul, likeL, likeP, eqLP, recC, noS_mk, trs_length, drs_length, ← Bool.decide_and, ← decide_not, headC]
    repeat' (first
      | (refine hb _ ?_; clear hb h1 h2 h0; simp only [decide_eq_true_eq, Bool.false_eq_true, Bool.and_eq_true, false_iff, true_iff, noS_iff, and_false, false_and, false_or, or_false, true_and, and_true] at *; omega)
      | (refine call_by h0 ?_; simp only [wk, upd, binR, ↓reduceIte, Nat.reduceEqDiff, reduceCtorEq, ofConst, ofCell, okCell, arI, cmpI, RetQ, RetM, finV, finC, finMV, finMC, resOf, V.w1, cellsV, refsC, refsO, callR, Nat.reduceAdd, Nat.reduceMul, Nat.reduceSub, Nat.reduceLeDiff, Nat.reduceLT, Nat.reduceBEq, boxR, idxR, loadR, storeR, readSl, lenR, sliceR, boundR, makeR, pureC, pureL, TD.isAgg, Int.reduceEq, Int.reduceNe, Int.reduceLT, Int.reduceLE, Int.reduceGT, Int.reduceGE, Int.reduceToNat, Int.reduceSub, Int.reduceAdd, Int.reduceMul, likeL, likeP, eqLP, recC, noS_mk, trs_length, drs_length, ← Bool.decide_and, ← decide_not, headC])
      | (refine call_by h1 ?_; simp only [wk, upd, binR, ↓reduceIte, Nat.reduceEqDiff, reduceCtorEq, ofConst, ofCell, okCell, arI, cmpI, RetQ, RetM, finV, finC, finMV, finMC, resOf, V.w1, cellsV, refsC, refsO, callR, Nat.reduceAdd, Nat.reduceMul, Nat.reduceSub, Nat.reduceLeDiff, Nat.reduceLT, Nat.reduceBEq, boxR, idxR, loadR, storeR, readSl, lenR, sliceR, boundR, makeR, pureC, pureL, TD.isAgg, Int.reduceEq, Int.reduceNe, Int.reduceLT, Int.reduceLE, Int.reduceGT, Int.reduceGE, Int.reduceToNat, Int.reduceSub, Int.reduceAdd, Int.reduceMul, likeL, likeP, eqLP, recC, noS_mk, trs_length, drs_length, ← Bool.decide_and, ← decide_not, headC])
      | (refine call_by h2 ?_; simp only [wk, upd, binR, ↓reduceIte, Nat.reduceEqDiff, reduceCtorEq, ofConst, ofCell, okCell, arI, cmpI, RetQ, RetM, finV, finC, finMV, finMC, resOf, V.w1, cellsV, refsC, refsO, callR, Nat.reduceAdd, Nat.reduceMul, Nat.reduceSub, Nat.reduceLeDiff, Nat.reduceLT, Nat.reduceBEq, boxR, idxR, loadR, storeR, readSl, lenR, sliceR, boundR, makeR, pureC, pureL, TD.isAgg, Int.reduceEq, Int.reduceNe, Int.reduceLT, Int.reduceLE, Int.reduceGT, Int.reduceGE, Int.reduceToNat, Int.reduceSub, Int.reduceAdd, Int.reduceMul, likeL, likeP, eqLP, recC, noS_mk, trs_length, drs_length, ← Bool.decide_and, ← decide_not, headC])
      | with_reducible apply And.intro
      | rfl
      | (with_reducible (intro hh); first | (exfalso; omega) | skip))

theorem c108_6 (r : Rec) (hk : r.k = 6) (co ro : Bool) (hco : chOk r.ch = co) (hro : rowsOk r = ro) : ConSem Try.prog tab 108 [.agg (recC r)] [] (vb (recOk r)) [] := by
  refine con_pure tabOk mixedOk Try.func108 rfl (by decide) (by kernel_rfl) (by show (1:Nat) ≤ _; decide) fun E hE => go_start ?_
  have hb : ∀ b : Bool, (b = true ↔ recOkP r) → V.one (Ce.p (PV.bool b)) = V.one (Ce.p (PV.bool (recOk r))) := recOk_leaf r
  have h0 := c122 r
  have h1 := c50 r.ch
  have h2 := c123 r
  obtain ⟨k, lsn, txn, prev, ch, next, save, beg, ts, ds⟩ := r
  simp only [recOkP] at hb
  rw [hco] at h1 hb
  rw [hro] at h2 hb
  clear hco hro
  simp only at hk h0 h1 h2
  subst hk
  cases ro
  all_goals
    simp only [Try.f108, wk, upd, binR, ↓reduceIte, Nat.reduceEqDiff, reduceCtorEq, ofConst, ofCell, okCell, arI, cmpI, RetQ, RetM, finV, finC, finMV, finMC, resOf, V.w1, cellsV, refsC, refsO, callR, Nat.reduceAdd, Nat.reduceMul, Nat.reduceSub, Nat.reduceLeDiff, Nat.reduceLT, Nat.reduceBEq, boxR, idxR, loadR, storeR, readSl, lenR, sliceR, boundR, makeR, pureC, pureL, TD.isAgg, Int.reduceEq, Int.reduceNe, Int.reduceLT, Int.reduceLE, Int.reduceGT, Int.reduceGE, Int.reduceToNat, Int.reduceSub, Int.reduceAdd, Int.reduceMul, likeL, likeP, eqLP, recC, noS_mk, trs_length, drs_length, ← Bool.decide_and, ← decide_not, headC]
    repeat' (first
      | (refine hb _ ?_; clear hb h1 h2 h0; simp only [decide_eq_true_eq, Bool.false_eq_true, Bool.and_eq_true, false_iff, true_iff, noS_iff, and_false, false_and, false_or, or_false, true_and, and_true] at *; omega)
      | (refine call_by h0 ?_; simp only [wk, upd, binR, ↓reduceIte, Nat.reduceEqDiff, reduceCtorEq, ofConst, ofCell, okCell, arI, cmpI, RetQ, RetM, finV, finC, finMV, finMC, resOf, V.w1, cellsV, refsC, refsO, callR, Nat.reduceAdd, Nat.reduceMul, Nat.reduceSub, Nat.reduceLeDiff, Nat.reduceLT, Nat.reduceBEq, boxR, idxR, loadR, storeR, readSl, lenR, sliceR, boundR, makeR, pureC, pureL, TD.isAgg, Int.reduceEq, Int.reduceNe, Int.reduceLT, Int.reduceLE, Int.reduceGT, Int.reduceGE, Int.reduceToNat, Int.reduceSub, Int.reduceAdd, Int.reduceMul, likeL, likeP, eqLP, recC, noS_mk, trs_length, drs_length, ← Bool.decide_and, ← decide_not, headC])
      | (refine call_by h1 ?_; simp only [wk, upd, binR, ↓reduceIte, Nat.reduceEqDiff, reduceCtorEq, ofConst, ofCell, okCell, arI, cmpI, RetQ, RetM, finV, finC, finMV, finMC, resOf, V.w1, cellsV, refsC, refsO, callR, Nat.reduceAdd, Nat.reduceMul, Nat.reduceSub, Nat.reduceLeDiff, Nat.reduceLT, Nat.reduceBEq, boxR, idxR, loadR, storeR, readSl, lenR, sliceR, boundR, makeR, pureC, pureL, TD.isAgg, Int.reduceEq, Int.reduceNe, Int.reduceLT, Int.reduceLE, Int.reduceGT, Int.reduceGE, Int.reduceToNat, Int.reduceSub, Int.reduceAdd, Int.reduceMul, likeL, likeP, eqLP, recC, noS_mk, trs_length, drs_length, ← Bool.decide_and, ← decide_not, headC])
      | (refine call_by h2 ?_; simp only [wk, upd, binR, ↓reduceIte, Nat.reduceEqDiff, reduceCtorEq, ofConst, ofCell, okCell, arI, cmpI, RetQ, RetM, finV, finC, finMV, finMC, resOf, V.w1, cellsV, refsC, refsO, callR, Nat.reduceAdd, Nat.reduceMul, Nat.reduceSub, Nat.reduceLeDiff, Nat.reduceLT, Nat.reduceBEq, boxR, idxR, loadR, storeR, readSl, lenR, sliceR, boundR, makeR, pureC, pureL, TD.isAgg, Int.reduceEq, Int.reduceNe, Int.reduceLT, Int.reduceLE, Int.reduceGT, Int.reduceGE, Int.reduceToNat, Int.reduceSub, Int.reduceAdd, Int.reduceMul, likeL, likeP, eqLP, recC, noS_mk, trs_length, drs_length, ← Bool.decide_and, ← decide_not, headC])
      | with_reducible apply And.intro
      | rfl
      | (with_reducible (intro hh); first | (exfalso; omega) | skip))

theorem c108_7 (r : Rec) (hk : r.k = 7) (co ro : Bool) (hco : chOk r.ch = co) (hro : rowsOk r = ro) : ConSem Try.prog tab 108 [.agg (recC r)] [] (vb (recOk r)) [] := by
  refine con_pure tabOk mixedOk Try.func108 rfl (by decide) (by kernel_rfl) (by show (1:Nat) ≤ _; decide) fun E hE => go_start ?_
  have hb : ∀ b : Bool, (b = true ↔ recOkP r) → V.one (Ce.p (PV.bool b)) = V.one (Ce.p (PV.bool (recOk r))) := recOk_leaf r
  have h0 := c122 r
  have h1 := c50 r.ch
  have h2 := c123 r
  obtain ⟨k, lsn, txn, prev, ch, next, save, beg, ts, ds⟩ := r
  simp only [recOkP] at hb
  rw [hco] at h1 hb
  rw [hro] at h2 hb
  clear hco hro
  simp only at hk h0 h1 h2
  subst hk
  cases ro
  all_goals
    simp only [Try.f108, wk, upd, binR, ↓reduceIte, Nat.reduceEqDiff, reduceCtorEq, ofConst, ofCell, okCell, arI, cmpI, RetQ, RetM, finV, finC, finMV, finMC, resOf, V.w1, cellsV, refsC, refsO, callR, Nat.reduceAdd, Nat.reduceMul, Nat.reduceSub, Nat.reduceLeDiff, Nat.reduceLT, Nat.reduceBEq, boxR, idxR, loadR, storeR, readSl, lenR, sliceR, boundR, makeR, pureC, pureL, TD.isAgg, Int.reduceEq, Int.reduceNe, Int.reduceLT, Int.reduceLE, Int.reduceGT, Int.reduceGE, Int.reduceToNat, Int.reduceSub, Int.reduceAdd, Int.reduceMul, likeL, likeP, eqLP, recC, noS_mk, trs_length, drs_length, ← Bool.decide_and, ← decide_not, headC]
    repeat' (first
      | (refine hb _ ?_; clear hb h1 h2 h0; simp only [decide_eq_true_eq, Bool.false_eq_true, Bool.and_eq_true, false_iff, true_iff, noS_iff, and_false, false_and, false_or, or_false, true_and, and_true] at *; omega)
      | (refine call_by h0 ?_; simp only [wk, upd, binR, ↓reduceIte, Nat.reduceEqDiff, reduceCtorEq, ofConst, ofCell, okCell, arI, cmpI, RetQ, RetM, finV, finC, finMV, finMC, resOf, V.w1, cellsV, refsC, refsO, callR, Nat.reduceAdd, Nat.reduceMul, Nat.reduceSub, Nat.reduceLeDiff, Nat.reduceLT, Nat.reduceBEq, boxR, idxR, loadR, storeR, readSl, lenR, sliceR, boundR, makeR, pureC, pureL, TD.isAgg, Int.reduceEq, Int.reduceNe, Int.reduceLT, Int.reduceLE, Int.reduceGT, Int.reduceGE, Int.reduceToNat, Int.reduceSub, Int.reduceAdd, Int.reduceMul, likeL, likeP, eqLP, recC, noS_mk, trs_length, drs_length, ← Bool.decide_and, ← decide_not, headC])
      | (refine call_by h1 ?_; simp only [wk, upd, binR, ↓reduceIte, Nat.reduceEqDiff, reduceCtorEq, ofConst, ofCell, okCell, arI, cmpI, RetQ, RetM, finV, finC, finMV, finMC, resOf, V.w1, cellsV, refsC, refsO, callR, Nat.reduceAdd, Nat.reduceMul, Nat.reduceSub, Nat.reduceLeDiff, Nat.reduceLT, Nat.reduceBEq, boxR, idxR, loadR, storeR, readSl, lenR, sliceR, boundR, makeR, pureC, pureL, TD.isAgg, Int.reduceEq, Int.reduceNe, Int.reduceLT, Int.reduceLE, Int.reduceGT, Int.reduceGE, Int.reduceToNat, Int.reduceSub, Int.reduceAdd, Int.reduceMul, likeL, likeP, eqLP, recC, noS_mk, trs_length, drs_length, ← Bool.decide_and, ← decide_not, headC])
      | (refine call_by h2 ?_; simp only [wk, upd, binR, ↓reduceIte, Nat.reduceEqDiff, reduceCtorEq, ofConst, ofCell, okCell, arI, cmpI, RetQ, RetM, finV, finC, finMV, finMC, resOf, V.w1, cellsV, refsC, refsO, callR, Nat.reduceAdd, Nat.reduceMul, Nat.reduceSub, Nat.reduceLeDiff, Nat.reduceLT, Nat.reduceBEq, boxR, idxR, loadR, storeR, readSl, lenR, sliceR, boundR, makeR, pureC, pureL, TD.isAgg, Int.reduceEq, Int.reduceNe, Int.reduceLT, Int.reduceLE, Int.reduceGT, Int.reduceGE, Int.reduceToNat, Int.reduceSub, Int.reduceAdd, Int.reduceMul, likeL, likeP, eqLP, recC, noS_mk, trs_length, drs_length, ← Bool.decide_and, ← decide_not, headC])
      | with_reducible apply And.intro
      | rfl
      | (with_reducible (intro hh); first | (exfalso; omega) | skip))

theorem c108_8 (r : Rec) (hk : r.k = 8) (co ro : Bool) (hco : chOk r.ch = co) (hro : rowsOk r = ro) : ConSem Try.prog tab 108 [.agg (recC r)] [] (vb (recOk r)) [] := by
  refine con_pure tabOk mixedOk Try.func108 rfl (by decide) (by kernel_rfl) (by show (1:Nat) ≤ _; decide) fun E hE => go_start ?_
  have hb : ∀ b : Bool, (b = true ↔ recOkP r) → V.one (Ce.p (PV.bool b)) = V.one (Ce.p (PV.bool (recOk r))) := recOk_leaf r
  have h0 := c122 r
  have h1 := c50 r.ch
  have h2 := c123 r
  obtain ⟨k, lsn, txn, prev, ch, next, save, beg, ts, ds⟩ := r
  simp only [recOkP] at hb
  rw [hco] at h1 hb
  rw [hro] at h2 hb
  clear hco hro
  simp only at hk h0 h1 h2
  subst hk
  cases ro
  all_goals
    simp only [Try.f108, wk, upd, binR, ↓reduceIte, Nat.reduceEqDiff, reduceCtorEq, ofConst, ofCell, okCell, arI, cmpI, RetQ, RetM, finV, finC, finMV, finMC, resOf, V.w1, cellsV, refsC, refsO, callR, Nat.reduceAdd, Nat.reduceMul, Nat.reduceSub, Nat.reduceLeDiff, Nat.reduceLT, Nat.reduceBEq, boxR, idxR, loadR, storeR, readSl, lenR, sliceR, boundR, makeR, pureC, pureL, TD.isAgg, Int.reduceEq, Int.reduceNe, Int.reduceLT, Int.reduceLE, Int.reduceGT, Int.reduceGE, Int.reduceToNat, Int.reduceSub, Int.reduceAdd, Int.reduceMul, likeL, likeP, eqLP, recC, noS_mk, trs_length, drs_length, ← Bool.decide_and, ← decide_not, headC]
    repeat' (first
      | (refine hb _ ?_; clear hb h1 h2 h0; simp only [decide_eq_true_eq, Bool.false_eq_true, Bool.and_eq_true, false_iff, true_iff, noS_iff, and_false, false_and, false_or, or_false, true_and, and_true] at *; omega)
      | (refine call_by h0 ?_; simp only [wk, upd, binR, ↓reduceIte, Nat.reduceEqDiff, reduceCtorEq, ofConst, ofCell, okCell, arI, cmpI, RetQ, RetM, finV, finC, finMV, finMC, resOf, V.w1, cellsV, refsC, refsO, callR, Nat.reduceAdd, Nat.reduceMul, Nat.reduceSub, Nat.reduceLeDiff, Nat.reduceLT, Nat.reduceBEq, boxR, idxR, loadR, storeR, readSl, lenR, sliceR, boundR, makeR, pureC, pureL, TD.isAgg, Int.reduceEq, Int.reduceNe, Int.reduceLT, Int.reduceLE, Int.reduceGT, Int.reduceGE, Int.reduceToNat, Int.reduceSub, Int.reduceAdd, Int.reduceMul, likeL, likeP, eqLP, recC, noS_mk, trs_length, drs_length, ← Bool.decide_and, ← decide_not, headC])
      | (refine call_by h1 ?_; simp only [wk, upd, binR, ↓reduceIte, Nat.reduceEqDiff, reduceCtorEq, ofConst, ofCell, okCell, arI, cmpI, RetQ, RetM, finV, finC, finMV, finMC, resOf, V.w1, cellsV, refsC, refsO, callR, Nat.reduceAdd, Nat.reduceMul, Nat.reduceSub, Nat.reduceLeDiff, Nat.reduceLT, Nat.reduceBEq, boxR, idxR, loadR, storeR, readSl, lenR, sliceR, boundR, makeR, pureC, pureL, TD.isAgg, Int.reduceEq, Int.reduceNe, Int.reduceLT, Int.reduceLE, Int.reduceGT, Int.reduceGE, Int.reduceToNat, Int.reduceSub, Int.reduceAdd, Int.reduceMul, likeL, likeP, eqLP, recC, noS_mk, trs_length, drs_length, ← Bool.decide_and, ← decide_not, headC])
      | (refine call_by h2 ?_; simp only [wk, upd, binR, ↓reduceIte, Nat.reduceEqDiff, reduceCtorEq, ofConst, ofCell, okCell, arI, cmpI, RetQ, RetM, finV, finC, finMV, finMC, resOf, V.w1, cellsV, refsC, refsO, callR, Nat.reduceAdd, Nat.reduceMul, Nat.reduceSub, Nat.reduceLeDiff, Nat.reduceLT, Nat.reduceBEq, boxR, idxR, loadR, storeR, readSl, lenR, sliceR, boundR, makeR, pureC, pureL, TD.isAgg, Int.reduceEq, Int.reduceNe, Int.reduceLT, Int.reduceLE, Int.reduceGT, Int.reduceGE, Int.reduceToNat, Int.reduceSub, Int.reduceAdd, Int.reduceMul, likeL, likeP, eqLP, recC, noS_mk, trs_length, drs_length, ← Bool.decide_and, ← decide_not, headC])
      | with_reducible apply And.intro
      | rfl
      | (with_reducible (intro hh); first | (exfalso; omega) | skip))

theorem c108X (r : Rec) (hk : r.k < 1 ∨ 8 < r.k) (co ro : Bool) (hco : chOk r.ch = co) (hro : rowsOk r = ro) : ConSem Try.prog tab 108 [.agg (recC r)] [] (vb (recOk r)) [] := by
  refine con_pure tabOk mixedOk Try.func108 rfl (by decide) (by kernel_rfl) (by show (1:Nat) ≤ _; decide) fun E hE => go_start ?_
  have hb : ∀ b : Bool, (b = true ↔ recOkP r) → V.one (Ce.p (PV.bool b)) = V.one (Ce.p (PV.bool (recOk r))) := recOk_leaf r
  have h0 := c122 r
  have h1 := c50 r.ch
  have h2 := c123 r
  obtain ⟨k, lsn, txn, prev, ch, next, save, beg, ts, ds⟩ := r
  simp only [recOkP] at hb
  rw [hco] at h1 hb
  rw [hro] at h2 hb
  clear hco hro
  simp only at hk h0 h1 h2
  have e1 : (k = 1) = False := eq_false (by omega)
  have e2 : (k = 2) = False := eq_false (by omega)
  have e3 : (k = 3) = False := eq_false (by omega)
  have e4 : (k = 4) = False := eq_false (by omega)
  have e5 : (k = 5) = False := eq_false (by omega)
  have e6 : (k = 6) = False := eq_false (by omega)
  have e7 : (k = 7) = False := eq_false (by omega)
  have e8 : (k = 8) = False := eq_false (by omega)
  all_goals
    simp only [Try.f108, wk, upd, binR, ↓reduceIte, Nat.reduceEqDiff, reduceCtorEq, ofConst, ofCell, okCell, arI, cmpI, RetQ, RetM, finV, finC, finMV, finMC, resOf, V.w1, cellsV, refsC, refsO, callR, Nat.reduceAdd, Nat.reduceMul, Nat.reduceSub, Nat.reduceLeDiff, Nat.reduceLT, Nat.reduceBEq, boxR, idxR, loadR, storeR, readSl, lenR, sliceR, boundR, makeR, pureC, pureL, TD.isAgg, Int.reduceEq, Int.reduceNe, Int.reduceLT, Int.reduceLE, Int.reduceGT, Int.reduceGE, Int.reduceToNat, Int.reduceSub, Int.reduceAdd, Int.reduceMul, likeL, likeP, eqLP, recC, noS_mk, trs_length, drs_length, ← Bool.decide_and, ← decide_not, e1, e2, e3, e4, e5, e6, e7, e8, headC]
    repeat' (first
      | (refine hb _ ?_; clear hb h1 h2 h0; simp only [decide_eq_true_eq, Bool.false_eq_true, Bool.and_eq_true, false_iff, true_iff, noS_iff, and_false, false_and, false_or, or_false, true_and, and_true] at *; omega)
      | (refine call_by h0 ?_; simp only [wk, upd, binR, ↓reduceIte, Nat.reduceEqDiff, reduceCtorEq, ofConst, ofCell, okCell, arI, cmpI, RetQ, RetM, finV, finC, finMV, finMC, resOf, V.w1, cellsV, refsC, refsO, callR, Nat.reduceAdd, Nat.reduceMul, Nat.reduceSub, Nat.reduceLeDiff, Nat.reduceLT, Nat.reduceBEq, boxR, idxR, loadR, storeR, readSl, lenR, sliceR, boundR, makeR, pureC, pureL, TD.isAgg, Int.reduceEq, Int.reduceNe, Int.reduceLT, Int.reduceLE, Int.reduceGT, Int.reduceGE, Int.reduceToNat, Int.reduceSub, Int.reduceAdd, Int.reduceMul, likeL, likeP, eqLP, recC, noS_mk, trs_length, drs_length, ← Bool.decide_and, ← decide_not, e1, e2, e3, e4, e5, e6, e7, e8, headC])
      | (refine call_by h1 ?_; simp only [wk, upd, binR, ↓reduceIte, Nat.reduceEqDiff, reduceCtorEq, ofConst, ofCell, okCell, arI, cmpI, RetQ, RetM, finV, finC, finMV, finMC, resOf, V.w1, cellsV, refsC, refsO, callR, Nat.reduceAdd, Nat.reduceMul, Nat.reduceSub, Nat.reduceLeDiff, Nat.reduceLT, Nat.reduceBEq, boxR, idxR, loadR, storeR, readSl, lenR, sliceR, boundR, makeR, pureC, pureL, TD.isAgg, Int.reduceEq, Int.reduceNe, Int.reduceLT, Int.reduceLE, Int.reduceGT, Int.reduceGE, Int.reduceToNat, Int.reduceSub, Int.reduceAdd, Int.reduceMul, likeL, likeP, eqLP, recC, noS_mk, trs_length, drs_length, ← Bool.decide_and, ← decide_not, e1, e2, e3, e4, e5, e6, e7, e8, headC])
      | (refine call_by h2 ?_; simp only [wk, upd, binR, ↓reduceIte, Nat.reduceEqDiff, reduceCtorEq, ofConst, ofCell, okCell, arI, cmpI, RetQ, RetM, finV, finC, finMV, finMC, resOf, V.w1, cellsV, refsC, refsO, callR, Nat.reduceAdd, Nat.reduceMul, Nat.reduceSub, Nat.reduceLeDiff, Nat.reduceLT, Nat.reduceBEq, boxR, idxR, loadR, storeR, readSl, lenR, sliceR, boundR, makeR, pureC, pureL, TD.isAgg, Int.reduceEq, Int.reduceNe, Int.reduceLT, Int.reduceLE, Int.reduceGT, Int.reduceGE, Int.reduceToNat, Int.reduceSub, Int.reduceAdd, Int.reduceMul, likeL, likeP, eqLP, recC, noS_mk, trs_length, drs_length, ← Bool.decide_and, ← decide_not, e1, e2, e3, e4, e5, e6, e7, e8, headC])
      | with_reducible apply And.intro
      | rfl
      | (with_reducible (intro hh); first | (exfalso; omega) | skip))

theorem c108 (r : Rec) : ConSem Try.prog tab 108 [.agg (recC r)] [] (vb (recOk r)) [] := by
  rcases (by omega : (r.k < 1 ∨ 8 < r.k) ∨ r.k = 1 ∨ r.k = 2 ∨ r.k = 3 ∨ r.k = 4 ∨ r.k = 5 ∨ r.k = 6 ∨ r.k = 7 ∨ r.k = 8) with h | h | h | h | h | h | h | h | h
  · exact c108X r h _ _ rfl rfl
  · exact c108_1 r h _ _ rfl rfl
  · exact c108_2 r h _ _ rfl rfl
  · exact c108_3 r h _ _ rfl rfl
  · exact c108_4 r h _ _ rfl rfl
  · exact c108_5 r h _ _ rfl rfl
  · exact c108_6 r h _ _ rfl rfl
  · exact c108_7 r h _ _ rfl rfl
  · exact c108_8 r h _ _ rfl rfl
end Go.AW
