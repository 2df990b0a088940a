/- Small functions on records. -/
import Derived.Test.YtocalihefpafgaaAW
import Derived.Test.YtocalihefpafgaaR1
set_option maxRecDepth 100000
set_option maxHeartbeats 1000000
set_option linter.unusedSimpArgs false
set_option linter.unusedVariables false
namespace Go.AW
open Go.Proofs

def isCh (r : Rec) : Bool := decide (r.k = 1 ∨ r.k = 2)
/-- Does it change the page? -/
def isOf (x : Stm) (page : Int) : Bool := decide ((x.r.k = 1 ∨ x.r.k = 2) ∧ x.r.ch.p = page)
/-- Does it stand ahead? -/
def bef (x y : Stm) : Bool := if x.r.lsn = y.r.lsn then decide (x.node < y.node) else decide (x.r.lsn < y.r.lsn)

theorem c101 (r : Rec) : ConSem Try.prog tab 101 [.agg (recC r)] [] (vb (isCh r)) [] := by
  refine con_pure tabOk mixedOk Try.func101 rfl (by decide) (by kernel_rfl) (by show (1:Nat) ≤ _; decide) fun E hE => go_start ?_
  simp only [Try.f101, wk, upd, binR, ↓reduceIte, Nat.reduceEqDiff, reduceCtorEq, ofConst, ofCell, okCell, arI, cmpI, RetQ, RetM, finV, finC, finMV, finMC, resOf, V.w1, cellsV, refsC, refsO, callR, Nat.reduceAdd, Nat.reduceMul, Nat.reduceSub, Nat.reduceLeDiff, Nat.reduceLT, Nat.reduceBEq, boxR, idxR, loadR, storeR, readSl, lenR, sliceR, boundR, makeR, pureC, pureL, TD.isAgg, Int.reduceEq, Int.reduceNe, Int.reduceLT, Int.reduceLE, Int.reduceGT, Int.reduceGE, Int.reduceToNat, Int.reduceSub, Int.reduceAdd, Int.reduceMul, likeL, likeP, eqLP, recC]
  refine ⟨fun h => vbeq ?_, fun h => vbeq ?_⟩ <;> simp [isCh, h]

theorem c72 (x : Stm) (p : Int) : ConSem Try.prog tab 72 [.agg (stC x), vi .i64 p] [] (vb (isOf x p)) [] := by
  refine con_pure tabOk mixedOk Try.func72 rfl (by decide) (by kernel_rfl) (by show (2:Nat) ≤ _; decide) fun E hE => go_start ?_
  simp only [Try.f72, wk, upd, binR, ↓reduceIte, Nat.reduceEqDiff, reduceCtorEq, ofConst, ofCell, okCell, arI, cmpI, RetQ, RetM, finV, finC, finMV, finMC, resOf, V.w1, cellsV, refsC, refsO, callR, Nat.reduceAdd, Nat.reduceMul, Nat.reduceSub, Nat.reduceLeDiff, Nat.reduceLT, Nat.reduceBEq, boxR, idxR, loadR, storeR, readSl, lenR, sliceR, boundR, makeR, pureC, pureL, TD.isAgg, Int.reduceEq, Int.reduceNe, Int.reduceLT, Int.reduceLE, Int.reduceGT, Int.reduceGE, Int.reduceToNat, Int.reduceSub, Int.reduceAdd, Int.reduceMul, likeL, likeP, eqLP, recC, stC]
  repeat' (first | intro _ | apply And.intro)
  all_goals
    refine vbeq ?_
    simp [isOf, *]

theorem c107 (x y : Stm) : ConSem Try.prog tab 107 [.agg (stC x), .agg (stC y)] [] (vb (bef x y)) [] := by
  refine con_pure tabOk mixedOk Try.func107 rfl (by decide) (by kernel_rfl) (by show (2:Nat) ≤ _; decide) fun E hE => go_start ?_
  simp only [Try.f107, wk, upd, binR, ↓reduceIte, Nat.reduceEqDiff, reduceCtorEq, ofConst, ofCell, okCell, arI, cmpI, RetQ, RetM, finV, finC, finMV, finMC, resOf, V.w1, cellsV, refsC, refsO, callR, Nat.reduceAdd, Nat.reduceMul, Nat.reduceSub, Nat.reduceLeDiff, Nat.reduceLT, Nat.reduceBEq, boxR, idxR, loadR, storeR, readSl, lenR, sliceR, boundR, makeR, pureC, pureL, TD.isAgg, Int.reduceEq, Int.reduceNe, Int.reduceLT, Int.reduceLE, Int.reduceGT, Int.reduceGE, Int.reduceToNat, Int.reduceSub, Int.reduceAdd, Int.reduceMul, likeL, likeP, eqLP, recC, stC]
  refine call_by (c39 _ _ _ _) ?_
  simp only [wk, upd, binR, ↓reduceIte, Nat.reduceEqDiff, reduceCtorEq, ofConst, ofCell, okCell, arI, cmpI, RetQ, RetM, finV, finC, finMV, finMC, resOf, V.w1, cellsV, refsC, refsO, callR, Nat.reduceAdd, Nat.reduceMul, Nat.reduceSub, Nat.reduceLeDiff, Nat.reduceLT, Nat.reduceBEq, boxR, idxR, loadR, storeR, readSl, lenR, sliceR, boundR, makeR, pureC, pureL, TD.isAgg, Int.reduceEq, Int.reduceNe, Int.reduceLT, Int.reduceLE, Int.reduceGT, Int.reduceGE, Int.reduceToNat, Int.reduceSub, Int.reduceAdd, Int.reduceMul, likeL, likeP, eqLP, recC, stC]
  rfl

theorem c124 (k : Int) : ConSem Try.prog tab 124 [vi .i64 k] [] (vb (decide (1 ≤ k ∧ k ≤ 6))) [] := by
  refine con_pure tabOk mixedOk Try.func124 rfl (by decide) (by kernel_rfl) (by show (1:Nat) ≤ _; decide) fun E hE => go_start ?_
  simp only [Try.f124, wk, upd, binR, ↓reduceIte, Nat.reduceEqDiff, reduceCtorEq, ofConst, ofCell, okCell, arI, cmpI, RetQ, RetM, finV, finC, finMV, finMC, resOf, V.w1, cellsV, refsC, refsO, callR, Nat.reduceAdd, Nat.reduceMul, Nat.reduceSub, Nat.reduceLeDiff, Nat.reduceLT, Nat.reduceBEq, boxR, idxR, loadR, storeR, readSl, lenR, sliceR, boundR, makeR, pureC, pureL, TD.isAgg, Int.reduceEq, Int.reduceNe, Int.reduceLT, Int.reduceLE, Int.reduceGT, Int.reduceGE, Int.reduceToNat, Int.reduceSub, Int.reduceAdd, Int.reduceMul, likeL, likeP, eqLP]
  refine ⟨fun h => vbeq ?_, fun h => vbeq ?_⟩ <;> simp [h]

def headC (r : Rec) : List Ce := [.p (.int .i64 r.k), .p (.int .i64 r.txn), .p (.int .i64 r.save), .p (.int .u64 r.lsn), .p (.int .u64 r.prev), .p (.int .u64 r.next), .p (.int .u64 r.beg), .p (.int .i64 r.ch.k), .p (.int .i64 r.ch.p), .p (.int .i64 r.ch.s), .p (.str r.ch.o), .p (.str r.ch.n)]
theorem c122 (r : Rec) : ConSem Try.prog tab 122 [.agg (recC r)] [] (.agg (headC r)) [] := by
  refine con_pure tabOk mixedOk Try.func122 rfl (by decide) (by kernel_rfl) (by show (1:Nat) ≤ _; decide) fun E hE => go_start ?_
  simp only [Try.f122, wk, upd, binR, ↓reduceIte, Nat.reduceEqDiff, reduceCtorEq, ofConst, ofCell, okCell, arI, cmpI, RetQ, RetM, finV, finC, finMV, finMC, resOf, V.w1, cellsV, refsC, refsO, callR, Nat.reduceAdd, Nat.reduceMul, Nat.reduceSub, Nat.reduceLeDiff, Nat.reduceLT, Nat.reduceBEq, boxR, idxR, loadR, storeR, readSl, lenR, sliceR, boundR, makeR, pureC, pureL, TD.isAgg, Int.reduceEq, Int.reduceNe, Int.reduceLT, Int.reduceLE, Int.reduceGT, Int.reduceGE, Int.reduceToNat, Int.reduceSub, Int.reduceAdd, Int.reduceMul, likeL, likeP, eqLP, recC, headC]

theorem c114a (x : List PV) (xs : List (List PV)) (h : ∀ y ∈ x :: xs, y.length = 17) (hb : (xs.length + 1) * 200 ≤ 140737488355328) (hm : xs.length + 1 ≤ maxLen) : ConSem Try.prog tab 114 [vs (x :: xs)] [] (vs (x :: xs)) [] := by
  refine con_pure tabOk mixedOk Try.func114 rfl (by decide) (by kernel_rfl) (by show (1:Nat) ≤ _; decide) fun E hE => go_start ?_
  simp only [Try.f114, wk, upd, binR, ↓reduceIte, Nat.reduceEqDiff, reduceCtorEq, ofConst, ofCell, okCell, arI, cmpI, RetQ, RetM, finV, finC, finMV, finMC, resOf, V.w1, cellsV, refsC, refsO, callR, Nat.reduceAdd, Nat.reduceMul, Nat.reduceSub, Nat.reduceLeDiff, Nat.reduceLT, Nat.reduceBEq, boxR, idxR, loadR, storeR, readSl, lenR, sliceR, boundR, makeR, pureC, pureL, TD.isAgg, Int.reduceEq, Int.reduceNe, Int.reduceLT, Int.reduceLE, Int.reduceGT, Int.reduceGE, Int.reduceToNat, Int.reduceSub, Int.reduceAdd, Int.reduceMul, likeL, likeP, eqLP]
  exact ⟨⟨h x (by simp), fun y hy => h y (by simp [hy])⟩, hb, hm⟩
theorem c114n : ConSem Try.prog tab 114 [.one (.p .nilsl)] [] (vs []) [] := by
  refine con_pure tabOk mixedOk Try.func114 rfl (by decide) (by kernel_rfl) (by show (1:Nat) ≤ _; decide) fun E hE => go_start ?_
  simp only [Try.f114, wk, upd, binR, ↓reduceIte, Nat.reduceEqDiff, reduceCtorEq, ofConst, ofCell, okCell, arI, cmpI, RetQ, RetM, finV, finC, finMV, finMC, resOf, V.w1, cellsV, refsC, refsO, callR, Nat.reduceAdd, Nat.reduceMul, Nat.reduceSub, Nat.reduceLeDiff, Nat.reduceLT, Nat.reduceBEq, boxR, idxR, loadR, storeR, readSl, lenR, sliceR, boundR, makeR, pureC, pureL, TD.isAgg, Int.reduceEq, Int.reduceNe, Int.reduceLT, Int.reduceLE, Int.reduceGT, Int.reduceGE, Int.reduceToNat, Int.reduceSub, Int.reduceAdd, Int.reduceMul, likeL, likeP, eqLP]
theorem c114e : ConSem Try.prog tab 114 [.one (.p .nesl)] [] (vs []) [] := by
  refine con_pure tabOk mixedOk Try.func114 rfl (by decide) (by kernel_rfl) (by show (1:Nat) ≤ _; decide) fun E hE => go_start ?_
  simp only [Try.f114, wk, upd, binR, ↓reduceIte, Nat.reduceEqDiff, reduceCtorEq, ofConst, ofCell, okCell, arI, cmpI, RetQ, RetM, finV, finC, finMV, finMC, resOf, V.w1, cellsV, refsC, refsO, callR, Nat.reduceAdd, Nat.reduceMul, Nat.reduceSub, Nat.reduceLeDiff, Nat.reduceLT, Nat.reduceBEq, boxR, idxR, loadR, storeR, readSl, lenR, sliceR, boundR, makeR, pureC, pureL, TD.isAgg, Int.reduceEq, Int.reduceNe, Int.reduceLT, Int.reduceLE, Int.reduceGT, Int.reduceGE, Int.reduceToNat, Int.reduceSub, Int.reduceAdd, Int.reduceMul, likeL, likeP, eqLP]
  decide
theorem c114 (xs : List (List PV)) (h : ∀ y ∈ xs, y.length = 17) (hb : xs.length * 200 ≤ 140737488355328) (hm : xs.length ≤ maxLen) : ConSem Try.prog tab 114 [vs xs] [] (vs xs) [] := by
  cases xs with
  | nil => exact con_split c114n c114e
  | cons x xs => exact c114a x xs h hb hm
theorem c115a (x : List PV) (xs : List (List PV)) (h : ∀ y ∈ x :: xs, y.length = 5) (hb : (xs.length + 1) * 40 ≤ 140737488355328) (hm : xs.length + 1 ≤ maxLen) : ConSem Try.prog tab 115 [vs (x :: xs)] [] (vs (x :: xs)) [] := by
  refine con_pure tabOk mixedOk Try.func115 rfl (by decide) (by kernel_rfl) (by show (1:Nat) ≤ _; decide) fun E hE => go_start ?_
  simp only [Try.f115, wk, upd, binR, ↓reduceIte, Nat.reduceEqDiff, reduceCtorEq, ofConst, ofCell, okCell, arI, cmpI, RetQ, RetM, finV, finC, finMV, finMC, resOf, V.w1, cellsV, refsC, refsO, callR, Nat.reduceAdd, Nat.reduceMul, Nat.reduceSub, Nat.reduceLeDiff, Nat.reduceLT, Nat.reduceBEq, boxR, idxR, loadR, storeR, readSl, lenR, sliceR, boundR, makeR, pureC, pureL, TD.isAgg, Int.reduceEq, Int.reduceNe, Int.reduceLT, Int.reduceLE, Int.reduceGT, Int.reduceGE, Int.reduceToNat, Int.reduceSub, Int.reduceAdd, Int.reduceMul, likeL, likeP, eqLP]
  exact ⟨⟨h x (by simp), fun y hy => h y (by simp [hy])⟩, hb, hm⟩
theorem c115n : ConSem Try.prog tab 115 [.one (.p .nilsl)] [] (vs []) [] := by
  refine con_pure tabOk mixedOk Try.func115 rfl (by decide) (by kernel_rfl) (by show (1:Nat) ≤ _; decide) fun E hE => go_start ?_
  simp only [Try.f115, wk, upd, binR, ↓reduceIte, Nat.reduceEqDiff, reduceCtorEq, ofConst, ofCell, okCell, arI, cmpI, RetQ, RetM, finV, finC, finMV, finMC, resOf, V.w1, cellsV, refsC, refsO, callR, Nat.reduceAdd, Nat.reduceMul, Nat.reduceSub, Nat.reduceLeDiff, Nat.reduceLT, Nat.reduceBEq, boxR, idxR, loadR, storeR, readSl, lenR, sliceR, boundR, makeR, pureC, pureL, TD.isAgg, Int.reduceEq, Int.reduceNe, Int.reduceLT, Int.reduceLE, Int.reduceGT, Int.reduceGE, Int.reduceToNat, Int.reduceSub, Int.reduceAdd, Int.reduceMul, likeL, likeP, eqLP]
theorem c115e : ConSem Try.prog tab 115 [.one (.p .nesl)] [] (vs []) [] := by
  refine con_pure tabOk mixedOk Try.func115 rfl (by decide) (by kernel_rfl) (by show (1:Nat) ≤ _; decide) fun E hE => go_start ?_
  simp only [Try.f115, wk, upd, binR, ↓reduceIte, Nat.reduceEqDiff, reduceCtorEq, ofConst, ofCell, okCell, arI, cmpI, RetQ, RetM, finV, finC, finMV, finMC, resOf, V.w1, cellsV, refsC, refsO, callR, Nat.reduceAdd, Nat.reduceMul, Nat.reduceSub, Nat.reduceLeDiff, Nat.reduceLT, Nat.reduceBEq, boxR, idxR, loadR, storeR, readSl, lenR, sliceR, boundR, makeR, pureC, pureL, TD.isAgg, Int.reduceEq, Int.reduceNe, Int.reduceLT, Int.reduceLE, Int.reduceGT, Int.reduceGE, Int.reduceToNat, Int.reduceSub, Int.reduceAdd, Int.reduceMul, likeL, likeP, eqLP]
  decide
theorem c115 (xs : List (List PV)) (h : ∀ y ∈ xs, y.length = 5) (hb : xs.length * 40 ≤ 140737488355328) (hm : xs.length ≤ maxLen) : ConSem Try.prog tab 115 [vs xs] [] (vs xs) [] := by
  cases xs with
  | nil => exact con_split c115n c115e
  | cons x xs => exact c115a x xs h hb hm
theorem c116a (x : List PV) (xs : List (List PV)) (h : ∀ y ∈ x :: xs, y.length = 2) (hb : (xs.length + 1) * 16 ≤ 140737488355328) (hm : xs.length + 1 ≤ maxLen) : ConSem Try.prog tab 116 [vs (x :: xs)] [] (vs (x :: xs)) [] := by
  refine con_pure tabOk mixedOk Try.func116 rfl (by decide) (by kernel_rfl) (by show (1:Nat) ≤ _; decide) fun E hE => go_start ?_
  simp only [Try.f116, wk, upd, binR, ↓reduceIte, Nat.reduceEqDiff, reduceCtorEq, ofConst, ofCell, okCell, arI, cmpI, RetQ, RetM, finV, finC, finMV, finMC, resOf, V.w1, cellsV, refsC, refsO, callR, Nat.reduceAdd, Nat.reduceMul, Nat.reduceSub, Nat.reduceLeDiff, Nat.reduceLT, Nat.reduceBEq, boxR, idxR, loadR, storeR, readSl, lenR, sliceR, boundR, makeR, pureC, pureL, TD.isAgg, Int.reduceEq, Int.reduceNe, Int.reduceLT, Int.reduceLE, Int.reduceGT, Int.reduceGE, Int.reduceToNat, Int.reduceSub, Int.reduceAdd, Int.reduceMul, likeL, likeP, eqLP]
  exact ⟨⟨h x (by simp), fun y hy => h y (by simp [hy])⟩, hb, hm⟩
theorem c116n : ConSem Try.prog tab 116 [.one (.p .nilsl)] [] (vs []) [] := by
  refine con_pure tabOk mixedOk Try.func116 rfl (by decide) (by kernel_rfl) (by show (1:Nat) ≤ _; decide) fun E hE => go_start ?_
  simp only [Try.f116, wk, upd, binR, ↓reduceIte, Nat.reduceEqDiff, reduceCtorEq, ofConst, ofCell, okCell, arI, cmpI, RetQ, RetM, finV, finC, finMV, finMC, resOf, V.w1, cellsV, refsC, refsO, callR, Nat.reduceAdd, Nat.reduceMul, Nat.reduceSub, Nat.reduceLeDiff, Nat.reduceLT, Nat.reduceBEq, boxR, idxR, loadR, storeR, readSl, lenR, sliceR, boundR, makeR, pureC, pureL, TD.isAgg, Int.reduceEq, Int.reduceNe, Int.reduceLT, Int.reduceLE, Int.reduceGT, Int.reduceGE, Int.reduceToNat, Int.reduceSub, Int.reduceAdd, Int.reduceMul, likeL, likeP, eqLP]
theorem c116e : ConSem Try.prog tab 116 [.one (.p .nesl)] [] (vs []) [] := by
  refine con_pure tabOk mixedOk Try.func116 rfl (by decide) (by kernel_rfl) (by show (1:Nat) ≤ _; decide) fun E hE => go_start ?_
  simp only [Try.f116, wk, upd, binR, ↓reduceIte, Nat.reduceEqDiff, reduceCtorEq, ofConst, ofCell, okCell, arI, cmpI, RetQ, RetM, finV, finC, finMV, finMC, resOf, V.w1, cellsV, refsC, refsO, callR, Nat.reduceAdd, Nat.reduceMul, Nat.reduceSub, Nat.reduceLeDiff, Nat.reduceLT, Nat.reduceBEq, boxR, idxR, loadR, storeR, readSl, lenR, sliceR, boundR, makeR, pureC, pureL, TD.isAgg, Int.reduceEq, Int.reduceNe, Int.reduceLT, Int.reduceLE, Int.reduceGT, Int.reduceGE, Int.reduceToNat, Int.reduceSub, Int.reduceAdd, Int.reduceMul, likeL, likeP, eqLP]
  decide
theorem c116 (xs : List (List PV)) (h : ∀ y ∈ xs, y.length = 2) (hb : xs.length * 16 ≤ 140737488355328) (hm : xs.length ≤ maxLen) : ConSem Try.prog tab 116 [vs xs] [] (vs xs) [] := by
  cases xs with
  | nil => exact con_split c116n c116e
  | cons x xs => exact c116a x xs h hb hm

theorem reach_le : reachBytes ≤ 140737488355328 := by decide
theorem trs_rows {xs : List TRow} : ∀ y ∈ trs xs, y.length = 5 := by
  intro y hy; obtain ⟨n, _, rfl⟩ := List.mem_map.1 hy; rfl
theorem drs_rows {xs : List DRow} : ∀ y ∈ drs xs, y.length = 2 := by
  intro y hy; obtain ⟨n, _, rfl⟩ := List.mem_map.1 hy; rfl

theorem c105 (r : Rec) (hr : RecS r) : ConSem Try.prog tab 105 [.agg (recC r)] [] (.agg (recC r)) [] := by
  refine con_pure tabOk mixedOk Try.func105 rfl (by decide) (by kernel_rfl) (by show (1:Nat) ≤ _; decide) fun E hE => go_start ?_
  have hle := reach_le
  simp only [Try.f105, wk, upd, binR, ↓reduceIte, Nat.reduceEqDiff, reduceCtorEq, ofConst, ofCell, okCell, arI, cmpI, RetQ, RetM, finV, finC, finMV, finMC, resOf, V.w1, cellsV, refsC, refsO, callR, Nat.reduceAdd, Nat.reduceMul, Nat.reduceSub, Nat.reduceLeDiff, Nat.reduceLT, Nat.reduceBEq, boxR, idxR, loadR, storeR, readSl, lenR, sliceR, boundR, makeR, pureC, pureL, TD.isAgg, Int.reduceEq, Int.reduceNe, Int.reduceLT, Int.reduceLE, Int.reduceGT, Int.reduceGE, Int.reduceToNat, Int.reduceSub, Int.reduceAdd, Int.reduceMul, likeL, likeP, eqLP, recC]
  refine call_by (c115 (trs r.ts) trs_rows (by rw [trs_length]; have := hr.ts.1; omega) (by rw [trs_length]; exact hr.ts.2)) ?_
  simp only [wk, upd, binR, ↓reduceIte, Nat.reduceEqDiff, reduceCtorEq, ofConst, ofCell, okCell, arI, cmpI, RetQ, RetM, finV, finC, finMV, finMC, resOf, V.w1, cellsV, refsC, refsO, callR, Nat.reduceAdd, Nat.reduceMul, Nat.reduceSub, Nat.reduceLeDiff, Nat.reduceLT, Nat.reduceBEq, boxR, idxR, loadR, storeR, readSl, lenR, sliceR, boundR, makeR, pureC, pureL, TD.isAgg, Int.reduceEq, Int.reduceNe, Int.reduceLT, Int.reduceLE, Int.reduceGT, Int.reduceGE, Int.reduceToNat, Int.reduceSub, Int.reduceAdd, Int.reduceMul, likeL, likeP, eqLP, recC]
  refine call_by (c116 (drs r.ds) drs_rows (by rw [drs_length]; have := hr.ds.1; omega) (by rw [drs_length]; exact hr.ds.2)) ?_
  simp only [wk, upd, binR, ↓reduceIte, Nat.reduceEqDiff, reduceCtorEq, ofConst, ofCell, okCell, arI, cmpI, RetQ, RetM, finV, finC, finMV, finMC, resOf, V.w1, cellsV, refsC, refsO, callR, Nat.reduceAdd, Nat.reduceMul, Nat.reduceSub, Nat.reduceLeDiff, Nat.reduceLT, Nat.reduceBEq, boxR, idxR, loadR, storeR, readSl, lenR, sliceR, boundR, makeR, pureC, pureL, TD.isAgg, Int.reduceEq, Int.reduceNe, Int.reduceLT, Int.reduceLE, Int.reduceGT, Int.reduceGE, Int.reduceToNat, Int.reduceSub, Int.reduceAdd, Int.reduceMul, likeL, likeP, eqLP, recC]
  rfl
end Go.AW
