/- The change of one cell into another one; the law Makes. -/
import Derived.Test.YtocalihefpafgaaAW
import Derived.Test.YtocalihefpafgaaC8
set_option maxRecDepth 100000
set_option linter.unusedSimpArgs false
set_option linter.unusedVariables false
namespace Go.AW
open Go.Proofs

def ofK (f t : Cel) : Int := if t.1 = false then 3 else if f.1 = false then 1 else 2
def ofC (p s : Int) (f t : Cel) : Chg := ⟨ofK f t, p, s, f.2, t.2⟩
def ofF (p s : Int) (f t : Cel) : Chg × Int :=
  if (f.1 = false ∧ f.2 ≠ noS) ∨ chOk (ofC p s f t) = false then (noChg, 1) else if f.1 = false ∧ t.1 = false then (noChg, 5) else (ofC p s f t, 0)

def celC (c : Cel) : List Ce := [.p (.bool c.1), .p (.str c.2)]

theorem c59 (p s : Int) (f t : Cel) : ConSem Try.prog tab 59 [vi .i64 p, vi .i64 s, .agg (celC f), .agg (celC t)] [] (.tup [.agg (chC (ofF p s f t).1), .one (.p (.int .i64 (ofF p s f t).2))]) [] := by
  refine con_pure tabOk mixedOk Try.func59 rfl (by decide) (by kernel_rfl) (by show (4:Nat) ≤ _; decide) fun E hE => go_start ?_
  obtain ⟨fu, fv⟩ := f
  obtain ⟨tu, tv⟩ := t
  have h1 := c50 (ofC p s (fu, fv) (tu, tv))
  have hr : ∀ (a : Chg) (e : Int), ofF p s (fu, fv) (tu, tv) = (a, e) → V.tup [W1.agg (chC a), W1.one (Ce.p (PV.int .i64 e))] = V.tup [W1.agg (chC (ofF p s (fu, fv) (tu, tv)).1), W1.one (Ce.p (PV.int .i64 (ofF p s (fu, fv) (tu, tv)).2))] := fun a e h => by rw [h]
  generalize V.tup [W1.agg (chC (ofF p s (fu, fv) (tu, tv)).1), W1.one (Ce.p (PV.int .i64 (ofF p s (fu, fv) (tu, tv)).2))] = X at hr ⊢
  cases fu <;> cases tu <;> simp only [Try.f59, wk, upd, binR, ↓reduceIte, Nat.reduceEqDiff, reduceCtorEq, ofConst, ofCell, okCell, arI, cmpI, RetQ, RetM, finV, finC, finMV, finMC, resOf, V.w1, cellsV, refsC, refsO, callR, Nat.reduceAdd, Nat.reduceMul, Nat.reduceSub, Nat.reduceLeDiff, Nat.reduceLT, Nat.reduceBEq, boxR, idxR, loadR, storeR, readSl, lenR, sliceR, boundR, makeR, pureC, pureL, TD.isAgg, Int.reduceEq, Int.reduceNe, Int.reduceLT, Int.reduceLE, Int.reduceGT, Int.reduceGE, Int.reduceToNat, Int.reduceSub, Int.reduceAdd, Int.reduceMul, likeL, likeP, eqLP, celC, noS_mk]
  · by_cases hn : fv = noS
    · simp only [wk, upd, binR, ↓reduceIte, Nat.reduceEqDiff, reduceCtorEq, ofConst, ofCell, okCell, arI, cmpI, RetQ, RetM, finV, finC, finMV, finMC, resOf, V.w1, cellsV, refsC, refsO, callR, Nat.reduceAdd, Nat.reduceMul, Nat.reduceSub, Nat.reduceLeDiff, Nat.reduceLT, Nat.reduceBEq, boxR, idxR, loadR, storeR, readSl, lenR, sliceR, boundR, makeR, pureC, pureL, TD.isAgg, Int.reduceEq, Int.reduceNe, Int.reduceLT, Int.reduceLE, Int.reduceGT, Int.reduceGE, Int.reduceToNat, Int.reduceSub, Int.reduceAdd, Int.reduceMul, likeL, likeP, eqLP, celC, noS_mk, hn]
      subst hn
      refine call_by h1 ?_
      cases hc : chOk (ofC p s (false, noS) (false, tv)) <;> simp only [wk, upd, binR, ↓reduceIte, Nat.reduceEqDiff, reduceCtorEq, ofConst, ofCell, okCell, arI, cmpI, RetQ, RetM, finV, finC, finMV, finMC, resOf, V.w1, cellsV, refsC, refsO, callR, Nat.reduceAdd, Nat.reduceMul, Nat.reduceSub, Nat.reduceLeDiff, Nat.reduceLT, Nat.reduceBEq, boxR, idxR, loadR, storeR, readSl, lenR, sliceR, boundR, makeR, pureC, pureL, TD.isAgg, Int.reduceEq, Int.reduceNe, Int.reduceLT, Int.reduceLE, Int.reduceGT, Int.reduceGE, Int.reduceToNat, Int.reduceSub, Int.reduceAdd, Int.reduceMul, likeL, likeP, eqLP, celC, noS_mk]
      · exact hr noChg 1 (by simp [ofF, hc])
      · exact hr noChg 5 (by simp [ofF, hc])
    · simp only [wk, upd, binR, ↓reduceIte, Nat.reduceEqDiff, reduceCtorEq, ofConst, ofCell, okCell, arI, cmpI, RetQ, RetM, finV, finC, finMV, finMC, resOf, V.w1, cellsV, refsC, refsO, callR, Nat.reduceAdd, Nat.reduceMul, Nat.reduceSub, Nat.reduceLeDiff, Nat.reduceLT, Nat.reduceBEq, boxR, idxR, loadR, storeR, readSl, lenR, sliceR, boundR, makeR, pureC, pureL, TD.isAgg, Int.reduceEq, Int.reduceNe, Int.reduceLT, Int.reduceLE, Int.reduceGT, Int.reduceGE, Int.reduceToNat, Int.reduceSub, Int.reduceAdd, Int.reduceMul, likeL, likeP, eqLP, celC, noS_mk, hn]
      exact hr noChg 1 (by simp [ofF, hn])
  · by_cases hn : fv = noS
    · simp only [wk, upd, binR, ↓reduceIte, Nat.reduceEqDiff, reduceCtorEq, ofConst, ofCell, okCell, arI, cmpI, RetQ, RetM, finV, finC, finMV, finMC, resOf, V.w1, cellsV, refsC, refsO, callR, Nat.reduceAdd, Nat.reduceMul, Nat.reduceSub, Nat.reduceLeDiff, Nat.reduceLT, Nat.reduceBEq, boxR, idxR, loadR, storeR, readSl, lenR, sliceR, boundR, makeR, pureC, pureL, TD.isAgg, Int.reduceEq, Int.reduceNe, Int.reduceLT, Int.reduceLE, Int.reduceGT, Int.reduceGE, Int.reduceToNat, Int.reduceSub, Int.reduceAdd, Int.reduceMul, likeL, likeP, eqLP, celC, noS_mk, hn]
      subst hn
      refine call_by h1 ?_
      cases hc : chOk (ofC p s (false, noS) (true, tv)) <;> simp only [wk, upd, binR, ↓reduceIte, Nat.reduceEqDiff, reduceCtorEq, ofConst, ofCell, okCell, arI, cmpI, RetQ, RetM, finV, finC, finMV, finMC, resOf, V.w1, cellsV, refsC, refsO, callR, Nat.reduceAdd, Nat.reduceMul, Nat.reduceSub, Nat.reduceLeDiff, Nat.reduceLT, Nat.reduceBEq, boxR, idxR, loadR, storeR, readSl, lenR, sliceR, boundR, makeR, pureC, pureL, TD.isAgg, Int.reduceEq, Int.reduceNe, Int.reduceLT, Int.reduceLE, Int.reduceGT, Int.reduceGE, Int.reduceToNat, Int.reduceSub, Int.reduceAdd, Int.reduceMul, likeL, likeP, eqLP, celC, noS_mk]
      · exact hr noChg 1 (by simp [ofF, hc])
      · exact hr (ofC p s (false, noS) (true, tv)) 0 (by simp [ofF, hc])
    · simp only [wk, upd, binR, ↓reduceIte, Nat.reduceEqDiff, reduceCtorEq, ofConst, ofCell, okCell, arI, cmpI, RetQ, RetM, finV, finC, finMV, finMC, resOf, V.w1, cellsV, refsC, refsO, callR, Nat.reduceAdd, Nat.reduceMul, Nat.reduceSub, Nat.reduceLeDiff, Nat.reduceLT, Nat.reduceBEq, boxR, idxR, loadR, storeR, readSl, lenR, sliceR, boundR, makeR, pureC, pureL, TD.isAgg, Int.reduceEq, Int.reduceNe, Int.reduceLT, Int.reduceLE, Int.reduceGT, Int.reduceGE, Int.reduceToNat, Int.reduceSub, Int.reduceAdd, Int.reduceMul, likeL, likeP, eqLP, celC, noS_mk, hn]
      exact hr noChg 1 (by simp [ofF, hn])
  · refine call_by h1 ?_
    cases hc : chOk (ofC p s (true, fv) (false, tv)) <;> simp only [wk, upd, binR, ↓reduceIte, Nat.reduceEqDiff, reduceCtorEq, ofConst, ofCell, okCell, arI, cmpI, RetQ, RetM, finV, finC, finMV, finMC, resOf, V.w1, cellsV, refsC, refsO, callR, Nat.reduceAdd, Nat.reduceMul, Nat.reduceSub, Nat.reduceLeDiff, Nat.reduceLT, Nat.reduceBEq, boxR, idxR, loadR, storeR, readSl, lenR, sliceR, boundR, makeR, pureC, pureL, TD.isAgg, Int.reduceEq, Int.reduceNe, Int.reduceLT, Int.reduceLE, Int.reduceGT, Int.reduceGE, Int.reduceToNat, Int.reduceSub, Int.reduceAdd, Int.reduceMul, likeL, likeP, eqLP, celC, noS_mk]
    · exact hr noChg 1 (by simp [ofF, hc])
    · exact hr (ofC p s (true, fv) (false, tv)) 0 (by simp [ofF, hc])
  · refine call_by h1 ?_
    cases hc : chOk (ofC p s (true, fv) (true, tv)) <;> simp only [wk, upd, binR, ↓reduceIte, Nat.reduceEqDiff, reduceCtorEq, ofConst, ofCell, okCell, arI, cmpI, RetQ, RetM, finV, finC, finMV, finMC, resOf, V.w1, cellsV, refsC, refsO, callR, Nat.reduceAdd, Nat.reduceMul, Nat.reduceSub, Nat.reduceLeDiff, Nat.reduceLT, Nat.reduceBEq, boxR, idxR, loadR, storeR, readSl, lenR, sliceR, boundR, makeR, pureC, pureL, TD.isAgg, Int.reduceEq, Int.reduceNe, Int.reduceLT, Int.reduceLE, Int.reduceGT, Int.reduceGE, Int.reduceToNat, Int.reduceSub, Int.reduceAdd, Int.reduceMul, likeL, likeP, eqLP, celC, noS_mk]
    · exact hr noChg 1 (by simp [ofF, hc])
    · exact hr (ofC p s (true, fv) (true, tv)) 0 (by simp [ofF, hc])

theorem chOk_del {p s : Int} {f : Cel} {tv : ByteArray} (h : tv ≠ noS) : chOk (ofC p s f (false, tv)) = false := by
  cases hc : chOk (ofC p s f (false, tv)) with
  | false => rfl
  | true =>
    have := (chOk_iff _).1 hc
    simp [ofC, ofK] at this
    exact absurd this.2 h

theorem c60 (p s : Int) (f t : Cel) : ConSem Try.prog tab 60 [vi .i64 p, vi .i64 s, .agg (celC f), .agg (celC t)] [] (.tup [.agg (chC (ofF p s f t).1), .one (.p (.int .i64 (ofF p s f t).2))]) [] := by
  refine con_pure tabOk mixedOk Try.func60 rfl (by decide) (by kernel_rfl) (by show (4:Nat) ≤ _; decide) fun E hE => go_start ?_
  obtain ⟨fu, fv⟩ := f
  obtain ⟨tu, tv⟩ := t
  have h1 := c51 (ofC p s (fu, fv) (tu, tv))
  have hr : ∀ (a : Chg) (e : Int), ofF p s (fu, fv) (tu, tv) = (a, e) → V.tup [W1.agg (chC a), W1.one (Ce.p (PV.int .i64 e))] = V.tup [W1.agg (chC (ofF p s (fu, fv) (tu, tv)).1), W1.one (Ce.p (PV.int .i64 (ofF p s (fu, fv) (tu, tv)).2))] := fun a e h => by rw [h]
  generalize V.tup [W1.agg (chC (ofF p s (fu, fv) (tu, tv)).1), W1.one (Ce.p (PV.int .i64 (ofF p s (fu, fv) (tu, tv)).2))] = X at hr ⊢
  cases fu <;> cases tu <;> simp only [Try.f60, wk, upd, binR, ↓reduceIte, Nat.reduceEqDiff, reduceCtorEq, ofConst, ofCell, okCell, arI, cmpI, RetQ, RetM, finV, finC, finMV, finMC, resOf, V.w1, cellsV, refsC, refsO, callR, Nat.reduceAdd, Nat.reduceMul, Nat.reduceSub, Nat.reduceLeDiff, Nat.reduceLT, Nat.reduceBEq, boxR, idxR, loadR, storeR, readSl, lenR, sliceR, boundR, makeR, pureC, pureL, TD.isAgg, Int.reduceEq, Int.reduceNe, Int.reduceLT, Int.reduceLE, Int.reduceGT, Int.reduceGE, Int.reduceToNat, Int.reduceSub, Int.reduceAdd, Int.reduceMul, likeL, likeP, eqLP, celC, noS_mk]
  · by_cases hn : fv = noS
    · by_cases hm : tv = noS
      · simp only [wk, upd, binR, ↓reduceIte, Nat.reduceEqDiff, reduceCtorEq, ofConst, ofCell, okCell, arI, cmpI, RetQ, RetM, finV, finC, finMV, finMC, resOf, V.w1, cellsV, refsC, refsO, callR, Nat.reduceAdd, Nat.reduceMul, Nat.reduceSub, Nat.reduceLeDiff, Nat.reduceLT, Nat.reduceBEq, boxR, idxR, loadR, storeR, readSl, lenR, sliceR, boundR, makeR, pureC, pureL, TD.isAgg, Int.reduceEq, Int.reduceNe, Int.reduceLT, Int.reduceLE, Int.reduceGT, Int.reduceGE, Int.reduceToNat, Int.reduceSub, Int.reduceAdd, Int.reduceMul, likeL, likeP, eqLP, celC, noS_mk, hn, hm]
        subst hn hm
        refine call_by h1 ?_
        cases hc : chOk (ofC p s (false, noS) (false, noS)) <;> simp only [wk, upd, binR, ↓reduceIte, Nat.reduceEqDiff, reduceCtorEq, ofConst, ofCell, okCell, arI, cmpI, RetQ, RetM, finV, finC, finMV, finMC, resOf, V.w1, cellsV, refsC, refsO, callR, Nat.reduceAdd, Nat.reduceMul, Nat.reduceSub, Nat.reduceLeDiff, Nat.reduceLT, Nat.reduceBEq, boxR, idxR, loadR, storeR, readSl, lenR, sliceR, boundR, makeR, pureC, pureL, TD.isAgg, Int.reduceEq, Int.reduceNe, Int.reduceLT, Int.reduceLE, Int.reduceGT, Int.reduceGE, Int.reduceToNat, Int.reduceSub, Int.reduceAdd, Int.reduceMul, likeL, likeP, eqLP, celC, noS_mk]
        · exact hr noChg 1 (by simp [ofF, hc])
        · exact hr noChg 5 (by simp [ofF, hc])
      · simp only [wk, upd, binR, ↓reduceIte, Nat.reduceEqDiff, reduceCtorEq, ofConst, ofCell, okCell, arI, cmpI, RetQ, RetM, finV, finC, finMV, finMC, resOf, V.w1, cellsV, refsC, refsO, callR, Nat.reduceAdd, Nat.reduceMul, Nat.reduceSub, Nat.reduceLeDiff, Nat.reduceLT, Nat.reduceBEq, boxR, idxR, loadR, storeR, readSl, lenR, sliceR, boundR, makeR, pureC, pureL, TD.isAgg, Int.reduceEq, Int.reduceNe, Int.reduceLT, Int.reduceLE, Int.reduceGT, Int.reduceGE, Int.reduceToNat, Int.reduceSub, Int.reduceAdd, Int.reduceMul, likeL, likeP, eqLP, celC, noS_mk, hn, hm]
        exact hr noChg 1 (by simp [ofF, chOk_del hm])
    · simp only [wk, upd, binR, ↓reduceIte, Nat.reduceEqDiff, reduceCtorEq, ofConst, ofCell, okCell, arI, cmpI, RetQ, RetM, finV, finC, finMV, finMC, resOf, V.w1, cellsV, refsC, refsO, callR, Nat.reduceAdd, Nat.reduceMul, Nat.reduceSub, Nat.reduceLeDiff, Nat.reduceLT, Nat.reduceBEq, boxR, idxR, loadR, storeR, readSl, lenR, sliceR, boundR, makeR, pureC, pureL, TD.isAgg, Int.reduceEq, Int.reduceNe, Int.reduceLT, Int.reduceLE, Int.reduceGT, Int.reduceGE, Int.reduceToNat, Int.reduceSub, Int.reduceAdd, Int.reduceMul, likeL, likeP, eqLP, celC, noS_mk, hn]
      exact hr noChg 1 (by simp [ofF, hn])
  · by_cases hn : fv = noS
    · simp only [wk, upd, binR, ↓reduceIte, Nat.reduceEqDiff, reduceCtorEq, ofConst, ofCell, okCell, arI, cmpI, RetQ, RetM, finV, finC, finMV, finMC, resOf, V.w1, cellsV, refsC, refsO, callR, Nat.reduceAdd, Nat.reduceMul, Nat.reduceSub, Nat.reduceLeDiff, Nat.reduceLT, Nat.reduceBEq, boxR, idxR, loadR, storeR, readSl, lenR, sliceR, boundR, makeR, pureC, pureL, TD.isAgg, Int.reduceEq, Int.reduceNe, Int.reduceLT, Int.reduceLE, Int.reduceGT, Int.reduceGE, Int.reduceToNat, Int.reduceSub, Int.reduceAdd, Int.reduceMul, likeL, likeP, eqLP, celC, noS_mk, hn]
      subst hn
      refine call_by h1 ?_
      cases hc : chOk (ofC p s (false, noS) (true, tv)) <;> simp only [wk, upd, binR, ↓reduceIte, Nat.reduceEqDiff, reduceCtorEq, ofConst, ofCell, okCell, arI, cmpI, RetQ, RetM, finV, finC, finMV, finMC, resOf, V.w1, cellsV, refsC, refsO, callR, Nat.reduceAdd, Nat.reduceMul, Nat.reduceSub, Nat.reduceLeDiff, Nat.reduceLT, Nat.reduceBEq, boxR, idxR, loadR, storeR, readSl, lenR, sliceR, boundR, makeR, pureC, pureL, TD.isAgg, Int.reduceEq, Int.reduceNe, Int.reduceLT, Int.reduceLE, Int.reduceGT, Int.reduceGE, Int.reduceToNat, Int.reduceSub, Int.reduceAdd, Int.reduceMul, likeL, likeP, eqLP, celC, noS_mk]
      · exact hr noChg 1 (by simp [ofF, hc])
      · exact hr (ofC p s (false, noS) (true, tv)) 0 (by simp [ofF, hc])
    · simp only [wk, upd, binR, ↓reduceIte, Nat.reduceEqDiff, reduceCtorEq, ofConst, ofCell, okCell, arI, cmpI, RetQ, RetM, finV, finC, finMV, finMC, resOf, V.w1, cellsV, refsC, refsO, callR, Nat.reduceAdd, Nat.reduceMul, Nat.reduceSub, Nat.reduceLeDiff, Nat.reduceLT, Nat.reduceBEq, boxR, idxR, loadR, storeR, readSl, lenR, sliceR, boundR, makeR, pureC, pureL, TD.isAgg, Int.reduceEq, Int.reduceNe, Int.reduceLT, Int.reduceLE, Int.reduceGT, Int.reduceGE, Int.reduceToNat, Int.reduceSub, Int.reduceAdd, Int.reduceMul, likeL, likeP, eqLP, celC, noS_mk, hn]
      exact hr noChg 1 (by simp [ofF, hn])
  · by_cases hm : tv = noS
    · simp only [wk, upd, binR, ↓reduceIte, Nat.reduceEqDiff, reduceCtorEq, ofConst, ofCell, okCell, arI, cmpI, RetQ, RetM, finV, finC, finMV, finMC, resOf, V.w1, cellsV, refsC, refsO, callR, Nat.reduceAdd, Nat.reduceMul, Nat.reduceSub, Nat.reduceLeDiff, Nat.reduceLT, Nat.reduceBEq, boxR, idxR, loadR, storeR, readSl, lenR, sliceR, boundR, makeR, pureC, pureL, TD.isAgg, Int.reduceEq, Int.reduceNe, Int.reduceLT, Int.reduceLE, Int.reduceGT, Int.reduceGE, Int.reduceToNat, Int.reduceSub, Int.reduceAdd, Int.reduceMul, likeL, likeP, eqLP, celC, noS_mk, hm]
      subst hm
      refine call_by h1 ?_
      cases hc : chOk (ofC p s (true, fv) (false, noS)) <;> simp only [wk, upd, binR, ↓reduceIte, Nat.reduceEqDiff, reduceCtorEq, ofConst, ofCell, okCell, arI, cmpI, RetQ, RetM, finV, finC, finMV, finMC, resOf, V.w1, cellsV, refsC, refsO, callR, Nat.reduceAdd, Nat.reduceMul, Nat.reduceSub, Nat.reduceLeDiff, Nat.reduceLT, Nat.reduceBEq, boxR, idxR, loadR, storeR, readSl, lenR, sliceR, boundR, makeR, pureC, pureL, TD.isAgg, Int.reduceEq, Int.reduceNe, Int.reduceLT, Int.reduceLE, Int.reduceGT, Int.reduceGE, Int.reduceToNat, Int.reduceSub, Int.reduceAdd, Int.reduceMul, likeL, likeP, eqLP, celC, noS_mk]
      · exact hr noChg 1 (by simp [ofF, hc])
      · exact hr (ofC p s (true, fv) (false, noS)) 0 (by simp [ofF, hc])
    · simp only [wk, upd, binR, ↓reduceIte, Nat.reduceEqDiff, reduceCtorEq, ofConst, ofCell, okCell, arI, cmpI, RetQ, RetM, finV, finC, finMV, finMC, resOf, V.w1, cellsV, refsC, refsO, callR, Nat.reduceAdd, Nat.reduceMul, Nat.reduceSub, Nat.reduceLeDiff, Nat.reduceLT, Nat.reduceBEq, boxR, idxR, loadR, storeR, readSl, lenR, sliceR, boundR, makeR, pureC, pureL, TD.isAgg, Int.reduceEq, Int.reduceNe, Int.reduceLT, Int.reduceLE, Int.reduceGT, Int.reduceGE, Int.reduceToNat, Int.reduceSub, Int.reduceAdd, Int.reduceMul, likeL, likeP, eqLP, celC, noS_mk, hm]
      exact hr noChg 1 (by simp [ofF, chOk_del hm])
  · refine call_by h1 ?_
    cases hc : chOk (ofC p s (true, fv) (true, tv)) <;> simp only [wk, upd, binR, ↓reduceIte, Nat.reduceEqDiff, reduceCtorEq, ofConst, ofCell, okCell, arI, cmpI, RetQ, RetM, finV, finC, finMV, finMC, resOf, V.w1, cellsV, refsC, refsO, callR, Nat.reduceAdd, Nat.reduceMul, Nat.reduceSub, Nat.reduceLeDiff, Nat.reduceLT, Nat.reduceBEq, boxR, idxR, loadR, storeR, readSl, lenR, sliceR, boundR, makeR, pureC, pureL, TD.isAgg, Int.reduceEq, Int.reduceNe, Int.reduceLT, Int.reduceLE, Int.reduceGT, Int.reduceGE, Int.reduceToNat, Int.reduceSub, Int.reduceAdd, Int.reduceMul, likeL, likeP, eqLP, celC, noS_mk]
    · exact hr noChg 1 (by simp [ofF, hc])
    · exact hr (ofC p s (true, fv) (true, tv)) 0 (by simp [ofF, hc])

theorem zero17 : [Ce.p (.int .u64 0), .p (.bool false), .p (.str noS), .p (.bool false), .p (.str noS), .p (.bool false), .p (.str noS), .p (.bool false), .p (.str noS), .p (.bool false), .p (.str noS), .p (.bool false), .p (.str noS), .p (.bool false), .p (.str noS), .p (.bool false), .p (.str noS)] = pgC 0 noCels := rfl

theorem ofF_cases (p s : Int) (f t : Cel) : ((ofF p s f t).2 ≠ 0) ∨ (ofF p s f t = (ofC p s f t, 0) ∧ chOk (ofC p s f t) = true ∧ (f.1 = false → f.2 = noS) ∧ ¬ (f.1 = false ∧ t.1 = false)) := by
  unfold ofF
  by_cases h1 : (f.1 = false ∧ f.2 ≠ noS) ∨ chOk (ofC p s f t) = false
  · left; rw [if_pos h1]; decide
  · rw [if_neg h1]
    by_cases h2 : f.1 = false ∧ t.1 = false
    · left; rw [if_pos h2]; decide
    · right
      rw [if_neg h2]
      refine ⟨rfl, ?_, ?_, h2⟩
      · cases hc : chOk (ofC p s f t) with
        | true => rfl
        | false => exact absurd (.inr hc) h1
      · intro hf
        by_cases hn : f.2 = noS
        · exact hn
        · exact absurd (.inl ⟨hf, hn⟩) h1

/-- A change that was told of two cells makes the one the other one. -/
theorem ofC_fits {p : Int} {j : Nat} {f t : Cel} {l n : Int} {cs : List Cel} (hc : chOk (ofC p j f t) = true) (hf : f.1 = false → f.2 = noS) (hn : ¬ (f.1 = false ∧ t.1 = false)) (hj : j < cs.length)
    (hp : pgOk l cs = true) (hcs : cs.getD j noCel = f) (h1 : l < n) (h2 : n ≤ maxL) : Fits l cs (ofC p j f t) n ∧ apF l cs (ofC p j f t) n = (n, cs.set j t, 0) := by
  have hk : (f.1 = decide (ofK f t ≠ 1)) ∧ (decide (ofK f t ≠ 3) = t.1) := by
    unfold ofK
    obtain ⟨fu, fv⟩ := f
    obtain ⟨tu, tv⟩ := t
    cases fu <;> cases tu <;> simp at hn ⊢
  have hfit : Fits l cs (ofC p j f t) n := ⟨hp, hc, h2, h1, by show (cs.getD (Int.toNat j) noCel).1 = _; rw [Int.toNat_natCast, hcs]; exact hk.1, by show (cs.getD (Int.toNat j) noCel).2 = _; rw [Int.toNat_natCast, hcs]; rfl⟩
  refine ⟨hfit, ?_⟩
  rw [apF_fits hfit]
  show (n, cs.set (Int.toNat j) (decide (ofK f t ≠ 3), t.2), 0) = _
  rw [Int.toNat_natCast, hk.2]

theorem c16 (p s : Int) (f t : Cel) : ConSem Try.prog tab 16 [vi .i64 p, vi .i64 s, .agg (celC f), .agg (celC t)] [] (vb true) [] := by
  refine con_pure tabOk mixedOk Try.func16 rfl (by decide) (by kernel_rfl) (by show (4:Nat) ≤ _; decide) fun E hE => go_start ?_
  have h1 := c59 p s f t
  have h2 := c60 p s f t
  simp only [Try.f16, wk, upd, binR, ↓reduceIte, Nat.reduceEqDiff, reduceCtorEq, ofConst, ofCell, okCell, arI, cmpI, RetQ, RetM, finV, finC, finMV, finMC, resOf, V.w1, cellsV, refsC, refsO, callR, Nat.reduceAdd, Nat.reduceMul, Nat.reduceSub, Nat.reduceLeDiff, Nat.reduceLT, Nat.reduceBEq, boxR, idxR, loadR, storeR, readSl, lenR, sliceR, boundR, makeR, pureC, pureL, TD.isAgg, Int.reduceEq, Int.reduceNe, Int.reduceLT, Int.reduceLE, Int.reduceGT, Int.reduceGE, Int.reduceToNat, Int.reduceSub, Int.reduceAdd, Int.reduceMul, likeL, likeP, eqLP, celC]
  refine call_by c47 ?_
  simp only [wk, upd, binR, ↓reduceIte, Nat.reduceEqDiff, reduceCtorEq, ofConst, ofCell, okCell, arI, cmpI, RetQ, RetM, finV, finC, finMV, finMC, resOf, V.w1, cellsV, refsC, refsO, callR, Nat.reduceAdd, Nat.reduceMul, Nat.reduceSub, Nat.reduceLeDiff, Nat.reduceLT, Nat.reduceBEq, boxR, idxR, loadR, storeR, readSl, lenR, sliceR, boundR, makeR, pureC, pureL, TD.isAgg, Int.reduceEq, Int.reduceNe, Int.reduceLT, Int.reduceLE, Int.reduceGT, Int.reduceGE, Int.reduceToNat, Int.reduceSub, Int.reduceAdd, Int.reduceMul, likeL, likeP, eqLP, celC]
  rcases ofF_cases p s f t with hne | ⟨he, hc, hf, hn⟩
  · generalize ofF p s f t = x at h1 h2 hne
    obtain ⟨a, e⟩ := x
    simp only at h1 h2 hne
    refine call_by h1 ?_
    simp only [wk, upd, binR, ↓reduceIte, Nat.reduceEqDiff, reduceCtorEq, ofConst, ofCell, okCell, arI, cmpI, RetQ, RetM, finV, finC, finMV, finMC, resOf, V.w1, cellsV, refsC, refsO, callR, Nat.reduceAdd, Nat.reduceMul, Nat.reduceSub, Nat.reduceLeDiff, Nat.reduceLT, Nat.reduceBEq, boxR, idxR, loadR, storeR, readSl, lenR, sliceR, boundR, makeR, pureC, pureL, TD.isAgg, Int.reduceEq, Int.reduceNe, Int.reduceLT, Int.reduceLE, Int.reduceGT, Int.reduceGE, Int.reduceToNat, Int.reduceSub, Int.reduceAdd, Int.reduceMul, likeL, likeP, eqLP, celC, chC]
    refine call_by h2 ?_
    simp only [wk, upd, binR, ↓reduceIte, Nat.reduceEqDiff, reduceCtorEq, ofConst, ofCell, okCell, arI, cmpI, RetQ, RetM, finV, finC, finMV, finMC, resOf, V.w1, cellsV, refsC, refsO, callR, Nat.reduceAdd, Nat.reduceMul, Nat.reduceSub, Nat.reduceLeDiff, Nat.reduceLT, Nat.reduceBEq, boxR, idxR, loadR, storeR, readSl, lenR, sliceR, boundR, makeR, pureC, pureL, TD.isAgg, Int.reduceEq, Int.reduceNe, Int.reduceLT, Int.reduceLE, Int.reduceGT, Int.reduceGE, Int.reduceToNat, Int.reduceSub, Int.reduceAdd, Int.reduceMul, likeL, likeP, eqLP, celC, chC, hne]
  · rw [he] at h1 h2
    simp only at h1 h2
    have hci := ((chOk_iff _).1 hc).1
    obtain ⟨hp0, hp1, hs0, hs1, ho, hv⟩ := hci
    simp only [ofC] at hp0 hp1 hs0 hs1 ho hv
    obtain ⟨j, rfl⟩ : ∃ i : Nat, s = i := ⟨s.toNat, by omega⟩
    have hj : j < noCels.length := by show j < 8; omega
    obtain ⟨hfit, hap⟩ := ofC_fits (l := 0) (n := 1) (cs := noCels.set j f) hc hf hn (by simpa using hj) (pgOk_set (l := 0) (by decide) (by simp [celOk, ho]; cases hfu : f.1 <;> simp [hf, hfu]) (by decide)) (getD_set_eq hj _ _) (by decide) (by decide)
    have hl1 : (noCels.set j f).length = 8 := by simp [noCels]
    have h3 := c48 0 (noCels.set j f) hl1 (ofC p j f t) 1
    rw [hap, List.set_set] at h3
    have hl2 : (noCels.set j t).length = 8 := by simp [noCels]
    have hput := fun b s => pgC_put2 (l := 0) hj b s
    have hin : inR (↑j) 8 := ⟨by omega, by omega⟩
    have hle : 1 + j * 2 + 2 ≤ 17 := by omega
    have hl := (rfl : noCels.length = 8)
    have hcel := pgC_cel (l := 1) (cs := noCels.set j t) (i := j) (by simpa using hj)
    simp only [List.getElem_set_self] at hcel
    have hle2 : 1 + j * 2 ≤ 15 := by omega
    generalize ofC p j f t = d at h1 h2 h3
    obtain ⟨fu, fv⟩ := f
    obtain ⟨tu, tv⟩ := t
    refine call_by h1 ?_
    simp only [wk, upd, binR, ↓reduceIte, Nat.reduceEqDiff, reduceCtorEq, ofConst, ofCell, okCell, arI, cmpI, RetQ, RetM, finV, finC, finMV, finMC, resOf, V.w1, cellsV, refsC, refsO, callR, Nat.reduceAdd, Nat.reduceMul, Nat.reduceSub, Nat.reduceLeDiff, Nat.reduceLT, Nat.reduceBEq, boxR, idxR, loadR, storeR, readSl, lenR, sliceR, boundR, makeR, pureC, pureL, TD.isAgg, Int.reduceEq, Int.reduceNe, Int.reduceLT, Int.reduceLE, Int.reduceGT, Int.reduceGE, Int.reduceToNat, Int.reduceSub, Int.reduceAdd, Int.reduceMul, likeL, likeP, eqLP, celC, chC]
    refine call_by h2 ?_
    simp only [wk, upd, binR, ↓reduceIte, Nat.reduceEqDiff, reduceCtorEq, ofConst, ofCell, okCell, arI, cmpI, RetQ, RetM, finV, finC, finMV, finMC, resOf, V.w1, cellsV, refsC, refsO, callR, Nat.reduceAdd, Nat.reduceMul, Nat.reduceSub, Nat.reduceLeDiff, Nat.reduceLT, Nat.reduceBEq, boxR, idxR, loadR, storeR, readSl, lenR, sliceR, boundR, makeR, pureC, pureL, TD.isAgg, Int.reduceEq, Int.reduceNe, Int.reduceLT, Int.reduceLE, Int.reduceGT, Int.reduceGE, Int.reduceToNat, Int.reduceSub, Int.reduceAdd, Int.reduceMul, likeL, likeP, eqLP, pgC_len8 hl, celsC_len8 hl, pgC_drop1, pgC_drop17 hl, celsC_all hl, pgC_fold, pgC_all hl, goR_pg0, noS_mk, refs_pgF, refs_celsF, ren_pg, ren_cels, fin_pg, finM_pg, fin_cels, finM_cels, pureL_pg, pureL_cels, celC, chC, zero17, hput, hin, hle2, pgC_len8 hl1, pgC_all hl1, celsC_len8 hl1, celsC_all hl1]
    refine call_by h3 ?_
    simp only [wk, upd, binR, ↓reduceIte, Nat.reduceEqDiff, reduceCtorEq, ofConst, ofCell, okCell, arI, cmpI, RetQ, RetM, finV, finC, finMV, finMC, resOf, V.w1, cellsV, refsC, refsO, callR, Nat.reduceAdd, Nat.reduceMul, Nat.reduceSub, Nat.reduceLeDiff, Nat.reduceLT, Nat.reduceBEq, boxR, idxR, loadR, storeR, readSl, lenR, sliceR, boundR, makeR, pureC, pureL, TD.isAgg, Int.reduceEq, Int.reduceNe, Int.reduceLT, Int.reduceLE, Int.reduceGT, Int.reduceGE, Int.reduceToNat, Int.reduceSub, Int.reduceAdd, Int.reduceMul, likeL, likeP, eqLP, pgC_len8 hl, celsC_len8 hl, pgC_drop1, pgC_drop17 hl, celsC_all hl, pgC_fold, pgC_all hl, goR_pg0, noS_mk, refs_pgF, refs_celsF, ren_pg, ren_cels, fin_pg, finM_pg, fin_cels, finM_cels, pureL_pg, pureL_cels, celC, chC, hin, hle, hle2, pgC_len8 hl2, pgC_all hl2, celsC_len8 hl2, celsC_all hl2, hcel]
    rfl
end Go.AW
