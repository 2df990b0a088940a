/- The inverse of a change; the laws Turns and Back. -/
import Derived.Test.YtocalihefpafgaaAW
import Derived.Test.YtocalihefpafgaaC7
set_option maxRecDepth 100000
set_option linter.unusedSimpArgs false
set_option linter.unusedVariables false
namespace Go.AW
open Go.Proofs

theorem invF_eq (c : Chg) : invF c = if chOk c = true then (invC c, 0) else (noChg, 1) := rfl

theorem c55 (c : Chg) : ConSem Try.prog tab 55 [.agg (chC c)] [] (.tup [.agg (chC (invF c).1), .one (.p (.int .i64 (invF c).2))]) [] := by
  refine con_pure tabOk mixedOk Try.func55 rfl (by decide) (by kernel_rfl) (by show (1:Nat) ≤ _; decide) fun E hE => go_start ?_
  have h1 := c50 c
  rw [invF_eq]
  simp only [Try.f55, wk, upd, binR, ↓reduceIte, Nat.reduceEqDiff, reduceCtorEq, ofConst, ofCell, okCell, arI, cmpI, RetQ, RetM, finV, finC, finMV, finMC, resOf, V.w1, cellsV, refsC, refsO, callR, Nat.reduceAdd, Nat.reduceMul, Nat.reduceSub, Nat.reduceLeDiff, Nat.reduceLT, Nat.reduceBEq, boxR, idxR, loadR, storeR, readSl, lenR, sliceR, boundR, makeR, pureC, pureL, TD.isAgg, Int.reduceEq, Int.reduceNe, Int.reduceLT, Int.reduceLE, Int.reduceGT, Int.reduceGE, Int.reduceToNat, Int.reduceSub, Int.reduceAdd, Int.reduceMul, likeL, likeP, eqLP, chC]
  refine call_by h1 ?_
  cases hc : chOk c
  · simp only [wk, upd, binR, ↓reduceIte, Nat.reduceEqDiff, reduceCtorEq, ofConst, ofCell, okCell, arI, cmpI, RetQ, RetM, finV, finC, finMV, finMC, resOf, V.w1, cellsV, refsC, refsO, callR, Nat.reduceAdd, Nat.reduceMul, Nat.reduceSub, Nat.reduceLeDiff, Nat.reduceLT, Nat.reduceBEq, boxR, idxR, loadR, storeR, readSl, lenR, sliceR, boundR, makeR, pureC, pureL, TD.isAgg, Int.reduceEq, Int.reduceNe, Int.reduceLT, Int.reduceLE, Int.reduceGT, Int.reduceGE, Int.reduceToNat, Int.reduceSub, Int.reduceAdd, Int.reduceMul, likeL, likeP, eqLP, chC]
    rfl
  · have hk := ((chOk_iff c).1 hc).2
    by_cases k1 : c.k = 1
    · simp only [wk, upd, binR, ↓reduceIte, Nat.reduceEqDiff, reduceCtorEq, ofConst, ofCell, okCell, arI, cmpI, RetQ, RetM, finV, finC, finMV, finMC, resOf, V.w1, cellsV, refsC, refsO, callR, Nat.reduceAdd, Nat.reduceMul, Nat.reduceSub, Nat.reduceLeDiff, Nat.reduceLT, Nat.reduceBEq, boxR, idxR, loadR, storeR, readSl, lenR, sliceR, boundR, makeR, pureC, pureL, TD.isAgg, Int.reduceEq, Int.reduceNe, Int.reduceLT, Int.reduceLE, Int.reduceGT, Int.reduceGE, Int.reduceToNat, Int.reduceSub, Int.reduceAdd, Int.reduceMul, likeL, likeP, eqLP, chC, k1, invC]
    · by_cases k3 : c.k = 3
      · simp only [wk, upd, binR, ↓reduceIte, Nat.reduceEqDiff, reduceCtorEq, ofConst, ofCell, okCell, arI, cmpI, RetQ, RetM, finV, finC, finMV, finMC, resOf, V.w1, cellsV, refsC, refsO, callR, Nat.reduceAdd, Nat.reduceMul, Nat.reduceSub, Nat.reduceLeDiff, Nat.reduceLT, Nat.reduceBEq, boxR, idxR, loadR, storeR, readSl, lenR, sliceR, boundR, makeR, pureC, pureL, TD.isAgg, Int.reduceEq, Int.reduceNe, Int.reduceLT, Int.reduceLE, Int.reduceGT, Int.reduceGE, Int.reduceToNat, Int.reduceSub, Int.reduceAdd, Int.reduceMul, likeL, likeP, eqLP, chC, k1, k3, invC]
      · have k2 : c.k = 2 := by omega
        simp only [wk, upd, binR, ↓reduceIte, Nat.reduceEqDiff, reduceCtorEq, ofConst, ofCell, okCell, arI, cmpI, RetQ, RetM, finV, finC, finMV, finMC, resOf, V.w1, cellsV, refsC, refsO, callR, Nat.reduceAdd, Nat.reduceMul, Nat.reduceSub, Nat.reduceLeDiff, Nat.reduceLT, Nat.reduceBEq, boxR, idxR, loadR, storeR, readSl, lenR, sliceR, boundR, makeR, pureC, pureL, TD.isAgg, Int.reduceEq, Int.reduceNe, Int.reduceLT, Int.reduceLE, Int.reduceGT, Int.reduceGE, Int.reduceToNat, Int.reduceSub, Int.reduceAdd, Int.reduceMul, likeL, likeP, eqLP, chC, k2, invC]

theorem c56 (c : Chg) : ConSem Try.prog tab 56 [.agg (chC c)] [] (.tup [.agg (chC (invF c).1), .one (.p (.int .i64 (invF c).2))]) [] := by
  refine con_pure tabOk mixedOk Try.func56 rfl (by decide) (by kernel_rfl) (by show (1:Nat) ≤ _; decide) fun E hE => go_start ?_
  have h1 := c51 c
  rw [invF_eq]
  simp only [Try.f56, wk, upd, binR, ↓reduceIte, Nat.reduceEqDiff, reduceCtorEq, ofConst, ofCell, okCell, arI, cmpI, RetQ, RetM, finV, finC, finMV, finMC, resOf, V.w1, cellsV, refsC, refsO, callR, Nat.reduceAdd, Nat.reduceMul, Nat.reduceSub, Nat.reduceLeDiff, Nat.reduceLT, Nat.reduceBEq, boxR, idxR, loadR, storeR, readSl, lenR, sliceR, boundR, makeR, pureC, pureL, TD.isAgg, Int.reduceEq, Int.reduceNe, Int.reduceLT, Int.reduceLE, Int.reduceGT, Int.reduceGE, Int.reduceToNat, Int.reduceSub, Int.reduceAdd, Int.reduceMul, likeL, likeP, eqLP, chC]
  refine call_by h1 ?_
  cases hc : chOk c
  · simp only [wk, upd, binR, ↓reduceIte, Nat.reduceEqDiff, reduceCtorEq, ofConst, ofCell, okCell, arI, cmpI, RetQ, RetM, finV, finC, finMV, finMC, resOf, V.w1, cellsV, refsC, refsO, callR, Nat.reduceAdd, Nat.reduceMul, Nat.reduceSub, Nat.reduceLeDiff, Nat.reduceLT, Nat.reduceBEq, boxR, idxR, loadR, storeR, readSl, lenR, sliceR, boundR, makeR, pureC, pureL, TD.isAgg, Int.reduceEq, Int.reduceNe, Int.reduceLT, Int.reduceLE, Int.reduceGT, Int.reduceGE, Int.reduceToNat, Int.reduceSub, Int.reduceAdd, Int.reduceMul, likeL, likeP, eqLP, chC]
    rfl
  · have hk := ((chOk_iff c).1 hc).2
    have hw : IntKind.i64.wrap (4 - c.k) = 4 - c.k := w64 (by omega) (by omega)
    simp only [wk, upd, binR, ↓reduceIte, Nat.reduceEqDiff, reduceCtorEq, ofConst, ofCell, okCell, arI, cmpI, RetQ, RetM, finV, finC, finMV, finMC, resOf, V.w1, cellsV, refsC, refsO, callR, Nat.reduceAdd, Nat.reduceMul, Nat.reduceSub, Nat.reduceLeDiff, Nat.reduceLT, Nat.reduceBEq, boxR, idxR, loadR, storeR, readSl, lenR, sliceR, boundR, makeR, pureC, pureL, TD.isAgg, Int.reduceEq, Int.reduceNe, Int.reduceLT, Int.reduceLE, Int.reduceGT, Int.reduceGE, Int.reduceToNat, Int.reduceSub, Int.reduceAdd, Int.reduceMul, likeL, likeP, eqLP, chC, invC, hw]

theorem likeL_ch (c d : Chg) : likeL (chP c) (chP d) = true := rfl
theorem eqLP_ch (c d : Chg) : eqLP (chP c) (chP d) = decide (c = d) := by
  obtain ⟨k, p, s, o, n⟩ := c
  obtain ⟨k', p', s', o', n'⟩ := d
  simp only [chP, eqLP, Chg.mk.injEq, Bool.decide_and, Bool.and_true]

theorem c13 (c : Chg) : ConSem Try.prog tab 13 [.agg (chC c)] [] (vb true) [] := by
  refine con_pure tabOk mixedOk Try.func13 rfl (by decide) (by kernel_rfl) (by show (1:Nat) ≤ _; decide) fun E hE => go_start ?_
  have h1 := c55 c
  have h2 := c56 c
  have h3 := c50 c
  simp only [Try.f13, wk, upd, binR, ↓reduceIte, Nat.reduceEqDiff, reduceCtorEq, ofConst, ofCell, okCell, arI, cmpI, RetQ, RetM, finV, finC, finMV, finMC, resOf, V.w1, cellsV, refsC, refsO, callR, Nat.reduceAdd, Nat.reduceMul, Nat.reduceSub, Nat.reduceLeDiff, Nat.reduceLT, Nat.reduceBEq, boxR, idxR, loadR, storeR, readSl, lenR, sliceR, boundR, makeR, pureC, pureL, TD.isAgg, Int.reduceEq, Int.reduceNe, Int.reduceLT, Int.reduceLE, Int.reduceGT, Int.reduceGE, Int.reduceToNat, Int.reduceSub, Int.reduceAdd, Int.reduceMul, likeL, likeP, eqLP, chC]
  refine call_by c47 ?_
  simp only [wk, upd, binR, ↓reduceIte, Nat.reduceEqDiff, reduceCtorEq, ofConst, ofCell, okCell, arI, cmpI, RetQ, RetM, finV, finC, finMV, finMC, resOf, V.w1, cellsV, refsC, refsO, callR, Nat.reduceAdd, Nat.reduceMul, Nat.reduceSub, Nat.reduceLeDiff, Nat.reduceLT, Nat.reduceBEq, boxR, idxR, loadR, storeR, readSl, lenR, sliceR, boundR, makeR, pureC, pureL, TD.isAgg, Int.reduceEq, Int.reduceNe, Int.reduceLT, Int.reduceLE, Int.reduceGT, Int.reduceGE, Int.reduceToNat, Int.reduceSub, Int.reduceAdd, Int.reduceMul, likeL, likeP, eqLP, chC]
  rw [invF_eq] at h1 h2
  cases hc : chOk c
  · rw [hc] at h1 h2 h3
    simp only [Bool.false_eq_true, if_false] at h1 h2
    refine call_by h1 ?_
    simp only [wk, upd, binR, ↓reduceIte, Nat.reduceEqDiff, reduceCtorEq, ofConst, ofCell, okCell, arI, cmpI, RetQ, RetM, finV, finC, finMV, finMC, resOf, V.w1, cellsV, refsC, refsO, callR, Nat.reduceAdd, Nat.reduceMul, Nat.reduceSub, Nat.reduceLeDiff, Nat.reduceLT, Nat.reduceBEq, boxR, idxR, loadR, storeR, readSl, lenR, sliceR, boundR, makeR, pureC, pureL, TD.isAgg, Int.reduceEq, Int.reduceNe, Int.reduceLT, Int.reduceLE, Int.reduceGT, Int.reduceGE, Int.reduceToNat, Int.reduceSub, Int.reduceAdd, Int.reduceMul, likeL, likeP, eqLP, chC]
    refine call_by h2 ?_
    simp only [wk, upd, binR, ↓reduceIte, Nat.reduceEqDiff, reduceCtorEq, ofConst, ofCell, okCell, arI, cmpI, RetQ, RetM, finV, finC, finMV, finMC, resOf, V.w1, cellsV, refsC, refsO, callR, Nat.reduceAdd, Nat.reduceMul, Nat.reduceSub, Nat.reduceLeDiff, Nat.reduceLT, Nat.reduceBEq, boxR, idxR, loadR, storeR, readSl, lenR, sliceR, boundR, makeR, pureC, pureL, TD.isAgg, Int.reduceEq, Int.reduceNe, Int.reduceLT, Int.reduceLE, Int.reduceGT, Int.reduceGE, Int.reduceToNat, Int.reduceSub, Int.reduceAdd, Int.reduceMul, likeL, likeP, eqLP, chC]
    refine call_by h3 ?_
    simp only [wk, upd, binR, ↓reduceIte, Nat.reduceEqDiff, reduceCtorEq, ofConst, ofCell, okCell, arI, cmpI, RetQ, RetM, finV, finC, finMV, finMC, resOf, V.w1, cellsV, refsC, refsO, callR, Nat.reduceAdd, Nat.reduceMul, Nat.reduceSub, Nat.reduceLeDiff, Nat.reduceLT, Nat.reduceBEq, boxR, idxR, loadR, storeR, readSl, lenR, sliceR, boundR, makeR, pureC, pureL, TD.isAgg, Int.reduceEq, Int.reduceNe, Int.reduceLT, Int.reduceLE, Int.reduceGT, Int.reduceGE, Int.reduceToNat, Int.reduceSub, Int.reduceAdd, Int.reduceMul, likeL, likeP, eqLP, chC]
  · have hi := invC_ok hc
    have h4 := c55 (invC c)
    have h5 := c50 (invC c)
    rw [invF_eq, hi, invC_invC] at h4
    rw [hi] at h5
    rw [hc] at h1 h2
    simp only [if_true] at h1 h2 h4
    generalize invC c = d at h1 h2 h4 h5
    refine call_by h1 ?_
    simp only [wk, upd, binR, ↓reduceIte, Nat.reduceEqDiff, reduceCtorEq, ofConst, ofCell, okCell, arI, cmpI, RetQ, RetM, finV, finC, finMV, finMC, resOf, V.w1, cellsV, refsC, refsO, callR, Nat.reduceAdd, Nat.reduceMul, Nat.reduceSub, Nat.reduceLeDiff, Nat.reduceLT, Nat.reduceBEq, boxR, idxR, loadR, storeR, readSl, lenR, sliceR, boundR, makeR, pureC, pureL, TD.isAgg, Int.reduceEq, Int.reduceNe, Int.reduceLT, Int.reduceLE, Int.reduceGT, Int.reduceGE, Int.reduceToNat, Int.reduceSub, Int.reduceAdd, Int.reduceMul, likeL, likeP, eqLP, chC]
    refine call_by h2 ?_
    simp only [wk, upd, binR, ↓reduceIte, Nat.reduceEqDiff, reduceCtorEq, ofConst, ofCell, okCell, arI, cmpI, RetQ, RetM, finV, finC, finMV, finMC, resOf, V.w1, cellsV, refsC, refsO, callR, Nat.reduceAdd, Nat.reduceMul, Nat.reduceSub, Nat.reduceLeDiff, Nat.reduceLT, Nat.reduceBEq, boxR, idxR, loadR, storeR, readSl, lenR, sliceR, boundR, makeR, pureC, pureL, TD.isAgg, Int.reduceEq, Int.reduceNe, Int.reduceLT, Int.reduceLE, Int.reduceGT, Int.reduceGE, Int.reduceToNat, Int.reduceSub, Int.reduceAdd, Int.reduceMul, likeL, likeP, eqLP, chC]
    refine call_by h4 ?_
    simp only [wk, upd, binR, ↓reduceIte, Nat.reduceEqDiff, reduceCtorEq, ofConst, ofCell, okCell, arI, cmpI, RetQ, RetM, finV, finC, finMV, finMC, resOf, V.w1, cellsV, refsC, refsO, callR, Nat.reduceAdd, Nat.reduceMul, Nat.reduceSub, Nat.reduceLeDiff, Nat.reduceLT, Nat.reduceBEq, boxR, idxR, loadR, storeR, readSl, lenR, sliceR, boundR, makeR, pureC, pureL, TD.isAgg, Int.reduceEq, Int.reduceNe, Int.reduceLT, Int.reduceLE, Int.reduceGT, Int.reduceGE, Int.reduceToNat, Int.reduceSub, Int.reduceAdd, Int.reduceMul, likeL, likeP, eqLP, chC]
    refine call_by h5 ?_
    simp only [wk, upd, binR, ↓reduceIte, Nat.reduceEqDiff, reduceCtorEq, ofConst, ofCell, okCell, arI, cmpI, RetQ, RetM, finV, finC, finMV, finMC, resOf, V.w1, cellsV, refsC, refsO, callR, Nat.reduceAdd, Nat.reduceMul, Nat.reduceSub, Nat.reduceLeDiff, Nat.reduceLT, Nat.reduceBEq, boxR, idxR, loadR, storeR, readSl, lenR, sliceR, boundR, makeR, pureC, pureL, TD.isAgg, Int.reduceEq, Int.reduceNe, Int.reduceLT, Int.reduceLE, Int.reduceGT, Int.reduceGE, Int.reduceToNat, Int.reduceSub, Int.reduceAdd, Int.reduceMul, likeL, likeP, eqLP, chC]

theorem apF_back {l n m : Int} {cs : List Cel} {c : Chg} (h : Fits l cs c n) (hl : cs.length = 8) (h1 : n < m) (h2 : m ≤ maxL) :
    apF n (cs.set c.s.toNat (decide (c.k ≠ 3), c.n)) (invC c) m = (m, cs, 0) := by
  obtain ⟨hf, he⟩ := h.back hl h1 h2
  rw [apF_fits hf, he]

theorem c14 (l : Int) (cs : List Cel) (hl : cs.length = 8) (c : Chg) (n m : Int) : ConSem Try.prog tab 14 [.agg (pgC l cs), .agg (chC c), vi .u64 n, vi .u64 m] [] (vb true) [] := by
  refine con_pure tabOk mixedOk Try.func14 rfl (by decide) (by kernel_rfl) (by show (4:Nat) ≤ _; decide) fun E hE => go_start ?_
  simp only [Try.f14, wk, upd, binR, ↓reduceIte, Nat.reduceEqDiff, reduceCtorEq, ofConst, ofCell, okCell, arI, cmpI, RetQ, RetM, finV, finC, finMV, finMC, resOf, V.w1, cellsV, refsC, refsO, callR, Nat.reduceAdd, Nat.reduceMul, Nat.reduceSub, Nat.reduceLeDiff, Nat.reduceLT, Nat.reduceBEq, boxR, idxR, loadR, storeR, readSl, lenR, sliceR, boundR, makeR, pureC, pureL, TD.isAgg, Int.reduceEq, Int.reduceNe, Int.reduceLT, Int.reduceLE, Int.reduceGT, Int.reduceGE, Int.reduceToNat, Int.reduceSub, Int.reduceAdd, Int.reduceMul, likeL, likeP, eqLP, pgC_len8 hl, celsC_len8 hl, pgC_drop1, pgC_drop17 hl, celsC_all hl, pgC_fold, pgC_all hl, goR_pg0, noS_mk, refs_pgF, refs_celsF, ren_pg, ren_cels, fin_pg, finM_pg, fin_cels, finM_cels, pureL_pg, pureL_cels, chC]
  refine call_by c47 ?_
  simp only [wk, upd, binR, ↓reduceIte, Nat.reduceEqDiff, reduceCtorEq, ofConst, ofCell, okCell, arI, cmpI, RetQ, RetM, finV, finC, finMV, finMC, resOf, V.w1, cellsV, refsC, refsO, callR, Nat.reduceAdd, Nat.reduceMul, Nat.reduceSub, Nat.reduceLeDiff, Nat.reduceLT, Nat.reduceBEq, boxR, idxR, loadR, storeR, readSl, lenR, sliceR, boundR, makeR, pureC, pureL, TD.isAgg, Int.reduceEq, Int.reduceNe, Int.reduceLT, Int.reduceLE, Int.reduceGT, Int.reduceGE, Int.reduceToNat, Int.reduceSub, Int.reduceAdd, Int.reduceMul, likeL, likeP, eqLP, pgC_len8 hl, celsC_len8 hl, pgC_drop1, pgC_drop17 hl, celsC_all hl, pgC_fold, pgC_all hl, goR_pg0, noS_mk, refs_pgF, refs_celsF, ren_pg, ren_cels, fin_pg, finM_pg, fin_cels, finM_cels, pureL_pg, pureL_cels]
  have hmx : maxL = 4611686018427387904 := rfl
  have h1 := c48 l cs hl c n
  rcases apF_cases l cs c n with hf | ⟨ha, hb, hne⟩
  · rw [apF_fits hf] at h1
    have h2 := c55 c
    rw [invF_eq, hf.ch] at h2
    simp only [if_true] at h2 h1
    have hl2 : (cs.set c.s.toNat (decide (c.k ≠ 3), c.n)).length = 8 := by simpa using hl
    have h3 := c48 n _ hl2 (invC c) m
    by_cases hm : m ≤ n ∨ maxL < m
    · rcases apF_cases n (cs.set c.s.toNat (decide (c.k ≠ 3), c.n)) (invC c) m with hg | ⟨ha, hb, hne⟩
      · have g1 := hg.lt
        have g2 := hg.le
        omega
      · have hl3 := apF_len hl2 (invC c) m (l := n)
        generalize apF n (cs.set c.s.toNat (decide (c.k ≠ 3), c.n)) (invC c) m = x at h3 ha hb hne hl3
        obtain ⟨x1, x2, x3⟩ := x
        simp only at h3 ha hb hne hl3
        generalize cs.set c.s.toNat (decide (c.k ≠ 3), c.n) = b at h1 hl2 h3
        generalize invC c = d at h2 h3
        refine call_by h1 ?_
        simp only [wk, upd, binR, ↓reduceIte, Nat.reduceEqDiff, reduceCtorEq, ofConst, ofCell, okCell, arI, cmpI, RetQ, RetM, finV, finC, finMV, finMC, resOf, V.w1, cellsV, refsC, refsO, callR, Nat.reduceAdd, Nat.reduceMul, Nat.reduceSub, Nat.reduceLeDiff, Nat.reduceLT, Nat.reduceBEq, boxR, idxR, loadR, storeR, readSl, lenR, sliceR, boundR, makeR, pureC, pureL, TD.isAgg, Int.reduceEq, Int.reduceNe, Int.reduceLT, Int.reduceLE, Int.reduceGT, Int.reduceGE, Int.reduceToNat, Int.reduceSub, Int.reduceAdd, Int.reduceMul, likeL, likeP, eqLP, pgC_len8 hl, celsC_len8 hl, pgC_drop1, pgC_drop17 hl, celsC_all hl, pgC_fold, pgC_all hl, goR_pg0, noS_mk, refs_pgF, refs_celsF, ren_pg, ren_cels, fin_pg, finM_pg, fin_cels, finM_cels, pureL_pg, pureL_cels, chC, pgC_len8 hl2, pgC_all hl2, celsC_len8 hl2, celsC_all hl2]
        refine call_by h2 ?_
        simp only [wk, upd, binR, ↓reduceIte, Nat.reduceEqDiff, reduceCtorEq, ofConst, ofCell, okCell, arI, cmpI, RetQ, RetM, finV, finC, finMV, finMC, resOf, V.w1, cellsV, refsC, refsO, callR, Nat.reduceAdd, Nat.reduceMul, Nat.reduceSub, Nat.reduceLeDiff, Nat.reduceLT, Nat.reduceBEq, boxR, idxR, loadR, storeR, readSl, lenR, sliceR, boundR, makeR, pureC, pureL, TD.isAgg, Int.reduceEq, Int.reduceNe, Int.reduceLT, Int.reduceLE, Int.reduceGT, Int.reduceGE, Int.reduceToNat, Int.reduceSub, Int.reduceAdd, Int.reduceMul, likeL, likeP, eqLP, pgC_len8 hl, celsC_len8 hl, pgC_drop1, pgC_drop17 hl, celsC_all hl, pgC_fold, pgC_all hl, goR_pg0, noS_mk, refs_pgF, refs_celsF, ren_pg, ren_cels, fin_pg, finM_pg, fin_cels, finM_cels, pureL_pg, pureL_cels, chC, pgC_len8 hl2, pgC_all hl2, celsC_len8 hl2, celsC_all hl2]
        refine call_by h3 ?_
        simp only [wk, upd, binR, ↓reduceIte, Nat.reduceEqDiff, reduceCtorEq, ofConst, ofCell, okCell, arI, cmpI, RetQ, RetM, finV, finC, finMV, finMC, resOf, V.w1, cellsV, refsC, refsO, callR, Nat.reduceAdd, Nat.reduceMul, Nat.reduceSub, Nat.reduceLeDiff, Nat.reduceLT, Nat.reduceBEq, boxR, idxR, loadR, storeR, readSl, lenR, sliceR, boundR, makeR, pureC, pureL, TD.isAgg, Int.reduceEq, Int.reduceNe, Int.reduceLT, Int.reduceLE, Int.reduceGT, Int.reduceGE, Int.reduceToNat, Int.reduceSub, Int.reduceAdd, Int.reduceMul, likeL, likeP, eqLP, pgC_len8 hl, celsC_len8 hl, pgC_drop1, pgC_drop17 hl, celsC_all hl, pgC_fold, pgC_all hl, goR_pg0, noS_mk, refs_pgF, refs_celsF, ren_pg, ren_cels, fin_pg, finM_pg, fin_cels, finM_cels, pureL_pg, pureL_cels, chC, pgC_len8 hl2, pgC_all hl2, celsC_len8 hl2, celsC_all hl2, pgC_len8 hl3, pgC_all hl3, celsC_len8 hl3, celsC_all hl3, hne]
        exact fun h1 h2 => by omega
    · rw [apF_back hf hl (by omega) (by omega)] at h3
      simp only at h3
      generalize cs.set c.s.toNat (decide (c.k ≠ 3), c.n) = b at h1 hl2 h3
      generalize invC c = d at h2 h3
      refine call_by h1 ?_
      simp only [wk, upd, binR, ↓reduceIte, Nat.reduceEqDiff, reduceCtorEq, ofConst, ofCell, okCell, arI, cmpI, RetQ, RetM, finV, finC, finMV, finMC, resOf, V.w1, cellsV, refsC, refsO, callR, Nat.reduceAdd, Nat.reduceMul, Nat.reduceSub, Nat.reduceLeDiff, Nat.reduceLT, Nat.reduceBEq, boxR, idxR, loadR, storeR, readSl, lenR, sliceR, boundR, makeR, pureC, pureL, TD.isAgg, Int.reduceEq, Int.reduceNe, Int.reduceLT, Int.reduceLE, Int.reduceGT, Int.reduceGE, Int.reduceToNat, Int.reduceSub, Int.reduceAdd, Int.reduceMul, likeL, likeP, eqLP, pgC_len8 hl, celsC_len8 hl, pgC_drop1, pgC_drop17 hl, celsC_all hl, pgC_fold, pgC_all hl, goR_pg0, noS_mk, refs_pgF, refs_celsF, ren_pg, ren_cels, fin_pg, finM_pg, fin_cels, finM_cels, pureL_pg, pureL_cels, chC, pgC_len8 hl2, pgC_all hl2, celsC_len8 hl2, celsC_all hl2]
      refine call_by h2 ?_
      simp only [wk, upd, binR, ↓reduceIte, Nat.reduceEqDiff, reduceCtorEq, ofConst, ofCell, okCell, arI, cmpI, RetQ, RetM, finV, finC, finMV, finMC, resOf, V.w1, cellsV, refsC, refsO, callR, Nat.reduceAdd, Nat.reduceMul, Nat.reduceSub, Nat.reduceLeDiff, Nat.reduceLT, Nat.reduceBEq, boxR, idxR, loadR, storeR, readSl, lenR, sliceR, boundR, makeR, pureC, pureL, TD.isAgg, Int.reduceEq, Int.reduceNe, Int.reduceLT, Int.reduceLE, Int.reduceGT, Int.reduceGE, Int.reduceToNat, Int.reduceSub, Int.reduceAdd, Int.reduceMul, likeL, likeP, eqLP, pgC_len8 hl, celsC_len8 hl, pgC_drop1, pgC_drop17 hl, celsC_all hl, pgC_fold, pgC_all hl, goR_pg0, noS_mk, refs_pgF, refs_celsF, ren_pg, ren_cels, fin_pg, finM_pg, fin_cels, finM_cels, pureL_pg, pureL_cels, chC, pgC_len8 hl2, pgC_all hl2, celsC_len8 hl2, celsC_all hl2]
      refine call_by h3 ?_
      have e1 : (m ≤ n) = False := eq_false (by omega)
      have e2 : (4611686018427387904 < m) = False := eq_false (by omega)
      simp only [wk, upd, binR, ↓reduceIte, Nat.reduceEqDiff, reduceCtorEq, ofConst, ofCell, okCell, arI, cmpI, RetQ, RetM, finV, finC, finMV, finMC, resOf, V.w1, cellsV, refsC, refsO, callR, Nat.reduceAdd, Nat.reduceMul, Nat.reduceSub, Nat.reduceLeDiff, Nat.reduceLT, Nat.reduceBEq, boxR, idxR, loadR, storeR, readSl, lenR, sliceR, boundR, makeR, pureC, pureL, TD.isAgg, Int.reduceEq, Int.reduceNe, Int.reduceLT, Int.reduceLE, Int.reduceGT, Int.reduceGE, Int.reduceToNat, Int.reduceSub, Int.reduceAdd, Int.reduceMul, likeL, likeP, eqLP, pgC_len8 hl, celsC_len8 hl, pgC_drop1, pgC_drop17 hl, celsC_all hl, pgC_fold, pgC_all hl, goR_pg0, noS_mk, refs_pgF, refs_celsF, ren_pg, ren_cels, fin_pg, finM_pg, fin_cels, finM_cels, pureL_pg, pureL_cels, chC, pgC_len8 hl2, pgC_all hl2, celsC_len8 hl2, celsC_all hl2, eqLP_cels _ _ rfl, e1, e2]
      exact likeL_cels cs noCels hl
  · have hlA := apF_len hl c n (l := l)
    generalize apF l cs c n = x at h1 ha hb hne hlA
    obtain ⟨x1, x2, x3⟩ := x
    simp only at h1 ha hb hne hlA
    subst ha hb
    refine call_by h1 ?_
    simp only [wk, upd, binR, ↓reduceIte, Nat.reduceEqDiff, reduceCtorEq, ofConst, ofCell, okCell, arI, cmpI, RetQ, RetM, finV, finC, finMV, finMC, resOf, V.w1, cellsV, refsC, refsO, callR, Nat.reduceAdd, Nat.reduceMul, Nat.reduceSub, Nat.reduceLeDiff, Nat.reduceLT, Nat.reduceBEq, boxR, idxR, loadR, storeR, readSl, lenR, sliceR, boundR, makeR, pureC, pureL, TD.isAgg, Int.reduceEq, Int.reduceNe, Int.reduceLT, Int.reduceLE, Int.reduceGT, Int.reduceGE, Int.reduceToNat, Int.reduceSub, Int.reduceAdd, Int.reduceMul, likeL, likeP, eqLP, pgC_len8 hl, celsC_len8 hl, pgC_drop1, pgC_drop17 hl, celsC_all hl, pgC_fold, pgC_all hl, goR_pg0, noS_mk, refs_pgF, refs_celsF, ren_pg, ren_cels, fin_pg, finM_pg, fin_cels, finM_cels, pureL_pg, pureL_cels, chC, pgC_len8 hlA, pgC_all hlA, celsC_len8 hlA, celsC_all hlA, hne]
    exact ⟨rfl, rfl⟩
end Go.AW
