/- The law of changes of two cells; the law of one change. -/
import Derived.Test.YtocalihefpafgaaAW
import Derived.Test.YtocalihefpafgaaC5
set_option maxRecDepth 100000
set_option linter.unusedSimpArgs false
set_option linter.unusedVariables false
namespace Go.AW
open Go.Proofs

/-- Changes of two cells, one behind the other. -/
theorem Fits.apart {l : Int} {cs : List Cel} {c d : Chg} {n m : Int} (hc : Fits l cs c n) (hd : Fits l cs d n) (hs : c.s ≠ d.s) (h1 : n < m) (h2 : m ≤ maxL) :
    Fits n (cs.set c.s.toNat (decide (c.k ≠ 3), c.n)) d m := by
  have a := (chOk_iff c).1 hc.ch
  have b := (chOk_iff d).1 hd.ch
  have hne : c.s.toNat ≠ d.s.toNat := by omega
  refine ⟨pgOk_set hc.pg (cel_ok_new hc.ch) hc.le, hd.ch, h2, h1, ?_, ?_⟩
  · rw [getD_set_ne hne]; exact hd.used
  · rw [getD_set_ne hne]; exact hd.value

theorem c10 (l : Int) (cs : List Cel) (hl : cs.length = 8) (h0 : 0 ≤ l) (c d : Chg) : ConSem Try.prog tab 10 [.agg (pgC l cs), .agg (chC c), .agg (chC d)] [] (vb true) [] := by
  refine con_pure tabOk mixedOk Try.func10 rfl (by decide) (by kernel_rfl) (by show (3:Nat) ≤ _; decide) fun E hE => go_start ?_
  have hmx : maxL = 4611686018427387904 := rfl
  simp only [Try.f10, wk, upd, binR, ↓reduceIte, Nat.reduceEqDiff, reduceCtorEq, ofConst, ofCell, okCell, arI, cmpI, RetQ, RetM, finV, finC, finMV, finMC, resOf, V.w1, cellsV, refsC, refsO, callR, Nat.reduceAdd, Nat.reduceMul, Nat.reduceSub, Nat.reduceLeDiff, Nat.reduceLT, Nat.reduceBEq, boxR, idxR, loadR, storeR, readSl, lenR, sliceR, boundR, makeR, pureC, pureL, TD.isAgg, Int.reduceEq, Int.reduceNe, Int.reduceLT, Int.reduceLE, Int.reduceGT, Int.reduceGE, Int.reduceToNat, Int.reduceSub, Int.reduceAdd, Int.reduceMul, likeL, likeP, eqLP, pgC_len8 hl, celsC_len8 hl, pgC_drop1, pgC_drop17 hl, celsC_all hl, pgC_fold, pgC_all hl, goR_pg0, noS_mk, refs_pgF, refs_celsF, ren_pg, ren_cels, fin_pg, finM_pg, fin_cels, finM_cels, pureL_pg, pureL_cels, chC]
  refine call_by c47 ?_
  simp only [wk, upd, binR, ↓reduceIte, Nat.reduceEqDiff, reduceCtorEq, ofConst, ofCell, okCell, arI, cmpI, RetQ, RetM, finV, finC, finMV, finMC, resOf, V.w1, cellsV, refsC, refsO, callR, Nat.reduceAdd, Nat.reduceMul, Nat.reduceSub, Nat.reduceLeDiff, Nat.reduceLT, Nat.reduceBEq, boxR, idxR, loadR, storeR, readSl, lenR, sliceR, boundR, makeR, pureC, pureL, TD.isAgg, Int.reduceEq, Int.reduceNe, Int.reduceLT, Int.reduceLE, Int.reduceGT, Int.reduceGE, Int.reduceToNat, Int.reduceSub, Int.reduceAdd, Int.reduceMul, likeL, likeP, eqLP, pgC_len8 hl, celsC_len8 hl, pgC_drop1, pgC_drop17 hl, celsC_all hl, pgC_fold, pgC_all hl, goR_pg0, noS_mk, refs_pgF, refs_celsF, ren_pg, ren_cels, fin_pg, finM_pg, fin_cels, finM_cels, pureL_pg, pureL_cels]
  refine ⟨fun hs => call_by c47 ?_, fun hs => ⟨fun hb => call_by c47 ?_, fun hb => ?_⟩⟩
  · simp only [wk, upd, binR, ↓reduceIte, Nat.reduceEqDiff, reduceCtorEq, ofConst, ofCell, okCell, arI, cmpI, RetQ, RetM, finV, finC, finMV, finMC, resOf, V.w1, cellsV, refsC, refsO, callR, Nat.reduceAdd, Nat.reduceMul, Nat.reduceSub, Nat.reduceLeDiff, Nat.reduceLT, Nat.reduceBEq, boxR, idxR, loadR, storeR, readSl, lenR, sliceR, boundR, makeR, pureC, pureL, TD.isAgg, Int.reduceEq, Int.reduceNe, Int.reduceLT, Int.reduceLE, Int.reduceGT, Int.reduceGE, Int.reduceToNat, Int.reduceSub, Int.reduceAdd, Int.reduceMul, likeL, likeP, eqLP, pgC_len8 hl, celsC_len8 hl, pgC_drop1, pgC_drop17 hl, celsC_all hl, pgC_fold, pgC_all hl, goR_pg0, noS_mk, refs_pgF, refs_celsF, ren_pg, ren_cels, fin_pg, finM_pg, fin_cels, finM_cels, pureL_pg, pureL_cels]
  · simp only [wk, upd, binR, ↓reduceIte, Nat.reduceEqDiff, reduceCtorEq, ofConst, ofCell, okCell, arI, cmpI, RetQ, RetM, finV, finC, finMV, finMC, resOf, V.w1, cellsV, refsC, refsO, callR, Nat.reduceAdd, Nat.reduceMul, Nat.reduceSub, Nat.reduceLeDiff, Nat.reduceLT, Nat.reduceBEq, boxR, idxR, loadR, storeR, readSl, lenR, sliceR, boundR, makeR, pureC, pureL, TD.isAgg, Int.reduceEq, Int.reduceNe, Int.reduceLT, Int.reduceLE, Int.reduceGT, Int.reduceGE, Int.reduceToNat, Int.reduceSub, Int.reduceAdd, Int.reduceMul, likeL, likeP, eqLP, pgC_len8 hl, celsC_len8 hl, pgC_drop1, pgC_drop17 hl, celsC_all hl, pgC_fold, pgC_all hl, goR_pg0, noS_mk, refs_pgF, refs_celsF, ren_pg, ren_cels, fin_pg, finM_pg, fin_cels, finM_cels, pureL_pg, pureL_cels]
  have e1 : IntKind.u64.wrap (l + 1) = l + 1 := wu64 (by omega) (by omega)
  have e2 : IntKind.u64.wrap (l + 2) = l + 2 := wu64 (by omega) (by omega)
  refine ⟨rfl, ?_⟩
  rw [e1]
  have h1 := c48 l cs hl c (l + 1)
  have h2 := c48 l cs hl d (l + 1)
  rcases apF_cases l cs c (l + 1) with hf | ⟨_, _, hne⟩
  · rcases apF_cases l cs d (l + 1) with hg | ⟨_, _, hne⟩
    · have h3 := c48 (l + 1) (cs.set c.s.toNat (decide (c.k ≠ 3), c.n)) (by simpa using hl) d (l + 2)
      have h4 := c48 (l + 1) (cs.set d.s.toNat (decide (d.k ≠ 3), d.n)) (by simpa using hl) c (l + 2)
      rw [apF_fits hf] at h1
      rw [apF_fits hg] at h2
      rw [apF_fits (hf.apart hg hs (by omega) (by omega))] at h3
      rw [apF_fits (hg.apart hf (fun e => hs e.symm) (by omega) (by omega))] at h4
      have a := (chOk_iff c).1 hf.ch
      have b := (chOk_iff d).1 hg.ch
      have hcom : (cs.set d.s.toNat (decide (d.k ≠ 3), d.n)).set c.s.toNat (decide (c.k ≠ 3), c.n) = (cs.set c.s.toNat (decide (c.k ≠ 3), c.n)).set d.s.toNat (decide (d.k ≠ 3), d.n) := List.set_comm _ _ (by omega)
      rw [hcom] at h4
      have hl3 : ((cs.set c.s.toNat (decide (c.k ≠ 3), c.n)).set d.s.toNat (decide (d.k ≠ 3), d.n)).length = 8 := by simpa using hl
      have hl1 : (cs.set c.s.toNat (decide (c.k ≠ 3), c.n)).length = 8 := by simpa using hl
      have hl2 : (cs.set d.s.toNat (decide (d.k ≠ 3), d.n)).length = 8 := by simpa using hl
      simp only at h1 h2 h3 h4
      generalize (cs.set c.s.toNat (decide (c.k ≠ 3), c.n)).set d.s.toNat (decide (d.k ≠ 3), d.n) = z at h3 h4 hl3
      generalize cs.set c.s.toNat (decide (c.k ≠ 3), c.n) = x at h1 h3 hl1
      generalize cs.set d.s.toNat (decide (d.k ≠ 3), d.n) = y at h2 h4 hl2
      refine call_by h1 ?_
      simp only [wk, upd, binR, ↓reduceIte, Nat.reduceEqDiff, reduceCtorEq, ofConst, ofCell, okCell, arI, cmpI, RetQ, RetM, finV, finC, finMV, finMC, resOf, V.w1, cellsV, refsC, refsO, callR, Nat.reduceAdd, Nat.reduceMul, Nat.reduceSub, Nat.reduceLeDiff, Nat.reduceLT, Nat.reduceBEq, boxR, idxR, loadR, storeR, readSl, lenR, sliceR, boundR, makeR, pureC, pureL, TD.isAgg, Int.reduceEq, Int.reduceNe, Int.reduceLT, Int.reduceLE, Int.reduceGT, Int.reduceGE, Int.reduceToNat, Int.reduceSub, Int.reduceAdd, Int.reduceMul, likeL, likeP, eqLP, pgC_len8 hl, celsC_len8 hl, pgC_drop1, pgC_drop17 hl, celsC_all hl, pgC_fold, pgC_all hl, goR_pg0, noS_mk, refs_pgF, refs_celsF, ren_pg, ren_cels, fin_pg, finM_pg, fin_cels, finM_cels, pureL_pg, pureL_cels, chC, pgC_len8 hl1, pgC_all hl1, celsC_len8 hl1, celsC_all hl1]
      refine call_by h2 ?_
      simp only [wk, upd, binR, ↓reduceIte, Nat.reduceEqDiff, reduceCtorEq, ofConst, ofCell, okCell, arI, cmpI, RetQ, RetM, finV, finC, finMV, finMC, resOf, V.w1, cellsV, refsC, refsO, callR, Nat.reduceAdd, Nat.reduceMul, Nat.reduceSub, Nat.reduceLeDiff, Nat.reduceLT, Nat.reduceBEq, boxR, idxR, loadR, storeR, readSl, lenR, sliceR, boundR, makeR, pureC, pureL, TD.isAgg, Int.reduceEq, Int.reduceNe, Int.reduceLT, Int.reduceLE, Int.reduceGT, Int.reduceGE, Int.reduceToNat, Int.reduceSub, Int.reduceAdd, Int.reduceMul, likeL, likeP, eqLP, pgC_len8 hl, celsC_len8 hl, pgC_drop1, pgC_drop17 hl, celsC_all hl, pgC_fold, pgC_all hl, goR_pg0, noS_mk, refs_pgF, refs_celsF, ren_pg, ren_cels, fin_pg, finM_pg, fin_cels, finM_cels, pureL_pg, pureL_cels, chC, pgC_len8 hl1, pgC_all hl1, celsC_len8 hl1, celsC_all hl1, pgC_len8 hl2, pgC_all hl2, celsC_len8 hl2, celsC_all hl2, e2]
      refine call_by h3 ?_
      simp only [wk, upd, binR, ↓reduceIte, Nat.reduceEqDiff, reduceCtorEq, ofConst, ofCell, okCell, arI, cmpI, RetQ, RetM, finV, finC, finMV, finMC, resOf, V.w1, cellsV, refsC, refsO, callR, Nat.reduceAdd, Nat.reduceMul, Nat.reduceSub, Nat.reduceLeDiff, Nat.reduceLT, Nat.reduceBEq, boxR, idxR, loadR, storeR, readSl, lenR, sliceR, boundR, makeR, pureC, pureL, TD.isAgg, Int.reduceEq, Int.reduceNe, Int.reduceLT, Int.reduceLE, Int.reduceGT, Int.reduceGE, Int.reduceToNat, Int.reduceSub, Int.reduceAdd, Int.reduceMul, likeL, likeP, eqLP, pgC_len8 hl, celsC_len8 hl, pgC_drop1, pgC_drop17 hl, celsC_all hl, pgC_fold, pgC_all hl, goR_pg0, noS_mk, refs_pgF, refs_celsF, ren_pg, ren_cels, fin_pg, finM_pg, fin_cels, finM_cels, pureL_pg, pureL_cels, chC, pgC_len8 hl1, pgC_all hl1, celsC_len8 hl1, celsC_all hl1, pgC_len8 hl2, pgC_all hl2, celsC_len8 hl2, celsC_all hl2, pgC_len8 hl3, pgC_all hl3, celsC_len8 hl3, celsC_all hl3, e2]
      refine call_by h4 ?_
      simp only [wk, upd, binR, ↓reduceIte, Nat.reduceEqDiff, reduceCtorEq, ofConst, ofCell, okCell, arI, cmpI, RetQ, RetM, finV, finC, finMV, finMC, resOf, V.w1, cellsV, refsC, refsO, callR, Nat.reduceAdd, Nat.reduceMul, Nat.reduceSub, Nat.reduceLeDiff, Nat.reduceLT, Nat.reduceBEq, boxR, idxR, loadR, storeR, readSl, lenR, sliceR, boundR, makeR, pureC, pureL, TD.isAgg, Int.reduceEq, Int.reduceNe, Int.reduceLT, Int.reduceLE, Int.reduceGT, Int.reduceGE, Int.reduceToNat, Int.reduceSub, Int.reduceAdd, Int.reduceMul, likeL, likeP, eqLP, pgC_len8 hl, celsC_len8 hl, pgC_drop1, pgC_drop17 hl, celsC_all hl, pgC_fold, pgC_all hl, goR_pg0, noS_mk, refs_pgF, refs_celsF, ren_pg, ren_cels, fin_pg, finM_pg, fin_cels, finM_cels, pureL_pg, pureL_cels, chC, pgC_len8 hl1, pgC_all hl1, celsC_len8 hl1, celsC_all hl1, pgC_len8 hl2, pgC_all hl2, celsC_len8 hl2, celsC_all hl2, pgC_len8 hl3, pgC_all hl3, celsC_len8 hl3, celsC_all hl3, eqLP_pg rfl]
      exact likeL_pg (m := 0) (b := noCels) hl3
    · have hlA := apF_len hl c (l + 1) (l := l)
      have hlB := apF_len hl d (l + 1) (l := l)
      generalize apF l cs c (l + 1) = x at h1 hlA
      generalize apF l cs d (l + 1) = y at h2 hne hlB
      obtain ⟨x1, x2, x3⟩ := x
      obtain ⟨y1, y2, y3⟩ := y
      simp only at h1 h2 hne hlA hlB
      refine call_by h1 ?_
      simp only [wk, upd, binR, ↓reduceIte, Nat.reduceEqDiff, reduceCtorEq, ofConst, ofCell, okCell, arI, cmpI, RetQ, RetM, finV, finC, finMV, finMC, resOf, V.w1, cellsV, refsC, refsO, callR, Nat.reduceAdd, Nat.reduceMul, Nat.reduceSub, Nat.reduceLeDiff, Nat.reduceLT, Nat.reduceBEq, boxR, idxR, loadR, storeR, readSl, lenR, sliceR, boundR, makeR, pureC, pureL, TD.isAgg, Int.reduceEq, Int.reduceNe, Int.reduceLT, Int.reduceLE, Int.reduceGT, Int.reduceGE, Int.reduceToNat, Int.reduceSub, Int.reduceAdd, Int.reduceMul, likeL, likeP, eqLP, pgC_len8 hl, celsC_len8 hl, pgC_drop1, pgC_drop17 hl, celsC_all hl, pgC_fold, pgC_all hl, goR_pg0, noS_mk, refs_pgF, refs_celsF, ren_pg, ren_cels, fin_pg, finM_pg, fin_cels, finM_cels, pureL_pg, pureL_cels, chC, pgC_len8 hlA, pgC_all hlA, celsC_len8 hlA, celsC_all hlA]
      refine call_by h2 ?_
      simp only [wk, upd, binR, ↓reduceIte, Nat.reduceEqDiff, reduceCtorEq, ofConst, ofCell, okCell, arI, cmpI, RetQ, RetM, finV, finC, finMV, finMC, resOf, V.w1, cellsV, refsC, refsO, callR, Nat.reduceAdd, Nat.reduceMul, Nat.reduceSub, Nat.reduceLeDiff, Nat.reduceLT, Nat.reduceBEq, boxR, idxR, loadR, storeR, readSl, lenR, sliceR, boundR, makeR, pureC, pureL, TD.isAgg, Int.reduceEq, Int.reduceNe, Int.reduceLT, Int.reduceLE, Int.reduceGT, Int.reduceGE, Int.reduceToNat, Int.reduceSub, Int.reduceAdd, Int.reduceMul, likeL, likeP, eqLP, pgC_len8 hl, celsC_len8 hl, pgC_drop1, pgC_drop17 hl, celsC_all hl, pgC_fold, pgC_all hl, goR_pg0, noS_mk, refs_pgF, refs_celsF, ren_pg, ren_cels, fin_pg, finM_pg, fin_cels, finM_cels, pureL_pg, pureL_cels, chC, pgC_len8 hlA, pgC_all hlA, celsC_len8 hlA, celsC_all hlA, pgC_len8 hlB, pgC_all hlB, celsC_len8 hlB, celsC_all hlB, hne]
  · have hlA := apF_len hl c (l + 1) (l := l)
    have hlB := apF_len hl d (l + 1) (l := l)
    generalize apF l cs c (l + 1) = x at h1 hne hlA
    generalize apF l cs d (l + 1) = y at h2 hlB
    obtain ⟨x1, x2, x3⟩ := x
    obtain ⟨y1, y2, y3⟩ := y
    simp only at h1 h2 hne hlA hlB
    refine call_by h1 ?_
    simp only [wk, upd, binR, ↓reduceIte, Nat.reduceEqDiff, reduceCtorEq, ofConst, ofCell, okCell, arI, cmpI, RetQ, RetM, finV, finC, finMV, finMC, resOf, V.w1, cellsV, refsC, refsO, callR, Nat.reduceAdd, Nat.reduceMul, Nat.reduceSub, Nat.reduceLeDiff, Nat.reduceLT, Nat.reduceBEq, boxR, idxR, loadR, storeR, readSl, lenR, sliceR, boundR, makeR, pureC, pureL, TD.isAgg, Int.reduceEq, Int.reduceNe, Int.reduceLT, Int.reduceLE, Int.reduceGT, Int.reduceGE, Int.reduceToNat, Int.reduceSub, Int.reduceAdd, Int.reduceMul, likeL, likeP, eqLP, pgC_len8 hl, celsC_len8 hl, pgC_drop1, pgC_drop17 hl, celsC_all hl, pgC_fold, pgC_all hl, goR_pg0, noS_mk, refs_pgF, refs_celsF, ren_pg, ren_cels, fin_pg, finM_pg, fin_cels, finM_cels, pureL_pg, pureL_cels, chC, pgC_len8 hlA, pgC_all hlA, celsC_len8 hlA, celsC_all hlA]
    refine call_by h2 ?_
    simp only [wk, upd, binR, ↓reduceIte, Nat.reduceEqDiff, reduceCtorEq, ofConst, ofCell, okCell, arI, cmpI, RetQ, RetM, finV, finC, finMV, finMC, resOf, V.w1, cellsV, refsC, refsO, callR, Nat.reduceAdd, Nat.reduceMul, Nat.reduceSub, Nat.reduceLeDiff, Nat.reduceLT, Nat.reduceBEq, boxR, idxR, loadR, storeR, readSl, lenR, sliceR, boundR, makeR, pureC, pureL, TD.isAgg, Int.reduceEq, Int.reduceNe, Int.reduceLT, Int.reduceLE, Int.reduceGT, Int.reduceGE, Int.reduceToNat, Int.reduceSub, Int.reduceAdd, Int.reduceMul, likeL, likeP, eqLP, pgC_len8 hl, celsC_len8 hl, pgC_drop1, pgC_drop17 hl, celsC_all hl, pgC_fold, pgC_all hl, goR_pg0, noS_mk, refs_pgF, refs_celsF, ren_pg, ren_cels, fin_pg, finM_pg, fin_cels, finM_cels, pureL_pg, pureL_cels, chC, pgC_len8 hlA, pgC_all hlA, celsC_len8 hlA, celsC_all hlA, pgC_len8 hlB, pgC_all hlB, celsC_len8 hlB, celsC_all hlB, hne]
end Go.AW
