/- The first call of layer 18; the law of one page. -/
import Derived.Test.YtocalihefpafgaaAW
import Derived.Test.YtocalihefpafgaaR10
import Derived.Test.YtocalihefpafgaaA13n
set_option maxRecDepth 100000
set_option maxHeartbeats 4000000
set_option linter.unusedSimpArgs false
set_option linter.unusedVariables false
namespace Go.AW
open Go.Proofs

theorem rpF_len {id upto : Int} : ∀ (xs : List Stm) {l : Int} {cs : List Cel} {m : Int} {z : Int × List Cel × Int}, cs.length = 8 → rpF id upto xs l cs m = some z → z.2.1.length = 8
  | [], l, cs, m, z, h, hz => by simp only [rpF, Option.some.injEq] at hz; subst hz; exact h
  | x :: r, l, cs, m, z, h, hz => by
    simp only [rpF] at hz
    split at hz
    · split at hz
      · exact rpF_len r (apF_len h _ _) hz
      · cases hz
    · exact rpF_len r h hz
theorem rpR_len {l : Int} {cs : List Cel} {id : Int} {xs : List Stm} {upto : Int} (h : cs.length = 8) : (rpR l cs id xs upto).2.1.length = 8 := by
  unfold rpR
  split
  · rfl
  · split
    · rfl
    · cases hz : rpF id upto xs l cs 0 with
      | none => rfl
      | some z => exact rpF_len xs h hz

def rec18 : Rec := ⟨1, 7, 1, 0, ⟨1, 0, 3, noS, ⟨#[97]⟩⟩, 0, 0, 0, [], []⟩

theorem c52 : ConSem Try.prog tab 52 [] [] (vb true) [] := by
  refine con_pure tabOk mixedOk Try.func52 rfl (by decide) (by kernel_rfl) (by show (0:Nat) ≤ _; decide) fun E hE => go_start ?_
  have hrun : raF [⟨0, rec18⟩] [⟨0, noCels⟩] 0 = some ([⟨7, noCels.set 3 (true, ⟨#[97]⟩)⟩], 1) := by kernel_rfl
  have h := c85L [⟨0, noCels⟩] (by intro p hp; simp at hp; subst hp; rfl) (by simp) [⟨0, rec18⟩] (by simp) ⟨0, noCels⟩ [] rfl (by simp) (by kernel_rfl) (by kernel_rfl) _ hrun
  have hres : raR [⟨0, noCels⟩] [⟨0, rec18⟩] = ([⟨7, noCels.set 3 (true, ⟨#[97]⟩)⟩], 1, 0) := by kernel_rfl
  rw [hres] at h
  have h2 := con_nz (args := [.one (.osl 1000 1), .one (.p (.slice [[.int .i64 0, .int .i64 1, .int .u64 7, .int .i64 1, .int .u64 0, .int .i64 1, .int .i64 0, .int .i64 3, .str noS, .str ⟨#[97]⟩, .int .u64 0, .int .i64 0, .int .u64 0, .nilsl, .nilsl]]))]) h
  have h3 : ConSem Try.prog tab 85 [.one (.osl 1000 1), .one (.p (.slice [[.int .i64 0, .int .i64 1, .int .u64 7, .int .i64 1, .int .u64 0, .int .i64 1, .int .i64 0, .int .i64 3, .str noS, .str ⟨#[97]⟩, .int .u64 0, .int .i64 0, .int .u64 0, .nilsl, .nilsl]]))] [(1000, .sl 55 (pgs [⟨0, noCels⟩]))]
      (.tup [.one (.p (.slice [[.int .u64 7, .bool false, .str noS, .bool false, .str noS, .bool false, .str noS, .bool true, .str ⟨#[97]⟩, .bool false, .str noS, .bool false, .str noS, .bool false, .str noS, .bool false, .str noS]])), .one (.p (.int .i64 1)), .one (.p (.int .i64 0))]) [(1000, .sl 55 (pgs [⟨0, noCels⟩]))] := h2
  simp only [Try.f52, wk, upd, binR, ↓reduceIte, Nat.reduceEqDiff, reduceCtorEq, ofConst, ofCell, okCell, arI, cmpI, RetQ, RetM, finV, finC, finMV, finMC, resOf, V.w1, cellsV, refsC, refsO, callR, Nat.reduceAdd, Nat.reduceMul, Nat.reduceSub, Nat.reduceLeDiff, Nat.reduceLT, Nat.reduceBEq, boxR, idxR, loadR, storeR, readSl, lenR, sliceR, boundR, makeR, pureC, pureL, TD.isAgg, Int.reduceEq, Int.reduceNe, Int.reduceLT, Int.reduceLE, Int.reduceGT, Int.reduceGE, Int.reduceToNat, Int.reduceSub, Int.reduceAdd, Int.reduceMul, likeL, likeP, eqLP]
  refine ⟨⟨by decide, by decide⟩, call_by h3 ?_⟩
  simp only [wk, upd, binR, ↓reduceIte, Nat.reduceEqDiff, reduceCtorEq, ofConst, ofCell, okCell, arI, cmpI, RetQ, RetM, finV, finC, finMV, finMC, resOf, V.w1, cellsV, refsC, refsO, callR, Nat.reduceAdd, Nat.reduceMul, Nat.reduceSub, Nat.reduceLeDiff, Nat.reduceLT, Nat.reduceBEq, boxR, idxR, loadR, storeR, readSl, lenR, sliceR, boundR, makeR, pureC, pureL, TD.isAgg, Int.reduceEq, Int.reduceNe, Int.reduceLT, Int.reduceLE, Int.reduceGT, Int.reduceGE, Int.reduceToNat, Int.reduceSub, Int.reduceAdd, Int.reduceMul, likeL, likeP, eqLP]
  have hx : ([[.int .u64 7, .bool false, .str noS, .bool false, .str noS, .bool false, .str noS, .bool true, .str ⟨#[97]⟩, .bool false, .str noS, .bool false, .str noS, .bool false, .str noS, .bool false, .str noS]] : List (List PV))[0]? = some [.int .u64 7, .bool false, .str noS, .bool false, .str noS, .bool false, .str noS, .bool true, .str ⟨#[97]⟩, .bool false, .str noS, .bool false, .str noS, .bool false, .str noS, .bool false, .str noS] := rfl
  refine ⟨rfl, fun _ => ?_, fun h => absurd rfl h⟩
  simp only [wk, upd, binR, ↓reduceIte, Nat.reduceEqDiff, reduceCtorEq, ofConst, ofCell, okCell, arI, cmpI, RetQ, RetM, finV, finC, finMV, finMC, resOf, V.w1, cellsV, refsC, refsO, callR, Nat.reduceAdd, Nat.reduceMul, Nat.reduceSub, Nat.reduceLeDiff, Nat.reduceLT, Nat.reduceBEq, boxR, idxR, loadR, storeR, readSl, lenR, sliceR, boundR, makeR, pureC, pureL, TD.isAgg, Int.reduceEq, Int.reduceNe, Int.reduceLT, Int.reduceLE, Int.reduceGT, Int.reduceGE, Int.reduceToNat, Int.reduceSub, Int.reduceAdd, Int.reduceMul, likeL, likeP, eqLP, elem_eq hx]
  exact ⟨by decide, by decide⟩

theorem c11 (l : Int) (cs : List Cel) (hl : cs.length = 8) (id : Int) (xs : List Stm) (upto : Int) : ConSem Try.prog tab 11 [.agg (pgC l cs), vi .i64 id, vs (sts xs), vi .u64 upto] [] (vb true) [] := by
  refine con_pure tabOk mixedOk Try.func11 rfl (by decide) (by kernel_rfl) (by show (4:Nat) ≤ _; decide) fun E hE => go_start ?_
  simp only [Try.f11, wk, upd, binR, ↓reduceIte, Nat.reduceEqDiff, reduceCtorEq, ofConst, ofCell, okCell, arI, cmpI, RetQ, RetM, finV, finC, finMV, finMC, resOf, V.w1, cellsV, refsC, refsO, callR, Nat.reduceAdd, Nat.reduceMul, Nat.reduceSub, Nat.reduceLeDiff, Nat.reduceLT, Nat.reduceBEq, boxR, idxR, loadR, storeR, readSl, lenR, sliceR, boundR, makeR, pureC, pureL, TD.isAgg, Int.reduceEq, Int.reduceNe, Int.reduceLT, Int.reduceLE, Int.reduceGT, Int.reduceGE, Int.reduceToNat, Int.reduceSub, Int.reduceAdd, Int.reduceMul, likeL, likeP, eqLP, pgC_len8 hl, celsC_len8 hl, pgC_drop1, pgC_drop17 hl, celsC_all hl, pgC_fold, pgC_all hl, goR_pg0, noS_mk, refs_pgF, refs_celsF, ren_pg, ren_cels, fin_pg, finM_pg, fin_cels, finM_cels, pureL_pg, pureL_cels]
  refine call_by c52 ?_
  simp only [wk, upd, binR, ↓reduceIte, Nat.reduceEqDiff, reduceCtorEq, ofConst, ofCell, okCell, arI, cmpI, RetQ, RetM, finV, finC, finMV, finMC, resOf, V.w1, cellsV, refsC, refsO, callR, Nat.reduceAdd, Nat.reduceMul, Nat.reduceSub, Nat.reduceLeDiff, Nat.reduceLT, Nat.reduceBEq, boxR, idxR, loadR, storeR, readSl, lenR, sliceR, boundR, makeR, pureC, pureL, TD.isAgg, Int.reduceEq, Int.reduceNe, Int.reduceLT, Int.reduceLE, Int.reduceGT, Int.reduceGE, Int.reduceToNat, Int.reduceSub, Int.reduceAdd, Int.reduceMul, likeL, likeP, eqLP, pgC_len8 hl, celsC_len8 hl, pgC_drop1, pgC_drop17 hl, celsC_all hl, pgC_fold, pgC_all hl, goR_pg0, noS_mk, refs_pgF, refs_celsF, ren_pg, ren_cels, fin_pg, finM_pg, fin_cels, finM_cels, pureL_pg, pureL_cels, sts_length]
  refine ⟨fun h => call_by c52 ?_, fun h => ?_⟩
  · simp only [wk, upd, binR, ↓reduceIte, Nat.reduceEqDiff, reduceCtorEq, ofConst, ofCell, okCell, arI, cmpI, RetQ, RetM, finV, finC, finMV, finMC, resOf, V.w1, cellsV, refsC, refsO, callR, Nat.reduceAdd, Nat.reduceMul, Nat.reduceSub, Nat.reduceLeDiff, Nat.reduceLT, Nat.reduceBEq, boxR, idxR, loadR, storeR, readSl, lenR, sliceR, boundR, makeR, pureC, pureL, TD.isAgg, Int.reduceEq, Int.reduceNe, Int.reduceLT, Int.reduceLE, Int.reduceGT, Int.reduceGE, Int.reduceToNat, Int.reduceSub, Int.reduceAdd, Int.reduceMul, likeL, likeP, eqLP]
  have h1 := c53 l cs hl id xs (by omega) upto
  have h2 := c54 l cs hl id xs (by omega) upto
  have hlz : (rpR l cs id xs upto).2.1.length = 8 := rpR_len hl
  generalize rpR l cs id xs upto = z at h1 h2 hlz
  obtain ⟨z1, z2, z3, z4⟩ := z
  simp only at h1 h2 hlz
  refine call_by h1 ?_
  simp only [wk, upd, binR, ↓reduceIte, Nat.reduceEqDiff, reduceCtorEq, ofConst, ofCell, okCell, arI, cmpI, RetQ, RetM, finV, finC, finMV, finMC, resOf, V.w1, cellsV, refsC, refsO, callR, Nat.reduceAdd, Nat.reduceMul, Nat.reduceSub, Nat.reduceLeDiff, Nat.reduceLT, Nat.reduceBEq, boxR, idxR, loadR, storeR, readSl, lenR, sliceR, boundR, makeR, pureC, pureL, TD.isAgg, Int.reduceEq, Int.reduceNe, Int.reduceLT, Int.reduceLE, Int.reduceGT, Int.reduceGE, Int.reduceToNat, Int.reduceSub, Int.reduceAdd, Int.reduceMul, likeL, likeP, eqLP, pgC_len8 hl, celsC_len8 hl, pgC_drop1, pgC_drop17 hl, celsC_all hl, pgC_fold, pgC_all hl, goR_pg0, noS_mk, refs_pgF, refs_celsF, ren_pg, ren_cels, fin_pg, finM_pg, fin_cels, finM_cels, pureL_pg, pureL_cels, pgC_len8 hlz, pgC_all hlz, celsC_len8 hlz, celsC_all hlz]
  refine call_by h2 ?_
  simp only [wk, upd, binR, ↓reduceIte, Nat.reduceEqDiff, reduceCtorEq, ofConst, ofCell, okCell, arI, cmpI, RetQ, RetM, finV, finC, finMV, finMC, resOf, V.w1, cellsV, refsC, refsO, callR, Nat.reduceAdd, Nat.reduceMul, Nat.reduceSub, Nat.reduceLeDiff, Nat.reduceLT, Nat.reduceBEq, boxR, idxR, loadR, storeR, readSl, lenR, sliceR, boundR, makeR, pureC, pureL, TD.isAgg, Int.reduceEq, Int.reduceNe, Int.reduceLT, Int.reduceLE, Int.reduceGT, Int.reduceGE, Int.reduceToNat, Int.reduceSub, Int.reduceAdd, Int.reduceMul, likeL, likeP, eqLP, pgC_len8 hl, celsC_len8 hl, pgC_drop1, pgC_drop17 hl, celsC_all hl, pgC_fold, pgC_all hl, goR_pg0, noS_mk, refs_pgF, refs_celsF, ren_pg, ren_cels, fin_pg, finM_pg, fin_cels, finM_cels, pureL_pg, pureL_cels, pgC_len8 hlz, pgC_all hlz, celsC_len8 hlz, celsC_all hlz, eqLP_pg rfl]
  exact likeL_pg (m := 0) (b := noCels) hlz
end Go.AW
