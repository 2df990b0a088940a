/- The laws of one change: the first call, Applies. -/
import Derived.Test.YtocalihefpafgaaAW
import Derived.Test.YtocalihefpafgaaC4
set_option maxRecDepth 100000
set_option linter.unusedSimpArgs false
set_option linter.unusedVariables false
namespace Go.AW
open Go.Proofs

theorem apF_len {l : Int} {cs : List Cel} (h : cs.length = 8) (c : Chg) (n : Int) : (apF l cs c n).2.1.length = 8 := by
  rcases apF_cases l cs c n with hf | ⟨_, hf, _⟩
  · rw [apF_fits hf]; simpa using h
  · rw [hf]; rfl

theorem wf_cel {n : Nat} {q : List PV} (h : Wf tab (n + 2) 52 q) : ∃ b s, q = [.bool b, .str s] := by
  obtain ⟨x0, y0, rfl, k0, h⟩ := wf_field (wf_struct h rfl)
  obtain ⟨x1, y1, rfl, k1, h⟩ := wf_field h
  obtain rfl := wf_end h
  obtain ⟨b, rfl⟩ := wf_bool k0 rfl
  obtain ⟨s, rfl, _⟩ := wf_str k1 rfl
  exact ⟨b, s, rfl⟩
theorem wf_page {n : Nat} {q : List PV} (h : Wf tab (n + 4) 55 q) : ∃ l cs, q = pgP l cs ∧ cs.length = 8 ∧ (Lit.int .u64 l).wf = true := by
  obtain ⟨x0, y0, rfl, k0, h⟩ := wf_field (wf_struct h rfl)
  obtain ⟨x1, y1, rfl, k1, h⟩ := wf_field h
  obtain rfl := wf_end h
  obtain ⟨l, rfl, wl⟩ := wf_int (k := .u64) k0 rfl
  obtain ⟨xs, hl, rfl, hx⟩ := wf_arr k1 rfl
  obtain ⟨cs, h1, h2⟩ := cels_of xs fun x hxm => wf_cel (hx x hxm)
  exact ⟨l, cs, by rw [h2]; simp [pgP], by omega, wl⟩
theorem wf_chg {n : Nat} {q : List PV} (h : Wf tab (n + 2) 57 q) : ∃ c : Chg, q = chP c ∧ (Lit.int .i64 c.k).wf = true ∧ (Lit.int .i64 c.p).wf = true ∧ (Lit.int .i64 c.s).wf = true := by
  obtain ⟨x0, y0, rfl, k0, h⟩ := wf_field (wf_struct h rfl)
  obtain ⟨x1, y1, rfl, k1, h⟩ := wf_field h
  obtain ⟨x2, y2, rfl, k2, h⟩ := wf_field h
  obtain ⟨x3, y3, rfl, k3, h⟩ := wf_field h
  obtain ⟨x4, y4, rfl, k4, h⟩ := wf_field h
  obtain rfl := wf_end h
  obtain ⟨a0, rfl, w0⟩ := wf_int (k := .i64) k0 rfl
  obtain ⟨a1, rfl, w1⟩ := wf_int (k := .i64) k1 rfl
  obtain ⟨a2, rfl, w2⟩ := wf_int (k := .i64) k2 rfl
  obtain ⟨s3, rfl, _⟩ := wf_str k3 rfl
  obtain ⟨s4, rfl, _⟩ := wf_str k4 rfl
  exact ⟨⟨a0, a1, a2, s3, s4⟩, rfl, w0, w1, w2⟩

theorem c47 : ConSem Try.prog tab 47 [] [] (vb true) [] := by
  refine con_pure tabOk mixedOk Try.func47 rfl (by decide) (by kernel_rfl) (by show (0:Nat) ≤ _; decide) fun E hE => go_start ?_
  have h := c48 0 noCels rfl ⟨1, 0, 2, noS, ⟨#[97]⟩⟩ 5
  rw [show apF 0 noCels ⟨1, 0, 2, noS, ⟨#[97]⟩⟩ 5 = (5, noCels.set 2 (true, ⟨#[97]⟩), 0) by kernel_rfl] at h
  simp only [Try.f47, wk, upd, binR, ↓reduceIte, Nat.reduceEqDiff, reduceCtorEq, ofConst, ofCell, okCell, arI, cmpI, RetQ, RetM, finV, finC, finMV, finMC, resOf, V.w1, cellsV, refsC, refsO, callR, Nat.reduceAdd, Nat.reduceMul, Nat.reduceSub, Nat.reduceLeDiff, Nat.reduceLT, Nat.reduceBEq, boxR, idxR, loadR, storeR, readSl, lenR, sliceR, boundR, makeR, pureC, pureL, TD.isAgg, Int.reduceEq, Int.reduceNe, Int.reduceLT, Int.reduceLE, Int.reduceGT, Int.reduceGE, Int.reduceToNat, Int.reduceSub, Int.reduceAdd, Int.reduceMul, likeL, likeP, eqLP]
  refine call_by h ?_
  generalize hb : noCels.set 2 (true, ⟨#[97]⟩) = b
  have hl : b.length = 8 := by rw [← hb]; rfl
  have hc : List.take 2 (List.drop 5 (pgC 5 b)) = [.p (.bool true), .p (.str ⟨#[97]⟩)] := by rw [← hb]; rfl
  simp only [wk, upd, binR, ↓reduceIte, Nat.reduceEqDiff, reduceCtorEq, ofConst, ofCell, okCell, arI, cmpI, RetQ, RetM, finV, finC, finMV, finMC, resOf, V.w1, cellsV, refsC, refsO, callR, Nat.reduceAdd, Nat.reduceMul, Nat.reduceSub, Nat.reduceLeDiff, Nat.reduceLT, Nat.reduceBEq, boxR, idxR, loadR, storeR, readSl, lenR, sliceR, boundR, makeR, pureC, pureL, TD.isAgg, Int.reduceEq, Int.reduceNe, Int.reduceLT, Int.reduceLE, Int.reduceGT, Int.reduceGE, Int.reduceToNat, Int.reduceSub, Int.reduceAdd, Int.reduceMul, likeL, likeP, eqLP, pgC_len8 hl, celsC_len8 hl, pgC_drop1, pgC_drop17 hl, celsC_all hl, pgC_fold, pgC_all hl, goR_pg0, noS_mk, refs_pgF, refs_celsF, ren_pg, ren_cels, fin_pg, finM_pg, fin_cels, finM_cels, pureL_pg, pureL_cels, hc]
  exact ⟨by decide, by decide⟩

theorem c9 (l : Int) (cs : List Cel) (hl : cs.length = 8) (c : Chg) (n : Int) : ConSem Try.prog tab 9 [.agg (pgC l cs), .agg (chC c), vi .u64 n] [] (vb true) [] := by
  refine con_pure tabOk mixedOk Try.func9 rfl (by decide) (by kernel_rfl) (by show (3:Nat) ≤ _; decide) fun E hE => go_start ?_
  have h1 := c48 l cs hl c n
  have h2 := c49 l cs hl c n
  have h3 := c50 c
  have h4 := c51 c
  have hl2 := apF_len hl c n (l := l)
  generalize apF l cs c n = x at h1 h2 hl2
  obtain ⟨a, b, e⟩ := x
  simp only at h1 h2 hl2
  simp only [Try.f9, wk, upd, binR, ↓reduceIte, Nat.reduceEqDiff, reduceCtorEq, ofConst, ofCell, okCell, arI, cmpI, RetQ, RetM, finV, finC, finMV, finMC, resOf, V.w1, cellsV, refsC, refsO, callR, Nat.reduceAdd, Nat.reduceMul, Nat.reduceSub, Nat.reduceLeDiff, Nat.reduceLT, Nat.reduceBEq, boxR, idxR, loadR, storeR, readSl, lenR, sliceR, boundR, makeR, pureC, pureL, TD.isAgg, Int.reduceEq, Int.reduceNe, Int.reduceLT, Int.reduceLE, Int.reduceGT, Int.reduceGE, Int.reduceToNat, Int.reduceSub, Int.reduceAdd, Int.reduceMul, likeL, likeP, eqLP, pgC_len8 hl, celsC_len8 hl, pgC_drop1, pgC_drop17 hl, celsC_all hl, pgC_fold, pgC_all hl, goR_pg0, noS_mk, refs_pgF, refs_celsF, ren_pg, ren_cels, fin_pg, finM_pg, fin_cels, finM_cels, pureL_pg, pureL_cels, chC]
  refine call_by c47 ?_
  simp only [wk, upd, binR, ↓reduceIte, Nat.reduceEqDiff, reduceCtorEq, ofConst, ofCell, okCell, arI, cmpI, RetQ, RetM, finV, finC, finMV, finMC, resOf, V.w1, cellsV, refsC, refsO, callR, Nat.reduceAdd, Nat.reduceMul, Nat.reduceSub, Nat.reduceLeDiff, Nat.reduceLT, Nat.reduceBEq, boxR, idxR, loadR, storeR, readSl, lenR, sliceR, boundR, makeR, pureC, pureL, TD.isAgg, Int.reduceEq, Int.reduceNe, Int.reduceLT, Int.reduceLE, Int.reduceGT, Int.reduceGE, Int.reduceToNat, Int.reduceSub, Int.reduceAdd, Int.reduceMul, likeL, likeP, eqLP, pgC_len8 hl, celsC_len8 hl, pgC_drop1, pgC_drop17 hl, celsC_all hl, pgC_fold, pgC_all hl, goR_pg0, noS_mk, refs_pgF, refs_celsF, ren_pg, ren_cels, fin_pg, finM_pg, fin_cels, finM_cels, pureL_pg, pureL_cels]
  refine call_by h1 ?_
  simp only [wk, upd, binR, ↓reduceIte, Nat.reduceEqDiff, reduceCtorEq, ofConst, ofCell, okCell, arI, cmpI, RetQ, RetM, finV, finC, finMV, finMC, resOf, V.w1, cellsV, refsC, refsO, callR, Nat.reduceAdd, Nat.reduceMul, Nat.reduceSub, Nat.reduceLeDiff, Nat.reduceLT, Nat.reduceBEq, boxR, idxR, loadR, storeR, readSl, lenR, sliceR, boundR, makeR, pureC, pureL, TD.isAgg, Int.reduceEq, Int.reduceNe, Int.reduceLT, Int.reduceLE, Int.reduceGT, Int.reduceGE, Int.reduceToNat, Int.reduceSub, Int.reduceAdd, Int.reduceMul, likeL, likeP, eqLP, pgC_len8 hl, celsC_len8 hl, pgC_drop1, pgC_drop17 hl, celsC_all hl, pgC_fold, pgC_all hl, goR_pg0, noS_mk, refs_pgF, refs_celsF, ren_pg, ren_cels, fin_pg, finM_pg, fin_cels, finM_cels, pureL_pg, pureL_cels, pgC_len8 hl2, pgC_all hl2, celsC_len8 hl2, celsC_all hl2]
  refine call_by h2 ?_
  simp only [wk, upd, binR, ↓reduceIte, Nat.reduceEqDiff, reduceCtorEq, ofConst, ofCell, okCell, arI, cmpI, RetQ, RetM, finV, finC, finMV, finMC, resOf, V.w1, cellsV, refsC, refsO, callR, Nat.reduceAdd, Nat.reduceMul, Nat.reduceSub, Nat.reduceLeDiff, Nat.reduceLT, Nat.reduceBEq, boxR, idxR, loadR, storeR, readSl, lenR, sliceR, boundR, makeR, pureC, pureL, TD.isAgg, Int.reduceEq, Int.reduceNe, Int.reduceLT, Int.reduceLE, Int.reduceGT, Int.reduceGE, Int.reduceToNat, Int.reduceSub, Int.reduceAdd, Int.reduceMul, likeL, likeP, eqLP, pgC_len8 hl, celsC_len8 hl, pgC_drop1, pgC_drop17 hl, celsC_all hl, pgC_fold, pgC_all hl, goR_pg0, noS_mk, refs_pgF, refs_celsF, ren_pg, ren_cels, fin_pg, finM_pg, fin_cels, finM_cels, pureL_pg, pureL_cels, pgC_len8 hl2, pgC_all hl2, celsC_len8 hl2, celsC_all hl2, eqLP_pg rfl]
  refine ⟨likeL_pg (m := 0) (b := noCels) hl2, call_by h3 ?_⟩
  simp only [wk, upd, binR, ↓reduceIte, Nat.reduceEqDiff, reduceCtorEq, ofConst, ofCell, okCell, arI, cmpI, RetQ, RetM, finV, finC, finMV, finMC, resOf, V.w1, cellsV, refsC, refsO, callR, Nat.reduceAdd, Nat.reduceMul, Nat.reduceSub, Nat.reduceLeDiff, Nat.reduceLT, Nat.reduceBEq, boxR, idxR, loadR, storeR, readSl, lenR, sliceR, boundR, makeR, pureC, pureL, TD.isAgg, Int.reduceEq, Int.reduceNe, Int.reduceLT, Int.reduceLE, Int.reduceGT, Int.reduceGE, Int.reduceToNat, Int.reduceSub, Int.reduceAdd, Int.reduceMul, likeL, likeP, eqLP, pgC_len8 hl, celsC_len8 hl, pgC_drop1, pgC_drop17 hl, celsC_all hl, pgC_fold, pgC_all hl, goR_pg0, noS_mk, refs_pgF, refs_celsF, ren_pg, ren_cels, fin_pg, finM_pg, fin_cels, finM_cels, pureL_pg, pureL_cels]
  refine call_by h4 ?_
  generalize chOk c = d
  cases d <;> simp only [wk, upd, binR, ↓reduceIte, Nat.reduceEqDiff, reduceCtorEq, ofConst, ofCell, okCell, arI, cmpI, RetQ, RetM, finV, finC, finMV, finMC, resOf, V.w1, cellsV, refsC, refsO, callR, Nat.reduceAdd, Nat.reduceMul, Nat.reduceSub, Nat.reduceLeDiff, Nat.reduceLT, Nat.reduceBEq, boxR, idxR, loadR, storeR, readSl, lenR, sliceR, boundR, makeR, pureC, pureL, TD.isAgg, Int.reduceEq, Int.reduceNe, Int.reduceLT, Int.reduceLE, Int.reduceGT, Int.reduceGE, Int.reduceToNat, Int.reduceSub, Int.reduceAdd, Int.reduceMul, likeL, likeP, eqLP, pgC_len8 hl, celsC_len8 hl, pgC_drop1, pgC_drop17 hl, celsC_all hl, pgC_fold, pgC_all hl, goR_pg0, noS_mk, refs_pgF, refs_celsF, ren_pg, ren_cels, fin_pg, finM_pg, fin_cels, finM_cels, pureL_pg, pureL_cels]
  all_goals rfl
end Go.AW
