/- The law of one change. -/
import Derived.Test.YtocalihefpafgaaAW
import Derived.Test.YtocalihefpafgaaC6
set_option maxRecDepth 100000
set_option linter.unusedSimpArgs false
set_option linter.unusedVariables false
namespace Go.AW
open Go.Proofs

theorem c12 (l : Int) (cs : List Cel) (hl : cs.length = 8) (c : Chg) (n : Int) : ConSem Try.prog tab 12 [.agg (pgC l cs), .agg (chC c), vi .u64 n] [] (vb true) [] := by
  refine con_pure tabOk mixedOk Try.func12 rfl (by decide) (by kernel_rfl) (by show (3:Nat) ≤ _; decide) fun E hE => go_start ?_
  simp only [Try.f12, wk, upd, binR, ↓reduceIte, Nat.reduceEqDiff, reduceCtorEq, ofConst, ofCell, okCell, arI, cmpI, RetQ, RetM, finV, finC, finMV, finMC, resOf, V.w1, cellsV, refsC, refsO, callR, Nat.reduceAdd, Nat.reduceMul, Nat.reduceSub, Nat.reduceLeDiff, Nat.reduceLT, Nat.reduceBEq, boxR, idxR, loadR, storeR, readSl, lenR, sliceR, boundR, makeR, pureC, pureL, TD.isAgg, Int.reduceEq, Int.reduceNe, Int.reduceLT, Int.reduceLE, Int.reduceGT, Int.reduceGE, Int.reduceToNat, Int.reduceSub, Int.reduceAdd, Int.reduceMul, likeL, likeP, eqLP, pgC_len8 hl, celsC_len8 hl, pgC_drop1, pgC_drop17 hl, celsC_all hl, pgC_fold, pgC_all hl, goR_pg0, noS_mk, refs_pgF, refs_celsF, ren_pg, ren_cels, fin_pg, finM_pg, fin_cels, finM_cels, pureL_pg, pureL_cels, chC]
  refine call_by c47 ?_
  simp only [wk, upd, binR, ↓reduceIte, Nat.reduceEqDiff, reduceCtorEq, ofConst, ofCell, okCell, arI, cmpI, RetQ, RetM, finV, finC, finMV, finMC, resOf, V.w1, cellsV, refsC, refsO, callR, Nat.reduceAdd, Nat.reduceMul, Nat.reduceSub, Nat.reduceLeDiff, Nat.reduceLT, Nat.reduceBEq, boxR, idxR, loadR, storeR, readSl, lenR, sliceR, boundR, makeR, pureC, pureL, TD.isAgg, Int.reduceEq, Int.reduceNe, Int.reduceLT, Int.reduceLE, Int.reduceGT, Int.reduceGE, Int.reduceToNat, Int.reduceSub, Int.reduceAdd, Int.reduceMul, likeL, likeP, eqLP, pgC_len8 hl, celsC_len8 hl, pgC_drop1, pgC_drop17 hl, celsC_all hl, pgC_fold, pgC_all hl, goR_pg0, noS_mk, refs_pgF, refs_celsF, ren_pg, ren_cels, fin_pg, finM_pg, fin_cels, finM_cels, pureL_pg, pureL_cels]
  have h1 := c48 l cs hl c n
  rcases apF_cases l cs c n with hf | ⟨ha, hb, hne⟩
  · rw [apF_fits hf] at h1
    have hci := (chOk_iff c).1 hf.ch
    have hlt := hf.lt
    obtain ⟨k, p, s, o, v⟩ := c
    obtain ⟨⟨hp0, hp1, hs0, hs1, ho, hv⟩, hk⟩ := hci
    simp only at hp0 hp1 hs0 hs1 ho hv hk h1
    obtain ⟨j, rfl⟩ : ∃ i : Nat, s = i := ⟨s.toNat, by omega⟩
    have hj : j < cs.length := by omega
    simp only [Int.toNat_natCast] at h1
    have hl2 : (cs.set j (decide (k ≠ 3), v)).length = 8 := by simpa using hl
    have hget : ∀ i (h : i < cs.length), i ≠ j → (cs.set j (decide (k ≠ 3), v))[i]? = cs[i]? := fun i h hn => by rw [List.getElem?_set_ne (fun e => hn e.symm)]
    have hgj : (cs.set j (decide (k ≠ 3), v))[j]? = some (decide (k ≠ 3), v) := by simp [hj]
    generalize cs.set j (decide (k ≠ 3), v) = b at h1 hl2 hget hgj
    refine call_by h1 ?_
    simp only [wk, upd, binR, ↓reduceIte, Nat.reduceEqDiff, reduceCtorEq, ofConst, ofCell, okCell, arI, cmpI, RetQ, RetM, finV, finC, finMV, finMC, resOf, V.w1, cellsV, refsC, refsO, callR, Nat.reduceAdd, Nat.reduceMul, Nat.reduceSub, Nat.reduceLeDiff, Nat.reduceLT, Nat.reduceBEq, boxR, idxR, loadR, storeR, readSl, lenR, sliceR, boundR, makeR, pureC, pureL, TD.isAgg, Int.reduceEq, Int.reduceNe, Int.reduceLT, Int.reduceLE, Int.reduceGT, Int.reduceGE, Int.reduceToNat, Int.reduceSub, Int.reduceAdd, Int.reduceMul, likeL, likeP, eqLP, pgC_len8 hl, celsC_len8 hl, pgC_drop1, pgC_drop17 hl, celsC_all hl, pgC_fold, pgC_all hl, goR_pg0, noS_mk, refs_pgF, refs_celsF, ren_pg, ren_cels, fin_pg, finM_pg, fin_cels, finM_cels, pureL_pg, pureL_cels, pgC_len8 hl2, pgC_all hl2, celsC_len8 hl2, celsC_all hl2]
    refine aw_ind (fun i : Nat => ⟨tOf [(2, vi .u64 n), (3, vp 3 0), (4, vp 4 0), (7, vp 7 0), (24, vi .i64 i)], mOf [(3, .box (pgC l cs)), (4, .box [.p (.int .i64 k), .p (.int .i64 p), .p (.int .i64 j), .p (.str o), .p (.str v)]), (7, .box (pgC n b))]⟩) (fun i => i ≤ 8) (fun i => 8 - i) 0 rfl
      (weak_mem (M := []) ⟨rfl, rfl, rfl, rfl, rfl, trivial⟩ ⟨rfl, rfl, rfl, trivial⟩ rfl (by simp only [List.all_cons, refs_pgO]; rfl) (by rw [hE]; rfl) rfl) (by omega) ?_
    intro i hi ih
    by_cases h : (i : Int) < 8
    · have hw : IntKind.i64.wrap ((i : Int) + 1) = ((i + 1 : Nat) : Int) := by rw [w64 (by omega) (by omega)]; omega
      have hin : inR (↑i) 8 := ⟨by omega, h⟩
      have hle : 1 + i * 2 + 2 ≤ 17 := by omega
      have h' : i < cs.length := by omega
      have h2' : i < b.length := by omega
      have hc1 := pgC_cel (l := l) h'
      have hc2 := pgC_cel (l := n) h2'
      by_cases hij : (i : Int) = j
      · have : i = j := by omega
        subst this
        simp only [wk, upd, binR, ↓reduceIte, Nat.reduceEqDiff, reduceCtorEq, ofConst, ofCell, okCell, arI, cmpI, RetQ, RetM, finV, finC, finMV, finMC, resOf, V.w1, cellsV, refsC, refsO, callR, Nat.reduceAdd, Nat.reduceMul, Nat.reduceSub, Nat.reduceLeDiff, Nat.reduceLT, Nat.reduceBEq, boxR, idxR, loadR, storeR, readSl, lenR, sliceR, boundR, makeR, pureC, pureL, TD.isAgg, Int.reduceEq, Int.reduceNe, Int.reduceLT, Int.reduceLE, Int.reduceGT, Int.reduceGE, Int.reduceToNat, Int.reduceSub, Int.reduceAdd, Int.reduceMul, likeL, likeP, eqLP, pgC_len8 hl, celsC_len8 hl, pgC_drop1, pgC_drop17 hl, celsC_all hl, pgC_fold, pgC_all hl, goR_pg0, noS_mk, refs_pgF, refs_celsF, ren_pg, ren_cels, fin_pg, finM_pg, fin_cels, finM_cels, pureL_pg, pureL_cels, pgC_len8 hl2, pgC_all hl2, celsC_len8 hl2, celsC_all hl2, h]
        exact ⟨rfl, ih (i + 1) _ (by omega) (by omega) (weak_mem (M := []) ⟨rfl, rfl, rfl, rfl, by simp only [wk, upd, binR, ↓reduceIte, Nat.reduceEqDiff, reduceCtorEq, ofConst, ofCell, okCell, arI, cmpI, RetQ, RetM, finV, finC, finMV, finMC, resOf, V.w1, cellsV, refsC, refsO, callR, Nat.reduceAdd, Nat.reduceMul, Nat.reduceSub, Nat.reduceLeDiff, Nat.reduceLT, Nat.reduceBEq, boxR, idxR, loadR, storeR, readSl, lenR, sliceR, boundR, makeR, pureC, pureL, TD.isAgg, hw], trivial⟩ ⟨rfl, rfl, rfl, trivial⟩ rfl (by simp only [List.all_cons, refs_pgO]; rfl) (by rw [hE]; rfl) rfl)⟩
      · have hee : b[i] = cs[i] := by
          have := hget i h' (by omega)
          rw [List.getElem?_eq_getElem h2', List.getElem?_eq_getElem h'] at this
          exact Option.some.inj this
        rw [hee] at hc2
        generalize cs[i] = x at hc1 hc2
        obtain ⟨u, w⟩ := x
        simp only [wk, upd, binR, ↓reduceIte, Nat.reduceEqDiff, reduceCtorEq, ofConst, ofCell, okCell, arI, cmpI, RetQ, RetM, finV, finC, finMV, finMC, resOf, V.w1, cellsV, refsC, refsO, callR, Nat.reduceAdd, Nat.reduceMul, Nat.reduceSub, Nat.reduceLeDiff, Nat.reduceLT, Nat.reduceBEq, boxR, idxR, loadR, storeR, readSl, lenR, sliceR, boundR, makeR, pureC, pureL, TD.isAgg, Int.reduceEq, Int.reduceNe, Int.reduceLT, Int.reduceLE, Int.reduceGT, Int.reduceGE, Int.reduceToNat, Int.reduceSub, Int.reduceAdd, Int.reduceMul, likeL, likeP, eqLP, pgC_len8 hl, celsC_len8 hl, pgC_drop1, pgC_drop17 hl, celsC_all hl, pgC_fold, pgC_all hl, goR_pg0, noS_mk, refs_pgF, refs_celsF, ren_pg, ren_cels, fin_pg, finM_pg, fin_cels, finM_cels, pureL_pg, pureL_cels, pgC_len8 hl2, pgC_all hl2, celsC_len8 hl2, celsC_all hl2, h, hij, hc1, hc2, hle, hin]
        exact ⟨rfl, ih (i + 1) _ (by omega) (by omega) (weak_mem (M := []) ⟨rfl, rfl, rfl, rfl, by simp only [wk, upd, binR, ↓reduceIte, Nat.reduceEqDiff, reduceCtorEq, ofConst, ofCell, okCell, arI, cmpI, RetQ, RetM, finV, finC, finMV, finMC, resOf, V.w1, cellsV, refsC, refsO, callR, Nat.reduceAdd, Nat.reduceMul, Nat.reduceSub, Nat.reduceLeDiff, Nat.reduceLT, Nat.reduceBEq, boxR, idxR, loadR, storeR, readSl, lenR, sliceR, boundR, makeR, pureC, pureL, TD.isAgg, hw], trivial⟩ ⟨rfl, rfl, rfl, trivial⟩ rfl (by simp only [List.all_cons, refs_pgO]; rfl) (by rw [hE]; rfl) rfl)⟩
    · have h2' : j < b.length := by omega
      have hu := pgC_get_used (l := n) h2'
      have hv2 := pgC_get_value (l := n) h2'
      have hee : b[j] = (decide (k ≠ 3), v) := by rw [List.getElem?_eq_getElem h2'] at hgj; exact Option.some.inj hgj
      rw [hee] at hu hv2
      simp only [wk, upd, binR, ↓reduceIte, Nat.reduceEqDiff, reduceCtorEq, ofConst, ofCell, okCell, arI, cmpI, RetQ, RetM, finV, finC, finMV, finMC, resOf, V.w1, cellsV, refsC, refsO, callR, Nat.reduceAdd, Nat.reduceMul, Nat.reduceSub, Nat.reduceLeDiff, Nat.reduceLT, Nat.reduceBEq, boxR, idxR, loadR, storeR, readSl, lenR, sliceR, boundR, makeR, pureC, pureL, TD.isAgg, Int.reduceEq, Int.reduceNe, Int.reduceLT, Int.reduceLE, Int.reduceGT, Int.reduceGE, Int.reduceToNat, Int.reduceSub, Int.reduceAdd, Int.reduceMul, likeL, likeP, eqLP, pgC_len8 hl, celsC_len8 hl, pgC_drop1, pgC_drop17 hl, celsC_all hl, pgC_fold, pgC_all hl, goR_pg0, noS_mk, refs_pgF, refs_celsF, ren_pg, ren_cels, fin_pg, finM_pg, fin_cels, finM_cels, pureL_pg, pureL_cels, pgC_len8 hl2, pgC_all hl2, celsC_len8 hl2, celsC_all hl2, h, hlt, elemC_eq hu, elemC_eq hv2]
      exact ⟨⟨by omega, by omega⟩, ⟨by omega, by omega⟩, rfl⟩
  · have hlA := apF_len hl c n (l := l)
    generalize apF l cs c n = x at h1 ha hb hne hlA
    obtain ⟨x1, x2, x3⟩ := x
    simp only at h1 ha hb hne hlA
    subst ha hb
    refine call_by h1 ?_
    simp only [wk, upd, binR, ↓reduceIte, Nat.reduceEqDiff, reduceCtorEq, ofConst, ofCell, okCell, arI, cmpI, RetQ, RetM, finV, finC, finMV, finMC, resOf, V.w1, cellsV, refsC, refsO, callR, Nat.reduceAdd, Nat.reduceMul, Nat.reduceSub, Nat.reduceLeDiff, Nat.reduceLT, Nat.reduceBEq, boxR, idxR, loadR, storeR, readSl, lenR, sliceR, boundR, makeR, pureC, pureL, TD.isAgg, Int.reduceEq, Int.reduceNe, Int.reduceLT, Int.reduceLE, Int.reduceGT, Int.reduceGE, Int.reduceToNat, Int.reduceSub, Int.reduceAdd, Int.reduceMul, likeL, likeP, eqLP, pgC_len8 hl, celsC_len8 hl, pgC_drop1, pgC_drop17 hl, celsC_all hl, pgC_fold, pgC_all hl, goR_pg0, noS_mk, refs_pgF, refs_celsF, ren_pg, ren_cels, fin_pg, finM_pg, fin_cels, finM_cels, pureL_pg, pureL_cels, chC, pgC_len8 hlA, pgC_all hlA, celsC_len8 hlA, celsC_all hlA, hne]
    exact ⟨rfl, rfl⟩
end Go.AW
