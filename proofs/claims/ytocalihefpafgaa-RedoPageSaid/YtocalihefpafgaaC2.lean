/- The right page, the right change; in the program and in the document's answer. -/
import Derived.Test.YtocalihefpafgaaAW
import Derived.Test.YtocalihefpafgaaC1
import Derived.Test.YtocalihefpafgaaD1
set_option maxRecDepth 100000
set_option linter.unusedSimpArgs false
set_option linter.unusedVariables false
namespace Go.AW
open Go.Proofs

theorem goR_pg0 {C : Con} {T : Tab} {L : Code → (Ex → St → Prop) → St → Prop} {Q : Ex → St → Prop} {k : List It} {σ : St} {ops : Array Oper} {r : List Oper} {dst : Option Nat} {l : Int} {cs : List Cel} {g : Ce → Rd Wr} {acc : Option (List (List Loc × List Loc) × List Loc)} :
    elemCS C T L Q (pgC l cs) 0 g dst ops r acc k σ = GoR C T L Q (g (.p (.int .u64 l))) dst ops r acc k σ := by
  simp [elemCS, pgC_get0]

theorem pgOk_no {l : Int} {cs : List Cel} {i : Nat} (h : i < cs.length) (hc : celOk cs[i] = false) : pgOk l cs = false := by
  simp only [pgOk, Bool.and_eq_false_iff]
  left
  rw [List.all_eq_false]
  exact ⟨_, List.getElem_mem h, by simp [hc]⟩
theorem pgOk_yes {l : Int} {cs : List Cel} (h : ∀ (j : Nat) (hj : j < cs.length), celOk cs[j] = true) : pgOk l cs = decide (l ≤ maxL) := by
  have : cs.all celOk = true := by
    rw [List.all_eq_true]; intro x hx
    obtain ⟨j, hj, rfl⟩ := List.getElem_of_mem hx
    exact h j hj
  simp [pgOk, this]

theorem c97 (l : Int) (cs : List Cel) (hl : cs.length = 8) : ConSem Try.prog tab 97 [.agg (pgC l cs)] [] (vb (pgOk l cs)) [] := by
  refine con_pure tabOk mixedOk Try.func97 rfl (by decide) (by kernel_rfl) (by show (1:Nat) ≤ _; decide) fun E hE => go_start ?_
  simp only [Try.f97, wk, upd, binR, ↓reduceIte, Nat.reduceEqDiff, reduceCtorEq, ofConst, ofCell, okCell, arI, cmpI, RetQ, RetM, finV, finC, finMV, finMC, resOf, V.w1, cellsV, refsC, refsO, callR, Nat.reduceAdd, Nat.reduceMul, Nat.reduceSub, Nat.reduceLeDiff, Nat.reduceLT, Nat.reduceBEq, boxR, idxR, loadR, storeR, readSl, lenR, sliceR, boundR, makeR, pureC, pureL, TD.isAgg, pgC_len8 hl, celsC_len8 hl, pgC_drop1, pgC_drop17 hl, celsC_all hl, pgC_fold, pgC_all hl, goR_pg0, noS_mk, refs_pgF, refs_celsF, ren_pg, ren_cels, fin_pg, finM_pg, fin_cels, finM_cels, pureL_pg, pureL_cels]
  refine aw_ind (fun i : Nat => ⟨tOf [(1, vp 1 0), (6, .agg (celsC cs)), (7, vi .i64 i)], mOf [(1, .box (pgC l cs))]⟩) (fun i => i ≤ 8 ∧ ∀ (j : Nat) (h : j < cs.length), j < i → celOk cs[j] = true) (fun i => 8 - i) 0 rfl
      (weak_mem (M := []) ⟨rfl, rfl, rfl, trivial⟩ ⟨rfl, trivial⟩ (by simp only [refsT, refs_cels]; rfl) (by simp only [List.all_cons, refs_pgO]; rfl) (by rw [hE]; rfl) rfl) ⟨by omega, fun j h h2 => by omega⟩ ?_
  rintro i ⟨hi, hinv⟩ ih
  by_cases h : (i : Int) < 8
  · have h' : i < cs.length := by omega
    have hw : IntKind.i64.wrap ((i : Int) + 1) = ((i + 1 : Nat) : Int) := by rw [w64 (by omega) (by omega)]; omega
    have hc := celsC_cel h'
    have hlt : i * 2 + 2 ≤ 16 := by omega
    have hin : inR (↑i) 8 := ⟨by omega, h⟩
    have hok : celOk cs[i] = (decide (cs[i].2.size ≤ 20) && (cs[i].1 || decide (cs[i].2 = noS))) := rfl
    have hnx : celOk cs[i] = true → ∀ (j : Nat) (h : j < cs.length), j < i + 1 → celOk cs[j] = true := fun hk j hj hji => by
      by_cases hjx : j = i
      · subst hjx; exact hk
      · exact hinv j hj (by omega)
    have hno := fun hk => vbeq (pgOk_no (l := l) h' hk).symm
    generalize cs[i] = x at hc hok hnx hno
    obtain ⟨u, v⟩ := x
    simp only [clk, wk, upd, binR, ↓reduceIte, Nat.reduceEqDiff, reduceCtorEq, ofConst, ofCell, okCell, arI, cmpI, RetQ, RetM, finV, finC, finMV, finMC, resOf, V.w1, cellsV, refsC, refsO, callR, Nat.reduceAdd, Nat.reduceMul, Nat.reduceSub, Nat.reduceLeDiff, Nat.reduceLT, Nat.reduceBEq, boxR, idxR, loadR, storeR, readSl, lenR, sliceR, boundR, makeR, pureC, pureL, TD.isAgg, Int.reduceEq, Int.reduceNe, Int.reduceLT, Int.reduceLE, Int.reduceGT, Int.reduceGE, Int.reduceToNat, Int.reduceSub, Int.reduceAdd, Int.reduceMul, likeL, likeP, eqLP, pgC_len8 hl, celsC_len8 hl, pgC_drop1, pgC_drop17 hl, celsC_all hl, pgC_fold, pgC_all hl, goR_pg0, noS_mk, refs_pgF, refs_celsF, ren_pg, ren_cels, fin_pg, finM_pg, fin_cels, finM_cels, pureL_pg, pureL_cels, hc, h, hlt, hin]
    cases u
    · simp only [clk, wk, upd, binR, ↓reduceIte, Nat.reduceEqDiff, reduceCtorEq, ofConst, ofCell, okCell, arI, cmpI, RetQ, RetM, finV, finC, finMV, finMC, resOf, V.w1, cellsV, refsC, refsO, callR, Nat.reduceAdd, Nat.reduceMul, Nat.reduceSub, Nat.reduceLeDiff, Nat.reduceLT, Nat.reduceBEq, boxR, idxR, loadR, storeR, readSl, lenR, sliceR, boundR, makeR, pureC, pureL, TD.isAgg, Int.reduceEq, Int.reduceNe, Int.reduceLT, Int.reduceLE, Int.reduceGT, Int.reduceGE, Int.reduceToNat, Int.reduceSub, Int.reduceAdd, Int.reduceMul, likeL, likeP, eqLP, noS_mk]
      refine ⟨fun h1 => hno (by rw [hok]; simp; omega), fun h1 => ⟨fun h2 => hno (by rw [hok]; simp [h2]), fun h2 => ?_⟩⟩
      exact ih (i + 1) _ ⟨by omega, hnx (by rw [hok]; simp at h2; simp [h2] <;> omega)⟩ (by omega) (weak_mem (M := []) ⟨rfl, rfl, by simp only [wk, upd, binR, ↓reduceIte, Nat.reduceEqDiff, reduceCtorEq, ofConst, ofCell, okCell, arI, cmpI, RetQ, RetM, finV, finC, finMV, finMC, resOf, V.w1, cellsV, refsC, refsO, callR, Nat.reduceAdd, Nat.reduceMul, Nat.reduceSub, Nat.reduceLeDiff, Nat.reduceLT, Nat.reduceBEq, boxR, idxR, loadR, storeR, readSl, lenR, sliceR, boundR, makeR, pureC, pureL, TD.isAgg, hw], trivial⟩ ⟨rfl, trivial⟩ (by simp only [refsT, refs_cels]; rfl) (by simp only [List.all_cons, refs_pgO]; rfl) (by rw [hE]; rfl) rfl)
    · simp only [clk, wk, upd, binR, ↓reduceIte, Nat.reduceEqDiff, reduceCtorEq, ofConst, ofCell, okCell, arI, cmpI, RetQ, RetM, finV, finC, finMV, finMC, resOf, V.w1, cellsV, refsC, refsO, callR, Nat.reduceAdd, Nat.reduceMul, Nat.reduceSub, Nat.reduceLeDiff, Nat.reduceLT, Nat.reduceBEq, boxR, idxR, loadR, storeR, readSl, lenR, sliceR, boundR, makeR, pureC, pureL, TD.isAgg, Int.reduceEq, Int.reduceNe, Int.reduceLT, Int.reduceLE, Int.reduceGT, Int.reduceGE, Int.reduceToNat, Int.reduceSub, Int.reduceAdd, Int.reduceMul, likeL, likeP, eqLP, noS_mk]
      refine ⟨fun h1 => hno (by rw [hok]; simp; omega), fun h1 => ?_⟩
      exact ih (i + 1) _ ⟨by omega, hnx (by rw [hok]; simp; omega)⟩ (by omega) (weak_mem (M := []) ⟨rfl, rfl, by simp only [wk, upd, binR, ↓reduceIte, Nat.reduceEqDiff, reduceCtorEq, ofConst, ofCell, okCell, arI, cmpI, RetQ, RetM, finV, finC, finMV, finMC, resOf, V.w1, cellsV, refsC, refsO, callR, Nat.reduceAdd, Nat.reduceMul, Nat.reduceSub, Nat.reduceLeDiff, Nat.reduceLT, Nat.reduceBEq, boxR, idxR, loadR, storeR, readSl, lenR, sliceR, boundR, makeR, pureC, pureL, TD.isAgg, hw], trivial⟩ ⟨rfl, trivial⟩ (by simp only [refsT, refs_cels]; rfl) (by simp only [List.all_cons, refs_pgO]; rfl) (by rw [hE]; rfl) rfl)
  · simp only [clk, wk, upd, binR, ↓reduceIte, Nat.reduceEqDiff, reduceCtorEq, ofConst, ofCell, okCell, arI, cmpI, RetQ, RetM, finV, finC, finMV, finMC, resOf, V.w1, cellsV, refsC, refsO, callR, Nat.reduceAdd, Nat.reduceMul, Nat.reduceSub, Nat.reduceLeDiff, Nat.reduceLT, Nat.reduceBEq, boxR, idxR, loadR, storeR, readSl, lenR, sliceR, boundR, makeR, pureC, pureL, TD.isAgg, Int.reduceEq, Int.reduceNe, Int.reduceLT, Int.reduceLE, Int.reduceGT, Int.reduceGE, Int.reduceToNat, Int.reduceSub, Int.reduceAdd, Int.reduceMul, likeL, likeP, eqLP, pgC_len8 hl, celsC_len8 hl, pgC_drop1, pgC_drop17 hl, celsC_all hl, pgC_fold, pgC_all hl, goR_pg0, noS_mk, refs_pgF, refs_celsF, ren_pg, ren_cels, fin_pg, finM_pg, fin_cels, finM_cels, pureL_pg, pureL_cels, h]
    exact vbeq (pgOk_yes fun j hj => hinv j hj (by omega)).symm
theorem c98 (l : Int) (cs : List Cel) (hl : cs.length = 8) : ConSem Try.prog tab 98 [.agg (pgC l cs)] [] (vb (pgOk l cs)) [] := by
  refine con_pure tabOk mixedOk Try.func98 rfl (by decide) (by kernel_rfl) (by show (1:Nat) ≤ _; decide) fun E hE => go_start ?_
  simp only [Try.f98, wk, upd, binR, ↓reduceIte, Nat.reduceEqDiff, reduceCtorEq, ofConst, ofCell, okCell, arI, cmpI, RetQ, RetM, finV, finC, finMV, finMC, resOf, V.w1, cellsV, refsC, refsO, callR, Nat.reduceAdd, Nat.reduceMul, Nat.reduceSub, Nat.reduceLeDiff, Nat.reduceLT, Nat.reduceBEq, boxR, idxR, loadR, storeR, readSl, lenR, sliceR, boundR, makeR, pureC, pureL, TD.isAgg, pgC_len8 hl, celsC_len8 hl, pgC_drop1, pgC_drop17 hl, celsC_all hl, pgC_fold, pgC_all hl, goR_pg0, noS_mk, refs_pgF, refs_celsF, ren_pg, ren_cels, fin_pg, finM_pg, fin_cels, finM_cels, pureL_pg, pureL_cels]
  refine aw_ind (fun i : Nat => ⟨tOf [(1, vp 1 0), (3, vi .i64 i)], mOf [(1, .box (pgC l cs))]⟩) (fun i => i ≤ 8 ∧ ∀ (j : Nat) (h : j < cs.length), j < i → celOk cs[j] = true) (fun i => 8 - i) 0 rfl
      (weak_mem (M := []) ⟨rfl, rfl, trivial⟩ ⟨rfl, trivial⟩ rfl (by simp only [List.all_cons, refs_pgO]; rfl) (by rw [hE]; rfl) rfl) ⟨by omega, fun j h h2 => by omega⟩ ?_
  rintro i ⟨hi, hinv⟩ ih
  by_cases h : (i : Int) < 8
  · have h' : i < cs.length := by omega
    have hw : IntKind.i64.wrap ((i : Int) + 1) = ((i + 1 : Nat) : Int) := by rw [w64 (by omega) (by omega)]; omega
    have hc := pgC_cel (l := l) h'
    have hlt : 1 + i * 2 + 2 ≤ 17 := by omega
    have hin : inR (↑i) 8 := ⟨by omega, h⟩
    have hok : celOk cs[i] = (decide (cs[i].2.size ≤ 20) && (cs[i].1 || decide (cs[i].2 = noS))) := rfl
    have hnx : celOk cs[i] = true → ∀ (j : Nat) (h : j < cs.length), j < i + 1 → celOk cs[j] = true := fun hk j hj hji => by
      by_cases hjx : j = i
      · subst hjx; exact hk
      · exact hinv j hj (by omega)
    have hno := fun hk => vbeq (pgOk_no (l := l) h' hk).symm
    generalize cs[i] = x at hc hok hnx hno
    obtain ⟨u, v⟩ := x
    simp only [clk, wk, upd, binR, ↓reduceIte, Nat.reduceEqDiff, reduceCtorEq, ofConst, ofCell, okCell, arI, cmpI, RetQ, RetM, finV, finC, finMV, finMC, resOf, V.w1, cellsV, refsC, refsO, callR, Nat.reduceAdd, Nat.reduceMul, Nat.reduceSub, Nat.reduceLeDiff, Nat.reduceLT, Nat.reduceBEq, boxR, idxR, loadR, storeR, readSl, lenR, sliceR, boundR, makeR, pureC, pureL, TD.isAgg, Int.reduceEq, Int.reduceNe, Int.reduceLT, Int.reduceLE, Int.reduceGT, Int.reduceGE, Int.reduceToNat, Int.reduceSub, Int.reduceAdd, Int.reduceMul, likeL, likeP, eqLP, pgC_len8 hl, celsC_len8 hl, pgC_drop1, pgC_drop17 hl, celsC_all hl, pgC_fold, pgC_all hl, goR_pg0, noS_mk, refs_pgF, refs_celsF, ren_pg, ren_cels, fin_pg, finM_pg, fin_cels, finM_cels, pureL_pg, pureL_cels, hc, h, hlt, hin]
    cases u
    · simp only [clk, wk, upd, binR, ↓reduceIte, Nat.reduceEqDiff, reduceCtorEq, ofConst, ofCell, okCell, arI, cmpI, RetQ, RetM, finV, finC, finMV, finMC, resOf, V.w1, cellsV, refsC, refsO, callR, Nat.reduceAdd, Nat.reduceMul, Nat.reduceSub, Nat.reduceLeDiff, Nat.reduceLT, Nat.reduceBEq, boxR, idxR, loadR, storeR, readSl, lenR, sliceR, boundR, makeR, pureC, pureL, TD.isAgg, Int.reduceEq, Int.reduceNe, Int.reduceLT, Int.reduceLE, Int.reduceGT, Int.reduceGE, Int.reduceToNat, Int.reduceSub, Int.reduceAdd, Int.reduceMul, likeL, likeP, eqLP, noS_mk]
      refine ⟨fun h1 => hno (by rw [hok]; simp; omega), fun h1 => ⟨fun h2 => hno (by rw [hok]; simp [h2]), fun h2 => ?_⟩⟩
      exact ih (i + 1) _ ⟨by omega, hnx (by rw [hok]; simp at h2; simp [h2] <;> omega)⟩ (by omega) (weak_mem (M := []) ⟨rfl, by simp only [wk, upd, binR, ↓reduceIte, Nat.reduceEqDiff, reduceCtorEq, ofConst, ofCell, okCell, arI, cmpI, RetQ, RetM, finV, finC, finMV, finMC, resOf, V.w1, cellsV, refsC, refsO, callR, Nat.reduceAdd, Nat.reduceMul, Nat.reduceSub, Nat.reduceLeDiff, Nat.reduceLT, Nat.reduceBEq, boxR, idxR, loadR, storeR, readSl, lenR, sliceR, boundR, makeR, pureC, pureL, TD.isAgg, hw], trivial⟩ ⟨rfl, trivial⟩ rfl (by simp only [List.all_cons, refs_pgO]; rfl) (by rw [hE]; rfl) rfl)
    · simp only [clk, wk, upd, binR, ↓reduceIte, Nat.reduceEqDiff, reduceCtorEq, ofConst, ofCell, okCell, arI, cmpI, RetQ, RetM, finV, finC, finMV, finMC, resOf, V.w1, cellsV, refsC, refsO, callR, Nat.reduceAdd, Nat.reduceMul, Nat.reduceSub, Nat.reduceLeDiff, Nat.reduceLT, Nat.reduceBEq, boxR, idxR, loadR, storeR, readSl, lenR, sliceR, boundR, makeR, pureC, pureL, TD.isAgg, Int.reduceEq, Int.reduceNe, Int.reduceLT, Int.reduceLE, Int.reduceGT, Int.reduceGE, Int.reduceToNat, Int.reduceSub, Int.reduceAdd, Int.reduceMul, likeL, likeP, eqLP, noS_mk]
      refine ⟨fun h1 => hno (by rw [hok]; simp; omega), fun h1 => ?_⟩
      exact ih (i + 1) _ ⟨by omega, hnx (by rw [hok]; simp; omega)⟩ (by omega) (weak_mem (M := []) ⟨rfl, by simp only [wk, upd, binR, ↓reduceIte, Nat.reduceEqDiff, reduceCtorEq, ofConst, ofCell, okCell, arI, cmpI, RetQ, RetM, finV, finC, finMV, finMC, resOf, V.w1, cellsV, refsC, refsO, callR, Nat.reduceAdd, Nat.reduceMul, Nat.reduceSub, Nat.reduceLeDiff, Nat.reduceLT, Nat.reduceBEq, boxR, idxR, loadR, storeR, readSl, lenR, sliceR, boundR, makeR, pureC, pureL, TD.isAgg, hw], trivial⟩ ⟨rfl, trivial⟩ rfl (by simp only [List.all_cons, refs_pgO]; rfl) (by rw [hE]; rfl) rfl)
  · simp only [clk, wk, upd, binR, ↓reduceIte, Nat.reduceEqDiff, reduceCtorEq, ofConst, ofCell, okCell, arI, cmpI, RetQ, RetM, finV, finC, finMV, finMC, resOf, V.w1, cellsV, refsC, refsO, callR, Nat.reduceAdd, Nat.reduceMul, Nat.reduceSub, Nat.reduceLeDiff, Nat.reduceLT, Nat.reduceBEq, boxR, idxR, loadR, storeR, readSl, lenR, sliceR, boundR, makeR, pureC, pureL, TD.isAgg, Int.reduceEq, Int.reduceNe, Int.reduceLT, Int.reduceLE, Int.reduceGT, Int.reduceGE, Int.reduceToNat, Int.reduceSub, Int.reduceAdd, Int.reduceMul, likeL, likeP, eqLP, pgC_len8 hl, celsC_len8 hl, pgC_drop1, pgC_drop17 hl, celsC_all hl, pgC_fold, pgC_all hl, goR_pg0, noS_mk, refs_pgF, refs_celsF, ren_pg, ren_cels, fin_pg, finM_pg, fin_cels, finM_cels, pureL_pg, pureL_cels, h]
    exact vbeq (pgOk_yes fun j hj => hinv j hj (by omega)).symm

theorem c50 (c : Chg) : ConSem Try.prog tab 50 [.agg (chC c)] [] (vb (chOk c)) [] := by
  refine con_pure tabOk mixedOk Try.func50 rfl (by decide) (by kernel_rfl) (by show (1:Nat) ≤ _; decide) fun E hE => go_start ?_
  have hb : ∀ b : Bool, (b = true ↔ chOk c = true) → V.one (Ce.p (PV.bool b)) = V.one (Ce.p (PV.bool (chOk c))) := fun b h => vbeq (by cases b <;> cases hc : chOk c <;> simp_all)
  simp only [chOk_iff] at hb
  obtain ⟨k, p, s, o, n⟩ := c
  simp only [Try.f50, wk, upd, binR, ↓reduceIte, Nat.reduceEqDiff, reduceCtorEq, ofConst, ofCell, okCell, arI, cmpI, RetQ, RetM, finV, finC, finMV, finMC, resOf, V.w1, cellsV, refsC, refsO, callR, Nat.reduceAdd, Nat.reduceMul, Nat.reduceSub, Nat.reduceLeDiff, Nat.reduceLT, Nat.reduceBEq, boxR, idxR, loadR, storeR, readSl, lenR, sliceR, boundR, makeR, pureC, pureL, TD.isAgg, Int.reduceEq, Int.reduceNe, Int.reduceLT, Int.reduceLE, Int.reduceGT, Int.reduceGE, Int.reduceToNat, Int.reduceSub, Int.reduceAdd, Int.reduceMul, likeL, likeP, eqLP, chC, noS_mk]
  repeat' (first | intro _ | apply And.intro)
  all_goals
    refine hb _ ?_
    simp only [decide_eq_true_eq, Bool.false_eq_true, false_iff, true_iff, noS_iff] at *
    omega
theorem c51 (c : Chg) : ConSem Try.prog tab 51 [.agg (chC c)] [] (vb (chOk c)) [] := by
  refine con_pure tabOk mixedOk Try.func51 rfl (by decide) (by kernel_rfl) (by show (1:Nat) ≤ _; decide) fun E hE => go_start ?_
  have hb : ∀ b : Bool, (b = true ↔ chOk c = true) → V.one (Ce.p (PV.bool b)) = V.one (Ce.p (PV.bool (chOk c))) := fun b h => vbeq (by cases b <;> cases hc : chOk c <;> simp_all)
  simp only [chOk_iff] at hb
  obtain ⟨k, p, s, o, n⟩ := c
  simp only [Try.f51, wk, upd, binR, ↓reduceIte, Nat.reduceEqDiff, reduceCtorEq, ofConst, ofCell, okCell, arI, cmpI, RetQ, RetM, finV, finC, finMV, finMC, resOf, V.w1, cellsV, refsC, refsO, callR, Nat.reduceAdd, Nat.reduceMul, Nat.reduceSub, Nat.reduceLeDiff, Nat.reduceLT, Nat.reduceBEq, boxR, idxR, loadR, storeR, readSl, lenR, sliceR, boundR, makeR, pureC, pureL, TD.isAgg, Int.reduceEq, Int.reduceNe, Int.reduceLT, Int.reduceLE, Int.reduceGT, Int.reduceGE, Int.reduceToNat, Int.reduceSub, Int.reduceAdd, Int.reduceMul, likeL, likeP, eqLP, chC, noS_mk]
  repeat' (first | intro _ | apply And.intro)
  all_goals
    refine hb _ ?_
    simp only [decide_eq_true_eq, Bool.false_eq_true, false_iff, true_iff, noS_iff] at *
    omega
end Go.AW
