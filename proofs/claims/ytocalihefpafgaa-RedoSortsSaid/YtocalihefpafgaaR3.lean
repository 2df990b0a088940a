import Derived.Test.YtocalihefpafgaaAW
import Derived.Test.YtocalihefpafgaaR1
/- The tables of a checkpoint's record: may they be? -/
set_option maxRecDepth 100000
set_option maxHeartbeats 2000000
set_option linter.unusedSimpArgs false
set_option linter.unusedVariables false
namespace Go.AW
open Go.Proofs

theorem refs_recO (r : Rec) : refsO (.box (recC r)) = [] := rfl

theorem c123 (r : Rec) : ConSem Try.prog tab 123 [.agg (recC r)] [] (vb (rowsOk r)) [] := by
  refine con_pure tabOk mixedOk Try.func123 rfl (by decide) (by kernel_rfl) (by show (1:Nat) ≤ _; decide) fun E hE => go_start ?_
  have hm : maxLen ≤ 9223372036854775807 := by decide
  simp only [Try.f123, wk, upd, binR, ↓reduceIte, Nat.reduceEqDiff, reduceCtorEq, ofConst, ofCell, okCell, arI, cmpI, RetQ, RetM, finV, finC, finMV, finMC, resOf, V.w1, cellsV, refsC, refsO, callR, Nat.reduceAdd, Nat.reduceMul, Nat.reduceSub, Nat.reduceLeDiff, Nat.reduceLT, Nat.reduceBEq, boxR, idxR, loadR, storeR, readSl, lenR, sliceR, boundR, makeR, pureC, pureL, TD.isAgg, Int.reduceEq, Int.reduceNe, Int.reduceLT, Int.reduceLE, Int.reduceGT, Int.reduceGE, Int.reduceToNat, Int.reduceSub, Int.reduceAdd, Int.reduceMul, likeL, likeP, eqLP, recC, trs_length, drs_length]
  refine ⟨fun h => vbeq ?_, fun h => ⟨fun h2 => vbeq ?_, fun h2 => ?_⟩⟩
  · unfold rowsOk; rw [decide_eq_false (by omega)]; rfl
  · unfold rowsOk; rw [decide_eq_false (by omega)]; rfl
  have hb : rowsOk r = (scanB (trOk r.lsn) TRow.t 0 r.ts && scanB (drOk r.lsn) DRow.p (-1) r.ds) := by
    unfold rowsOk; rw [decide_eq_true (by omega), Bool.true_and]
  refine aw_ind (fun i : Nat => ⟨tOf [(1, vp 1 0), (3, vi .i64 (prv TRow.t 0 r.ts i)), (19, vs (trs r.ts)), (20, vi .i64 r.ts.length), (21, vi .i64 i)], mOf [(1, .box (recC r))]⟩)
    (fun i => i ≤ r.ts.length ∧ ∀ (j : Nat) (h : j < r.ts.length), j < i → trOk r.lsn (prv TRow.t 0 r.ts j) r.ts[j] = true) (fun i => r.ts.length - i) 0 rfl
      (weak_mem (M := []) ⟨rfl, rfl, rfl, rfl, rfl, trivial⟩ ⟨rfl, trivial⟩ rfl rfl (by rw [hE]; rfl) rfl) ⟨by omega, fun j h h2 => by omega⟩ ?_
  rintro i ⟨hi, hinv⟩ ih
  by_cases hlt : (i : Int) < r.ts.length
  · have h' : i < r.ts.length := by omega
    have hw : IntKind.i64.wrap ((i : Int) + 1) = ((i + 1 : Nat) : Int) := by rw [w64 (by omega) (by omega)]; omega
    have hx := trs_get h'
    have hno := fun hk => vbeq (a := false) (b := rowsOk r) (by rw [hb, scan_no (ok := trOk r.lsn) h' hk]; rfl)
    have hnx : trOk r.lsn (prv TRow.t 0 r.ts i) r.ts[i] = true → ∀ (j : Nat) (h : j < r.ts.length), j < i + 1 → trOk r.lsn (prv TRow.t 0 r.ts j) r.ts[j] = true := fun hk j hj hji => by
      by_cases hjx : j = i
      · subst hjx; exact hk
      · exact hinv j hj (by omega)
    have hps := prv_succ (nx := TRow.t) (b := 0) h'
    generalize r.ts[i] = x at hx hno hnx hps
    have hstep := fun hk σ' hws => ih (i + 1) σ' ⟨by omega, hnx hk⟩ (by omega) hws
    rw [hps] at hstep
    generalize prv TRow.t 0 r.ts i = ab at hno hnx hstep ⊢
    obtain ⟨t, s, f, l, n⟩ := x
    have h0i : (0 : Int) ≤ i := by omega
    simp only [wk, upd, binR, ↓reduceIte, Nat.reduceEqDiff, reduceCtorEq, ofConst, ofCell, okCell, arI, cmpI, RetQ, RetM, finV, finC, finMV, finMC, resOf, V.w1, cellsV, refsC, refsO, callR, Nat.reduceAdd, Nat.reduceMul, Nat.reduceSub, Nat.reduceLeDiff, Nat.reduceLT, Nat.reduceBEq, boxR, idxR, loadR, storeR, readSl, lenR, sliceR, boundR, makeR, pureC, pureL, TD.isAgg, Int.reduceEq, Int.reduceNe, Int.reduceLT, Int.reduceLE, Int.reduceGT, Int.reduceGE, Int.reduceToNat, Int.reduceSub, Int.reduceAdd, Int.reduceMul, likeL, likeP, eqLP, hlt, h0i, elem_eq hx, trP, recC]
    repeat' (first
      | exact hno (by simp only [trOk]; exact decide_eq_false (by omega))
      | exact hstep (by simp only [trOk]; exact decide_eq_true (by omega)) _ (weak_mem (M := []) ⟨rfl, rfl, rfl, rfl, by simp only [wk, upd, binR, ↓reduceIte, Nat.reduceEqDiff, reduceCtorEq, ofConst, ofCell, okCell, arI, cmpI, RetQ, RetM, finV, finC, finMV, finMC, resOf, V.w1, cellsV, refsC, refsO, callR, Nat.reduceAdd, Nat.reduceMul, Nat.reduceSub, Nat.reduceLeDiff, Nat.reduceLT, Nat.reduceBEq, boxR, idxR, loadR, storeR, readSl, lenR, sliceR, boundR, makeR, pureC, pureL, TD.isAgg, hw], trivial⟩ ⟨rfl, trivial⟩ rfl rfl (by rw [hE]; rfl) rfl)
      | apply And.intro
      | intro _)

  · have hall : ∀ (j : Nat) (h : j < r.ts.length), trOk r.lsn (prv TRow.t 0 r.ts j) r.ts[j] = true := fun j hj => hinv j hj (by omega)
    have hs := (scanB_iff (trOk r.lsn) TRow.t r.ts 0).2 hall
    have hts := hs
    simp only [wk, upd, binR, ↓reduceIte, Nat.reduceEqDiff, reduceCtorEq, ofConst, ofCell, okCell, arI, cmpI, RetQ, RetM, finV, finC, finMV, finMC, resOf, V.w1, cellsV, refsC, refsO, callR, Nat.reduceAdd, Nat.reduceMul, Nat.reduceSub, Nat.reduceLeDiff, Nat.reduceLT, Nat.reduceBEq, boxR, idxR, loadR, storeR, readSl, lenR, sliceR, boundR, makeR, pureC, pureL, TD.isAgg, Int.reduceEq, Int.reduceNe, Int.reduceLT, Int.reduceLE, Int.reduceGT, Int.reduceGE, Int.reduceToNat, Int.reduceSub, Int.reduceAdd, Int.reduceMul, likeL, likeP, eqLP, hlt, recC, drs_length]
    refine aw_ind (fun i : Nat => ⟨tOf [(1, vp 1 0), (3, vi .i64 (prv DRow.p (-1) r.ds i)), (72, vs (drs r.ds)), (73, vi .i64 r.ds.length), (74, vi .i64 i)], mOf [(1, .box (recC r))]⟩)
      (fun i => i ≤ r.ds.length ∧ ∀ (j : Nat) (h : j < r.ds.length), j < i → drOk r.lsn (prv DRow.p (-1) r.ds j) r.ds[j] = true) (fun i => r.ds.length - i) 0 rfl
        (weak_mem (M := []) ⟨rfl, rfl, rfl, rfl, rfl, trivial⟩ ⟨rfl, trivial⟩ rfl rfl (by rw [hE]; rfl) rfl) ⟨by omega, fun j h h2 => by omega⟩ ?_
    rintro i ⟨hi, hinv⟩ ih
    by_cases hlt : (i : Int) < r.ds.length
    · have h' : i < r.ds.length := by omega
      have hw : IntKind.i64.wrap ((i : Int) + 1) = ((i + 1 : Nat) : Int) := by rw [w64 (by omega) (by omega)]; omega
      have hx := drs_get h'
      have hno := fun hk => vbeq (a := false) (b := rowsOk r) (by rw [hb, scan_no (ok := drOk r.lsn) h' hk]; cases scanB (trOk r.lsn) TRow.t 0 r.ts <;> rfl)
      have hnx : drOk r.lsn (prv DRow.p (-1) r.ds i) r.ds[i] = true → ∀ (j : Nat) (h : j < r.ds.length), j < i + 1 → drOk r.lsn (prv DRow.p (-1) r.ds j) r.ds[j] = true := fun hk j hj hji => by
        by_cases hjx : j = i
        · subst hjx; exact hk
        · exact hinv j hj (by omega)
      have hps := prv_succ (nx := DRow.p) (b := (-1)) h'
      generalize r.ds[i] = x at hx hno hnx hps
      have hstep := fun hk σ' hws => ih (i + 1) σ' ⟨by omega, hnx hk⟩ (by omega) hws
      rw [hps] at hstep
      generalize prv DRow.p (-1) r.ds i = ab at hno hnx hstep ⊢
      obtain ⟨p, q⟩ := x
      have h0i : (0 : Int) ≤ i := by omega
      simp only [wk, upd, binR, ↓reduceIte, Nat.reduceEqDiff, reduceCtorEq, ofConst, ofCell, okCell, arI, cmpI, RetQ, RetM, finV, finC, finMV, finMC, resOf, V.w1, cellsV, refsC, refsO, callR, Nat.reduceAdd, Nat.reduceMul, Nat.reduceSub, Nat.reduceLeDiff, Nat.reduceLT, Nat.reduceBEq, boxR, idxR, loadR, storeR, readSl, lenR, sliceR, boundR, makeR, pureC, pureL, TD.isAgg, Int.reduceEq, Int.reduceNe, Int.reduceLT, Int.reduceLE, Int.reduceGT, Int.reduceGE, Int.reduceToNat, Int.reduceSub, Int.reduceAdd, Int.reduceMul, likeL, likeP, eqLP, hlt, h0i, elem_eq hx, drP, recC]
      repeat' (first
        | exact hno (by simp only [drOk]; exact decide_eq_false (by omega))
        | exact hstep (by simp only [drOk]; exact decide_eq_true (by omega)) _ (weak_mem (M := []) ⟨rfl, rfl, rfl, rfl, by simp only [wk, upd, binR, ↓reduceIte, Nat.reduceEqDiff, reduceCtorEq, ofConst, ofCell, okCell, arI, cmpI, RetQ, RetM, finV, finC, finMV, finMC, resOf, V.w1, cellsV, refsC, refsO, callR, Nat.reduceAdd, Nat.reduceMul, Nat.reduceSub, Nat.reduceLeDiff, Nat.reduceLT, Nat.reduceBEq, boxR, idxR, loadR, storeR, readSl, lenR, sliceR, boundR, makeR, pureC, pureL, TD.isAgg, hw], trivial⟩ ⟨rfl, trivial⟩ rfl rfl (by rw [hE]; rfl) rfl)
        | apply And.intro
        | intro _)

    · have hall : ∀ (j : Nat) (h : j < r.ds.length), drOk r.lsn (prv DRow.p (-1) r.ds j) r.ds[j] = true := fun j hj => hinv j hj (by omega)
      have hs := (scanB_iff (drOk r.lsn) DRow.p r.ds (-1)).2 hall
      simp only [wk, upd, binR, ↓reduceIte, Nat.reduceEqDiff, reduceCtorEq, ofConst, ofCell, okCell, arI, cmpI, RetQ, RetM, finV, finC, finMV, finMC, resOf, V.w1, cellsV, refsC, refsO, callR, Nat.reduceAdd, Nat.reduceMul, Nat.reduceSub, Nat.reduceLeDiff, Nat.reduceLT, Nat.reduceBEq, boxR, idxR, loadR, storeR, readSl, lenR, sliceR, boundR, makeR, pureC, pureL, TD.isAgg, Int.reduceEq, Int.reduceNe, Int.reduceLT, Int.reduceLE, Int.reduceGT, Int.reduceGE, Int.reduceToNat, Int.reduceSub, Int.reduceAdd, Int.reduceMul, likeL, likeP, eqLP, hlt]
      exact vbeq (by rw [hb, hts, hs]; rfl)

theorem c125 (r : Rec) : ConSem Try.prog tab 125 [.agg (recC r)] [] (vb (rowsOk r && decide (1 ≤ r.beg ∧ r.beg < r.lsn))) [] := by
  refine con_pure tabOk mixedOk Try.func125 rfl (by decide) (by kernel_rfl) (by show (1:Nat) ≤ _; decide) fun E hE => go_start ?_
  have hm : maxLen ≤ 9223372036854775807 := by decide
  simp only [Try.f125, wk, upd, binR, ↓reduceIte, Nat.reduceEqDiff, reduceCtorEq, ofConst, ofCell, okCell, arI, cmpI, RetQ, RetM, finV, finC, finMV, finMC, resOf, V.w1, cellsV, refsC, refsO, callR, Nat.reduceAdd, Nat.reduceMul, Nat.reduceSub, Nat.reduceLeDiff, Nat.reduceLT, Nat.reduceBEq, boxR, idxR, loadR, storeR, readSl, lenR, sliceR, boundR, makeR, pureC, pureL, TD.isAgg, Int.reduceEq, Int.reduceNe, Int.reduceLT, Int.reduceLE, Int.reduceGT, Int.reduceGE, Int.reduceToNat, Int.reduceSub, Int.reduceAdd, Int.reduceMul, likeL, likeP, eqLP, recC, trs_length, drs_length]
  refine ⟨fun h => vbeq ?_, fun h => ⟨fun h2 => vbeq ?_, fun h2 => ?_⟩⟩
  · unfold rowsOk; rw [decide_eq_false (by omega)]; rfl
  · unfold rowsOk; rw [decide_eq_false (by omega)]; rfl
  have hb : rowsOk r = (scanB (trOk r.lsn) TRow.t 0 r.ts && scanB (drOk r.lsn) DRow.p (-1) r.ds) := by
    unfold rowsOk; rw [decide_eq_true (by omega), Bool.true_and]
  refine aw_ind (fun i : Nat => ⟨tOf [(1, vp 1 0), (19, vi .i64 r.ts.length), (20, vi .i64 i)], mOf [(1, .box (recC r))]⟩)
    (fun i => i ≤ r.ts.length ∧ ∀ (j : Nat) (h : j < r.ts.length), j < i → (trOk r.lsn (prv TRow.t 0 r.ts j) r.ts[j] = true ∧ 1 ≤ r.ts[j].t)) (fun i => r.ts.length - i) 0 rfl
      (weak_mem (M := []) ⟨rfl, rfl, rfl, trivial⟩ ⟨rfl, trivial⟩ rfl rfl (by rw [hE]; rfl) rfl) ⟨by omega, fun j h h2 => by omega⟩ ?_
  rintro i ⟨hi, hinv⟩ ih
  by_cases hlt : (i : Int) < r.ts.length
  · have h' : i < r.ts.length := by omega
    have hw : IntKind.i64.wrap ((i : Int) + 1) = ((i + 1 : Nat) : Int) := by rw [w64 (by omega) (by omega)]; omega
    have hx := trs_get h'
    have hno := fun hk => vbeq (a := false) (b := rowsOk r && decide (1 ≤ r.beg ∧ r.beg < r.lsn)) (by rw [hb, scan_no (ok := trOk r.lsn) h' hk]; rfl)
    have hnx : (trOk r.lsn (prv TRow.t 0 r.ts i) r.ts[i] = true ∧ 1 ≤ r.ts[i].t) → ∀ (j : Nat) (h : j < r.ts.length), j < i + 1 → (trOk r.lsn (prv TRow.t 0 r.ts j) r.ts[j] = true ∧ 1 ≤ r.ts[j].t) := fun hk j hj hji => by
      by_cases hjx : j = i
      · subst hjx; exact hk
      · exact hinv j hj (by omega)
    have hstep := fun hk σ' hws => ih (i + 1) σ' ⟨by omega, hnx hk⟩ (by omega) hws
    cases i with
    | zero =>
      have hw : IntKind.i64.wrap 1 = ((0 + 1 : Nat) : Int) := by rw [w64 (by omega) (by omega)]; rfl
      have hp0 : prv TRow.t 0 r.ts 0 = 0 := rfl
      rw [hp0] at hno hstep
      generalize r.ts[0] = x at hx hno hstep
      obtain ⟨t, s, f, l, n⟩ := x
      simp only at hno hstep
      simp only [wk, upd, binR, ↓reduceIte, Nat.reduceEqDiff, reduceCtorEq, ofConst, ofCell, okCell, arI, cmpI, RetQ, RetM, finV, finC, finMV, finMC, resOf, V.w1, cellsV, refsC, refsO, callR, Nat.reduceAdd, Nat.reduceMul, Nat.reduceSub, Nat.reduceLeDiff, Nat.reduceLT, Nat.reduceBEq, boxR, idxR, loadR, storeR, readSl, lenR, sliceR, boundR, makeR, pureC, pureL, TD.isAgg, Int.reduceEq, Int.reduceNe, Int.reduceLT, Int.reduceLE, Int.reduceGT, Int.reduceGE, Int.reduceToNat, Int.reduceSub, Int.reduceAdd, Int.reduceMul, likeL, likeP, eqLP, hlt, elem_eq hx, trP, recC, Int.ofNat_zero]
      repeat' (first
        | exact hno (by simp only [trOk]; exact decide_eq_false (by omega))
        | exact hstep ⟨by simp only [trOk]; exact decide_eq_true (by omega), by omega⟩ _ (weak_mem (M := []) ⟨rfl, rfl, by simp only [wk, upd, binR, ↓reduceIte, Nat.reduceEqDiff, reduceCtorEq, ofConst, ofCell, okCell, arI, cmpI, RetQ, RetM, finV, finC, finMV, finMC, resOf, V.w1, cellsV, refsC, refsO, callR, Nat.reduceAdd, Nat.reduceMul, Nat.reduceSub, Nat.reduceLeDiff, Nat.reduceLT, Nat.reduceBEq, boxR, idxR, loadR, storeR, readSl, lenR, sliceR, boundR, makeR, pureC, pureL, TD.isAgg, hw], trivial⟩ ⟨rfl, trivial⟩ rfl rfl (by rw [hE]; rfl) rfl)
        | exact ⟨rfl, hno (by simp only [trOk]; exact decide_eq_false (by omega))⟩
        | exact ⟨rfl, hstep ⟨by simp only [trOk]; exact decide_eq_true (by omega), by omega⟩ _ (weak_mem (M := []) ⟨rfl, rfl, by simp only [wk, upd, binR, ↓reduceIte, Nat.reduceEqDiff, reduceCtorEq, ofConst, ofCell, okCell, arI, cmpI, RetQ, RetM, finV, finC, finMV, finMC, resOf, V.w1, cellsV, refsC, refsO, callR, Nat.reduceAdd, Nat.reduceMul, Nat.reduceSub, Nat.reduceLeDiff, Nat.reduceLT, Nat.reduceBEq, boxR, idxR, loadR, storeR, readSl, lenR, sliceR, boundR, makeR, pureC, pureL, TD.isAgg, hw], trivial⟩ ⟨rfl, trivial⟩ rfl rfl (by rw [hE]; rfl) rfl)⟩
        | apply And.intro
        | rfl
        | omega
        | intro _)
    | succ k =>
      have h0i : (0 : Int) ≤ ((k + 1 : Nat) : Int) := by omega
      have h1i : (0 : Int) < ((k + 1 : Nat) : Int) := by omega
      have hk' : k < r.ts.length := by omega
      have h0k : (0 : Int) ≤ (k : Int) := by omega
      have ew : IntKind.i64.wrap (((k + 1 : Nat) : Int) - 1) = (k : Int) := by rw [w64 (by omega) (by omega)]; omega
      have hps := prv_succ (nx := TRow.t) (b := 0) hk'
      have hpk := hinv k hk' (by omega)
      have hy := trs_get hk'
      rw [hps] at hno hstep
      generalize r.ts[k + 1] = x at hx hno hstep
      generalize r.ts[k] = y at hy hno hstep hpk
      obtain ⟨t, s, f, l, n⟩ := x
      obtain ⟨t2, s2, f2, l2, n2⟩ := y
      have hpk2 := hpk.2
      simp only at hpk2 hno hstep
      simp only [wk, upd, binR, ↓reduceIte, Nat.reduceEqDiff, reduceCtorEq, ofConst, ofCell, okCell, arI, cmpI, RetQ, RetM, finV, finC, finMV, finMC, resOf, V.w1, cellsV, refsC, refsO, callR, Nat.reduceAdd, Nat.reduceMul, Nat.reduceSub, Nat.reduceLeDiff, Nat.reduceLT, Nat.reduceBEq, boxR, idxR, loadR, storeR, readSl, lenR, sliceR, boundR, makeR, pureC, pureL, TD.isAgg, Int.reduceEq, Int.reduceNe, Int.reduceLT, Int.reduceLE, Int.reduceGT, Int.reduceGE, Int.reduceToNat, Int.reduceSub, Int.reduceAdd, Int.reduceMul, likeL, likeP, eqLP, hlt, h0i, h1i, h0k, ew, elem_eq hx, elem_eq hy, trP, recC]
      repeat' (first
        | exact hno (by simp only [trOk]; exact decide_eq_false (by omega))
        | exact hstep ⟨by simp only [trOk]; exact decide_eq_true (by omega), by omega⟩ _ (weak_mem (M := []) ⟨rfl, rfl, by simp only [wk, upd, binR, ↓reduceIte, Nat.reduceEqDiff, reduceCtorEq, ofConst, ofCell, okCell, arI, cmpI, RetQ, RetM, finV, finC, finMV, finMC, resOf, V.w1, cellsV, refsC, refsO, callR, Nat.reduceAdd, Nat.reduceMul, Nat.reduceSub, Nat.reduceLeDiff, Nat.reduceLT, Nat.reduceBEq, boxR, idxR, loadR, storeR, readSl, lenR, sliceR, boundR, makeR, pureC, pureL, TD.isAgg, hw], trivial⟩ ⟨rfl, trivial⟩ rfl rfl (by rw [hE]; rfl) rfl)
        | exact ⟨rfl, hno (by simp only [trOk]; exact decide_eq_false (by omega))⟩
        | exact ⟨rfl, hstep ⟨by simp only [trOk]; exact decide_eq_true (by omega), by omega⟩ _ (weak_mem (M := []) ⟨rfl, rfl, by simp only [wk, upd, binR, ↓reduceIte, Nat.reduceEqDiff, reduceCtorEq, ofConst, ofCell, okCell, arI, cmpI, RetQ, RetM, finV, finC, finMV, finMC, resOf, V.w1, cellsV, refsC, refsO, callR, Nat.reduceAdd, Nat.reduceMul, Nat.reduceSub, Nat.reduceLeDiff, Nat.reduceLT, Nat.reduceBEq, boxR, idxR, loadR, storeR, readSl, lenR, sliceR, boundR, makeR, pureC, pureL, TD.isAgg, hw], trivial⟩ ⟨rfl, trivial⟩ rfl rfl (by rw [hE]; rfl) rfl)⟩
        | apply And.intro
        | rfl
        | omega
        | intro _)
  · have hall : ∀ (j : Nat) (h : j < r.ts.length), trOk r.lsn (prv TRow.t 0 r.ts j) r.ts[j] = true := fun j hj => (hinv j hj (by omega)).1
    have hs := (scanB_iff (trOk r.lsn) TRow.t r.ts 0).2 hall
    have hts := hs
    simp only [wk, upd, binR, ↓reduceIte, Nat.reduceEqDiff, reduceCtorEq, ofConst, ofCell, okCell, arI, cmpI, RetQ, RetM, finV, finC, finMV, finMC, resOf, V.w1, cellsV, refsC, refsO, callR, Nat.reduceAdd, Nat.reduceMul, Nat.reduceSub, Nat.reduceLeDiff, Nat.reduceLT, Nat.reduceBEq, boxR, idxR, loadR, storeR, readSl, lenR, sliceR, boundR, makeR, pureC, pureL, TD.isAgg, Int.reduceEq, Int.reduceNe, Int.reduceLT, Int.reduceLE, Int.reduceGT, Int.reduceGE, Int.reduceToNat, Int.reduceSub, Int.reduceAdd, Int.reduceMul, likeL, likeP, eqLP, hlt, recC, drs_length]
    refine aw_ind (fun i : Nat => ⟨tOf [(1, vp 1 0), (89, vi .i64 r.ds.length), (90, vi .i64 i)], mOf [(1, .box (recC r))]⟩)
      (fun i => i ≤ r.ds.length ∧ ∀ (j : Nat) (h : j < r.ds.length), j < i → (drOk r.lsn (prv DRow.p (-1) r.ds j) r.ds[j] = true ∧ 0 ≤ r.ds[j].p)) (fun i => r.ds.length - i) 0 rfl
        (weak_mem (M := []) ⟨rfl, rfl, rfl, trivial⟩ ⟨rfl, trivial⟩ rfl rfl (by rw [hE]; rfl) rfl) ⟨by omega, fun j h h2 => by omega⟩ ?_
    rintro i ⟨hi, hinv⟩ ih
    by_cases hlt : (i : Int) < r.ds.length
    · have h' : i < r.ds.length := by omega
      have hw : IntKind.i64.wrap ((i : Int) + 1) = ((i + 1 : Nat) : Int) := by rw [w64 (by omega) (by omega)]; omega
      have hx := drs_get h'
      have hno := fun hk => vbeq (a := false) (b := rowsOk r && decide (1 ≤ r.beg ∧ r.beg < r.lsn)) (by rw [hb, scan_no (ok := drOk r.lsn) h' hk]; cases scanB (trOk r.lsn) TRow.t 0 r.ts <;> rfl)
      have hnx : (drOk r.lsn (prv DRow.p (-1) r.ds i) r.ds[i] = true ∧ 0 ≤ r.ds[i].p) → ∀ (j : Nat) (h : j < r.ds.length), j < i + 1 → (drOk r.lsn (prv DRow.p (-1) r.ds j) r.ds[j] = true ∧ 0 ≤ r.ds[j].p) := fun hk j hj hji => by
        by_cases hjx : j = i
        · subst hjx; exact hk
        · exact hinv j hj (by omega)
      have hstep := fun hk σ' hws => ih (i + 1) σ' ⟨by omega, hnx hk⟩ (by omega) hws
      cases i with
      | zero =>
        have hw : IntKind.i64.wrap 1 = ((0 + 1 : Nat) : Int) := by rw [w64 (by omega) (by omega)]; rfl
        have hp0 : prv DRow.p (-1) r.ds 0 = (-1) := rfl
        rw [hp0] at hno hstep
        generalize r.ds[0] = x at hx hno hstep
        obtain ⟨p, q⟩ := x
        simp only at hno hstep
        simp only [wk, upd, binR, ↓reduceIte, Nat.reduceEqDiff, reduceCtorEq, ofConst, ofCell, okCell, arI, cmpI, RetQ, RetM, finV, finC, finMV, finMC, resOf, V.w1, cellsV, refsC, refsO, callR, Nat.reduceAdd, Nat.reduceMul, Nat.reduceSub, Nat.reduceLeDiff, Nat.reduceLT, Nat.reduceBEq, boxR, idxR, loadR, storeR, readSl, lenR, sliceR, boundR, makeR, pureC, pureL, TD.isAgg, Int.reduceEq, Int.reduceNe, Int.reduceLT, Int.reduceLE, Int.reduceGT, Int.reduceGE, Int.reduceToNat, Int.reduceSub, Int.reduceAdd, Int.reduceMul, likeL, likeP, eqLP, hlt, elem_eq hx, drP, recC, Int.ofNat_zero]
        repeat' (first
          | exact hno (by simp only [drOk]; exact decide_eq_false (by omega))
          | exact hstep ⟨by simp only [drOk]; exact decide_eq_true (by omega), by omega⟩ _ (weak_mem (M := []) ⟨rfl, rfl, by simp only [wk, upd, binR, ↓reduceIte, Nat.reduceEqDiff, reduceCtorEq, ofConst, ofCell, okCell, arI, cmpI, RetQ, RetM, finV, finC, finMV, finMC, resOf, V.w1, cellsV, refsC, refsO, callR, Nat.reduceAdd, Nat.reduceMul, Nat.reduceSub, Nat.reduceLeDiff, Nat.reduceLT, Nat.reduceBEq, boxR, idxR, loadR, storeR, readSl, lenR, sliceR, boundR, makeR, pureC, pureL, TD.isAgg, hw], trivial⟩ ⟨rfl, trivial⟩ rfl rfl (by rw [hE]; rfl) rfl)
          | exact ⟨rfl, hno (by simp only [drOk]; exact decide_eq_false (by omega))⟩
          | exact ⟨rfl, hstep ⟨by simp only [drOk]; exact decide_eq_true (by omega), by omega⟩ _ (weak_mem (M := []) ⟨rfl, rfl, by simp only [wk, upd, binR, ↓reduceIte, Nat.reduceEqDiff, reduceCtorEq, ofConst, ofCell, okCell, arI, cmpI, RetQ, RetM, finV, finC, finMV, finMC, resOf, V.w1, cellsV, refsC, refsO, callR, Nat.reduceAdd, Nat.reduceMul, Nat.reduceSub, Nat.reduceLeDiff, Nat.reduceLT, Nat.reduceBEq, boxR, idxR, loadR, storeR, readSl, lenR, sliceR, boundR, makeR, pureC, pureL, TD.isAgg, hw], trivial⟩ ⟨rfl, trivial⟩ rfl rfl (by rw [hE]; rfl) rfl)⟩
          | apply And.intro
          | rfl
          | omega
          | intro _)
      | succ k =>
        have h0i : (0 : Int) ≤ ((k + 1 : Nat) : Int) := by omega
        have h1i : (0 : Int) < ((k + 1 : Nat) : Int) := by omega
        have hk' : k < r.ds.length := by omega
        have h0k : (0 : Int) ≤ (k : Int) := by omega
        have ew : IntKind.i64.wrap (((k + 1 : Nat) : Int) - 1) = (k : Int) := by rw [w64 (by omega) (by omega)]; omega
        have hps := prv_succ (nx := DRow.p) (b := (-1)) hk'
        have hpk := hinv k hk' (by omega)
        have hy := drs_get hk'
        rw [hps] at hno hstep
        generalize r.ds[k + 1] = x at hx hno hstep
        generalize r.ds[k] = y at hy hno hstep hpk
        obtain ⟨p, q⟩ := x
        obtain ⟨p2, q2⟩ := y
        have hpk2 := hpk.2
        simp only at hpk2 hno hstep
        simp only [wk, upd, binR, ↓reduceIte, Nat.reduceEqDiff, reduceCtorEq, ofConst, ofCell, okCell, arI, cmpI, RetQ, RetM, finV, finC, finMV, finMC, resOf, V.w1, cellsV, refsC, refsO, callR, Nat.reduceAdd, Nat.reduceMul, Nat.reduceSub, Nat.reduceLeDiff, Nat.reduceLT, Nat.reduceBEq, boxR, idxR, loadR, storeR, readSl, lenR, sliceR, boundR, makeR, pureC, pureL, TD.isAgg, Int.reduceEq, Int.reduceNe, Int.reduceLT, Int.reduceLE, Int.reduceGT, Int.reduceGE, Int.reduceToNat, Int.reduceSub, Int.reduceAdd, Int.reduceMul, likeL, likeP, eqLP, hlt, h0i, h1i, h0k, ew, elem_eq hx, elem_eq hy, drP, recC]
        repeat' (first
          | exact hno (by simp only [drOk]; exact decide_eq_false (by omega))
          | exact hstep ⟨by simp only [drOk]; exact decide_eq_true (by omega), by omega⟩ _ (weak_mem (M := []) ⟨rfl, rfl, by simp only [wk, upd, binR, ↓reduceIte, Nat.reduceEqDiff, reduceCtorEq, ofConst, ofCell, okCell, arI, cmpI, RetQ, RetM, finV, finC, finMV, finMC, resOf, V.w1, cellsV, refsC, refsO, callR, Nat.reduceAdd, Nat.reduceMul, Nat.reduceSub, Nat.reduceLeDiff, Nat.reduceLT, Nat.reduceBEq, boxR, idxR, loadR, storeR, readSl, lenR, sliceR, boundR, makeR, pureC, pureL, TD.isAgg, hw], trivial⟩ ⟨rfl, trivial⟩ rfl rfl (by rw [hE]; rfl) rfl)
          | exact ⟨rfl, hno (by simp only [drOk]; exact decide_eq_false (by omega))⟩
          | exact ⟨rfl, hstep ⟨by simp only [drOk]; exact decide_eq_true (by omega), by omega⟩ _ (weak_mem (M := []) ⟨rfl, rfl, by simp only [wk, upd, binR, ↓reduceIte, Nat.reduceEqDiff, reduceCtorEq, ofConst, ofCell, okCell, arI, cmpI, RetQ, RetM, finV, finC, finMV, finMC, resOf, V.w1, cellsV, refsC, refsO, callR, Nat.reduceAdd, Nat.reduceMul, Nat.reduceSub, Nat.reduceLeDiff, Nat.reduceLT, Nat.reduceBEq, boxR, idxR, loadR, storeR, readSl, lenR, sliceR, boundR, makeR, pureC, pureL, TD.isAgg, hw], trivial⟩ ⟨rfl, trivial⟩ rfl rfl (by rw [hE]; rfl) rfl)⟩
          | apply And.intro
          | rfl
          | omega
          | intro _)
    · have hall : ∀ (j : Nat) (h : j < r.ds.length), drOk r.lsn (prv DRow.p (-1) r.ds j) r.ds[j] = true := fun j hj => (hinv j hj (by omega)).1
      have hs := (scanB_iff (drOk r.lsn) DRow.p r.ds (-1)).2 hall
      simp only [wk, upd, binR, ↓reduceIte, Nat.reduceEqDiff, reduceCtorEq, ofConst, ofCell, okCell, arI, cmpI, RetQ, RetM, finV, finC, finMV, finMC, resOf, V.w1, cellsV, refsC, refsO, callR, Nat.reduceAdd, Nat.reduceMul, Nat.reduceSub, Nat.reduceLeDiff, Nat.reduceLT, Nat.reduceBEq, boxR, idxR, loadR, storeR, readSl, lenR, sliceR, boundR, makeR, pureC, pureL, TD.isAgg, Int.reduceEq, Int.reduceNe, Int.reduceLT, Int.reduceLE, Int.reduceGT, Int.reduceGE, Int.reduceToNat, Int.reduceSub, Int.reduceAdd, Int.reduceMul, likeL, likeP, eqLP, hlt, recC]
      have hrk : rowsOk r = true := by rw [hb, hts, hs]; rfl
      rw [hrk]
      refine ⟨fun h1 => vbeq ?_, fun h1 => vbeq ?_⟩ <;> simp [h1]
end Go.AW

/- May a record be? In the document's answer. -/
set_option maxRecDepth 100000
set_option maxHeartbeats 4000000
set_option linter.unusedSimpArgs false
set_option linter.unusedVariables false
namespace Go.AW
open Go.Proofs

theorem recOk_leaf (r : Rec) : ∀ b : Bool, (b = true ↔ recOkP r) → V.one (Ce.p (PV.bool b)) = V.one (Ce.p (PV.bool (recOk r))) := fun b h => vbeq (by
  unfold recOk
  cases b
  · exact (decide_eq_false (fun hp => by simpa using h.2 hp)).symm
  · exact (decide_eq_true (h.1 rfl)).symm)

theorem c109A (r : Rec) (hk : r.k = 1) (co ro : Bool) (hco : chOk r.ch = co) (hro : rowsOk r = ro) : ConSem Try.prog tab 109 [.agg (recC r)] [] (vb (recOk r)) [] := by
  refine con_pure tabOk mixedOk Try.func109 rfl (by decide) (by kernel_rfl) (by show (1:Nat) ≤ _; decide) fun E hE => go_start ?_
  have hb : ∀ b : Bool, (b = true ↔ recOkP r) → V.one (Ce.p (PV.bool b)) = V.one (Ce.p (PV.bool (recOk r))) := recOk_leaf r
  have h0 := c124 r.k
  rw [decide_eq_true (show 1 ≤ r.k ∧ r.k ≤ 6 by omega)] at h0
  have h1 := c51 r.ch
  have h2 := c125 r
  obtain ⟨k, lsn, txn, prev, ch, next, save, beg, ts, ds⟩ := r
  simp only [recOkP] at hb
  rw [hco] at h1 hb
  rw [hro] at h2 hb
  clear hco hro
  simp only at hk h0 h1 h2
  subst hk
  cases co
  all_goals
    simp only [Try.f109, wk, upd, binR, ↓reduceIte, Nat.reduceEqDiff, reduceCtorEq, ofConst, ofCell, okCell, arI, cmpI, RetQ, RetM, finV, finC, finMV, finMC, resOf, V.w1, cellsV, refsC, refsO, callR, Nat.reduceAdd, Nat.reduceMul, Nat.reduceSub, Nat.reduceLeDiff, Nat.reduceLT, Nat.reduceBEq, boxR, idxR, loadR, storeR, readSl, lenR, sliceR, boundR, makeR, pureC, pureL, TD.isAgg, Int.reduceEq, Int.reduceNe, Int.reduceLT, Int.reduceLE, Int.reduceGT, Int.reduceGE, Int.reduceToNat, Int.reduceSub, Int.reduceAdd, Int.reduceMul, likeL, likeP, eqLP, recC, noS_mk, trs_length, drs_length, ← Bool.decide_and, ← decide_not]
    repeat' (first
      | (refine hb _ ?_; clear hb h1 h2 h0; simp only [decide_eq_true_eq, Bool.false_eq_true, Bool.and_eq_true, false_iff, true_iff, noS_iff, and_false, false_and, false_or, or_false, true_and, and_true] at *; omega)
      | (refine call_by h0 ?_; simp only [wk, upd, binR, ↓reduceIte, Nat.reduceEqDiff, reduceCtorEq, ofConst, ofCell, okCell, arI, cmpI, RetQ, RetM, finV, finC, finMV, finMC, resOf, V.w1, cellsV, refsC, refsO, callR, Nat.reduceAdd, Nat.reduceMul, Nat.reduceSub, Nat.reduceLeDiff, Nat.reduceLT, Nat.reduceBEq, boxR, idxR, loadR, storeR, readSl, lenR, sliceR, boundR, makeR, pureC, pureL, TD.isAgg, Int.reduceEq, Int.reduceNe, Int.reduceLT, Int.reduceLE, Int.reduceGT, Int.reduceGE, Int.reduceToNat, Int.reduceSub, Int.reduceAdd, Int.reduceMul, likeL, likeP, eqLP, recC, noS_mk, trs_length, drs_length, ← Bool.decide_and, ← decide_not])
      | (refine call_by h1 ?_; simp only [wk, upd, binR, ↓reduceIte, Nat.reduceEqDiff, reduceCtorEq, ofConst, ofCell, okCell, arI, cmpI, RetQ, RetM, finV, finC, finMV, finMC, resOf, V.w1, cellsV, refsC, refsO, callR, Nat.reduceAdd, Nat.reduceMul, Nat.reduceSub, Nat.reduceLeDiff, Nat.reduceLT, Nat.reduceBEq, boxR, idxR, loadR, storeR, readSl, lenR, sliceR, boundR, makeR, pureC, pureL, TD.isAgg, Int.reduceEq, Int.reduceNe, Int.reduceLT, Int.reduceLE, Int.reduceGT, Int.reduceGE, Int.reduceToNat, Int.reduceSub, Int.reduceAdd, Int.reduceMul, likeL, likeP, eqLP, recC, noS_mk, trs_length, drs_length, ← Bool.decide_and, ← decide_not])
      | (refine call_by h2 ?_; simp only [wk, upd, binR, ↓reduceIte, Nat.reduceEqDiff, reduceCtorEq, ofConst, ofCell, okCell, arI, cmpI, RetQ, RetM, finV, finC, finMV, finMC, resOf, V.w1, cellsV, refsC, refsO, callR, Nat.reduceAdd, Nat.reduceMul, Nat.reduceSub, Nat.reduceLeDiff, Nat.reduceLT, Nat.reduceBEq, boxR, idxR, loadR, storeR, readSl, lenR, sliceR, boundR, makeR, pureC, pureL, TD.isAgg, Int.reduceEq, Int.reduceNe, Int.reduceLT, Int.reduceLE, Int.reduceGT, Int.reduceGE, Int.reduceToNat, Int.reduceSub, Int.reduceAdd, Int.reduceMul, likeL, likeP, eqLP, recC, noS_mk, trs_length, drs_length, ← Bool.decide_and, ← decide_not])
      | with_reducible apply And.intro
      | rfl
      | (with_reducible (intro hh); first | (exfalso; omega) | skip))

theorem c109B (r : Rec) (hk : r.k = 2) (co ro : Bool) (hco : chOk r.ch = co) (hro : rowsOk r = ro) : ConSem Try.prog tab 109 [.agg (recC r)] [] (vb (recOk r)) [] := by
  refine con_pure tabOk mixedOk Try.func109 rfl (by decide) (by kernel_rfl) (by show (1:Nat) ≤ _; decide) fun E hE => go_start ?_
  have hb : ∀ b : Bool, (b = true ↔ recOkP r) → V.one (Ce.p (PV.bool b)) = V.one (Ce.p (PV.bool (recOk r))) := recOk_leaf r
  have h0 := c124 r.k
  rw [decide_eq_true (show 1 ≤ r.k ∧ r.k ≤ 6 by omega)] at h0
  have h1 := c51 r.ch
  have h2 := c125 r
  obtain ⟨k, lsn, txn, prev, ch, next, save, beg, ts, ds⟩ := r
  simp only [recOkP] at hb
  rw [hco] at h1 hb
  rw [hro] at h2 hb
  clear hco hro
  simp only at hk h0 h1 h2
  subst hk
  cases co
  all_goals
    simp only [Try.f109, wk, upd, binR, ↓reduceIte, Nat.reduceEqDiff, reduceCtorEq, ofConst, ofCell, okCell, arI, cmpI, RetQ, RetM, finV, finC, finMV, finMC, resOf, V.w1, cellsV, refsC, refsO, callR, Nat.reduceAdd, Nat.reduceMul, Nat.reduceSub, Nat.reduceLeDiff, Nat.reduceLT, Nat.reduceBEq, boxR, idxR, loadR, storeR, readSl, lenR, sliceR, boundR, makeR, pureC, pureL, TD.isAgg, Int.reduceEq, Int.reduceNe, Int.reduceLT, Int.reduceLE, Int.reduceGT, Int.reduceGE, Int.reduceToNat, Int.reduceSub, Int.reduceAdd, Int.reduceMul, likeL, likeP, eqLP, recC, noS_mk, trs_length, drs_length, ← Bool.decide_and, ← decide_not]
    repeat' (first
      | (refine hb _ ?_; clear hb h1 h2 h0; simp only [decide_eq_true_eq, Bool.false_eq_true, Bool.and_eq_true, false_iff, true_iff, noS_iff, and_false, false_and, false_or, or_false, true_and, and_true] at *; omega)
      | (refine call_by h0 ?_; simp only [wk, upd, binR, ↓reduceIte, Nat.reduceEqDiff, reduceCtorEq, ofConst, ofCell, okCell, arI, cmpI, RetQ, RetM, finV, finC, finMV, finMC, resOf, V.w1, cellsV, refsC, refsO, callR, Nat.reduceAdd, Nat.reduceMul, Nat.reduceSub, Nat.reduceLeDiff, Nat.reduceLT, Nat.reduceBEq, boxR, idxR, loadR, storeR, readSl, lenR, sliceR, boundR, makeR, pureC, pureL, TD.isAgg, Int.reduceEq, Int.reduceNe, Int.reduceLT, Int.reduceLE, Int.reduceGT, Int.reduceGE, Int.reduceToNat, Int.reduceSub, Int.reduceAdd, Int.reduceMul, likeL, likeP, eqLP, recC, noS_mk, trs_length, drs_length, ← Bool.decide_and, ← decide_not])
      | (refine call_by h1 ?_; simp only [wk, upd, binR, ↓reduceIte, Nat.reduceEqDiff, reduceCtorEq, ofConst, ofCell, okCell, arI, cmpI, RetQ, RetM, finV, finC, finMV, finMC, resOf, V.w1, cellsV, refsC, refsO, callR, Nat.reduceAdd, Nat.reduceMul, Nat.reduceSub, Nat.reduceLeDiff, Nat.reduceLT, Nat.reduceBEq, boxR, idxR, loadR, storeR, readSl, lenR, sliceR, boundR, makeR, pureC, pureL, TD.isAgg, Int.reduceEq, Int.reduceNe, Int.reduceLT, Int.reduceLE, Int.reduceGT, Int.reduceGE, Int.reduceToNat, Int.reduceSub, Int.reduceAdd, Int.reduceMul, likeL, likeP, eqLP, recC, noS_mk, trs_length, drs_length, ← Bool.decide_and, ← decide_not])
      | (refine call_by h2 ?_; simp only [wk, upd, binR, ↓reduceIte, Nat.reduceEqDiff, reduceCtorEq, ofConst, ofCell, okCell, arI, cmpI, RetQ, RetM, finV, finC, finMV, finMC, resOf, V.w1, cellsV, refsC, refsO, callR, Nat.reduceAdd, Nat.reduceMul, Nat.reduceSub, Nat.reduceLeDiff, Nat.reduceLT, Nat.reduceBEq, boxR, idxR, loadR, storeR, readSl, lenR, sliceR, boundR, makeR, pureC, pureL, TD.isAgg, Int.reduceEq, Int.reduceNe, Int.reduceLT, Int.reduceLE, Int.reduceGT, Int.reduceGE, Int.reduceToNat, Int.reduceSub, Int.reduceAdd, Int.reduceMul, likeL, likeP, eqLP, recC, noS_mk, trs_length, drs_length, ← Bool.decide_and, ← decide_not])
      | with_reducible apply And.intro
      | rfl
      | (with_reducible (intro hh); first | (exfalso; omega) | skip))

theorem c109D (r : Rec) (hk : r.k = 6) (co ro : Bool) (hco : chOk r.ch = co) (hro : rowsOk r = ro) : ConSem Try.prog tab 109 [.agg (recC r)] [] (vb (recOk r)) [] := by
  refine con_pure tabOk mixedOk Try.func109 rfl (by decide) (by kernel_rfl) (by show (1:Nat) ≤ _; decide) fun E hE => go_start ?_
  have hb : ∀ b : Bool, (b = true ↔ recOkP r) → V.one (Ce.p (PV.bool b)) = V.one (Ce.p (PV.bool (recOk r))) := recOk_leaf r
  have h0 := c124 r.k
  rw [decide_eq_true (show 1 ≤ r.k ∧ r.k ≤ 6 by omega)] at h0
  have h1 := c51 r.ch
  have h2 := c125 r
  obtain ⟨k, lsn, txn, prev, ch, next, save, beg, ts, ds⟩ := r
  simp only [recOkP] at hb
  rw [hco] at h1 hb
  rw [hro] at h2 hb
  clear hco hro
  simp only at hk h0 h1 h2
  subst hk
  cases ro
  all_goals
    simp only [Try.f109, wk, upd, binR, ↓reduceIte, Nat.reduceEqDiff, reduceCtorEq, ofConst, ofCell, okCell, arI, cmpI, RetQ, RetM, finV, finC, finMV, finMC, resOf, V.w1, cellsV, refsC, refsO, callR, Nat.reduceAdd, Nat.reduceMul, Nat.reduceSub, Nat.reduceLeDiff, Nat.reduceLT, Nat.reduceBEq, boxR, idxR, loadR, storeR, readSl, lenR, sliceR, boundR, makeR, pureC, pureL, TD.isAgg, Int.reduceEq, Int.reduceNe, Int.reduceLT, Int.reduceLE, Int.reduceGT, Int.reduceGE, Int.reduceToNat, Int.reduceSub, Int.reduceAdd, Int.reduceMul, likeL, likeP, eqLP, recC, noS_mk, trs_length, drs_length, ← Bool.decide_and, ← decide_not]
    repeat' (first
      | (refine hb _ ?_; clear hb h1 h2 h0; simp only [decide_eq_true_eq, Bool.false_eq_true, Bool.and_eq_true, false_iff, true_iff, noS_iff, and_false, false_and, false_or, or_false, true_and, and_true] at *; omega)
      | (refine call_by h0 ?_; simp only [wk, upd, binR, ↓reduceIte, Nat.reduceEqDiff, reduceCtorEq, ofConst, ofCell, okCell, arI, cmpI, RetQ, RetM, finV, finC, finMV, finMC, resOf, V.w1, cellsV, refsC, refsO, callR, Nat.reduceAdd, Nat.reduceMul, Nat.reduceSub, Nat.reduceLeDiff, Nat.reduceLT, Nat.reduceBEq, boxR, idxR, loadR, storeR, readSl, lenR, sliceR, boundR, makeR, pureC, pureL, TD.isAgg, Int.reduceEq, Int.reduceNe, Int.reduceLT, Int.reduceLE, Int.reduceGT, Int.reduceGE, Int.reduceToNat, Int.reduceSub, Int.reduceAdd, Int.reduceMul, likeL, likeP, eqLP, recC, noS_mk, trs_length, drs_length, ← Bool.decide_and, ← decide_not])
      | (refine call_by h1 ?_; simp only [wk, upd, binR, ↓reduceIte, Nat.reduceEqDiff, reduceCtorEq, ofConst, ofCell, okCell, arI, cmpI, RetQ, RetM, finV, finC, finMV, finMC, resOf, V.w1, cellsV, refsC, refsO, callR, Nat.reduceAdd, Nat.reduceMul, Nat.reduceSub, Nat.reduceLeDiff, Nat.reduceLT, Nat.reduceBEq, boxR, idxR, loadR, storeR, readSl, lenR, sliceR, boundR, makeR, pureC, pureL, TD.isAgg, Int.reduceEq, Int.reduceNe, Int.reduceLT, Int.reduceLE, Int.reduceGT, Int.reduceGE, Int.reduceToNat, Int.reduceSub, Int.reduceAdd, Int.reduceMul, likeL, likeP, eqLP, recC, noS_mk, trs_length, drs_length, ← Bool.decide_and, ← decide_not])
      | (refine call_by h2 ?_; simp only [wk, upd, binR, ↓reduceIte, Nat.reduceEqDiff, reduceCtorEq, ofConst, ofCell, okCell, arI, cmpI, RetQ, RetM, finV, finC, finMV, finMC, resOf, V.w1, cellsV, refsC, refsO, callR, Nat.reduceAdd, Nat.reduceMul, Nat.reduceSub, Nat.reduceLeDiff, Nat.reduceLT, Nat.reduceBEq, boxR, idxR, loadR, storeR, readSl, lenR, sliceR, boundR, makeR, pureC, pureL, TD.isAgg, Int.reduceEq, Int.reduceNe, Int.reduceLT, Int.reduceLE, Int.reduceGT, Int.reduceGE, Int.reduceToNat, Int.reduceSub, Int.reduceAdd, Int.reduceMul, likeL, likeP, eqLP, recC, noS_mk, trs_length, drs_length, ← Bool.decide_and, ← decide_not])
      | with_reducible apply And.intro
      | rfl
      | (with_reducible (intro hh); first | (exfalso; omega) | skip))

theorem c109E (r : Rec) (hk : r.k = 7) (co ro : Bool) (hco : chOk r.ch = co) (hro : rowsOk r = ro) : ConSem Try.prog tab 109 [.agg (recC r)] [] (vb (recOk r)) [] := by
  refine con_pure tabOk mixedOk Try.func109 rfl (by decide) (by kernel_rfl) (by show (1:Nat) ≤ _; decide) fun E hE => go_start ?_
  have hb : ∀ b : Bool, (b = true ↔ recOkP r) → V.one (Ce.p (PV.bool b)) = V.one (Ce.p (PV.bool (recOk r))) := recOk_leaf r
  have h0 := c124 r.k
  rw [decide_eq_false (show ¬ (1 ≤ r.k ∧ r.k ≤ 6) by omega)] at h0
  have h1 := c51 r.ch
  have h2 := c125 r
  obtain ⟨k, lsn, txn, prev, ch, next, save, beg, ts, ds⟩ := r
  simp only [recOkP] at hb
  rw [hco] at h1 hb
  rw [hro] at h2 hb
  clear hco hro
  simp only at hk h0 h1 h2
  subst hk
  cases ro
  all_goals
    simp only [Try.f109, wk, upd, binR, ↓reduceIte, Nat.reduceEqDiff, reduceCtorEq, ofConst, ofCell, okCell, arI, cmpI, RetQ, RetM, finV, finC, finMV, finMC, resOf, V.w1, cellsV, refsC, refsO, callR, Nat.reduceAdd, Nat.reduceMul, Nat.reduceSub, Nat.reduceLeDiff, Nat.reduceLT, Nat.reduceBEq, boxR, idxR, loadR, storeR, readSl, lenR, sliceR, boundR, makeR, pureC, pureL, TD.isAgg, Int.reduceEq, Int.reduceNe, Int.reduceLT, Int.reduceLE, Int.reduceGT, Int.reduceGE, Int.reduceToNat, Int.reduceSub, Int.reduceAdd, Int.reduceMul, likeL, likeP, eqLP, recC, noS_mk, trs_length, drs_length, ← Bool.decide_and, ← decide_not]
    repeat' (first
      | (refine hb _ ?_; clear hb h1 h2 h0; simp only [decide_eq_true_eq, Bool.false_eq_true, Bool.and_eq_true, false_iff, true_iff, noS_iff, and_false, false_and, false_or, or_false, true_and, and_true] at *; omega)
      | (refine call_by h0 ?_; simp only [wk, upd, binR, ↓reduceIte, Nat.reduceEqDiff, reduceCtorEq, ofConst, ofCell, okCell, arI, cmpI, RetQ, RetM, finV, finC, finMV, finMC, resOf, V.w1, cellsV, refsC, refsO, callR, Nat.reduceAdd, Nat.reduceMul, Nat.reduceSub, Nat.reduceLeDiff, Nat.reduceLT, Nat.reduceBEq, boxR, idxR, loadR, storeR, readSl, lenR, sliceR, boundR, makeR, pureC, pureL, TD.isAgg, Int.reduceEq, Int.reduceNe, Int.reduceLT, Int.reduceLE, Int.reduceGT, Int.reduceGE, Int.reduceToNat, Int.reduceSub, Int.reduceAdd, Int.reduceMul, likeL, likeP, eqLP, recC, noS_mk, trs_length, drs_length, ← Bool.decide_and, ← decide_not])
      | (refine call_by h1 ?_; simp only [wk, upd, binR, ↓reduceIte, Nat.reduceEqDiff, reduceCtorEq, ofConst, ofCell, okCell, arI, cmpI, RetQ, RetM, finV, finC, finMV, finMC, resOf, V.w1, cellsV, refsC, refsO, callR, Nat.reduceAdd, Nat.reduceMul, Nat.reduceSub, Nat.reduceLeDiff, Nat.reduceLT, Nat.reduceBEq, boxR, idxR, loadR, storeR, readSl, lenR, sliceR, boundR, makeR, pureC, pureL, TD.isAgg, Int.reduceEq, Int.reduceNe, Int.reduceLT, Int.reduceLE, Int.reduceGT, Int.reduceGE, Int.reduceToNat, Int.reduceSub, Int.reduceAdd, Int.reduceMul, likeL, likeP, eqLP, recC, noS_mk, trs_length, drs_length, ← Bool.decide_and, ← decide_not])
      | (refine call_by h2 ?_; simp only [wk, upd, binR, ↓reduceIte, Nat.reduceEqDiff, reduceCtorEq, ofConst, ofCell, okCell, arI, cmpI, RetQ, RetM, finV, finC, finMV, finMC, resOf, V.w1, cellsV, refsC, refsO, callR, Nat.reduceAdd, Nat.reduceMul, Nat.reduceSub, Nat.reduceLeDiff, Nat.reduceLT, Nat.reduceBEq, boxR, idxR, loadR, storeR, readSl, lenR, sliceR, boundR, makeR, pureC, pureL, TD.isAgg, Int.reduceEq, Int.reduceNe, Int.reduceLT, Int.reduceLE, Int.reduceGT, Int.reduceGE, Int.reduceToNat, Int.reduceSub, Int.reduceAdd, Int.reduceMul, likeL, likeP, eqLP, recC, noS_mk, trs_length, drs_length, ← Bool.decide_and, ← decide_not])
      | with_reducible apply And.intro
      | rfl
      | (with_reducible (intro hh); first | (exfalso; omega) | skip))

theorem c109F (r : Rec) (hk : r.k = 8) (co ro : Bool) (hco : chOk r.ch = co) (hro : rowsOk r = ro) : ConSem Try.prog tab 109 [.agg (recC r)] [] (vb (recOk r)) [] := by
  refine con_pure tabOk mixedOk Try.func109 rfl (by decide) (by kernel_rfl) (by show (1:Nat) ≤ _; decide) fun E hE => go_start ?_
  have hb : ∀ b : Bool, (b = true ↔ recOkP r) → V.one (Ce.p (PV.bool b)) = V.one (Ce.p (PV.bool (recOk r))) := recOk_leaf r
  have h0 := c124 r.k
  rw [decide_eq_false (show ¬ (1 ≤ r.k ∧ r.k ≤ 6) by omega)] at h0
  have h1 := c51 r.ch
  have h2 := c125 r
  obtain ⟨k, lsn, txn, prev, ch, next, save, beg, ts, ds⟩ := r
  simp only [recOkP] at hb
  rw [hco] at h1 hb
  rw [hro] at h2 hb
  clear hco hro
  simp only at hk h0 h1 h2
  subst hk
  cases ro
  all_goals
    simp only [Try.f109, wk, upd, binR, ↓reduceIte, Nat.reduceEqDiff, reduceCtorEq, ofConst, ofCell, okCell, arI, cmpI, RetQ, RetM, finV, finC, finMV, finMC, resOf, V.w1, cellsV, refsC, refsO, callR, Nat.reduceAdd, Nat.reduceMul, Nat.reduceSub, Nat.reduceLeDiff, Nat.reduceLT, Nat.reduceBEq, boxR, idxR, loadR, storeR, readSl, lenR, sliceR, boundR, makeR, pureC, pureL, TD.isAgg, Int.reduceEq, Int.reduceNe, Int.reduceLT, Int.reduceLE, Int.reduceGT, Int.reduceGE, Int.reduceToNat, Int.reduceSub, Int.reduceAdd, Int.reduceMul, likeL, likeP, eqLP, recC, noS_mk, trs_length, drs_length, ← Bool.decide_and, ← decide_not]
    repeat' (first
      | (refine hb _ ?_; clear hb h1 h2 h0; simp only [decide_eq_true_eq, Bool.false_eq_true, Bool.and_eq_true, false_iff, true_iff, noS_iff, and_false, false_and, false_or, or_false, true_and, and_true] at *; omega)
      | (refine call_by h0 ?_; simp only [wk, upd, binR, ↓reduceIte, Nat.reduceEqDiff, reduceCtorEq, ofConst, ofCell, okCell, arI, cmpI, RetQ, RetM, finV, finC, finMV, finMC, resOf, V.w1, cellsV, refsC, refsO, callR, Nat.reduceAdd, Nat.reduceMul, Nat.reduceSub, Nat.reduceLeDiff, Nat.reduceLT, Nat.reduceBEq, boxR, idxR, loadR, storeR, readSl, lenR, sliceR, boundR, makeR, pureC, pureL, TD.isAgg, Int.reduceEq, Int.reduceNe, Int.reduceLT, Int.reduceLE, Int.reduceGT, Int.reduceGE, Int.reduceToNat, Int.reduceSub, Int.reduceAdd, Int.reduceMul, likeL, likeP, eqLP, recC, noS_mk, trs_length, drs_length, ← Bool.decide_and, ← decide_not])
      | (refine call_by h1 ?_; simp only [wk, upd, binR, ↓reduceIte, Nat.reduceEqDiff, reduceCtorEq, ofConst, ofCell, okCell, arI, cmpI, RetQ, RetM, finV, finC, finMV, finMC, resOf, V.w1, cellsV, refsC, refsO, callR, Nat.reduceAdd, Nat.reduceMul, Nat.reduceSub, Nat.reduceLeDiff, Nat.reduceLT, Nat.reduceBEq, boxR, idxR, loadR, storeR, readSl, lenR, sliceR, boundR, makeR, pureC, pureL, TD.isAgg, Int.reduceEq, Int.reduceNe, Int.reduceLT, Int.reduceLE, Int.reduceGT, Int.reduceGE, Int.reduceToNat, Int.reduceSub, Int.reduceAdd, Int.reduceMul, likeL, likeP, eqLP, recC, noS_mk, trs_length, drs_length, ← Bool.decide_and, ← decide_not])
      | (refine call_by h2 ?_; simp only [wk, upd, binR, ↓reduceIte, Nat.reduceEqDiff, reduceCtorEq, ofConst, ofCell, okCell, arI, cmpI, RetQ, RetM, finV, finC, finMV, finMC, resOf, V.w1, cellsV, refsC, refsO, callR, Nat.reduceAdd, Nat.reduceMul, Nat.reduceSub, Nat.reduceLeDiff, Nat.reduceLT, Nat.reduceBEq, boxR, idxR, loadR, storeR, readSl, lenR, sliceR, boundR, makeR, pureC, pureL, TD.isAgg, Int.reduceEq, Int.reduceNe, Int.reduceLT, Int.reduceLE, Int.reduceGT, Int.reduceGE, Int.reduceToNat, Int.reduceSub, Int.reduceAdd, Int.reduceMul, likeL, likeP, eqLP, recC, noS_mk, trs_length, drs_length, ← Bool.decide_and, ← decide_not])
      | with_reducible apply And.intro
      | rfl
      | (with_reducible (intro hh); first | (exfalso; omega) | skip))

theorem c109C (r : Rec) (hk : 3 ≤ r.k ∧ r.k ≤ 5) (co ro : Bool) (hco : chOk r.ch = co) (hro : rowsOk r = ro) : ConSem Try.prog tab 109 [.agg (recC r)] [] (vb (recOk r)) [] := by
  refine con_pure tabOk mixedOk Try.func109 rfl (by decide) (by kernel_rfl) (by show (1:Nat) ≤ _; decide) fun E hE => go_start ?_
  have hb : ∀ b : Bool, (b = true ↔ recOkP r) → V.one (Ce.p (PV.bool b)) = V.one (Ce.p (PV.bool (recOk r))) := recOk_leaf r
  have h0 := c124 r.k
  rw [decide_eq_true (show 1 ≤ r.k ∧ r.k ≤ 6 by omega)] at h0
  have h1 := c51 r.ch
  have h2 := c125 r
  obtain ⟨k, lsn, txn, prev, ch, next, save, beg, ts, ds⟩ := r
  simp only [recOkP] at hb
  rw [hco] at h1 hb
  rw [hro] at h2 hb
  clear hco hro
  simp only at hk h0 h1 h2
  have e1 : (k < 1) = False := eq_false (by omega)
  have e2 : (8 < k) = False := eq_false (by omega)
  have e3 : (k ≤ 2) = False := eq_false (by omega)
  have e4 : (2 < k) = True := eq_true (by omega)
  have e5 : (k = 2) = False := eq_false (by omega)
  have e6 : (k = 6) = False := eq_false (by omega)
  have e8 : (k = 8) = False := eq_false (by omega)
  all_goals
    simp only [Try.f109, wk, upd, binR, ↓reduceIte, Nat.reduceEqDiff, reduceCtorEq, ofConst, ofCell, okCell, arI, cmpI, RetQ, RetM, finV, finC, finMV, finMC, resOf, V.w1, cellsV, refsC, refsO, callR, Nat.reduceAdd, Nat.reduceMul, Nat.reduceSub, Nat.reduceLeDiff, Nat.reduceLT, Nat.reduceBEq, boxR, idxR, loadR, storeR, readSl, lenR, sliceR, boundR, makeR, pureC, pureL, TD.isAgg, Int.reduceEq, Int.reduceNe, Int.reduceLT, Int.reduceLE, Int.reduceGT, Int.reduceGE, Int.reduceToNat, Int.reduceSub, Int.reduceAdd, Int.reduceMul, likeL, likeP, eqLP, recC, noS_mk, trs_length, drs_length, ← Bool.decide_and, ← decide_not, e1, e2, e3, e4, e5, e6, e8]
    repeat' (first
      | (refine hb _ ?_; clear hb h1 h2 h0; simp only [decide_eq_true_eq, Bool.false_eq_true, Bool.and_eq_true, false_iff, true_iff, noS_iff, and_false, false_and, false_or, or_false, true_and, and_true] at *; omega)
      | (refine call_by h0 ?_; simp only [wk, upd, binR, ↓reduceIte, Nat.reduceEqDiff, reduceCtorEq, ofConst, ofCell, okCell, arI, cmpI, RetQ, RetM, finV, finC, finMV, finMC, resOf, V.w1, cellsV, refsC, refsO, callR, Nat.reduceAdd, Nat.reduceMul, Nat.reduceSub, Nat.reduceLeDiff, Nat.reduceLT, Nat.reduceBEq, boxR, idxR, loadR, storeR, readSl, lenR, sliceR, boundR, makeR, pureC, pureL, TD.isAgg, Int.reduceEq, Int.reduceNe, Int.reduceLT, Int.reduceLE, Int.reduceGT, Int.reduceGE, Int.reduceToNat, Int.reduceSub, Int.reduceAdd, Int.reduceMul, likeL, likeP, eqLP, recC, noS_mk, trs_length, drs_length, ← Bool.decide_and, ← decide_not, e1, e2, e3, e4, e5, e6, e8])
      | (refine call_by h1 ?_; simp only [wk, upd, binR, ↓reduceIte, Nat.reduceEqDiff, reduceCtorEq, ofConst, ofCell, okCell, arI, cmpI, RetQ, RetM, finV, finC, finMV, finMC, resOf, V.w1, cellsV, refsC, refsO, callR, Nat.reduceAdd, Nat.reduceMul, Nat.reduceSub, Nat.reduceLeDiff, Nat.reduceLT, Nat.reduceBEq, boxR, idxR, loadR, storeR, readSl, lenR, sliceR, boundR, makeR, pureC, pureL, TD.isAgg, Int.reduceEq, Int.reduceNe, Int.reduceLT, Int.reduceLE, Int.reduceGT, Int.reduceGE, Int.reduceToNat, Int.reduceSub, Int.reduceAdd, Int.reduceMul, likeL, likeP, eqLP, recC, noS_mk, trs_length, drs_length, ← Bool.decide_and, ← decide_not, e1, e2, e3, e4, e5, e6, e8])
      | (refine call_by h2 ?_; simp only [wk, upd, binR, ↓reduceIte, Nat.reduceEqDiff, reduceCtorEq, ofConst, ofCell, okCell, arI, cmpI, RetQ, RetM, finV, finC, finMV, finMC, resOf, V.w1, cellsV, refsC, refsO, callR, Nat.reduceAdd, Nat.reduceMul, Nat.reduceSub, Nat.reduceLeDiff, Nat.reduceLT, Nat.reduceBEq, boxR, idxR, loadR, storeR, readSl, lenR, sliceR, boundR, makeR, pureC, pureL, TD.isAgg, Int.reduceEq, Int.reduceNe, Int.reduceLT, Int.reduceLE, Int.reduceGT, Int.reduceGE, Int.reduceToNat, Int.reduceSub, Int.reduceAdd, Int.reduceMul, likeL, likeP, eqLP, recC, noS_mk, trs_length, drs_length, ← Bool.decide_and, ← decide_not, e1, e2, e3, e4, e5, e6, e8])
      | with_reducible apply And.intro
      | rfl
      | (with_reducible (intro hh); first | (exfalso; omega) | skip))

theorem c109X (r : Rec) (hk : r.k < 1 ∨ 8 < r.k) (co ro : Bool) (hco : chOk r.ch = co) (hro : rowsOk r = ro) : ConSem Try.prog tab 109 [.agg (recC r)] [] (vb (recOk r)) [] := by
  refine con_pure tabOk mixedOk Try.func109 rfl (by decide) (by kernel_rfl) (by show (1:Nat) ≤ _; decide) fun E hE => go_start ?_
  have hb : ∀ b : Bool, (b = true ↔ recOkP r) → V.one (Ce.p (PV.bool b)) = V.one (Ce.p (PV.bool (recOk r))) := recOk_leaf r
  have h0 := c124 r.k
  have h1 := c51 r.ch
  have h2 := c125 r
  obtain ⟨k, lsn, txn, prev, ch, next, save, beg, ts, ds⟩ := r
  simp only [recOkP] at hb
  rw [hco] at h1 hb
  rw [hro] at h2 hb
  clear hco hro
  simp only at hk h0 h1 h2

  all_goals
    simp only [Try.f109, wk, upd, binR, ↓reduceIte, Nat.reduceEqDiff, reduceCtorEq, ofConst, ofCell, okCell, arI, cmpI, RetQ, RetM, finV, finC, finMV, finMC, resOf, V.w1, cellsV, refsC, refsO, callR, Nat.reduceAdd, Nat.reduceMul, Nat.reduceSub, Nat.reduceLeDiff, Nat.reduceLT, Nat.reduceBEq, boxR, idxR, loadR, storeR, readSl, lenR, sliceR, boundR, makeR, pureC, pureL, TD.isAgg, Int.reduceEq, Int.reduceNe, Int.reduceLT, Int.reduceLE, Int.reduceGT, Int.reduceGE, Int.reduceToNat, Int.reduceSub, Int.reduceAdd, Int.reduceMul, likeL, likeP, eqLP, recC, noS_mk, trs_length, drs_length, ← Bool.decide_and, ← decide_not]
    repeat' (first
      | (refine hb _ ?_; clear hb h1 h2 h0; simp only [decide_eq_true_eq, Bool.false_eq_true, Bool.and_eq_true, false_iff, true_iff, noS_iff, and_false, false_and, false_or, or_false, true_and, and_true] at *; omega)
      | (refine call_by h0 ?_; simp only [wk, upd, binR, ↓reduceIte, Nat.reduceEqDiff, reduceCtorEq, ofConst, ofCell, okCell, arI, cmpI, RetQ, RetM, finV, finC, finMV, finMC, resOf, V.w1, cellsV, refsC, refsO, callR, Nat.reduceAdd, Nat.reduceMul, Nat.reduceSub, Nat.reduceLeDiff, Nat.reduceLT, Nat.reduceBEq, boxR, idxR, loadR, storeR, readSl, lenR, sliceR, boundR, makeR, pureC, pureL, TD.isAgg, Int.reduceEq, Int.reduceNe, Int.reduceLT, Int.reduceLE, Int.reduceGT, Int.reduceGE, Int.reduceToNat, Int.reduceSub, Int.reduceAdd, Int.reduceMul, likeL, likeP, eqLP, recC, noS_mk, trs_length, drs_length, ← Bool.decide_and, ← decide_not])
      | (refine call_by h1 ?_; simp only [wk, upd, binR, ↓reduceIte, Nat.reduceEqDiff, reduceCtorEq, ofConst, ofCell, okCell, arI, cmpI, RetQ, RetM, finV, finC, finMV, finMC, resOf, V.w1, cellsV, refsC, refsO, callR, Nat.reduceAdd, Nat.reduceMul, Nat.reduceSub, Nat.reduceLeDiff, Nat.reduceLT, Nat.reduceBEq, boxR, idxR, loadR, storeR, readSl, lenR, sliceR, boundR, makeR, pureC, pureL, TD.isAgg, Int.reduceEq, Int.reduceNe, Int.reduceLT, Int.reduceLE, Int.reduceGT, Int.reduceGE, Int.reduceToNat, Int.reduceSub, Int.reduceAdd, Int.reduceMul, likeL, likeP, eqLP, recC, noS_mk, trs_length, drs_length, ← Bool.decide_and, ← decide_not])
      | (refine call_by h2 ?_; simp only [wk, upd, binR, ↓reduceIte, Nat.reduceEqDiff, reduceCtorEq, ofConst, ofCell, okCell, arI, cmpI, RetQ, RetM, finV, finC, finMV, finMC, resOf, V.w1, cellsV, refsC, refsO, callR, Nat.reduceAdd, Nat.reduceMul, Nat.reduceSub, Nat.reduceLeDiff, Nat.reduceLT, Nat.reduceBEq, boxR, idxR, loadR, storeR, readSl, lenR, sliceR, boundR, makeR, pureC, pureL, TD.isAgg, Int.reduceEq, Int.reduceNe, Int.reduceLT, Int.reduceLE, Int.reduceGT, Int.reduceGE, Int.reduceToNat, Int.reduceSub, Int.reduceAdd, Int.reduceMul, likeL, likeP, eqLP, recC, noS_mk, trs_length, drs_length, ← Bool.decide_and, ← decide_not])
      | with_reducible apply And.intro
      | rfl
      | (with_reducible (intro hh); first | (exfalso; omega) | skip))

theorem c109 (r : Rec) : ConSem Try.prog tab 109 [.agg (recC r)] [] (vb (recOk r)) [] := by
  rcases (by omega : (r.k < 1 ∨ 8 < r.k) ∨ r.k = 1 ∨ r.k = 2 ∨ (3 ≤ r.k ∧ r.k ≤ 5) ∨ r.k = 6 ∨ r.k = 7 ∨ r.k = 8) with h | h | h | h | h | h | h
  · exact c109X r h _ _ rfl rfl
  · exact c109A r h _ _ rfl rfl
  · exact c109B r h _ _ rfl rfl
  · exact c109C r h _ _ rfl rfl
  · exact c109D r h _ _ rfl rfl
  · exact c109E r h _ _ rfl rfl
  · exact c109F r h _ _ rfl rfl
end Go.AW
