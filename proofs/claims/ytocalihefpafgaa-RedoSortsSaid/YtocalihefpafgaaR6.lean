import Derived.Test.YtocalihefpafgaaAW
import Derived.Test.YtocalihefpafgaaR5
/- Records with their nodes: their order, their split. -/
set_option maxRecDepth 100000
set_option maxHeartbeats 4000000
set_option linter.unusedSimpArgs false
set_option linter.unusedVariables false
namespace Go.AW
open Go.Proofs

theorem c69 (xs : List Stm) (hl : xs.length ≤ 1000000) : ConSem Try.prog tab 69 [vs (sts xs)] [] (vb (adjB bef xs)) [] := by
  refine con_pure tabOk mixedOk Try.func69 rfl (by decide) (by kernel_rfl) (by show (1:Nat) ≤ _; decide) fun E hE => go_start ?_
  simp only [Try.f69, wk, upd, binR, ↓reduceIte, Nat.reduceEqDiff, reduceCtorEq, ofConst, ofCell, okCell, arI, cmpI, RetQ, RetM, finV, finC, finMV, finMC, resOf, V.w1, cellsV, refsC, refsO, callR, Nat.reduceAdd, Nat.reduceMul, Nat.reduceSub, Nat.reduceLeDiff, Nat.reduceLT, Nat.reduceBEq, boxR, idxR, loadR, storeR, readSl, lenR, sliceR, boundR, makeR, pureC, pureL, TD.isAgg]
  refine aw_ind (fun i : Nat => ⟨tOf [(0, vs (sts xs)), (3, vi .i64 (i + 1))], fun _ => none⟩) (fun i => (i + 1 ≤ xs.length ∨ i = 0) ∧ ∀ (j : Nat) (h : j + 1 < xs.length), j < i → bef xs[j] xs[j + 1] = true) (fun i => xs.length - i) 0 rfl
    (weak_pure ⟨rfl, by simp only [wk, upd, binR, ↓reduceIte, Nat.reduceEqDiff, reduceCtorEq, ofConst, ofCell, okCell, arI, cmpI, RetQ, RetM, finV, finC, finMV, finMC, resOf, V.w1, cellsV, refsC, refsO, callR, Nat.reduceAdd, Nat.reduceMul, Nat.reduceSub, Nat.reduceLeDiff, Nat.reduceLT, Nat.reduceBEq, boxR, idxR, loadR, storeR, readSl, lenR, sliceR, boundR, makeR, pureC, pureL, TD.isAgg]; rfl, trivial⟩ rfl hE) ⟨by omega, fun j h h2 => by omega⟩ ?_
  rintro i ⟨hi, hinv⟩ ih
  by_cases h : ((i : Int) + 1) < xs.length
  · have h' : i + 1 < xs.length := by omega
    have hw : IntKind.i64.wrap ((i : Int) + 1 + 1) = ((i + 1 : Nat) : Int) + 1 := by rw [w64 (by omega) (by omega)]; omega
    have hp : ((i : Int) + 1).toNat = i + 1 := by omega
    have ew : IntKind.i64.wrap ((i : Int) + 1 - 1) = (i : Int) := by rw [w64 (by omega) (by omega)]; omega
    have h0 : (0 : Int) ≤ i := by omega
    have h1 : (0 : Int) ≤ (i : Int) + 1 := by omega
    have hx := sts_get (xs := xs) (i := i) (by omega)
    have hy := sts_get h'
    have hno := fun hk => vbeq (adj_no (R := bef) h' hk).symm
    have hnx : bef xs[i] xs[i + 1] = true → ∀ (j : Nat) (h : j + 1 < xs.length), j < i + 1 → bef xs[j] xs[j + 1] = true := fun hk j hj hji => by
      by_cases hjx : j = i
      · subst hjx; exact hk
      · exact hinv j hj (by omega)
    have hb := c40 xs[i].r.lsn xs[i + 1].r.lsn xs[i].node xs[i + 1].node
    rw [show (if xs[i].r.lsn = xs[i + 1].r.lsn then decide (xs[i].node < xs[i + 1].node) else decide (xs[i].r.lsn < xs[i + 1].r.lsn)) = bef xs[i] xs[i + 1] from rfl] at hb
    generalize xs[i] = x at hx hno hnx hb
    generalize xs[i + 1] = y at hy hno hnx hb
    simp only [wk, upd, binR, ↓reduceIte, Nat.reduceEqDiff, reduceCtorEq, ofConst, ofCell, okCell, arI, cmpI, RetQ, RetM, finV, finC, finMV, finMC, resOf, V.w1, cellsV, refsC, refsO, callR, Nat.reduceAdd, Nat.reduceMul, Nat.reduceSub, Nat.reduceLeDiff, Nat.reduceLT, Nat.reduceBEq, boxR, idxR, loadR, storeR, readSl, lenR, sliceR, boundR, makeR, pureC, pureL, TD.isAgg, Int.reduceEq, Int.reduceNe, Int.reduceLT, Int.reduceLE, Int.reduceGT, Int.reduceGE, Int.reduceToNat, Int.reduceSub, Int.reduceAdd, Int.reduceMul, likeL, likeP, eqLP, sts_length, h, h0, h1, hp, ew, elem_eq hx, elem_eq hy, stP, recP]
    refine call_by hb ?_
    cases hbe : bef x y
    · simp only [wk, upd, binR, ↓reduceIte, Nat.reduceEqDiff, reduceCtorEq, ofConst, ofCell, okCell, arI, cmpI, RetQ, RetM, finV, finC, finMV, finMC, resOf, V.w1, cellsV, refsC, refsO, callR, Nat.reduceAdd, Nat.reduceMul, Nat.reduceSub, Nat.reduceLeDiff, Nat.reduceLT, Nat.reduceBEq, boxR, idxR, loadR, storeR, readSl, lenR, sliceR, boundR, makeR, pureC, pureL, TD.isAgg, Int.reduceEq, Int.reduceNe, Int.reduceLT, Int.reduceLE, Int.reduceGT, Int.reduceGE, Int.reduceToNat, Int.reduceSub, Int.reduceAdd, Int.reduceMul, likeL, likeP, eqLP]
      exact ⟨rfl, hno hbe⟩
    · simp only [wk, upd, binR, ↓reduceIte, Nat.reduceEqDiff, reduceCtorEq, ofConst, ofCell, okCell, arI, cmpI, RetQ, RetM, finV, finC, finMV, finMC, resOf, V.w1, cellsV, refsC, refsO, callR, Nat.reduceAdd, Nat.reduceMul, Nat.reduceSub, Nat.reduceLeDiff, Nat.reduceLT, Nat.reduceBEq, boxR, idxR, loadR, storeR, readSl, lenR, sliceR, boundR, makeR, pureC, pureL, TD.isAgg, Int.reduceEq, Int.reduceNe, Int.reduceLT, Int.reduceLE, Int.reduceGT, Int.reduceGE, Int.reduceToNat, Int.reduceSub, Int.reduceAdd, Int.reduceMul, likeL, likeP, eqLP]
      exact ⟨rfl, ih (i + 1) _ ⟨by omega, hnx hbe⟩ (by omega) (weak_pure ⟨rfl, by simp only [wk, upd, binR, ↓reduceIte, Nat.reduceEqDiff, reduceCtorEq, ofConst, ofCell, okCell, arI, cmpI, RetQ, RetM, finV, finC, finMV, finMC, resOf, V.w1, cellsV, refsC, refsO, callR, Nat.reduceAdd, Nat.reduceMul, Nat.reduceSub, Nat.reduceLeDiff, Nat.reduceLT, Nat.reduceBEq, boxR, idxR, loadR, storeR, readSl, lenR, sliceR, boundR, makeR, pureC, pureL, TD.isAgg, hw], trivial⟩ rfl hE)⟩
  · simp only [wk, upd, binR, ↓reduceIte, Nat.reduceEqDiff, reduceCtorEq, ofConst, ofCell, okCell, arI, cmpI, RetQ, RetM, finV, finC, finMV, finMC, resOf, V.w1, cellsV, refsC, refsO, callR, Nat.reduceAdd, Nat.reduceMul, Nat.reduceSub, Nat.reduceLeDiff, Nat.reduceLT, Nat.reduceBEq, boxR, idxR, loadR, storeR, readSl, lenR, sliceR, boundR, makeR, pureC, pureL, TD.isAgg, Int.reduceEq, Int.reduceNe, Int.reduceLT, Int.reduceLE, Int.reduceGT, Int.reduceGE, Int.reduceToNat, Int.reduceSub, Int.reduceAdd, Int.reduceMul, likeL, likeP, eqLP, sts_length, h]
    exact vbeq ((adjB_iff bef xs).2 fun j hj => hinv j hj (by omega)).symm

/-! ### Split -/
def nodeOk (n : Int) (x : Stm) : Bool := decide (0 ≤ x.node ∧ x.node < n) && recOk x.r
def spOk (n : Int) (xs : List Stm) : Bool := xs.all (nodeOk n) && adjB bef xs
def logOf (xs : List Stm) (d : Nat) : List Rec := (xs.filter fun x => decide (x.node = (d : Int))).map Stm.r
def logsOf (n : Nat) (xs : List Stm) : List (List Rec) := (List.range n).map (logOf xs)
/-- Logs as data. -/
def logP (ls : List (List Rec)) : List (List PV) := ls.map fun rs => [.slice (recs rs)]

theorem logOf_snoc (xs : List Stm) (x : Stm) (d : Nat) : logOf (xs ++ [x]) d = if x.node = (d : Int) then logOf xs d ++ [x.r] else logOf xs d := by
  unfold logOf
  rw [List.filter_append]
  by_cases h : x.node = (d : Int)
  · simp [h]
  · simp [h]
theorem logsOf_snoc {n : Nat} {xs : List Stm} {x : Stm} {j : Nat} (hj : x.node = (j : Int)) (hn : j < n) : (logsOf n (xs ++ [x])).map recs = ((logsOf n xs).map recs).set j (recs (logOf xs j) ++ [recP x.r]) := by
  refine List.ext_getElem? fun i => ?_
  simp only [logsOf, List.map_map, List.getElem?_map, List.getElem?_set, List.length_map, List.length_range]
  by_cases hi : j = i
  · subst hi
    rw [if_pos rfl, if_pos hn, List.getElem?_range hn]
    simp only [Option.map_some, Function.comp, logOf_snoc, hj, if_true]
    simp [recs]
  · rw [if_neg hi]
    by_cases hlt : i < n
    · rw [List.getElem?_range hlt]
      simp only [Option.map_some, Function.comp, logOf_snoc]
      rw [if_neg (by rw [hj]; omega)]
    · rw [List.getElem?_eq_none (by simpa using hlt)]
      rfl
theorem logOf_len (xs : List Stm) (d : Nat) : (logOf xs d).length ≤ xs.length := by
  simp only [logOf, List.length_map]; exact List.length_filter_le _ _
theorem logsOf_get {n : Nat} {xs : List Stm} {j : Nat} (h : j < n) (h2 : j < ((logsOf n xs).map recs).length) : ((logsOf n xs).map recs)[j] = recs (logOf xs j) := by
  simp [logsOf]
theorem logsOf_len {n : Nat} {xs : List Stm} : ((logsOf n xs).map recs).length = n := by simp [logsOf]
theorem split_no {n : Int} {xs : List Stm} {i : Nat} (h : i < xs.length) (hk : nodeOk n xs[i] = false) : spOk n xs = false := by
  have : xs.all (nodeOk n) = false := by rw [List.all_eq_false]; exact ⟨_, List.getElem_mem h, by simp [hk]⟩
  simp [spOk, this]
theorem split_no2 {n : Int} {xs : List Stm} {i : Nat} (h : i + 1 < xs.length) (hk : bef xs[i] xs[i + 1] = false) : spOk n xs = false := by
  simp [spOk, adj_no h hk]
theorem split_yes {n : Int} {xs : List Stm} (h : ∀ (j : Nat) (hj : j < xs.length), nodeOk n xs[j] = true ∧ (j + 1 < xs.length → ∀ h2 : j + 1 < xs.length, bef xs[j] xs[j + 1] = true)) : spOk n xs = true := by
  simp only [spOk, Bool.and_eq_true, List.all_eq_true]
  refine ⟨fun x hx => ?_, (adjB_iff bef xs).2 fun i hi => (h i (by omega)).2 hi hi⟩
  obtain ⟨j, hj, rfl⟩ := List.getElem_of_mem hx
  exact (h j hj).1

def splitF (n : Nat) (xs : List Stm) : List (List PV) × Int := if spOk n xs = true then (logP (logsOf n xs), 0) else ([], 2)

structure S71 where
  i : Nat

theorem c71 (xs : List Stm) (hl : xs.length ≤ 1000000) (n : Nat) (hn1 : 1 ≤ n) (hn8 : n ≤ 8) : ConSem Try.prog tab 71 [vs (sts xs), vi .i64 n] [] (.tup [.one (.p (.slice (splitF n xs).1)), .one (.p (.int .i64 (splitF n xs).2))]) [] := by
  refine con_pure tabOk mixedOk Try.func71 rfl (by decide) (by kernel_rfl) (by show (2:Nat) ≤ _; decide) fun E hE => go_start ?_
  have hr : ∀ a b, splitF n xs = (a, b) → V.tup [W1.one (Ce.p (.slice a)), W1.one (Ce.p (.int .i64 b))] = V.tup [W1.one (Ce.p (.slice (splitF n xs).1)), W1.one (Ce.p (.int .i64 (splitF n xs).2))] := fun a b h => by rw [h]
  generalize V.tup [W1.one (Ce.p (.slice (splitF n xs).1)), W1.one (Ce.p (.int .i64 (splitF n xs).2))] = X at hr ⊢
  have hml : 2000000 ≤ maxLen := by decide
  have e1 : ((n : Int) < 1) = False := eq_false (by omega)
  have e2 : (8 < (n : Int)) = False := eq_false (by omega)
  have e3 : (0 : Int) ≤ n := by omega
  have e4 : (n : Int) * 24 ≤ 140737488355328 := by omega
  have e5 : (n : Int) ≤ maxLen := by omega
  simp only [Try.f71, wk, upd, binR, ↓reduceIte, Nat.reduceEqDiff, reduceCtorEq, ofConst, ofCell, okCell, arI, cmpI, RetQ, RetM, finV, finC, finMV, finMC, resOf, V.w1, cellsV, refsC, refsO, callR, Nat.reduceAdd, Nat.reduceMul, Nat.reduceSub, Nat.reduceLeDiff, Nat.reduceLT, Nat.reduceBEq, boxR, idxR, loadR, storeR, readSl, lenR, sliceR, boundR, makeR, pureC, pureL, TD.isAgg, Int.reduceEq, Int.reduceNe, Int.reduceLT, Int.reduceLE, Int.reduceGT, Int.reduceGE, Int.reduceToNat, Int.reduceSub, Int.reduceAdd, Int.reduceMul, likeL, likeP, eqLP, e1, e2, e3, e4, e5, sts_length, mR_new]
  refine ⟨by omega, ?_⟩
  have h0 : (logsOf n (xs.take 0)).map recs = List.replicate n [] := by
    refine List.ext_getElem (by simp [logsOf]) fun i h1 h2 => ?_
    simp [logsOf, logOf, recs]
  refine aw_indF (fun i : Nat => ⟨tOf [(0, vs (sts xs)), (1, vi .i64 n), (6, .one (.bsl 16 n)), (18, vi .i64 xs.length), (19, vi .i64 i)], mR 16 113 ((logsOf n (xs.take i)).map recs) (fun _ => none)⟩)
    (fun i => i ≤ xs.length ∧ ∀ (j : Nat) (h : j < xs.length), j < i → nodeOk n xs[j] = true) (fun i => xs.length - i) 0 rfl
    (by rw [h0]; exact weak_mR ⟨rfl, rfl, rfl, rfl, rfl, trivial⟩ rfl rfl hE) ⟨by omega, fun j h h2 => by omega⟩ ?_
  rintro i ⟨hi, hinv⟩ ih
  by_cases h : (i : Int) < xs.length
  · have h' : i < xs.length := by omega
    have hw : IntKind.i64.wrap ((i : Int) + 1) = ((i + 1 : Nat) : Int) := by rw [w64 (by omega) (by omega)]; omega
    have h0i : (0 : Int) ≤ i := by omega
    have hx := sts_get h'
    have hno : nodeOk n xs[i] = false → V.tup [W1.one (Ce.p (.slice [])), W1.one (Ce.p (.int .i64 2))] = X := fun hk => hr _ _ (by unfold splitF; rw [split_no h' hk]; rfl)
    have htk : xs.take (i + 1) = xs.take i ++ [xs[i]] := by rw [List.take_succ_eq_append_getElem h']
    have hnx : nodeOk n xs[i] = true → ∀ (j : Nat) (h : j < xs.length), j < i + 1 → nodeOk n xs[j] = true := fun hk j hj hji => by
      by_cases hjx : j = i
      · subst hjx; exact hk
      · exact hinv j hj (by omega)
    have hlen : (xs.take i).length ≤ 1000000 := by simp; omega
    have hstep := fun hk σ' hws => ih (i + 1) σ' ⟨by omega, hnx hk⟩ (by omega) hws
    rw [htk] at hstep
    have h109 := c109 xs[i].r
    generalize xs[i] = x at hx hno hstep h109
    generalize xs.take i = pre at hstep hlen ⊢
    by_cases hn0 : x.node < 0
    · simp only [wk, upd, binR, ↓reduceIte, Nat.reduceEqDiff, reduceCtorEq, ofConst, ofCell, okCell, arI, cmpI, RetQ, RetM, finV, finC, finMV, finMC, resOf, V.w1, cellsV, refsC, refsO, callR, Nat.reduceAdd, Nat.reduceMul, Nat.reduceSub, Nat.reduceLeDiff, Nat.reduceLT, Nat.reduceBEq, boxR, idxR, loadR, storeR, readSl, lenR, sliceR, boundR, makeR, pureC, pureL, TD.isAgg, Int.reduceEq, Int.reduceNe, Int.reduceLT, Int.reduceLE, Int.reduceGT, Int.reduceGE, Int.reduceToNat, Int.reduceSub, Int.reduceAdd, Int.reduceMul, likeL, likeP, eqLP, upd_mR (d := 16) (k := 8) (by decide) (by decide), mR_other (d := 16) (j := 8) (by decide) (by decide), mR_box, Nat.mul_one, h, h0i, elem_eq hx, stP, recP, hn0]
      refine ⟨_, weakF_refl, ?_⟩
      simp only [wk, upd, binR, ↓reduceIte, Nat.reduceEqDiff, reduceCtorEq, ofConst, ofCell, okCell, arI, cmpI, RetQ, RetM, finV, finC, finMV, finMC, resOf, V.w1, cellsV, refsC, refsO, callR, Nat.reduceAdd, Nat.reduceMul, Nat.reduceSub, Nat.reduceLeDiff, Nat.reduceLT, Nat.reduceBEq, boxR, idxR, loadR, storeR, readSl, lenR, sliceR, boundR, makeR, pureC, pureL, TD.isAgg, Int.reduceEq, Int.reduceNe, Int.reduceLT, Int.reduceLE, Int.reduceGT, Int.reduceGE, Int.reduceToNat, Int.reduceSub, Int.reduceAdd, Int.reduceMul, likeL, likeP, eqLP, upd_mR (d := 16) (k := 8) (by decide) (by decide), mR_other (d := 16) (j := 8) (by decide) (by decide), mR_box, Nat.mul_one]
      exact hno (by simp only [nodeOk]; rw [decide_eq_false (by omega)]; rfl)
    by_cases hn9 : (n : Int) ≤ x.node
    · simp only [wk, upd, binR, ↓reduceIte, Nat.reduceEqDiff, reduceCtorEq, ofConst, ofCell, okCell, arI, cmpI, RetQ, RetM, finV, finC, finMV, finMC, resOf, V.w1, cellsV, refsC, refsO, callR, Nat.reduceAdd, Nat.reduceMul, Nat.reduceSub, Nat.reduceLeDiff, Nat.reduceLT, Nat.reduceBEq, boxR, idxR, loadR, storeR, readSl, lenR, sliceR, boundR, makeR, pureC, pureL, TD.isAgg, Int.reduceEq, Int.reduceNe, Int.reduceLT, Int.reduceLE, Int.reduceGT, Int.reduceGE, Int.reduceToNat, Int.reduceSub, Int.reduceAdd, Int.reduceMul, likeL, likeP, eqLP, upd_mR (d := 16) (k := 8) (by decide) (by decide), mR_other (d := 16) (j := 8) (by decide) (by decide), mR_box, Nat.mul_one, h, h0i, elem_eq hx, stP, recP, hn0, hn9]
      refine ⟨_, weakF_refl, ?_⟩
      simp only [wk, upd, binR, ↓reduceIte, Nat.reduceEqDiff, reduceCtorEq, ofConst, ofCell, okCell, arI, cmpI, RetQ, RetM, finV, finC, finMV, finMC, resOf, V.w1, cellsV, refsC, refsO, callR, Nat.reduceAdd, Nat.reduceMul, Nat.reduceSub, Nat.reduceLeDiff, Nat.reduceLT, Nat.reduceBEq, boxR, idxR, loadR, storeR, readSl, lenR, sliceR, boundR, makeR, pureC, pureL, TD.isAgg, Int.reduceEq, Int.reduceNe, Int.reduceLT, Int.reduceLE, Int.reduceGT, Int.reduceGE, Int.reduceToNat, Int.reduceSub, Int.reduceAdd, Int.reduceMul, likeL, likeP, eqLP, upd_mR (d := 16) (k := 8) (by decide) (by decide), mR_other (d := 16) (j := 8) (by decide) (by decide), mR_box, Nat.mul_one]
      exact hno (by simp only [nodeOk]; rw [decide_eq_false (by omega)]; rfl)
    simp only [wk, upd, binR, ↓reduceIte, Nat.reduceEqDiff, reduceCtorEq, ofConst, ofCell, okCell, arI, cmpI, RetQ, RetM, finV, finC, finMV, finMC, resOf, V.w1, cellsV, refsC, refsO, callR, Nat.reduceAdd, Nat.reduceMul, Nat.reduceSub, Nat.reduceLeDiff, Nat.reduceLT, Nat.reduceBEq, boxR, idxR, loadR, storeR, readSl, lenR, sliceR, boundR, makeR, pureC, pureL, TD.isAgg, Int.reduceEq, Int.reduceNe, Int.reduceLT, Int.reduceLE, Int.reduceGT, Int.reduceGE, Int.reduceToNat, Int.reduceSub, Int.reduceAdd, Int.reduceMul, likeL, likeP, eqLP, upd_mR (d := 16) (k := 8) (by decide) (by decide), mR_other (d := 16) (j := 8) (by decide) (by decide), mR_box, Nat.mul_one, h, h0i, elem_eq hx, stP, recP, hn0, hn9]
    refine call_by h109 ?_
    cases hro : recOk x.r
    · simp only [wk, upd, binR, ↓reduceIte, Nat.reduceEqDiff, reduceCtorEq, ofConst, ofCell, okCell, arI, cmpI, RetQ, RetM, finV, finC, finMV, finMC, resOf, V.w1, cellsV, refsC, refsO, callR, Nat.reduceAdd, Nat.reduceMul, Nat.reduceSub, Nat.reduceLeDiff, Nat.reduceLT, Nat.reduceBEq, boxR, idxR, loadR, storeR, readSl, lenR, sliceR, boundR, makeR, pureC, pureL, TD.isAgg, Int.reduceEq, Int.reduceNe, Int.reduceLT, Int.reduceLE, Int.reduceGT, Int.reduceGE, Int.reduceToNat, Int.reduceSub, Int.reduceAdd, Int.reduceMul, likeL, likeP, eqLP, upd_mR (d := 16) (k := 8) (by decide) (by decide), mR_other (d := 16) (j := 8) (by decide) (by decide), mR_box, Nat.mul_one]
      refine ⟨_, weakF_refl, ?_⟩
      simp only [wk, upd, binR, ↓reduceIte, Nat.reduceEqDiff, reduceCtorEq, ofConst, ofCell, okCell, arI, cmpI, RetQ, RetM, finV, finC, finMV, finMC, resOf, V.w1, cellsV, refsC, refsO, callR, Nat.reduceAdd, Nat.reduceMul, Nat.reduceSub, Nat.reduceLeDiff, Nat.reduceLT, Nat.reduceBEq, boxR, idxR, loadR, storeR, readSl, lenR, sliceR, boundR, makeR, pureC, pureL, TD.isAgg, Int.reduceEq, Int.reduceNe, Int.reduceLT, Int.reduceLE, Int.reduceGT, Int.reduceGE, Int.reduceToNat, Int.reduceSub, Int.reduceAdd, Int.reduceMul, likeL, likeP, eqLP, upd_mR (d := 16) (k := 8) (by decide) (by decide), mR_other (d := 16) (j := 8) (by decide) (by decide), mR_box, Nat.mul_one]
      exact hno (by simp only [nodeOk, hro]; simp)
    have hok : nodeOk n x = true := by simp only [nodeOk, hro]; simp; omega
    obtain ⟨j, hj⟩ : ∃ j : Nat, x.node = j := ⟨x.node.toNat, by omega⟩
    have hjn : j < n := by omega
    have hjl : j < ((logsOf n pre).map recs).length := by rw [logsOf_len]; exact hjn
    have hin : inR (j : Int) n := ⟨by omega, by omega⟩
    have hr8 : (rowI 16 j = 8) = False := eq_false (by unfold rowI; omega)
    have hr16 : (rowI 16 j = 16) = False := eq_false (by unfold rowI; omega)
    have hr8' : (8 = rowI 16 j) = False := eq_false (by unfold rowI; omega)
    have hr16' : (16 = rowI 16 j) = False := eq_false (by unfold rowI; omega)
    have hjle : j + 1 ≤ n := hjn
    have hrl : (recs (logOf pre j)).length ≤ 1000000 := by rw [recs_length]; exact Nat.le_trans (logOf_len _ _) hlen
    simp only [wk, upd, binR, ↓reduceIte, Nat.reduceEqDiff, reduceCtorEq, ofConst, ofCell, okCell, arI, cmpI, RetQ, RetM, finV, finC, finMV, finMC, resOf, V.w1, cellsV, refsC, refsO, callR, Nat.reduceAdd, Nat.reduceMul, Nat.reduceSub, Nat.reduceLeDiff, Nat.reduceLT, Nat.reduceBEq, boxR, idxR, loadR, storeR, readSl, lenR, sliceR, boundR, makeR, pureC, pureL, TD.isAgg, Int.reduceEq, Int.reduceNe, Int.reduceLT, Int.reduceLE, Int.reduceGT, Int.reduceGE, Int.reduceToNat, Int.reduceSub, Int.reduceAdd, Int.reduceMul, likeL, likeP, eqLP, upd_mR (d := 16) (k := 8) (by decide) (by decide), mR_other (d := 16) (j := 8) (by decide) (by decide), mR_box, Nat.mul_one, hj, hin, elemC_eq (rowsC_get hjl), mR_row hjl, logsOf_get hjn hjl, hr8, hr16, hr8', hr16', rowsC_length, logsOf_len, hjle]
    refine ⟨⟨by omega, by omega⟩, ?_, hstep hok _ ?_⟩
    · rcases (by omega : j = 0 ∨ j = 1 ∨ j = 2 ∨ j = 3 ∨ j = 4 ∨ j = 5 ∨ j = 6 ∨ j = 7) with rfl | rfl | rfl | rfl | rfl | rfl | rfl | rfl <;> rfl
    · rw [logsOf_snoc hj hjn]
      exact weak_mR ⟨rfl, rfl, rfl, rfl, by simp only [wk, upd, binR, ↓reduceIte, Nat.reduceEqDiff, reduceCtorEq, ofConst, ofCell, okCell, arI, cmpI, RetQ, RetM, finV, finC, finMV, finMC, resOf, V.w1, cellsV, refsC, refsO, callR, Nat.reduceAdd, Nat.reduceMul, Nat.reduceSub, Nat.reduceLeDiff, Nat.reduceLT, Nat.reduceBEq, boxR, idxR, loadR, storeR, readSl, lenR, sliceR, boundR, makeR, pureC, pureL, TD.isAgg, hw], trivial⟩ (mR_put hjl _ _ (by simp)) rfl hE
  · have hall : xs.all (nodeOk n) = true := by
      rw [List.all_eq_true]; intro x hx
      obtain ⟨k, hk, rfl⟩ := List.getElem_of_mem hx
      exact hinv k hk (by omega)
    have htk : xs.take i = xs := List.take_of_length_le (by omega)
    rw [htk]
    simp only [wk, upd, binR, ↓reduceIte, Nat.reduceEqDiff, reduceCtorEq, ofConst, ofCell, okCell, arI, cmpI, RetQ, RetM, finV, finC, finMV, finMC, resOf, V.w1, cellsV, refsC, refsO, callR, Nat.reduceAdd, Nat.reduceMul, Nat.reduceSub, Nat.reduceLeDiff, Nat.reduceLT, Nat.reduceBEq, boxR, idxR, loadR, storeR, readSl, lenR, sliceR, boundR, makeR, pureC, pureL, TD.isAgg, Int.reduceEq, Int.reduceNe, Int.reduceLT, Int.reduceLE, Int.reduceGT, Int.reduceGE, Int.reduceToNat, Int.reduceSub, Int.reduceAdd, Int.reduceMul, likeL, likeP, eqLP, upd_mR (d := 16) (k := 8) (by decide) (by decide), mR_other (d := 16) (j := 8) (by decide) (by decide), mR_box, Nat.mul_one, h]
    refine ⟨_, freeze_mR (h := 6) (l := [(0, vs (sts xs))]) ⟨rfl, trivial⟩ (by rw [logsOf_len]; rfl) rfl rfl hE, ?_⟩
    simp only [wk, upd, binR, ↓reduceIte, Nat.reduceEqDiff, reduceCtorEq, ofConst, ofCell, okCell, arI, cmpI, RetQ, RetM, finV, finC, finMV, finMC, resOf, V.w1, cellsV, refsC, refsO, callR, Nat.reduceAdd, Nat.reduceMul, Nat.reduceSub, Nat.reduceLeDiff, Nat.reduceLT, Nat.reduceBEq, boxR, idxR, loadR, storeR, readSl, lenR, sliceR, boundR, makeR, pureC, pureL, TD.isAgg, Int.reduceEq, Int.reduceNe, Int.reduceLT, Int.reduceLE, Int.reduceGT, Int.reduceGE, Int.reduceToNat, Int.reduceSub, Int.reduceAdd, Int.reduceMul, likeL, likeP, eqLP]
    refine call_by (c69 xs hl) ?_
    cases ho : adjB bef xs
    · simp only [wk, upd, binR, ↓reduceIte, Nat.reduceEqDiff, reduceCtorEq, ofConst, ofCell, okCell, arI, cmpI, RetQ, RetM, finV, finC, finMV, finMC, resOf, V.w1, cellsV, refsC, refsO, callR, Nat.reduceAdd, Nat.reduceMul, Nat.reduceSub, Nat.reduceLeDiff, Nat.reduceLT, Nat.reduceBEq, boxR, idxR, loadR, storeR, readSl, lenR, sliceR, boundR, makeR, pureC, pureL, TD.isAgg, Int.reduceEq, Int.reduceNe, Int.reduceLT, Int.reduceLE, Int.reduceGT, Int.reduceGE, Int.reduceToNat, Int.reduceSub, Int.reduceAdd, Int.reduceMul, likeL, likeP, eqLP]
      exact hr _ _ (by unfold splitF spOk; rw [hall, ho]; rfl)
    · simp only [wk, upd, binR, ↓reduceIte, Nat.reduceEqDiff, reduceCtorEq, ofConst, ofCell, okCell, arI, cmpI, RetQ, RetM, finV, finC, finMV, finMC, resOf, V.w1, cellsV, refsC, refsO, callR, Nat.reduceAdd, Nat.reduceMul, Nat.reduceSub, Nat.reduceLeDiff, Nat.reduceLT, Nat.reduceBEq, boxR, idxR, loadR, storeR, readSl, lenR, sliceR, boundR, makeR, pureC, pureL, TD.isAgg, Int.reduceEq, Int.reduceNe, Int.reduceLT, Int.reduceLE, Int.reduceGT, Int.reduceGE, Int.reduceToNat, Int.reduceSub, Int.reduceAdd, Int.reduceMul, likeL, likeP, eqLP]
      exact hr _ _ (by unfold splitF spOk; rw [hall, ho]; simp [logP])
end Go.AW

/- The split of records with their nodes, in the program. -/
set_option maxRecDepth 100000
set_option maxHeartbeats 8000000
set_option linter.unusedSimpArgs false
set_option linter.unusedVariables false
namespace Go.AW
open Go.Proofs

theorem c68 (xs : List Stm) (hl : xs.length ≤ 1000000) (n : Nat) (hn1 : 1 ≤ n) (hn8 : n ≤ 8) : ConSem Try.prog tab 68 [vs (sts xs), vi .i64 n] [] (.tup [.one (.p (.slice (splitF n xs).1)), .one (.p (.int .i64 (splitF n xs).2))]) [] := by
  refine con_pure tabOk mixedOk Try.func68 rfl (by decide) (by kernel_rfl) (by show (2:Nat) ≤ _; decide) fun E hE => go_start ?_
  have hr : ∀ a b, splitF n xs = (a, b) → V.tup [W1.one (Ce.p (.slice a)), W1.one (Ce.p (.int .i64 b))] = V.tup [W1.one (Ce.p (.slice (splitF n xs).1)), W1.one (Ce.p (.int .i64 (splitF n xs).2))] := fun a b h => by rw [h]
  generalize V.tup [W1.one (Ce.p (.slice (splitF n xs).1)), W1.one (Ce.p (.int .i64 (splitF n xs).2))] = X at hr ⊢
  have hml : 2000000 ≤ maxLen := by decide
  have e1 : ((n : Int) < 1) = False := eq_false (by omega)
  have e2 : (8 < (n : Int)) = False := eq_false (by omega)
  have e3 : (0 : Int) ≤ n := by omega
  have e4 : (n : Int) * 24 ≤ 140737488355328 := by omega
  have e5 : (n : Int) ≤ maxLen := by omega
  simp only [Try.f68, wk, upd, binR, ↓reduceIte, Nat.reduceEqDiff, reduceCtorEq, ofConst, ofCell, okCell, arI, cmpI, RetQ, RetM, finV, finC, finMV, finMC, resOf, V.w1, cellsV, refsC, refsO, callR, Nat.reduceAdd, Nat.reduceMul, Nat.reduceSub, Nat.reduceLeDiff, Nat.reduceLT, Nat.reduceBEq, boxR, idxR, loadR, storeR, readSl, lenR, sliceR, boundR, makeR, pureC, pureL, TD.isAgg, Int.reduceEq, Int.reduceNe, Int.reduceLT, Int.reduceLE, Int.reduceGT, Int.reduceGE, Int.reduceToNat, Int.reduceSub, Int.reduceAdd, Int.reduceMul, likeL, likeP, eqLP, e1, e2, e3, e4, e5, sts_length, mR_new]
  refine ⟨by omega, ?_⟩
  have h0 : (logsOf n (xs.take 0)).map recs = List.replicate n [] := by
    refine List.ext_getElem (by simp [logsOf]) fun i h1 h2 => ?_
    simp [logsOf, logOf, recs]
  refine aw_indF (fun i : Nat => ⟨tOf [(0, vs (sts xs)), (1, vi .i64 n), (6, .one (.bsl 16 n)), (17, vs (sts xs)), (18, vi .i64 xs.length), (19, vi .i64 i)], mR 16 113 ((logsOf n (xs.take i)).map recs) (fun _ => none)⟩)
    (fun i => i ≤ xs.length ∧ (∀ (j : Nat) (h : j < xs.length), j < i → nodeOk n xs[j] = true) ∧ ∀ (j : Nat) (h : j + 1 < xs.length), j + 1 < i → bef xs[j] xs[j + 1] = true) (fun i => xs.length - i) 0 rfl
    (by rw [h0]; exact weak_mR ⟨rfl, rfl, rfl, rfl, rfl, rfl, trivial⟩ rfl rfl hE) ⟨by omega, fun j h h2 => by omega, fun j h h2 => by omega⟩ ?_
  rintro i ⟨hi, hinv, hadj⟩ ih
  by_cases h : (i : Int) < xs.length
  · have h' : i < xs.length := by omega
    have hw : IntKind.i64.wrap ((i : Int) + 1) = ((i + 1 : Nat) : Int) := by rw [w64 (by omega) (by omega)]; omega
    have h0i : (0 : Int) ≤ i := by omega
    have hx := sts_get h'
    have hno : nodeOk n xs[i] = false → V.tup [W1.one (Ce.p (.slice [])), W1.one (Ce.p (.int .i64 2))] = X := fun hk => hr _ _ (by unfold splitF; rw [split_no h' hk]; rfl)
    have htk : xs.take (i + 1) = xs.take i ++ [xs[i]] := by rw [List.take_succ_eq_append_getElem h']
    have hnx : nodeOk n xs[i] = true → ∀ (j : Nat) (h : j < xs.length), j < i + 1 → nodeOk n xs[j] = true := fun hk j hj hji => by
      by_cases hjx : j = i
      · subst hjx; exact hk
      · exact hinv j hj (by omega)
    have hlen : (xs.take i).length ≤ 1000000 := by simp; omega
    have hstep := fun (hk : nodeOk n xs[i] = true) hk2 σ' hws => ih (i + 1) σ' ⟨by omega, hnx hk, hk2⟩ (by omega) hws
    rw [htk] at hstep
    have h108 := c108 xs[i].r
    have hS := fun (hk : recOk xs[i].r = true) => c105 xs[i].r (recOk_S hk)
    have hsplit : ∀ (P : Prop), (i = 0 → P) → (∀ k, i = k + 1 → P) → P := fun P h1 h2 => by
      cases i with
      | zero => exact h1 rfl
      | succ k => exact h2 k rfl
    have hout : ∀ (pre : List Stm) (x : Stm), nodeOk n x = true → ∀ j : Nat, x.node = j → j < n → pre.length ≤ 1000000 → j < ((logsOf n pre).map recs).length ∧ inR (j : Int) n ∧ ((recs (logOf pre j)).length ≤ 1000000) := fun pre x hk j hj hjn hp =>
      ⟨by rw [logsOf_len]; exact hjn, ⟨by omega, by omega⟩, by rw [recs_length]; exact Nat.le_trans (logOf_len _ _) hp⟩
    by_cases hi0 : i = 0
    · have ei : ((0 : Int) < i) = False := eq_false (by omega)
      have hadj2 : ∀ (j : Nat) (h : j + 1 < xs.length), j + 1 < i + 1 → bef xs[j] xs[j + 1] = true := fun j hj hji => by omega
      have hst2 := fun (hk : nodeOk n xs[i] = true) => hstep hk hadj2
      clear hstep hadj2
      generalize xs[i] = x at hx hno hst2 h108 hS 
      generalize xs.take i = pre at hst2 hlen ⊢
      by_cases hn0 : x.node < 0
      · simp only [wk, upd, binR, ↓reduceIte, Nat.reduceEqDiff, reduceCtorEq, ofConst, ofCell, okCell, arI, cmpI, RetQ, RetM, finV, finC, finMV, finMC, resOf, V.w1, cellsV, refsC, refsO, callR, Nat.reduceAdd, Nat.reduceMul, Nat.reduceSub, Nat.reduceLeDiff, Nat.reduceLT, Nat.reduceBEq, boxR, idxR, loadR, storeR, readSl, lenR, sliceR, boundR, makeR, pureC, pureL, TD.isAgg, Int.reduceEq, Int.reduceNe, Int.reduceLT, Int.reduceLE, Int.reduceGT, Int.reduceGE, Int.reduceToNat, Int.reduceSub, Int.reduceAdd, Int.reduceMul, likeL, likeP, eqLP, upd_mR (d := 16) (k := 8) (by decide) (by decide), mR_other (d := 16) (j := 8) (by decide) (by decide), mR_box, Nat.mul_one, h, h0i, elem_eq hx, stP, recP, hn0]
        refine ⟨rfl, _, weakF_refl, ?_⟩
        simp only [wk, upd, binR, ↓reduceIte, Nat.reduceEqDiff, reduceCtorEq, ofConst, ofCell, okCell, arI, cmpI, RetQ, RetM, finV, finC, finMV, finMC, resOf, V.w1, cellsV, refsC, refsO, callR, Nat.reduceAdd, Nat.reduceMul, Nat.reduceSub, Nat.reduceLeDiff, Nat.reduceLT, Nat.reduceBEq, boxR, idxR, loadR, storeR, readSl, lenR, sliceR, boundR, makeR, pureC, pureL, TD.isAgg, Int.reduceEq, Int.reduceNe, Int.reduceLT, Int.reduceLE, Int.reduceGT, Int.reduceGE, Int.reduceToNat, Int.reduceSub, Int.reduceAdd, Int.reduceMul, likeL, likeP, eqLP, upd_mR (d := 16) (k := 8) (by decide) (by decide), mR_other (d := 16) (j := 8) (by decide) (by decide), mR_box, Nat.mul_one]
        exact hno (by simp only [nodeOk]; rw [decide_eq_false (by omega)]; rfl)
      by_cases hn9 : (n : Int) ≤ x.node
      · simp only [wk, upd, binR, ↓reduceIte, Nat.reduceEqDiff, reduceCtorEq, ofConst, ofCell, okCell, arI, cmpI, RetQ, RetM, finV, finC, finMV, finMC, resOf, V.w1, cellsV, refsC, refsO, callR, Nat.reduceAdd, Nat.reduceMul, Nat.reduceSub, Nat.reduceLeDiff, Nat.reduceLT, Nat.reduceBEq, boxR, idxR, loadR, storeR, readSl, lenR, sliceR, boundR, makeR, pureC, pureL, TD.isAgg, Int.reduceEq, Int.reduceNe, Int.reduceLT, Int.reduceLE, Int.reduceGT, Int.reduceGE, Int.reduceToNat, Int.reduceSub, Int.reduceAdd, Int.reduceMul, likeL, likeP, eqLP, upd_mR (d := 16) (k := 8) (by decide) (by decide), mR_other (d := 16) (j := 8) (by decide) (by decide), mR_box, Nat.mul_one, h, h0i, elem_eq hx, stP, recP, hn0, hn9]
        refine ⟨rfl, _, weakF_refl, ?_⟩
        simp only [wk, upd, binR, ↓reduceIte, Nat.reduceEqDiff, reduceCtorEq, ofConst, ofCell, okCell, arI, cmpI, RetQ, RetM, finV, finC, finMV, finMC, resOf, V.w1, cellsV, refsC, refsO, callR, Nat.reduceAdd, Nat.reduceMul, Nat.reduceSub, Nat.reduceLeDiff, Nat.reduceLT, Nat.reduceBEq, boxR, idxR, loadR, storeR, readSl, lenR, sliceR, boundR, makeR, pureC, pureL, TD.isAgg, Int.reduceEq, Int.reduceNe, Int.reduceLT, Int.reduceLE, Int.reduceGT, Int.reduceGE, Int.reduceToNat, Int.reduceSub, Int.reduceAdd, Int.reduceMul, likeL, likeP, eqLP, upd_mR (d := 16) (k := 8) (by decide) (by decide), mR_other (d := 16) (j := 8) (by decide) (by decide), mR_box, Nat.mul_one]
        exact hno (by simp only [nodeOk]; rw [decide_eq_false (by omega)]; rfl)
      simp only [wk, upd, binR, ↓reduceIte, Nat.reduceEqDiff, reduceCtorEq, ofConst, ofCell, okCell, arI, cmpI, RetQ, RetM, finV, finC, finMV, finMC, resOf, V.w1, cellsV, refsC, refsO, callR, Nat.reduceAdd, Nat.reduceMul, Nat.reduceSub, Nat.reduceLeDiff, Nat.reduceLT, Nat.reduceBEq, boxR, idxR, loadR, storeR, readSl, lenR, sliceR, boundR, makeR, pureC, pureL, TD.isAgg, Int.reduceEq, Int.reduceNe, Int.reduceLT, Int.reduceLE, Int.reduceGT, Int.reduceGE, Int.reduceToNat, Int.reduceSub, Int.reduceAdd, Int.reduceMul, likeL, likeP, eqLP, upd_mR (d := 16) (k := 8) (by decide) (by decide), mR_other (d := 16) (j := 8) (by decide) (by decide), mR_box, Nat.mul_one, h, h0i, elem_eq hx, stP, recP, hn0, hn9]
      refine call_by h108 ?_
      cases hro : recOk x.r
      · simp only [wk, upd, binR, ↓reduceIte, Nat.reduceEqDiff, reduceCtorEq, ofConst, ofCell, okCell, arI, cmpI, RetQ, RetM, finV, finC, finMV, finMC, resOf, V.w1, cellsV, refsC, refsO, callR, Nat.reduceAdd, Nat.reduceMul, Nat.reduceSub, Nat.reduceLeDiff, Nat.reduceLT, Nat.reduceBEq, boxR, idxR, loadR, storeR, readSl, lenR, sliceR, boundR, makeR, pureC, pureL, TD.isAgg, Int.reduceEq, Int.reduceNe, Int.reduceLT, Int.reduceLE, Int.reduceGT, Int.reduceGE, Int.reduceToNat, Int.reduceSub, Int.reduceAdd, Int.reduceMul, likeL, likeP, eqLP, upd_mR (d := 16) (k := 8) (by decide) (by decide), mR_other (d := 16) (j := 8) (by decide) (by decide), mR_box, Nat.mul_one]
        refine ⟨rfl, _, weakF_refl, ?_⟩
        simp only [wk, upd, binR, ↓reduceIte, Nat.reduceEqDiff, reduceCtorEq, ofConst, ofCell, okCell, arI, cmpI, RetQ, RetM, finV, finC, finMV, finMC, resOf, V.w1, cellsV, refsC, refsO, callR, Nat.reduceAdd, Nat.reduceMul, Nat.reduceSub, Nat.reduceLeDiff, Nat.reduceLT, Nat.reduceBEq, boxR, idxR, loadR, storeR, readSl, lenR, sliceR, boundR, makeR, pureC, pureL, TD.isAgg, Int.reduceEq, Int.reduceNe, Int.reduceLT, Int.reduceLE, Int.reduceGT, Int.reduceGE, Int.reduceToNat, Int.reduceSub, Int.reduceAdd, Int.reduceMul, likeL, likeP, eqLP, upd_mR (d := 16) (k := 8) (by decide) (by decide), mR_other (d := 16) (j := 8) (by decide) (by decide), mR_box, Nat.mul_one]
        exact hno (by simp only [nodeOk, hro]; simp)
      have hok : nodeOk n x = true := by simp only [nodeOk, hro]; simp; omega
      obtain ⟨j, hj⟩ : ∃ j : Nat, x.node = j := ⟨x.node.toNat, by omega⟩
      have hjn : j < n := by omega
      obtain ⟨hjl, hin, hrl⟩ := hout pre x hok j hj hjn hlen
      have h105 := hS hro
      have hr8 : (rowI 16 j = 8) = False := eq_false (by unfold rowI; omega)
      have hr16 : (rowI 16 j = 16) = False := eq_false (by unfold rowI; omega)
      have hr8' : (8 = rowI 16 j) = False := eq_false (by unfold rowI; omega)
      have hr16' : (16 = rowI 16 j) = False := eq_false (by unfold rowI; omega)
      have hjle : j + 1 ≤ n := hjn
      simp only [wk, upd, binR, ↓reduceIte, Nat.reduceEqDiff, reduceCtorEq, ofConst, ofCell, okCell, arI, cmpI, RetQ, RetM, finV, finC, finMV, finMC, resOf, V.w1, cellsV, refsC, refsO, callR, Nat.reduceAdd, Nat.reduceMul, Nat.reduceSub, Nat.reduceLeDiff, Nat.reduceLT, Nat.reduceBEq, boxR, idxR, loadR, storeR, readSl, lenR, sliceR, boundR, makeR, pureC, pureL, TD.isAgg, Int.reduceEq, Int.reduceNe, Int.reduceLT, Int.reduceLE, Int.reduceGT, Int.reduceGE, Int.reduceToNat, Int.reduceSub, Int.reduceAdd, Int.reduceMul, likeL, likeP, eqLP, upd_mR (d := 16) (k := 8) (by decide) (by decide), mR_other (d := 16) (j := 8) (by decide) (by decide), mR_box, Nat.mul_one, hj, hin, elemC_eq (rowsC_get hjl), mR_row hjl, logsOf_get hjn hjl, hr8, hr16, hr8', hr16', rowsC_length, logsOf_len, hjle, recC, ei]
      refine ⟨rfl, call_by h105 ?_⟩
      simp only [wk, upd, binR, ↓reduceIte, Nat.reduceEqDiff, reduceCtorEq, ofConst, ofCell, okCell, arI, cmpI, RetQ, RetM, finV, finC, finMV, finMC, resOf, V.w1, cellsV, refsC, refsO, callR, Nat.reduceAdd, Nat.reduceMul, Nat.reduceSub, Nat.reduceLeDiff, Nat.reduceLT, Nat.reduceBEq, boxR, idxR, loadR, storeR, readSl, lenR, sliceR, boundR, makeR, pureC, pureL, TD.isAgg, Int.reduceEq, Int.reduceNe, Int.reduceLT, Int.reduceLE, Int.reduceGT, Int.reduceGE, Int.reduceToNat, Int.reduceSub, Int.reduceAdd, Int.reduceMul, likeL, likeP, eqLP, upd_mR (d := 16) (k := 8) (by decide) (by decide), mR_other (d := 16) (j := 8) (by decide) (by decide), mR_box, Nat.mul_one, hj, hin, elemC_eq (rowsC_get hjl), mR_row hjl, logsOf_get hjn hjl, hr8, hr16, hr8', hr16', rowsC_length, logsOf_len, hjle, recC]
      refine ⟨⟨by omega, by omega⟩, ?_, hst2 hok _ ?_⟩
      · rcases (by omega : j = 0 ∨ j = 1 ∨ j = 2 ∨ j = 3 ∨ j = 4 ∨ j = 5 ∨ j = 6 ∨ j = 7) with rfl | rfl | rfl | rfl | rfl | rfl | rfl | rfl <;> rfl
      · rw [logsOf_snoc hj hjn]
        exact weak_mR ⟨rfl, rfl, rfl, rfl, rfl, by simp only [wk, upd, binR, ↓reduceIte, Nat.reduceEqDiff, reduceCtorEq, ofConst, ofCell, okCell, arI, cmpI, RetQ, RetM, finV, finC, finMV, finMC, resOf, V.w1, cellsV, refsC, refsO, callR, Nat.reduceAdd, Nat.reduceMul, Nat.reduceSub, Nat.reduceLeDiff, Nat.reduceLT, Nat.reduceBEq, boxR, idxR, loadR, storeR, readSl, lenR, sliceR, boundR, makeR, pureC, pureL, TD.isAgg, hw], trivial⟩ (mR_put hjl _ _ (by simp)) rfl hE
    · have ei : ((0 : Int) < i) = True := eq_true (by omega)
      obtain ⟨k, hik⟩ : ∃ k, i = k + 1 := ⟨i - 1, by omega⟩
      have hk' : k < xs.length := by omega
      have ew : IntKind.i64.wrap ((i : Int) - 1) = (k : Int) := by rw [w64 (by omega) (by omega)]; omega
      have h0k : (0 : Int) ≤ k := by omega
      have hy := sts_get hk'
      have hbno : bef xs[k] xs[i] = false → V.tup [W1.one (Ce.p (.slice [])), W1.one (Ce.p (.int .i64 2))] = X := fun hk => hr _ _ (by unfold splitF; rw [split_no2 (i := k) (by omega) (by subst hik; exact hk)]; rfl)
      have hadj2 : bef xs[k] xs[i] = true → ∀ (j : Nat) (h : j + 1 < xs.length), j + 1 < i + 1 → bef xs[j] xs[j + 1] = true := fun hk j hj hji => by
        by_cases hjk : j = k
        · subst hjk; subst hik; exact hk
        · exact hadj j hj (by omega)
      have hst2 := fun (hb : bef xs[k] xs[i] = true) (hk : nodeOk n xs[i] = true) => hstep hk (hadj2 hb)
      have hbe := c107 xs[k] xs[i]
      clear hstep hadj2
      generalize xs[k] = y at hy hbno hst2 hbe
      generalize xs[i] = x at hx hno hst2 h108 hS hbno hbe
      generalize xs.take i = pre at hst2 hlen ⊢
      by_cases hn0 : x.node < 0
      · simp only [wk, upd, binR, ↓reduceIte, Nat.reduceEqDiff, reduceCtorEq, ofConst, ofCell, okCell, arI, cmpI, RetQ, RetM, finV, finC, finMV, finMC, resOf, V.w1, cellsV, refsC, refsO, callR, Nat.reduceAdd, Nat.reduceMul, Nat.reduceSub, Nat.reduceLeDiff, Nat.reduceLT, Nat.reduceBEq, boxR, idxR, loadR, storeR, readSl, lenR, sliceR, boundR, makeR, pureC, pureL, TD.isAgg, Int.reduceEq, Int.reduceNe, Int.reduceLT, Int.reduceLE, Int.reduceGT, Int.reduceGE, Int.reduceToNat, Int.reduceSub, Int.reduceAdd, Int.reduceMul, likeL, likeP, eqLP, upd_mR (d := 16) (k := 8) (by decide) (by decide), mR_other (d := 16) (j := 8) (by decide) (by decide), mR_box, Nat.mul_one, h, h0i, elem_eq hx, stP, recP, hn0]
        refine ⟨rfl, _, weakF_refl, ?_⟩
        simp only [wk, upd, binR, ↓reduceIte, Nat.reduceEqDiff, reduceCtorEq, ofConst, ofCell, okCell, arI, cmpI, RetQ, RetM, finV, finC, finMV, finMC, resOf, V.w1, cellsV, refsC, refsO, callR, Nat.reduceAdd, Nat.reduceMul, Nat.reduceSub, Nat.reduceLeDiff, Nat.reduceLT, Nat.reduceBEq, boxR, idxR, loadR, storeR, readSl, lenR, sliceR, boundR, makeR, pureC, pureL, TD.isAgg, Int.reduceEq, Int.reduceNe, Int.reduceLT, Int.reduceLE, Int.reduceGT, Int.reduceGE, Int.reduceToNat, Int.reduceSub, Int.reduceAdd, Int.reduceMul, likeL, likeP, eqLP, upd_mR (d := 16) (k := 8) (by decide) (by decide), mR_other (d := 16) (j := 8) (by decide) (by decide), mR_box, Nat.mul_one]
        exact hno (by simp only [nodeOk]; rw [decide_eq_false (by omega)]; rfl)
      by_cases hn9 : (n : Int) ≤ x.node
      · simp only [wk, upd, binR, ↓reduceIte, Nat.reduceEqDiff, reduceCtorEq, ofConst, ofCell, okCell, arI, cmpI, RetQ, RetM, finV, finC, finMV, finMC, resOf, V.w1, cellsV, refsC, refsO, callR, Nat.reduceAdd, Nat.reduceMul, Nat.reduceSub, Nat.reduceLeDiff, Nat.reduceLT, Nat.reduceBEq, boxR, idxR, loadR, storeR, readSl, lenR, sliceR, boundR, makeR, pureC, pureL, TD.isAgg, Int.reduceEq, Int.reduceNe, Int.reduceLT, Int.reduceLE, Int.reduceGT, Int.reduceGE, Int.reduceToNat, Int.reduceSub, Int.reduceAdd, Int.reduceMul, likeL, likeP, eqLP, upd_mR (d := 16) (k := 8) (by decide) (by decide), mR_other (d := 16) (j := 8) (by decide) (by decide), mR_box, Nat.mul_one, h, h0i, elem_eq hx, stP, recP, hn0, hn9]
        refine ⟨rfl, _, weakF_refl, ?_⟩
        simp only [wk, upd, binR, ↓reduceIte, Nat.reduceEqDiff, reduceCtorEq, ofConst, ofCell, okCell, arI, cmpI, RetQ, RetM, finV, finC, finMV, finMC, resOf, V.w1, cellsV, refsC, refsO, callR, Nat.reduceAdd, Nat.reduceMul, Nat.reduceSub, Nat.reduceLeDiff, Nat.reduceLT, Nat.reduceBEq, boxR, idxR, loadR, storeR, readSl, lenR, sliceR, boundR, makeR, pureC, pureL, TD.isAgg, Int.reduceEq, Int.reduceNe, Int.reduceLT, Int.reduceLE, Int.reduceGT, Int.reduceGE, Int.reduceToNat, Int.reduceSub, Int.reduceAdd, Int.reduceMul, likeL, likeP, eqLP, upd_mR (d := 16) (k := 8) (by decide) (by decide), mR_other (d := 16) (j := 8) (by decide) (by decide), mR_box, Nat.mul_one]
        exact hno (by simp only [nodeOk]; rw [decide_eq_false (by omega)]; rfl)
      simp only [wk, upd, binR, ↓reduceIte, Nat.reduceEqDiff, reduceCtorEq, ofConst, ofCell, okCell, arI, cmpI, RetQ, RetM, finV, finC, finMV, finMC, resOf, V.w1, cellsV, refsC, refsO, callR, Nat.reduceAdd, Nat.reduceMul, Nat.reduceSub, Nat.reduceLeDiff, Nat.reduceLT, Nat.reduceBEq, boxR, idxR, loadR, storeR, readSl, lenR, sliceR, boundR, makeR, pureC, pureL, TD.isAgg, Int.reduceEq, Int.reduceNe, Int.reduceLT, Int.reduceLE, Int.reduceGT, Int.reduceGE, Int.reduceToNat, Int.reduceSub, Int.reduceAdd, Int.reduceMul, likeL, likeP, eqLP, upd_mR (d := 16) (k := 8) (by decide) (by decide), mR_other (d := 16) (j := 8) (by decide) (by decide), mR_box, Nat.mul_one, h, h0i, elem_eq hx, stP, recP, hn0, hn9]
      refine call_by h108 ?_
      cases hro : recOk x.r
      · simp only [wk, upd, binR, ↓reduceIte, Nat.reduceEqDiff, reduceCtorEq, ofConst, ofCell, okCell, arI, cmpI, RetQ, RetM, finV, finC, finMV, finMC, resOf, V.w1, cellsV, refsC, refsO, callR, Nat.reduceAdd, Nat.reduceMul, Nat.reduceSub, Nat.reduceLeDiff, Nat.reduceLT, Nat.reduceBEq, boxR, idxR, loadR, storeR, readSl, lenR, sliceR, boundR, makeR, pureC, pureL, TD.isAgg, Int.reduceEq, Int.reduceNe, Int.reduceLT, Int.reduceLE, Int.reduceGT, Int.reduceGE, Int.reduceToNat, Int.reduceSub, Int.reduceAdd, Int.reduceMul, likeL, likeP, eqLP, upd_mR (d := 16) (k := 8) (by decide) (by decide), mR_other (d := 16) (j := 8) (by decide) (by decide), mR_box, Nat.mul_one]
        refine ⟨rfl, _, weakF_refl, ?_⟩
        simp only [wk, upd, binR, ↓reduceIte, Nat.reduceEqDiff, reduceCtorEq, ofConst, ofCell, okCell, arI, cmpI, RetQ, RetM, finV, finC, finMV, finMC, resOf, V.w1, cellsV, refsC, refsO, callR, Nat.reduceAdd, Nat.reduceMul, Nat.reduceSub, Nat.reduceLeDiff, Nat.reduceLT, Nat.reduceBEq, boxR, idxR, loadR, storeR, readSl, lenR, sliceR, boundR, makeR, pureC, pureL, TD.isAgg, Int.reduceEq, Int.reduceNe, Int.reduceLT, Int.reduceLE, Int.reduceGT, Int.reduceGE, Int.reduceToNat, Int.reduceSub, Int.reduceAdd, Int.reduceMul, likeL, likeP, eqLP, upd_mR (d := 16) (k := 8) (by decide) (by decide), mR_other (d := 16) (j := 8) (by decide) (by decide), mR_box, Nat.mul_one]
        exact hno (by simp only [nodeOk, hro]; simp)
      have hok : nodeOk n x = true := by simp only [nodeOk, hro]; simp; omega
      obtain ⟨j, hj⟩ : ∃ j : Nat, x.node = j := ⟨x.node.toNat, by omega⟩
      have hjn : j < n := by omega
      obtain ⟨hjl, hin, hrl⟩ := hout pre x hok j hj hjn hlen
      have h105 := hS hro
      have hr8 : (rowI 16 j = 8) = False := eq_false (by unfold rowI; omega)
      have hr16 : (rowI 16 j = 16) = False := eq_false (by unfold rowI; omega)
      have hr8' : (8 = rowI 16 j) = False := eq_false (by unfold rowI; omega)
      have hr16' : (16 = rowI 16 j) = False := eq_false (by unfold rowI; omega)
      have hjle : j + 1 ≤ n := hjn
      simp only [wk, upd, binR, ↓reduceIte, Nat.reduceEqDiff, reduceCtorEq, ofConst, ofCell, okCell, arI, cmpI, RetQ, RetM, finV, finC, finMV, finMC, resOf, V.w1, cellsV, refsC, refsO, callR, Nat.reduceAdd, Nat.reduceMul, Nat.reduceSub, Nat.reduceLeDiff, Nat.reduceLT, Nat.reduceBEq, boxR, idxR, loadR, storeR, readSl, lenR, sliceR, boundR, makeR, pureC, pureL, TD.isAgg, Int.reduceEq, Int.reduceNe, Int.reduceLT, Int.reduceLE, Int.reduceGT, Int.reduceGE, Int.reduceToNat, Int.reduceSub, Int.reduceAdd, Int.reduceMul, likeL, likeP, eqLP, upd_mR (d := 16) (k := 8) (by decide) (by decide), mR_other (d := 16) (j := 8) (by decide) (by decide), mR_box, Nat.mul_one, recC, ei, ew, h0k, elem_eq hy, stP, recP]
      refine call_by hbe ?_
      cases hbb : bef y x
      · simp only [wk, upd, binR, ↓reduceIte, Nat.reduceEqDiff, reduceCtorEq, ofConst, ofCell, okCell, arI, cmpI, RetQ, RetM, finV, finC, finMV, finMC, resOf, V.w1, cellsV, refsC, refsO, callR, Nat.reduceAdd, Nat.reduceMul, Nat.reduceSub, Nat.reduceLeDiff, Nat.reduceLT, Nat.reduceBEq, boxR, idxR, loadR, storeR, readSl, lenR, sliceR, boundR, makeR, pureC, pureL, TD.isAgg, Int.reduceEq, Int.reduceNe, Int.reduceLT, Int.reduceLE, Int.reduceGT, Int.reduceGE, Int.reduceToNat, Int.reduceSub, Int.reduceAdd, Int.reduceMul, likeL, likeP, eqLP, upd_mR (d := 16) (k := 8) (by decide) (by decide), mR_other (d := 16) (j := 8) (by decide) (by decide), mR_box, Nat.mul_one]
        refine ⟨rfl, _, weakF_refl, ?_⟩
        simp only [wk, upd, binR, ↓reduceIte, Nat.reduceEqDiff, reduceCtorEq, ofConst, ofCell, okCell, arI, cmpI, RetQ, RetM, finV, finC, finMV, finMC, resOf, V.w1, cellsV, refsC, refsO, callR, Nat.reduceAdd, Nat.reduceMul, Nat.reduceSub, Nat.reduceLeDiff, Nat.reduceLT, Nat.reduceBEq, boxR, idxR, loadR, storeR, readSl, lenR, sliceR, boundR, makeR, pureC, pureL, TD.isAgg, Int.reduceEq, Int.reduceNe, Int.reduceLT, Int.reduceLE, Int.reduceGT, Int.reduceGE, Int.reduceToNat, Int.reduceSub, Int.reduceAdd, Int.reduceMul, likeL, likeP, eqLP, upd_mR (d := 16) (k := 8) (by decide) (by decide), mR_other (d := 16) (j := 8) (by decide) (by decide), mR_box, Nat.mul_one]
        exact hbno hbb
      simp only [wk, upd, binR, ↓reduceIte, Nat.reduceEqDiff, reduceCtorEq, ofConst, ofCell, okCell, arI, cmpI, RetQ, RetM, finV, finC, finMV, finMC, resOf, V.w1, cellsV, refsC, refsO, callR, Nat.reduceAdd, Nat.reduceMul, Nat.reduceSub, Nat.reduceLeDiff, Nat.reduceLT, Nat.reduceBEq, boxR, idxR, loadR, storeR, readSl, lenR, sliceR, boundR, makeR, pureC, pureL, TD.isAgg, Int.reduceEq, Int.reduceNe, Int.reduceLT, Int.reduceLE, Int.reduceGT, Int.reduceGE, Int.reduceToNat, Int.reduceSub, Int.reduceAdd, Int.reduceMul, likeL, likeP, eqLP, upd_mR (d := 16) (k := 8) (by decide) (by decide), mR_other (d := 16) (j := 8) (by decide) (by decide), mR_box, Nat.mul_one, hj, hin, elemC_eq (rowsC_get hjl), mR_row hjl, logsOf_get hjn hjl, hr8, hr16, hr8', hr16', rowsC_length, logsOf_len, hjle, recC, ei, ew, h0k, elem_eq hy, stP, recP]
      refine ⟨rfl, call_by h105 ?_⟩
      simp only [wk, upd, binR, ↓reduceIte, Nat.reduceEqDiff, reduceCtorEq, ofConst, ofCell, okCell, arI, cmpI, RetQ, RetM, finV, finC, finMV, finMC, resOf, V.w1, cellsV, refsC, refsO, callR, Nat.reduceAdd, Nat.reduceMul, Nat.reduceSub, Nat.reduceLeDiff, Nat.reduceLT, Nat.reduceBEq, boxR, idxR, loadR, storeR, readSl, lenR, sliceR, boundR, makeR, pureC, pureL, TD.isAgg, Int.reduceEq, Int.reduceNe, Int.reduceLT, Int.reduceLE, Int.reduceGT, Int.reduceGE, Int.reduceToNat, Int.reduceSub, Int.reduceAdd, Int.reduceMul, likeL, likeP, eqLP, upd_mR (d := 16) (k := 8) (by decide) (by decide), mR_other (d := 16) (j := 8) (by decide) (by decide), mR_box, Nat.mul_one, hj, hin, elemC_eq (rowsC_get hjl), mR_row hjl, logsOf_get hjn hjl, hr8, hr16, hr8', hr16', rowsC_length, logsOf_len, hjle, recC]
      refine ⟨⟨by omega, by omega⟩, ?_, hst2 hbb hok _ ?_⟩
      · rcases (by omega : j = 0 ∨ j = 1 ∨ j = 2 ∨ j = 3 ∨ j = 4 ∨ j = 5 ∨ j = 6 ∨ j = 7) with rfl | rfl | rfl | rfl | rfl | rfl | rfl | rfl <;> rfl
      · rw [logsOf_snoc hj hjn]
        exact weak_mR ⟨rfl, rfl, rfl, rfl, rfl, by simp only [wk, upd, binR, ↓reduceIte, Nat.reduceEqDiff, reduceCtorEq, ofConst, ofCell, okCell, arI, cmpI, RetQ, RetM, finV, finC, finMV, finMC, resOf, V.w1, cellsV, refsC, refsO, callR, Nat.reduceAdd, Nat.reduceMul, Nat.reduceSub, Nat.reduceLeDiff, Nat.reduceLT, Nat.reduceBEq, boxR, idxR, loadR, storeR, readSl, lenR, sliceR, boundR, makeR, pureC, pureL, TD.isAgg, hw], trivial⟩ (mR_put hjl _ _ (by simp)) rfl hE
  · have hall : xs.all (nodeOk n) = true := by
      rw [List.all_eq_true]; intro x hx
      obtain ⟨k, hk, rfl⟩ := List.getElem_of_mem hx
      exact hinv k hk (by omega)
    have htk : xs.take i = xs := List.take_of_length_le (by omega)
    rw [htk]
    simp only [wk, upd, binR, ↓reduceIte, Nat.reduceEqDiff, reduceCtorEq, ofConst, ofCell, okCell, arI, cmpI, RetQ, RetM, finV, finC, finMV, finMC, resOf, V.w1, cellsV, refsC, refsO, callR, Nat.reduceAdd, Nat.reduceMul, Nat.reduceSub, Nat.reduceLeDiff, Nat.reduceLT, Nat.reduceBEq, boxR, idxR, loadR, storeR, readSl, lenR, sliceR, boundR, makeR, pureC, pureL, TD.isAgg, Int.reduceEq, Int.reduceNe, Int.reduceLT, Int.reduceLE, Int.reduceGT, Int.reduceGE, Int.reduceToNat, Int.reduceSub, Int.reduceAdd, Int.reduceMul, likeL, likeP, eqLP, upd_mR (d := 16) (k := 8) (by decide) (by decide), mR_other (d := 16) (j := 8) (by decide) (by decide), mR_box, Nat.mul_one, h]
    refine ⟨_, freeze_mR (h := 6) (l := [(0, vs (sts xs))]) ⟨rfl, trivial⟩ (by rw [logsOf_len]; rfl) rfl rfl hE, ?_⟩
    simp only [wk, upd, binR, ↓reduceIte, Nat.reduceEqDiff, reduceCtorEq, ofConst, ofCell, okCell, arI, cmpI, RetQ, RetM, finV, finC, finMV, finMC, resOf, V.w1, cellsV, refsC, refsO, callR, Nat.reduceAdd, Nat.reduceMul, Nat.reduceSub, Nat.reduceLeDiff, Nat.reduceLT, Nat.reduceBEq, boxR, idxR, loadR, storeR, readSl, lenR, sliceR, boundR, makeR, pureC, pureL, TD.isAgg, Int.reduceEq, Int.reduceNe, Int.reduceLT, Int.reduceLE, Int.reduceGT, Int.reduceGE, Int.reduceToNat, Int.reduceSub, Int.reduceAdd, Int.reduceMul, likeL, likeP, eqLP]
    have ho : adjB bef xs = true := (adjB_iff bef xs).2 fun k hk => hadj k hk (by omega)
    exact hr _ _ (by unfold splitF spOk; rw [hall, ho]; simp [logP])
end Go.AW
