/- Rises, in the program and in the document's answer. -/
import Derived.Test.YtocalihefpafgaaAW
import Derived.Test.YtocalihefpafgaaB2
set_option maxRecDepth 100000
set_option linter.unusedSimpArgs false
set_option linter.unusedVariables false
namespace Go.AW
open Go.Proofs

def nums (xs : List Int) : List (List PV) := xs.map fun n => [.int .u64 n]
theorem nums_length (xs : List Int) : (nums xs).length = xs.length := by simp [nums]
theorem nums_get {xs : List Int} {i : Nat} (h : i < xs.length) : (nums xs)[i]? = some [.int .u64 xs[i]] := by simp [nums, h]

def risesB : List Int → Bool
  | [] => true
  | [_] => true
  | a :: b :: r => decide (a < b) && risesB (b :: r)
theorem risesB_iff : ∀ (xs : List Int), risesB xs = true ↔ ∀ (i : Nat) (h : i + 1 < xs.length), xs[i] < xs[i + 1]
  | [] => by simp [risesB]
  | [a] => by simp [risesB]
  | a :: b :: r => by
    simp only [risesB, Bool.and_eq_true, decide_eq_true_eq, risesB_iff (b :: r)]
    constructor
    · rintro ⟨h1, h2⟩ i hi
      cases i with
      | zero => exact h1
      | succ i => exact h2 i (by simpa using hi)
    · intro h
      exact ⟨h 0 (by simp), fun i hi => h (i + 1) (by simpa using hi)⟩

theorem w64 {x : Int} (h1 : -9223372036854775808 ≤ x) (h2 : x ≤ 9223372036854775807) : IntKind.i64.wrap x = x := by
  simp only [IntKind.wrap, IntKind.min, IntKind.max, IntKind.signed, IntKind.bits]
  simp
  omega
theorem wu64 {x : Int} (h1 : 0 ≤ x) (h2 : x ≤ 18446744073709551615) : IntKind.u64.wrap x = x := by
  simp only [IntKind.wrap, IntKind.min, IntKind.max, IntKind.signed, IntKind.bits]
  simp
  omega
/-- A slice, nil or not. -/
def isSl (s : PV) (xs : List (List PV)) : Prop := s = .slice xs ∨ (s = .nilsl ∧ xs = [])

theorem rises_no {xs : List Int} {i : Nat} (h : i + 1 < xs.length) (hle : xs[i + 1] ≤ xs[i]) : risesB xs = false := by
  cases hr : risesB xs with
  | false => rfl
  | true => have := (risesB_iff xs).1 hr i h; omega
theorem vbeq {a b : Bool} (h : a = b) : V.one (Ce.p (PV.bool a)) = V.one (Ce.p (PV.bool b)) := by rw [h]

theorem c37 (xs : List Int) (hl : xs.length ≤ maxLen) : ConSem Try.prog tab 37 [vs (nums xs)] [] (vb (risesB xs)) [] := by
  refine con_pure tabOk mixedOk Try.func37 rfl (by decide) (by kernel_rfl) (by show (1:Nat) ≤ _; decide) fun E hE => go_start ?_
  simp only [Try.f37, wk, upd, binR, ↓reduceIte, Nat.reduceEqDiff, reduceCtorEq, ofConst, ofCell, okCell, arI, cmpI, RetQ, RetM, finV, finC, finMV, finMC, resOf, V.w1, cellsV, refsC, refsO, callR, Nat.reduceAdd, Nat.reduceMul, Nat.reduceSub, Nat.reduceLeDiff, Nat.reduceLT, Nat.reduceBEq, boxR, idxR, loadR, storeR, readSl, lenR, sliceR, boundR, makeR, pureC, pureL, TD.isAgg]
  refine aw_ind (fun i : Nat => ⟨tOf [(0, vs (nums xs)), (5, vs (nums xs)), (6, vi .i64 xs.length), (7, vi .i64 i)], fun _ => none⟩) (fun i => i ≤ xs.length ∧ ∀ (j : Nat) (h : j + 1 < xs.length), j + 1 < i → xs[j] < xs[j + 1]) (fun i => xs.length - i) 0 rfl
    (weak_pure ⟨rfl, rfl, by simp only [wk, upd, binR, ↓reduceIte, Nat.reduceEqDiff, reduceCtorEq, ofConst, ofCell, okCell, arI, cmpI, RetQ, RetM, finV, finC, finMV, finMC, resOf, V.w1, cellsV, refsC, refsO, callR, Nat.reduceAdd, Nat.reduceMul, Nat.reduceSub, Nat.reduceLeDiff, Nat.reduceLT, Nat.reduceBEq, boxR, idxR, loadR, storeR, readSl, lenR, sliceR, boundR, makeR, pureC, pureL, TD.isAgg, nums_length], rfl, trivial⟩ rfl hE) ⟨by omega, fun j h h2 => by omega⟩ ?_
  rintro i ⟨hi, hinv⟩ ih
  simp only [wk, upd, binR, ↓reduceIte, Nat.reduceEqDiff, reduceCtorEq, ofConst, ofCell, okCell, arI, cmpI, RetQ, RetM, finV, finC, finMV, finMC, resOf, V.w1, cellsV, refsC, refsO, callR, Nat.reduceAdd, Nat.reduceMul, Nat.reduceSub, Nat.reduceLeDiff, Nat.reduceLT, Nat.reduceBEq, boxR, idxR, loadR, storeR, readSl, lenR, sliceR, boundR, makeR, pureC, pureL, TD.isAgg]
  have hm : maxLen ≤ 9223372036854775807 := by decide
  refine ⟨fun h => ?_, fun h => ?_⟩
  · have h' : i < xs.length := by omega
    have hw : IntKind.i64.wrap ((i : Int) + 1) = ((i + 1 : Nat) : Int) := by rw [w64 (by omega) (by omega)]; omega
    refine elem_by (nums_get h') ?_
    simp only [wk, upd, binR, ↓reduceIte, Nat.reduceEqDiff, reduceCtorEq, ofConst, ofCell, okCell, arI, cmpI, RetQ, RetM, finV, finC, finMV, finMC, resOf, V.w1, cellsV, refsC, refsO, callR, Nat.reduceAdd, Nat.reduceMul, Nat.reduceSub, Nat.reduceLeDiff, Nat.reduceLT, Nat.reduceBEq, boxR, idxR, loadR, storeR, readSl, lenR, sliceR, boundR, makeR, pureC, pureL, TD.isAgg]
    refine ⟨by omega, fun h0 => ?_, fun h0 => ?_⟩
    · rw [w64 (by omega) (by omega)]
      obtain ⟨j, rfl⟩ : ∃ j, i = j + 1 := ⟨i - 1, by omega⟩
      have hp : (((j + 1 : Nat) : Int) - 1).toNat = j := by omega
      rw [hp]
      refine elem_by (nums_get (by omega)) ?_
      simp only [wk, upd, binR, ↓reduceIte, Nat.reduceEqDiff, reduceCtorEq, ofConst, ofCell, okCell, arI, cmpI, RetQ, RetM, finV, finC, finMV, finMC, resOf, V.w1, cellsV, refsC, refsO, callR, Nat.reduceAdd, Nat.reduceMul, Nat.reduceSub, Nat.reduceLeDiff, Nat.reduceLT, Nat.reduceBEq, boxR, idxR, loadR, storeR, readSl, lenR, sliceR, boundR, makeR, pureC, pureL, TD.isAgg]
      refine ⟨by omega, fun h1 => vbeq (rises_no h' h1).symm, fun h1 => ?_⟩
      exact ih (j + 1 + 1) _ ⟨by omega, fun k hk hk2 => by
        by_cases hkj : k = j
        · subst hkj; omega
        · exact hinv k hk (by omega)⟩ (by omega) (weak_pure ⟨rfl, rfl, rfl, by simp only [wk, upd, binR, ↓reduceIte, Nat.reduceEqDiff, reduceCtorEq, ofConst, ofCell, okCell, arI, cmpI, RetQ, RetM, finV, finC, finMV, finMC, resOf, V.w1, cellsV, refsC, refsO, callR, Nat.reduceAdd, Nat.reduceMul, Nat.reduceSub, Nat.reduceLeDiff, Nat.reduceLT, Nat.reduceBEq, boxR, idxR, loadR, storeR, readSl, lenR, sliceR, boundR, makeR, pureC, pureL, TD.isAgg, hw], trivial⟩ rfl hE)
    · have : i = 0 := by omega
      subst this
      exact ih 1 _ ⟨by omega, fun k hk hk2 => by omega⟩ (by omega) (weak_pure ⟨rfl, rfl, rfl, by simp only [wk, upd, binR, ↓reduceIte, Nat.reduceEqDiff, reduceCtorEq, ofConst, ofCell, okCell, arI, cmpI, RetQ, RetM, finV, finC, finMV, finMC, resOf, V.w1, cellsV, refsC, refsO, callR, Nat.reduceAdd, Nat.reduceMul, Nat.reduceSub, Nat.reduceLeDiff, Nat.reduceLT, Nat.reduceBEq, boxR, idxR, loadR, storeR, readSl, lenR, sliceR, boundR, makeR, pureC, pureL, TD.isAgg, hw], trivial⟩ rfl hE)
  · exact vbeq (((risesB_iff xs).2 fun k hk => hinv k hk (by omega))).symm

theorem c37n : ConSem Try.prog tab 37 [.one (.p .nilsl)] [] (vb true) [] := by
  refine con_pure tabOk mixedOk Try.func37 rfl (by decide) (by kernel_rfl) (by show (1:Nat) ≤ _; decide) fun E hE => go_start ?_
  simp only [Try.f37, wk, upd, binR, ↓reduceIte, Nat.reduceEqDiff, reduceCtorEq, ofConst, ofCell, okCell, arI, cmpI, RetQ, RetM, finV, finC, finMV, finMC, resOf, V.w1, cellsV, refsC, refsO, callR, Nat.reduceAdd, Nat.reduceMul, Nat.reduceSub, Nat.reduceLeDiff, Nat.reduceLT, Nat.reduceBEq, boxR, idxR, loadR, storeR, readSl, lenR, sliceR, boundR, makeR, pureC, pureL, TD.isAgg]
  refine aw_ind (fun _ : Unit => ⟨tOf [(6, vi .i64 0), (7, vi .i64 0)], fun _ => none⟩) (fun _ => True) (fun _ => 0) () rfl
    (weak_pure ⟨rfl, rfl, trivial⟩ rfl hE) trivial ?_
  rintro _ _ ih
  simp only [wk, upd, binR, ↓reduceIte, Nat.reduceEqDiff, reduceCtorEq, ofConst, ofCell, okCell, arI, cmpI, RetQ, RetM, finV, finC, finMV, finMC, resOf, V.w1, cellsV, refsC, refsO, callR, Nat.reduceAdd, Nat.reduceMul, Nat.reduceSub, Nat.reduceLeDiff, Nat.reduceLT, Nat.reduceBEq, boxR, idxR, loadR, storeR, readSl, lenR, sliceR, boundR, makeR, pureC, pureL, TD.isAgg]
  exact fun h => absurd h (by decide)
theorem c38 (xs : List Int) (hl : xs.length ≤ maxLen) : ConSem Try.prog tab 38 [vs (nums xs)] [] (vb (risesB xs)) [] := by
  refine con_pure tabOk mixedOk Try.func38 rfl (by decide) (by kernel_rfl) (by show (1:Nat) ≤ _; decide) fun E hE => go_start ?_
  simp only [Try.f38, wk, upd, binR, ↓reduceIte, Nat.reduceEqDiff, reduceCtorEq, ofConst, ofCell, okCell, arI, cmpI, RetQ, RetM, finV, finC, finMV, finMC, resOf, V.w1, cellsV, refsC, refsO, callR, Nat.reduceAdd, Nat.reduceMul, Nat.reduceSub, Nat.reduceLeDiff, Nat.reduceLT, Nat.reduceBEq, boxR, idxR, loadR, storeR, readSl, lenR, sliceR, boundR, makeR, pureC, pureL, TD.isAgg]
  refine aw_ind (fun i : Nat => ⟨tOf [(0, vs (nums xs)), (3, vi .i64 (i + 1))], fun _ => none⟩) (fun i => (i + 1 ≤ xs.length ∨ i = 0) ∧ ∀ (j : Nat) (h : j + 1 < xs.length), j < i → xs[j] < xs[j + 1]) (fun i => xs.length - i) 0 rfl
    (weak_pure ⟨rfl, by simp only [wk, upd, binR, ↓reduceIte, Nat.reduceEqDiff, reduceCtorEq, ofConst, ofCell, okCell, arI, cmpI, RetQ, RetM, finV, finC, finMV, finMC, resOf, V.w1, cellsV, refsC, refsO, callR, Nat.reduceAdd, Nat.reduceMul, Nat.reduceSub, Nat.reduceLeDiff, Nat.reduceLT, Nat.reduceBEq, boxR, idxR, loadR, storeR, readSl, lenR, sliceR, boundR, makeR, pureC, pureL, TD.isAgg]; rfl, trivial⟩ rfl hE) ⟨by omega, fun j h h2 => by omega⟩ ?_
  rintro i ⟨hi, hinv⟩ ih
  simp only [wk, upd, binR, ↓reduceIte, Nat.reduceEqDiff, reduceCtorEq, ofConst, ofCell, okCell, arI, cmpI, RetQ, RetM, finV, finC, finMV, finMC, resOf, V.w1, cellsV, refsC, refsO, callR, Nat.reduceAdd, Nat.reduceMul, Nat.reduceSub, Nat.reduceLeDiff, Nat.reduceLT, Nat.reduceBEq, boxR, idxR, loadR, storeR, readSl, lenR, sliceR, boundR, makeR, pureC, pureL, TD.isAgg, nums_length]
  have hm : maxLen ≤ 9223372036854775807 := by decide
  refine ⟨fun h => ?_, fun h => ?_⟩
  · have h' : i + 1 < xs.length := by omega
    have hw : IntKind.i64.wrap ((i : Int) + 1 + 1) = ((i + 1 : Nat) : Int) + 1 := by rw [w64 (by omega) (by omega)]; omega
    have hp : ((i : Int) + 1).toNat = i + 1 := by omega
    rw [hp]
    refine elem_by (nums_get h') ?_
    simp only [wk, upd, binR, ↓reduceIte, Nat.reduceEqDiff, reduceCtorEq, ofConst, ofCell, okCell, arI, cmpI, RetQ, RetM, finV, finC, finMV, finMC, resOf, V.w1, cellsV, refsC, refsO, callR, Nat.reduceAdd, Nat.reduceMul, Nat.reduceSub, Nat.reduceLeDiff, Nat.reduceLT, Nat.reduceBEq, boxR, idxR, loadR, storeR, readSl, lenR, sliceR, boundR, makeR, pureC, pureL, TD.isAgg]
    rw [w64 (by omega) (by omega)]
    have hp2 : ((i : Int) + 1 - 1).toNat = i := by omega
    rw [hp2]
    refine ⟨by omega, elem_by (nums_get (by omega)) ?_⟩
    simp only [wk, upd, binR, ↓reduceIte, Nat.reduceEqDiff, reduceCtorEq, ofConst, ofCell, okCell, arI, cmpI, RetQ, RetM, finV, finC, finMV, finMC, resOf, V.w1, cellsV, refsC, refsO, callR, Nat.reduceAdd, Nat.reduceMul, Nat.reduceSub, Nat.reduceLeDiff, Nat.reduceLT, Nat.reduceBEq, boxR, idxR, loadR, storeR, readSl, lenR, sliceR, boundR, makeR, pureC, pureL, TD.isAgg]
    refine ⟨by omega, rfl, fun h1 => vbeq (rises_no h' h1).symm, fun h1 => ?_⟩
    exact ih (i + 1) _ ⟨by omega, fun k hk hk2 => by
      by_cases hkj : k = i
      · subst hkj; omega
      · exact hinv k hk (by omega)⟩ (by omega) (weak_pure ⟨rfl, by simp only [wk, upd, binR, ↓reduceIte, Nat.reduceEqDiff, reduceCtorEq, ofConst, ofCell, okCell, arI, cmpI, RetQ, RetM, finV, finC, finMV, finMC, resOf, V.w1, cellsV, refsC, refsO, callR, Nat.reduceAdd, Nat.reduceMul, Nat.reduceSub, Nat.reduceLeDiff, Nat.reduceLT, Nat.reduceBEq, boxR, idxR, loadR, storeR, readSl, lenR, sliceR, boundR, makeR, pureC, pureL, TD.isAgg, hw], trivial⟩ rfl hE)
  · exact vbeq (((risesB_iff xs).2 fun k hk => hinv k hk (by omega))).symm
end Go.AW
