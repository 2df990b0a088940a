/- The clock: New, See, Next, Last, in the program and in the document's answer. -/
import Derived.Test.YtocalihefpafgaaAW
import Derived.Test.YtocalihefpafgaaB1
set_option maxRecDepth 100000
set_option linter.unusedSimpArgs false
set_option linter.unusedVariables false
namespace Go.AW
open Go.Proofs

def clk (n : Int) : Obj := .box [.p (.int .u64 n)]
abbrev vp (id off : Nat) : V := .one (.ptr id off)
/-- The least of two, and the greatest, as the language reckons them. -/
def lo2 (a b : Int) : Int := if b < a then b else a
def hi2 (a b : Int) : Int := if a < b then b else a

def maxL : Int := 4611686018427387904
def topL : Int := 4611686018427322368

theorem c41 (n : Int) : ConSem Try.prog tab 41 [vi .u64 n] [] (vp 6 0) [(6, clk (lo2 n maxL))] := by
  refine con_mem tabOk mixedOk Try.func41 rfl (by decide) (by kernel_rfl) false (by show (1:Nat) ≤ _; decide) rfl fun E hE => go_start ?_
  simp only [Try.f41, wk, upd, binR, ↓reduceIte, Nat.reduceEqDiff, reduceCtorEq, ofConst, ofCell, okCell, arI, cmpI, RetQ, RetM, finV, finC, finMV, finMC, resOf, V.w1, cellsV, refsC, refsO, callR, Nat.reduceAdd, Nat.reduceMul, Nat.reduceSub, Nat.reduceLeDiff, Nat.reduceLT, Nat.reduceBEq, boxR, idxR, loadR, storeR, readSl, lenR, sliceR, boundR, makeR, pureC, pureL, TD.isAgg]
  rfl

theorem c43 (l n : Int) : ConSem Try.prog tab 43 [vp 1000 0, vi .u64 n] [(1000, clk l)] (.tup []) [(1000, clk (hi2 l (lo2 n maxL)))] := by
  refine con_mem tabOk mixedOk Try.func43 rfl (by decide) (by kernel_rfl) false (by show (2:Nat) ≤ _; decide) rfl fun E hE => go_start ?_
  simp only [Try.f43, clk, wk, upd, binR, ↓reduceIte, Nat.reduceEqDiff, reduceCtorEq, ofConst, ofCell, okCell, arI, cmpI, RetQ, RetM, finV, finC, finMV, finMC, resOf, V.w1, cellsV, refsC, refsO, callR, Nat.reduceAdd, Nat.reduceMul, Nat.reduceSub, Nat.reduceLeDiff, Nat.reduceLT, Nat.reduceBEq, boxR, idxR, loadR, storeR, readSl, lenR, sliceR, boundR, makeR, pureC, pureL, TD.isAgg]
  rfl

theorem c96 (a b : Int) : ConSem Try.prog tab 96 [vi .u64 a, vi .u64 b] [] (vi .u64 (if a < b then a else b)) [] := by
  refine con_pure tabOk mixedOk Try.func96 rfl (by decide) (by kernel_rfl) (by show (2:Nat) ≤ _; decide) fun E hE => go_start ?_
  simp only [Try.f96, wk, upd, binR, ↓reduceIte, Nat.reduceEqDiff, reduceCtorEq, ofConst, ofCell, okCell, arI, cmpI, RetQ, RetM, finV, finC, finMV, finMC, resOf, V.w1, cellsV, refsC, refsO, callR, Nat.reduceAdd, Nat.reduceMul, Nat.reduceSub, Nat.reduceLeDiff, Nat.reduceLT, Nat.reduceBEq, boxR, idxR, loadR, storeR, readSl, lenR, sliceR, boundR, makeR, pureC, pureL, TD.isAgg]
  refine ⟨fun h => ?_, fun h => ?_⟩ <;> simp [h]

theorem c42 (l n : Int) : ConSem Try.prog tab 42 [vp 1000 0, vi .u64 n] [(1000, clk l)] (.tup []) [(1000, clk (hi2 l (lo2 n maxL)))] := by
  refine con_mem tabOk mixedOk Try.func42 rfl (by decide) (by kernel_rfl) false (by show (2:Nat) ≤ _; decide) rfl fun E hE => go_start ?_
  simp only [Try.f42, clk, wk, upd, binR, ↓reduceIte, Nat.reduceEqDiff, reduceCtorEq, ofConst, ofCell, okCell, arI, cmpI, RetQ, RetM, finV, finC, finMV, finMC, resOf, V.w1, cellsV, refsC, refsO, callR, Nat.reduceAdd, Nat.reduceMul, Nat.reduceSub, Nat.reduceLeDiff, Nat.reduceLT, Nat.reduceBEq, boxR, idxR, loadR, storeR, readSl, lenR, sliceR, boundR, makeR, pureC, pureL, TD.isAgg]
  refine call_by (c96 _ _) ?_
  simp only [clk, wk, upd, binR, ↓reduceIte, Nat.reduceEqDiff, reduceCtorEq, ofConst, ofCell, okCell, arI, cmpI, RetQ, RetM, finV, finC, finMV, finMC, resOf, V.w1, cellsV, refsC, refsO, callR, Nat.reduceAdd, Nat.reduceMul, Nat.reduceSub, Nat.reduceLeDiff, Nat.reduceLT, Nat.reduceBEq, boxR, idxR, loadR, storeR, readSl, lenR, sliceR, boundR, makeR, pureC, pureL, TD.isAgg]
  refine ⟨fun h => ?_, fun h => ?_⟩ <;> simp only [clk, hi2, lo2, maxL, Option.some.injEq, Obj.box.injEq, List.cons.injEq, Ce.p.injEq, PV.int.injEq, and_true, true_and] <;> (repeat' split) <;> (try simp_all) <;> (try omega)

theorem c46 (l : Int) : ConSem Try.prog tab 46 [vp 1000 0] [(1000, clk l)] (vi .u64 l) [(1000, clk l)] := by
  refine con_mem tabOk mixedOk Try.func46 rfl (by decide) (by kernel_rfl) false (by show (1:Nat) ≤ _; decide) rfl fun E hE => go_start ?_
  simp only [Try.f46, clk, wk, upd, binR, ↓reduceIte, Nat.reduceEqDiff, reduceCtorEq, ofConst, ofCell, okCell, arI, cmpI, RetQ, RetM, finV, finC, finMV, finMC, resOf, V.w1, cellsV, refsC, refsO, callR, Nat.reduceAdd, Nat.reduceMul, Nat.reduceSub, Nat.reduceLeDiff, Nat.reduceLT, Nat.reduceBEq, boxR, idxR, loadR, storeR, readSl, lenR, sliceR, boundR, makeR, pureC, pureL, TD.isAgg]

/-- Next: the number, the error's number, what the clock then holds. -/
def nextF (l fl : Int) (sp : Bool) : Int × Int × Int :=
  let n := hi2 l fl
  if (if sp then maxL else topL) ≤ n then (0, 7, l) else (IntKind.u64.wrap (n + 1), 0, IntKind.u64.wrap (n + 1))

theorem c44 (l fl : Int) (sp : Bool) : ConSem Try.prog tab 44 [vp 1000 0, vi .u64 fl, vb sp] [(1000, clk l)] (.tup [.one (.p (.int .u64 (nextF l fl sp).1)), .one (.p (.int .i64 (nextF l fl sp).2.1))]) [(1000, clk (nextF l fl sp).2.2)] := by
  refine con_mem tabOk mixedOk Try.func44 rfl (by decide) (by kernel_rfl) false (by show (3:Nat) ≤ _; decide) rfl fun E hE => go_start ?_
  cases sp <;> simp only [Try.f44, clk, wk, upd, binR, ↓reduceIte, Nat.reduceEqDiff, reduceCtorEq, ofConst, ofCell, okCell, arI, cmpI, RetQ, RetM, finV, finC, finMV, finMC, resOf, V.w1, cellsV, refsC, refsO, callR, Nat.reduceAdd, Nat.reduceMul, Nat.reduceSub, Nat.reduceLeDiff, Nat.reduceLT, Nat.reduceBEq, boxR, idxR, loadR, storeR, readSl, lenR, sliceR, boundR, makeR, pureC, pureL, TD.isAgg]
  all_goals
    by_cases hl : l < fl <;> simp only [nextF, hi2, topL, maxL, hl, if_true, if_false, Bool.false_eq_true] <;> refine ⟨fun h => ?_, fun h => ?_⟩ <;> simp [h]

theorem c45 (l fl : Int) (sp : Bool) : ConSem Try.prog tab 45 [vp 1000 0, vi .u64 fl, vb sp] [(1000, clk l)] (.tup [.one (.p (.int .u64 (nextF l fl sp).1)), .one (.p (.int .i64 (nextF l fl sp).2.1))]) [(1000, clk (nextF l fl sp).2.2)] := by
  refine con_mem tabOk mixedOk Try.func45 rfl (by decide) (by kernel_rfl) false (by show (3:Nat) ≤ _; decide) rfl fun E hE => go_start ?_
  cases sp <;> simp only [Try.f45, clk, wk, upd, binR, ↓reduceIte, Nat.reduceEqDiff, reduceCtorEq, ofConst, ofCell, okCell, arI, cmpI, RetQ, RetM, finV, finC, finMV, finMC, resOf, V.w1, cellsV, refsC, refsO, callR, Nat.reduceAdd, Nat.reduceMul, Nat.reduceSub, Nat.reduceLeDiff, Nat.reduceLT, Nat.reduceBEq, boxR, idxR, loadR, storeR, readSl, lenR, sliceR, boundR, makeR, pureC, pureL, TD.isAgg]
  all_goals
    refine ⟨fun h1 => ?_, fun h1 => ?_⟩ <;> simp only [nextF, hi2, topL, maxL, h1, if_true, if_false, Bool.false_eq_true]
    all_goals
      repeat' (first | (intro h) | apply And.intro)
      all_goals (repeat' split)
      all_goals (try simp_all)
      all_goals (try omega)
end Go.AW
