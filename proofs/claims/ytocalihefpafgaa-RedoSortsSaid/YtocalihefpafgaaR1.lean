import Derived.Test.YtocalihefpafgaaAW
import Derived.Test.YtocalihefpafgaaC7
/- Records as data; which can be. No program in sight. -/
set_option maxRecDepth 100000
set_option linter.unusedSimpArgs false
set_option linter.unusedVariables false
namespace Go.AW

/-! ### A list that is gone through, each member seen with what the one ahead left -/
def scanB {α β : Type} (ok : β → α → Bool) (nx : α → β) : β → List α → Bool
  | _, [] => true
  | b, x :: r => ok b x && scanB ok nx (nx x) r
def prv {α β : Type} (nx : α → β) (b : β) (xs : List α) : Nat → β
  | 0 => b
  | i + 1 => ((xs[i]?).map nx).getD b
theorem scanB_iff {α β : Type} (ok : β → α → Bool) (nx : α → β) : ∀ (xs : List α) (b : β), scanB ok nx b xs = true ↔ ∀ (i : Nat) (h : i < xs.length), ok (prv nx b xs i) xs[i] = true
  | [], b => by simp [scanB]
  | x :: r, b => by
    simp only [scanB, Bool.and_eq_true, scanB_iff ok nx r (nx x)]
    constructor
    · rintro ⟨h1, h2⟩ i hi
      cases i with
      | zero => exact h1
      | succ i =>
        have := h2 i (by simpa using hi)
        cases i with
        | zero => exact this
        | succ i =>
          have hlt : i < r.length := by simp at hi; omega
          simpa [prv, hlt] using this
    · intro h
      refine ⟨h 0 (by simp), fun i hi => ?_⟩
      have := h (i + 1) (by simpa using hi)
      cases i with
      | zero => exact this
      | succ i =>
        have hlt : i < r.length := by omega
        simpa [prv, hlt] using this
theorem prv_succ {α β : Type} {nx : α → β} {b : β} {xs : List α} {i : Nat} (h : i < xs.length) : prv nx b xs (i + 1) = nx xs[i] := by simp [prv, h]
theorem scan_no {α β : Type} {ok : β → α → Bool} {nx : α → β} {xs : List α} {b : β} {i : Nat} (h : i < xs.length) (hk : ok (prv nx b xs i) xs[i] = false) : scanB ok nx b xs = false := by
  cases hs : scanB ok nx b xs with
  | false => rfl
  | true => rw [(scanB_iff ok nx xs b).1 hs i h] at hk; cases hk

/-! ### Rows of tables -/
structure TRow where
  t : Int
  s : Int
  f : Int
  l : Int
  n : Int
  deriving DecidableEq
structure DRow where
  p : Int
  r : Int
  deriving DecidableEq
def trP (x : TRow) : List PV := [.int .i64 x.t, .int .i64 x.s, .int .u64 x.f, .int .u64 x.l, .int .u64 x.n]
def drP (x : DRow) : List PV := [.int .i64 x.p, .int .u64 x.r]
def trs (xs : List TRow) : List (List PV) := xs.map trP
def drs (xs : List DRow) : List (List PV) := xs.map drP
theorem trs_length (xs : List TRow) : (trs xs).length = xs.length := by simp [trs]
theorem drs_length (xs : List DRow) : (drs xs).length = xs.length := by simp [drs]
theorem trs_get {xs : List TRow} {i : Nat} (h : i < xs.length) : (trs xs)[i]? = some (trP xs[i]) := by simp [trs, h]
theorem drs_get {xs : List DRow} {i : Nat} (h : i < xs.length) : (drs xs)[i]? = some (drP xs[i]) := by simp [drs, h]

def trOk (lsn above : Int) (t : TRow) : Bool := decide (above < t.t ∧ t.t ≤ 1048575 ∧ 1 ≤ t.s ∧ t.s ≤ 3 ∧ 1 ≤ t.f ∧ t.f ≤ t.l ∧ t.l < lsn ∧ t.n ≤ t.l)
def drOk (lsn above : Int) (d : DRow) : Bool := decide (above < d.p ∧ d.p < 32 ∧ 1 ≤ d.r ∧ d.r < lsn)

/-! ### Records -/
structure Rec where
  k : Int
  lsn : Int
  txn : Int
  prev : Int
  ch : Chg
  next : Int
  save : Int
  beg : Int
  ts : List TRow
  ds : List DRow
  deriving DecidableEq
def recP (r : Rec) : List PV := [.int .i64 r.k, .int .u64 r.lsn, .int .i64 r.txn, .int .u64 r.prev, .int .i64 r.ch.k, .int .i64 r.ch.p, .int .i64 r.ch.s, .str r.ch.o, .str r.ch.n,
  .int .u64 r.next, .int .i64 r.save, .int .u64 r.beg, .slice (trs r.ts), .slice (drs r.ds)]
def recC (r : Rec) : List Ce := [.p (.int .i64 r.k), .p (.int .u64 r.lsn), .p (.int .i64 r.txn), .p (.int .u64 r.prev), .p (.int .i64 r.ch.k), .p (.int .i64 r.ch.p), .p (.int .i64 r.ch.s), .p (.str r.ch.o), .p (.str r.ch.n),
  .p (.int .u64 r.next), .p (.int .i64 r.save), .p (.int .u64 r.beg), .p (.slice (trs r.ts)), .p (.slice (drs r.ds))]
theorem recP_C (r : Rec) : (recP r).map Ce.p = recC r := rfl
def noRec : Rec := ⟨0, 0, 0, 0, noChg, 0, 0, 0, [], []⟩

def rowsOk (r : Rec) : Bool := decide (r.ts.length ≤ 16 ∧ r.ds.length ≤ 32) && (scanB (trOk r.lsn) TRow.t 0 r.ts && scanB (drOk r.lsn) DRow.p (-1) r.ds)

def recOkP (r : Rec) : Prop :=
  (1 ≤ r.k ∧ r.k ≤ 8 ∧ 1 ≤ r.lsn ∧ r.lsn ≤ 4611686018427387904) ∧
  ((r.k ≤ 6 ∧ 1 ≤ r.txn ∧ r.txn ≤ 1048575 ∧ r.prev < r.lsn) ∨ (6 < r.k ∧ r.txn = 0 ∧ r.prev = 0)) ∧
  ((r.k ≤ 2 ∧ chOk r.ch = true) ∨ (2 < r.k ∧ r.ch.k = 0 ∧ r.ch.p = 0 ∧ r.ch.s = 0 ∧ r.ch.o.size = 0 ∧ r.ch.n.size = 0)) ∧
  ((r.k = 2 ∧ r.next < r.lsn) ∨ (r.k ≠ 2 ∧ r.next = 0)) ∧
  ((r.k = 6 ∧ 1 ≤ r.save ∧ r.save ≤ 8) ∨ (r.k ≠ 6 ∧ r.save = 0)) ∧
  ((r.k = 8 ∧ rowsOk r = true ∧ 1 ≤ r.beg ∧ r.beg < r.lsn) ∨ (r.k ≠ 8 ∧ r.beg = 0 ∧ r.ts.length = 0 ∧ r.ds.length = 0))
instance (r : Rec) : Decidable (recOkP r) := by unfold recOkP; infer_instance
def recOk (r : Rec) : Bool := decide (recOkP r)

/-- A record with its node. -/
structure Stm where
  node : Int
  r : Rec
  deriving DecidableEq
def stP (x : Stm) : List PV := .int .i64 x.node :: recP x.r
def stC (x : Stm) : List Ce := .p (.int .i64 x.node) :: recC x.r
def sts (xs : List Stm) : List (List PV) := xs.map stP
def recs (xs : List Rec) : List (List PV) := xs.map recP
theorem sts_length (xs : List Stm) : (sts xs).length = xs.length := by simp [sts]
theorem recs_length (xs : List Rec) : (recs xs).length = xs.length := by simp [recs]
theorem sts_get {xs : List Stm} {i : Nat} (h : i < xs.length) : (sts xs)[i]? = some (stP xs[i]) := by simp [sts, h]
theorem recs_get {xs : List Rec} {i : Nat} (h : i < xs.length) : (recs xs)[i]? = some (recP xs[i]) := by simp [recs, h]

/-- What is known of the sizes of what came in. -/
structure RecS (r : Rec) : Prop where
  ts : r.ts.length * 40 ≤ reachBytes ∧ r.ts.length ≤ maxLen
  ds : r.ds.length * 16 ≤ reachBytes ∧ r.ds.length ≤ maxLen
theorem recOk_iff {r : Rec} : recOk r = true ↔ recOkP r := by simp [recOk]
theorem recOk_S {r : Rec} (h : recOk r = true) : RecS r := by
  have hp := recOk_iff.1 h
  have hr : (16 * 40 ≤ reachBytes ∧ 32 * 16 ≤ reachBytes ∧ 32 ≤ maxLen) := by decide
  have hb : r.ts.length ≤ 16 ∧ r.ds.length ≤ 32 := by
    rcases hp.2.2.2.2.2 with ⟨_, h2, _⟩ | ⟨_, _, h2, h3⟩
    · simp only [rowsOk, Bool.and_eq_true, decide_eq_true_eq] at h2
      exact h2.1
    · omega
  exact ⟨⟨by omega, by omega⟩, ⟨by omega, by omega⟩⟩

/-! ### Neighbours -/
def adjB {α : Type} (R : α → α → Bool) : List α → Bool
  | [] => true
  | [_] => true
  | a :: b :: r => R a b && adjB R (b :: r)
theorem adjB_iff {α : Type} (R : α → α → Bool) : ∀ (xs : List α), adjB R xs = true ↔ ∀ (i : Nat) (h : i + 1 < xs.length), R xs[i] xs[i + 1] = true
  | [] => by simp [adjB]
  | [a] => by simp [adjB]
  | a :: b :: r => by
    simp only [adjB, Bool.and_eq_true, adjB_iff R (b :: r)]
    constructor
    · rintro ⟨h1, h2⟩ i hi
      cases i with
      | zero => exact h1
      | succ i => exact h2 i (by simpa using hi)
    · intro h
      exact ⟨h 0 (by simp), fun i hi => h (i + 1) (by simpa using hi)⟩
theorem adj_no {α : Type} {R : α → α → Bool} {xs : List α} {i : Nat} (h : i + 1 < xs.length) (hk : R xs[i] xs[i + 1] = false) : adjB R xs = false := by
  cases hs : adjB R xs with
  | false => rfl
  | true => rw [(adjB_iff R xs).1 hs i h] at hk; cases hk
end Go.AW

/- Small functions on records. -/
set_option maxRecDepth 100000
set_option maxHeartbeats 1000000
set_option linter.unusedSimpArgs false
set_option linter.unusedVariables false
namespace Go.AW
open Go.Proofs

def isCh (r : Rec) : Bool := decide (r.k = 1 ∨ r.k = 2)
/-- Does it change the page? -/
def isOf (x : Stm) (page : Int) : Bool := decide ((x.r.k = 1 ∨ x.r.k = 2) ∧ x.r.ch.p = page)
/-- Does it stand ahead? -/
def bef (x y : Stm) : Bool := if x.r.lsn = y.r.lsn then decide (x.node < y.node) else decide (x.r.lsn < y.r.lsn)

theorem c101 (r : Rec) : ConSem Try.prog tab 101 [.agg (recC r)] [] (vb (isCh r)) [] := by
  refine con_pure tabOk mixedOk Try.func101 rfl (by decide) (by kernel_rfl) (by show (1:Nat) ≤ _; decide) fun E hE => go_start ?_
  simp only [Try.f101, wk, upd, binR, ↓reduceIte, Nat.reduceEqDiff, reduceCtorEq, ofConst, ofCell, okCell, arI, cmpI, RetQ, RetM, finV, finC, finMV, finMC, resOf, V.w1, cellsV, refsC, refsO, callR, Nat.reduceAdd, Nat.reduceMul, Nat.reduceSub, Nat.reduceLeDiff, Nat.reduceLT, Nat.reduceBEq, boxR, idxR, loadR, storeR, readSl, lenR, sliceR, boundR, makeR, pureC, pureL, TD.isAgg, Int.reduceEq, Int.reduceNe, Int.reduceLT, Int.reduceLE, Int.reduceGT, Int.reduceGE, Int.reduceToNat, Int.reduceSub, Int.reduceAdd, Int.reduceMul, likeL, likeP, eqLP, recC]
  refine ⟨fun h => vbeq ?_, fun h => vbeq ?_⟩ <;> simp [isCh, h]

theorem c72 (x : Stm) (p : Int) : ConSem Try.prog tab 72 [.agg (stC x), vi .i64 p] [] (vb (isOf x p)) [] := by
  refine con_pure tabOk mixedOk Try.func72 rfl (by decide) (by kernel_rfl) (by show (2:Nat) ≤ _; decide) fun E hE => go_start ?_
  simp only [Try.f72, wk, upd, binR, ↓reduceIte, Nat.reduceEqDiff, reduceCtorEq, ofConst, ofCell, okCell, arI, cmpI, RetQ, RetM, finV, finC, finMV, finMC, resOf, V.w1, cellsV, refsC, refsO, callR, Nat.reduceAdd, Nat.reduceMul, Nat.reduceSub, Nat.reduceLeDiff, Nat.reduceLT, Nat.reduceBEq, boxR, idxR, loadR, storeR, readSl, lenR, sliceR, boundR, makeR, pureC, pureL, TD.isAgg, Int.reduceEq, Int.reduceNe, Int.reduceLT, Int.reduceLE, Int.reduceGT, Int.reduceGE, Int.reduceToNat, Int.reduceSub, Int.reduceAdd, Int.reduceMul, likeL, likeP, eqLP, recC, stC]
  repeat' (first | intro _ | apply And.intro)
  all_goals
    refine vbeq ?_
    simp [isOf, *]

theorem c107 (x y : Stm) : ConSem Try.prog tab 107 [.agg (stC x), .agg (stC y)] [] (vb (bef x y)) [] := by
  refine con_pure tabOk mixedOk Try.func107 rfl (by decide) (by kernel_rfl) (by show (2:Nat) ≤ _; decide) fun E hE => go_start ?_
  simp only [Try.f107, wk, upd, binR, ↓reduceIte, Nat.reduceEqDiff, reduceCtorEq, ofConst, ofCell, okCell, arI, cmpI, RetQ, RetM, finV, finC, finMV, finMC, resOf, V.w1, cellsV, refsC, refsO, callR, Nat.reduceAdd, Nat.reduceMul, Nat.reduceSub, Nat.reduceLeDiff, Nat.reduceLT, Nat.reduceBEq, boxR, idxR, loadR, storeR, readSl, lenR, sliceR, boundR, makeR, pureC, pureL, TD.isAgg, Int.reduceEq, Int.reduceNe, Int.reduceLT, Int.reduceLE, Int.reduceGT, Int.reduceGE, Int.reduceToNat, Int.reduceSub, Int.reduceAdd, Int.reduceMul, likeL, likeP, eqLP, recC, stC]
  refine call_by (c39 _ _ _ _) ?_
  simp only [wk, upd, binR, ↓reduceIte, Nat.reduceEqDiff, reduceCtorEq, ofConst, ofCell, okCell, arI, cmpI, RetQ, RetM, finV, finC, finMV, finMC, resOf, V.w1, cellsV, refsC, refsO, callR, Nat.reduceAdd, Nat.reduceMul, Nat.reduceSub, Nat.reduceLeDiff, Nat.reduceLT, Nat.reduceBEq, boxR, idxR, loadR, storeR, readSl, lenR, sliceR, boundR, makeR, pureC, pureL, TD.isAgg, Int.reduceEq, Int.reduceNe, Int.reduceLT, Int.reduceLE, Int.reduceGT, Int.reduceGE, Int.reduceToNat, Int.reduceSub, Int.reduceAdd, Int.reduceMul, likeL, likeP, eqLP, recC, stC]
  rfl

theorem c124 (k : Int) : ConSem Try.prog tab 124 [vi .i64 k] [] (vb (decide (1 ≤ k ∧ k ≤ 6))) [] := by
  refine con_pure tabOk mixedOk Try.func124 rfl (by decide) (by kernel_rfl) (by show (1:Nat) ≤ _; decide) fun E hE => go_start ?_
  simp only [Try.f124, wk, upd, binR, ↓reduceIte, Nat.reduceEqDiff, reduceCtorEq, ofConst, ofCell, okCell, arI, cmpI, RetQ, RetM, finV, finC, finMV, finMC, resOf, V.w1, cellsV, refsC, refsO, callR, Nat.reduceAdd, Nat.reduceMul, Nat.reduceSub, Nat.reduceLeDiff, Nat.reduceLT, Nat.reduceBEq, boxR, idxR, loadR, storeR, readSl, lenR, sliceR, boundR, makeR, pureC, pureL, TD.isAgg, Int.reduceEq, Int.reduceNe, Int.reduceLT, Int.reduceLE, Int.reduceGT, Int.reduceGE, Int.reduceToNat, Int.reduceSub, Int.reduceAdd, Int.reduceMul, likeL, likeP, eqLP]
  refine ⟨fun h => vbeq ?_, fun h => vbeq ?_⟩ <;> simp [h]

def headC (r : Rec) : List Ce := [.p (.int .i64 r.k), .p (.int .i64 r.txn), .p (.int .i64 r.save), .p (.int .u64 r.lsn), .p (.int .u64 r.prev), .p (.int .u64 r.next), .p (.int .u64 r.beg), .p (.int .i64 r.ch.k), .p (.int .i64 r.ch.p), .p (.int .i64 r.ch.s), .p (.str r.ch.o), .p (.str r.ch.n)]
theorem c122 (r : Rec) : ConSem Try.prog tab 122 [.agg (recC r)] [] (.agg (headC r)) [] := by
  refine con_pure tabOk mixedOk Try.func122 rfl (by decide) (by kernel_rfl) (by show (1:Nat) ≤ _; decide) fun E hE => go_start ?_
  simp only [Try.f122, wk, upd, binR, ↓reduceIte, Nat.reduceEqDiff, reduceCtorEq, ofConst, ofCell, okCell, arI, cmpI, RetQ, RetM, finV, finC, finMV, finMC, resOf, V.w1, cellsV, refsC, refsO, callR, Nat.reduceAdd, Nat.reduceMul, Nat.reduceSub, Nat.reduceLeDiff, Nat.reduceLT, Nat.reduceBEq, boxR, idxR, loadR, storeR, readSl, lenR, sliceR, boundR, makeR, pureC, pureL, TD.isAgg, Int.reduceEq, Int.reduceNe, Int.reduceLT, Int.reduceLE, Int.reduceGT, Int.reduceGE, Int.reduceToNat, Int.reduceSub, Int.reduceAdd, Int.reduceMul, likeL, likeP, eqLP, recC, headC]

theorem c114a (x : List PV) (xs : List (List PV)) (h : ∀ y ∈ x :: xs, y.length = 17) (hb : (xs.length + 1) * 200 ≤ 140737488355328) (hm : xs.length + 1 ≤ maxLen) : ConSem Try.prog tab 114 [vs (x :: xs)] [] (vs (x :: xs)) [] := by
  refine con_pure tabOk mixedOk Try.func114 rfl (by decide) (by kernel_rfl) (by show (1:Nat) ≤ _; decide) fun E hE => go_start ?_
  simp only [Try.f114, wk, upd, binR, ↓reduceIte, Nat.reduceEqDiff, reduceCtorEq, ofConst, ofCell, okCell, arI, cmpI, RetQ, RetM, finV, finC, finMV, finMC, resOf, V.w1, cellsV, refsC, refsO, callR, Nat.reduceAdd, Nat.reduceMul, Nat.reduceSub, Nat.reduceLeDiff, Nat.reduceLT, Nat.reduceBEq, boxR, idxR, loadR, storeR, readSl, lenR, sliceR, boundR, makeR, pureC, pureL, TD.isAgg, Int.reduceEq, Int.reduceNe, Int.reduceLT, Int.reduceLE, Int.reduceGT, Int.reduceGE, Int.reduceToNat, Int.reduceSub, Int.reduceAdd, Int.reduceMul, likeL, likeP, eqLP]
  exact ⟨⟨h x (by simp), fun y hy => h y (by simp [hy])⟩, hb, hm⟩
theorem c114n : ConSem Try.prog tab 114 [.one (.p .nilsl)] [] (vs []) [] := by
  refine con_pure tabOk mixedOk Try.func114 rfl (by decide) (by kernel_rfl) (by show (1:Nat) ≤ _; decide) fun E hE => go_start ?_
  simp only [Try.f114, wk, upd, binR, ↓reduceIte, Nat.reduceEqDiff, reduceCtorEq, ofConst, ofCell, okCell, arI, cmpI, RetQ, RetM, finV, finC, finMV, finMC, resOf, V.w1, cellsV, refsC, refsO, callR, Nat.reduceAdd, Nat.reduceMul, Nat.reduceSub, Nat.reduceLeDiff, Nat.reduceLT, Nat.reduceBEq, boxR, idxR, loadR, storeR, readSl, lenR, sliceR, boundR, makeR, pureC, pureL, TD.isAgg, Int.reduceEq, Int.reduceNe, Int.reduceLT, Int.reduceLE, Int.reduceGT, Int.reduceGE, Int.reduceToNat, Int.reduceSub, Int.reduceAdd, Int.reduceMul, likeL, likeP, eqLP]
theorem c114e : ConSem Try.prog tab 114 [.one (.p .nesl)] [] (vs []) [] := by
  refine con_pure tabOk mixedOk Try.func114 rfl (by decide) (by kernel_rfl) (by show (1:Nat) ≤ _; decide) fun E hE => go_start ?_
  simp only [Try.f114, wk, upd, binR, ↓reduceIte, Nat.reduceEqDiff, reduceCtorEq, ofConst, ofCell, okCell, arI, cmpI, RetQ, RetM, finV, finC, finMV, finMC, resOf, V.w1, cellsV, refsC, refsO, callR, Nat.reduceAdd, Nat.reduceMul, Nat.reduceSub, Nat.reduceLeDiff, Nat.reduceLT, Nat.reduceBEq, boxR, idxR, loadR, storeR, readSl, lenR, sliceR, boundR, makeR, pureC, pureL, TD.isAgg, Int.reduceEq, Int.reduceNe, Int.reduceLT, Int.reduceLE, Int.reduceGT, Int.reduceGE, Int.reduceToNat, Int.reduceSub, Int.reduceAdd, Int.reduceMul, likeL, likeP, eqLP]
  decide
theorem c114 (xs : List (List PV)) (h : ∀ y ∈ xs, y.length = 17) (hb : xs.length * 200 ≤ 140737488355328) (hm : xs.length ≤ maxLen) : ConSem Try.prog tab 114 [vs xs] [] (vs xs) [] := by
  cases xs with
  | nil => exact con_split c114n c114e
  | cons x xs => exact c114a x xs h hb hm
theorem c115a (x : List PV) (xs : List (List PV)) (h : ∀ y ∈ x :: xs, y.length = 5) (hb : (xs.length + 1) * 40 ≤ 140737488355328) (hm : xs.length + 1 ≤ maxLen) : ConSem Try.prog tab 115 [vs (x :: xs)] [] (vs (x :: xs)) [] := by
  refine con_pure tabOk mixedOk Try.func115 rfl (by decide) (by kernel_rfl) (by show (1:Nat) ≤ _; decide) fun E hE => go_start ?_
  simp only [Try.f115, wk, upd, binR, ↓reduceIte, Nat.reduceEqDiff, reduceCtorEq, ofConst, ofCell, okCell, arI, cmpI, RetQ, RetM, finV, finC, finMV, finMC, resOf, V.w1, cellsV, refsC, refsO, callR, Nat.reduceAdd, Nat.reduceMul, Nat.reduceSub, Nat.reduceLeDiff, Nat.reduceLT, Nat.reduceBEq, boxR, idxR, loadR, storeR, readSl, lenR, sliceR, boundR, makeR, pureC, pureL, TD.isAgg, Int.reduceEq, Int.reduceNe, Int.reduceLT, Int.reduceLE, Int.reduceGT, Int.reduceGE, Int.reduceToNat, Int.reduceSub, Int.reduceAdd, Int.reduceMul, likeL, likeP, eqLP]
  exact ⟨⟨h x (by simp), fun y hy => h y (by simp [hy])⟩, hb, hm⟩
theorem c115n : ConSem Try.prog tab 115 [.one (.p .nilsl)] [] (vs []) [] := by
  refine con_pure tabOk mixedOk Try.func115 rfl (by decide) (by kernel_rfl) (by show (1:Nat) ≤ _; decide) fun E hE => go_start ?_
  simp only [Try.f115, wk, upd, binR, ↓reduceIte, Nat.reduceEqDiff, reduceCtorEq, ofConst, ofCell, okCell, arI, cmpI, RetQ, RetM, finV, finC, finMV, finMC, resOf, V.w1, cellsV, refsC, refsO, callR, Nat.reduceAdd, Nat.reduceMul, Nat.reduceSub, Nat.reduceLeDiff, Nat.reduceLT, Nat.reduceBEq, boxR, idxR, loadR, storeR, readSl, lenR, sliceR, boundR, makeR, pureC, pureL, TD.isAgg, Int.reduceEq, Int.reduceNe, Int.reduceLT, Int.reduceLE, Int.reduceGT, Int.reduceGE, Int.reduceToNat, Int.reduceSub, Int.reduceAdd, Int.reduceMul, likeL, likeP, eqLP]
theorem c115e : ConSem Try.prog tab 115 [.one (.p .nesl)] [] (vs []) [] := by
  refine con_pure tabOk mixedOk Try.func115 rfl (by decide) (by kernel_rfl) (by show (1:Nat) ≤ _; decide) fun E hE => go_start ?_
  simp only [Try.f115, wk, upd, binR, ↓reduceIte, Nat.reduceEqDiff, reduceCtorEq, ofConst, ofCell, okCell, arI, cmpI, RetQ, RetM, finV, finC, finMV, finMC, resOf, V.w1, cellsV, refsC, refsO, callR, Nat.reduceAdd, Nat.reduceMul, Nat.reduceSub, Nat.reduceLeDiff, Nat.reduceLT, Nat.reduceBEq, boxR, idxR, loadR, storeR, readSl, lenR, sliceR, boundR, makeR, pureC, pureL, TD.isAgg, Int.reduceEq, Int.reduceNe, Int.reduceLT, Int.reduceLE, Int.reduceGT, Int.reduceGE, Int.reduceToNat, Int.reduceSub, Int.reduceAdd, Int.reduceMul, likeL, likeP, eqLP]
  decide
theorem c115 (xs : List (List PV)) (h : ∀ y ∈ xs, y.length = 5) (hb : xs.length * 40 ≤ 140737488355328) (hm : xs.length ≤ maxLen) : ConSem Try.prog tab 115 [vs xs] [] (vs xs) [] := by
  cases xs with
  | nil => exact con_split c115n c115e
  | cons x xs => exact c115a x xs h hb hm
theorem c116a (x : List PV) (xs : List (List PV)) (h : ∀ y ∈ x :: xs, y.length = 2) (hb : (xs.length + 1) * 16 ≤ 140737488355328) (hm : xs.length + 1 ≤ maxLen) : ConSem Try.prog tab 116 [vs (x :: xs)] [] (vs (x :: xs)) [] := by
  refine con_pure tabOk mixedOk Try.func116 rfl (by decide) (by kernel_rfl) (by show (1:Nat) ≤ _; decide) fun E hE => go_start ?_
  simp only [Try.f116, wk, upd, binR, ↓reduceIte, Nat.reduceEqDiff, reduceCtorEq, ofConst, ofCell, okCell, arI, cmpI, RetQ, RetM, finV, finC, finMV, finMC, resOf, V.w1, cellsV, refsC, refsO, callR, Nat.reduceAdd, Nat.reduceMul, Nat.reduceSub, Nat.reduceLeDiff, Nat.reduceLT, Nat.reduceBEq, boxR, idxR, loadR, storeR, readSl, lenR, sliceR, boundR, makeR, pureC, pureL, TD.isAgg, Int.reduceEq, Int.reduceNe, Int.reduceLT, Int.reduceLE, Int.reduceGT, Int.reduceGE, Int.reduceToNat, Int.reduceSub, Int.reduceAdd, Int.reduceMul, likeL, likeP, eqLP]
  exact ⟨⟨h x (by simp), fun y hy => h y (by simp [hy])⟩, hb, hm⟩
theorem c116n : ConSem Try.prog tab 116 [.one (.p .nilsl)] [] (vs []) [] := by
  refine con_pure tabOk mixedOk Try.func116 rfl (by decide) (by kernel_rfl) (by show (1:Nat) ≤ _; decide) fun E hE => go_start ?_
  simp only [Try.f116, wk, upd, binR, ↓reduceIte, Nat.reduceEqDiff, reduceCtorEq, ofConst, ofCell, okCell, arI, cmpI, RetQ, RetM, finV, finC, finMV, finMC, resOf, V.w1, cellsV, refsC, refsO, callR, Nat.reduceAdd, Nat.reduceMul, Nat.reduceSub, Nat.reduceLeDiff, Nat.reduceLT, Nat.reduceBEq, boxR, idxR, loadR, storeR, readSl, lenR, sliceR, boundR, makeR, pureC, pureL, TD.isAgg, Int.reduceEq, Int.reduceNe, Int.reduceLT, Int.reduceLE, Int.reduceGT, Int.reduceGE, Int.reduceToNat, Int.reduceSub, Int.reduceAdd, Int.reduceMul, likeL, likeP, eqLP]
theorem c116e : ConSem Try.prog tab 116 [.one (.p .nesl)] [] (vs []) [] := by
  refine con_pure tabOk mixedOk Try.func116 rfl (by decide) (by kernel_rfl) (by show (1:Nat) ≤ _; decide) fun E hE => go_start ?_
  simp only [Try.f116, wk, upd, binR, ↓reduceIte, Nat.reduceEqDiff, reduceCtorEq, ofConst, ofCell, okCell, arI, cmpI, RetQ, RetM, finV, finC, finMV, finMC, resOf, V.w1, cellsV, refsC, refsO, callR, Nat.reduceAdd, Nat.reduceMul, Nat.reduceSub, Nat.reduceLeDiff, Nat.reduceLT, Nat.reduceBEq, boxR, idxR, loadR, storeR, readSl, lenR, sliceR, boundR, makeR, pureC, pureL, TD.isAgg, Int.reduceEq, Int.reduceNe, Int.reduceLT, Int.reduceLE, Int.reduceGT, Int.reduceGE, Int.reduceToNat, Int.reduceSub, Int.reduceAdd, Int.reduceMul, likeL, likeP, eqLP]
  decide
theorem c116 (xs : List (List PV)) (h : ∀ y ∈ xs, y.length = 2) (hb : xs.length * 16 ≤ 140737488355328) (hm : xs.length ≤ maxLen) : ConSem Try.prog tab 116 [vs xs] [] (vs xs) [] := by
  cases xs with
  | nil => exact con_split c116n c116e
  | cons x xs => exact c116a x xs h hb hm

theorem reach_le : reachBytes ≤ 140737488355328 := by decide
theorem trs_rows {xs : List TRow} : ∀ y ∈ trs xs, y.length = 5 := by
  intro y hy; obtain ⟨n, _, rfl⟩ := List.mem_map.1 hy; rfl
theorem drs_rows {xs : List DRow} : ∀ y ∈ drs xs, y.length = 2 := by
  intro y hy; obtain ⟨n, _, rfl⟩ := List.mem_map.1 hy; rfl

theorem c105 (r : Rec) (hr : RecS r) : ConSem Try.prog tab 105 [.agg (recC r)] [] (.agg (recC r)) [] := by
  refine con_pure tabOk mixedOk Try.func105 rfl (by decide) (by kernel_rfl) (by show (1:Nat) ≤ _; decide) fun E hE => go_start ?_
  have hle := reach_le
  simp only [Try.f105, wk, upd, binR, ↓reduceIte, Nat.reduceEqDiff, reduceCtorEq, ofConst, ofCell, okCell, arI, cmpI, RetQ, RetM, finV, finC, finMV, finMC, resOf, V.w1, cellsV, refsC, refsO, callR, Nat.reduceAdd, Nat.reduceMul, Nat.reduceSub, Nat.reduceLeDiff, Nat.reduceLT, Nat.reduceBEq, boxR, idxR, loadR, storeR, readSl, lenR, sliceR, boundR, makeR, pureC, pureL, TD.isAgg, Int.reduceEq, Int.reduceNe, Int.reduceLT, Int.reduceLE, Int.reduceGT, Int.reduceGE, Int.reduceToNat, Int.reduceSub, Int.reduceAdd, Int.reduceMul, likeL, likeP, eqLP, recC]
  refine call_by (c115 (trs r.ts) trs_rows (by rw [trs_length]; have := hr.ts.1; omega) (by rw [trs_length]; exact hr.ts.2)) ?_
  simp only [wk, upd, binR, ↓reduceIte, Nat.reduceEqDiff, reduceCtorEq, ofConst, ofCell, okCell, arI, cmpI, RetQ, RetM, finV, finC, finMV, finMC, resOf, V.w1, cellsV, refsC, refsO, callR, Nat.reduceAdd, Nat.reduceMul, Nat.reduceSub, Nat.reduceLeDiff, Nat.reduceLT, Nat.reduceBEq, boxR, idxR, loadR, storeR, readSl, lenR, sliceR, boundR, makeR, pureC, pureL, TD.isAgg, Int.reduceEq, Int.reduceNe, Int.reduceLT, Int.reduceLE, Int.reduceGT, Int.reduceGE, Int.reduceToNat, Int.reduceSub, Int.reduceAdd, Int.reduceMul, likeL, likeP, eqLP, recC]
  refine call_by (c116 (drs r.ds) drs_rows (by rw [drs_length]; have := hr.ds.1; omega) (by rw [drs_length]; exact hr.ds.2)) ?_
  simp only [wk, upd, binR, ↓reduceIte, Nat.reduceEqDiff, reduceCtorEq, ofConst, ofCell, okCell, arI, cmpI, RetQ, RetM, finV, finC, finMV, finMC, resOf, V.w1, cellsV, refsC, refsO, callR, Nat.reduceAdd, Nat.reduceMul, Nat.reduceSub, Nat.reduceLeDiff, Nat.reduceLT, Nat.reduceBEq, boxR, idxR, loadR, storeR, readSl, lenR, sliceR, boundR, makeR, pureC, pureL, TD.isAgg, Int.reduceEq, Int.reduceNe, Int.reduceLT, Int.reduceLE, Int.reduceGT, Int.reduceGE, Int.reduceToNat, Int.reduceSub, Int.reduceAdd, Int.reduceMul, likeL, likeP, eqLP, recC]
  rfl
end Go.AW
