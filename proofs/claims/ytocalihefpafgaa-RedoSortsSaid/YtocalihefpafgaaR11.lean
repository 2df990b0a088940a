import Derived.Test.YtocalihefpafgaaAW
import Derived.Test.YtocalihefpafgaaR9
import Derived.Test.YtocalihefpafgaaA12
/- The first call of layer 18; the law of one page. -/
set_option maxRecDepth 100000
set_option maxHeartbeats 4000000
set_option linter.unusedSimpArgs false
set_option linter.unusedVariables false
namespace Go.AW
open Go.Proofs

theorem rpF_len {id upto : Int} : ∀ (xs : List Stm) {l : Int} {cs : List Cel} {m : Int} {z : Int × List Cel × Int}, cs.length = 8 → rpF id upto xs l cs m = some z → z.2.1.length = 8
  | [], l, cs, m, z, h, hz => by simp only [rpF, Option.some.injEq] at hz; subst hz; exact h
  | x :: r, l, cs, m, z, h, hz => by
    simp only [rpF] at hz
    split at hz
    · split at hz
      · exact rpF_len r (apF_len h _ _) hz
      · cases hz
    · exact rpF_len r h hz
theorem rpR_len {l : Int} {cs : List Cel} {id : Int} {xs : List Stm} {upto : Int} (h : cs.length = 8) : (rpR l cs id xs upto).2.1.length = 8 := by
  unfold rpR
  split
  · rfl
  · split
    · rfl
    · cases hz : rpF id upto xs l cs 0 with
      | none => rfl
      | some z => exact rpF_len xs h hz

def rec18 : Rec := ⟨1, 7, 1, 0, ⟨1, 0, 3, noS, ⟨#[97]⟩⟩, 0, 0, 0, [], []⟩

theorem c52 : ConSem Try.prog tab 52 [] [] (vb true) [] := by
  refine con_pure tabOk mixedOk Try.func52 rfl (by decide) (by kernel_rfl) (by show (0:Nat) ≤ _; decide) fun E hE => go_start ?_
  have hrun : raF [⟨0, rec18⟩] [⟨0, noCels⟩] 0 = some ([⟨7, noCels.set 3 (true, ⟨#[97]⟩)⟩], 1) := by kernel_rfl
  have h := c85L [⟨0, noCels⟩] (by intro p hp; simp at hp; subst hp; rfl) (by simp) [⟨0, rec18⟩] (by simp) ⟨0, noCels⟩ [] rfl (by simp) (by kernel_rfl) (by kernel_rfl) _ hrun
  have hres : raR [⟨0, noCels⟩] [⟨0, rec18⟩] = ([⟨7, noCels.set 3 (true, ⟨#[97]⟩)⟩], 1, 0) := by kernel_rfl
  rw [hres] at h
  have h2 := con_nz (args := [.one (.osl 1000 1), .one (.p (.slice [[.int .i64 0, .int .i64 1, .int .u64 7, .int .i64 1, .int .u64 0, .int .i64 1, .int .i64 0, .int .i64 3, .str noS, .str ⟨#[97]⟩, .int .u64 0, .int .i64 0, .int .u64 0, .nilsl, .nilsl]]))]) h
  have h3 : ConSem Try.prog tab 85 [.one (.osl 1000 1), .one (.p (.slice [[.int .i64 0, .int .i64 1, .int .u64 7, .int .i64 1, .int .u64 0, .int .i64 1, .int .i64 0, .int .i64 3, .str noS, .str ⟨#[97]⟩, .int .u64 0, .int .i64 0, .int .u64 0, .nilsl, .nilsl]]))] [(1000, .sl 55 (pgs [⟨0, noCels⟩]))]
      (.tup [.one (.p (.slice [[.int .u64 7, .bool false, .str noS, .bool false, .str noS, .bool false, .str noS, .bool true, .str ⟨#[97]⟩, .bool false, .str noS, .bool false, .str noS, .bool false, .str noS, .bool false, .str noS]])), .one (.p (.int .i64 1)), .one (.p (.int .i64 0))]) [(1000, .sl 55 (pgs [⟨0, noCels⟩]))] := h2
  simp only [Try.f52, wk, upd, binR, ↓reduceIte, Nat.reduceEqDiff, reduceCtorEq, ofConst, ofCell, okCell, arI, cmpI, RetQ, RetM, finV, finC, finMV, finMC, resOf, V.w1, cellsV, refsC, refsO, callR, Nat.reduceAdd, Nat.reduceMul, Nat.reduceSub, Nat.reduceLeDiff, Nat.reduceLT, Nat.reduceBEq, boxR, idxR, loadR, storeR, readSl, lenR, sliceR, boundR, makeR, pureC, pureL, TD.isAgg, Int.reduceEq, Int.reduceNe, Int.reduceLT, Int.reduceLE, Int.reduceGT, Int.reduceGE, Int.reduceToNat, Int.reduceSub, Int.reduceAdd, Int.reduceMul, likeL, likeP, eqLP]
  refine ⟨⟨by decide, by decide⟩, call_by h3 ?_⟩
  simp only [wk, upd, binR, ↓reduceIte, Nat.reduceEqDiff, reduceCtorEq, ofConst, ofCell, okCell, arI, cmpI, RetQ, RetM, finV, finC, finMV, finMC, resOf, V.w1, cellsV, refsC, refsO, callR, Nat.reduceAdd, Nat.reduceMul, Nat.reduceSub, Nat.reduceLeDiff, Nat.reduceLT, Nat.reduceBEq, boxR, idxR, loadR, storeR, readSl, lenR, sliceR, boundR, makeR, pureC, pureL, TD.isAgg, Int.reduceEq, Int.reduceNe, Int.reduceLT, Int.reduceLE, Int.reduceGT, Int.reduceGE, Int.reduceToNat, Int.reduceSub, Int.reduceAdd, Int.reduceMul, likeL, likeP, eqLP]
  have hx : ([[.int .u64 7, .bool false, .str noS, .bool false, .str noS, .bool false, .str noS, .bool true, .str ⟨#[97]⟩, .bool false, .str noS, .bool false, .str noS, .bool false, .str noS, .bool false, .str noS]] : List (List PV))[0]? = some [.int .u64 7, .bool false, .str noS, .bool false, .str noS, .bool false, .str noS, .bool true, .str ⟨#[97]⟩, .bool false, .str noS, .bool false, .str noS, .bool false, .str noS, .bool false, .str noS] := rfl
  refine ⟨rfl, fun _ => ?_, fun h => absurd rfl h⟩
  simp only [wk, upd, binR, ↓reduceIte, Nat.reduceEqDiff, reduceCtorEq, ofConst, ofCell, okCell, arI, cmpI, RetQ, RetM, finV, finC, finMV, finMC, resOf, V.w1, cellsV, refsC, refsO, callR, Nat.reduceAdd, Nat.reduceMul, Nat.reduceSub, Nat.reduceLeDiff, Nat.reduceLT, Nat.reduceBEq, boxR, idxR, loadR, storeR, readSl, lenR, sliceR, boundR, makeR, pureC, pureL, TD.isAgg, Int.reduceEq, Int.reduceNe, Int.reduceLT, Int.reduceLE, Int.reduceGT, Int.reduceGE, Int.reduceToNat, Int.reduceSub, Int.reduceAdd, Int.reduceMul, likeL, likeP, eqLP, elem_eq hx]
  exact ⟨by decide, by decide⟩

theorem c11 (l : Int) (cs : List Cel) (hl : cs.length = 8) (id : Int) (xs : List Stm) (upto : Int) : ConSem Try.prog tab 11 [.agg (pgC l cs), vi .i64 id, vs (sts xs), vi .u64 upto] [] (vb true) [] := by
  refine con_pure tabOk mixedOk Try.func11 rfl (by decide) (by kernel_rfl) (by show (4:Nat) ≤ _; decide) fun E hE => go_start ?_
  simp only [Try.f11, wk, upd, binR, ↓reduceIte, Nat.reduceEqDiff, reduceCtorEq, ofConst, ofCell, okCell, arI, cmpI, RetQ, RetM, finV, finC, finMV, finMC, resOf, V.w1, cellsV, refsC, refsO, callR, Nat.reduceAdd, Nat.reduceMul, Nat.reduceSub, Nat.reduceLeDiff, Nat.reduceLT, Nat.reduceBEq, boxR, idxR, loadR, storeR, readSl, lenR, sliceR, boundR, makeR, pureC, pureL, TD.isAgg, Int.reduceEq, Int.reduceNe, Int.reduceLT, Int.reduceLE, Int.reduceGT, Int.reduceGE, Int.reduceToNat, Int.reduceSub, Int.reduceAdd, Int.reduceMul, likeL, likeP, eqLP, pgC_len8 hl, celsC_len8 hl, pgC_drop1, pgC_drop17 hl, celsC_all hl, pgC_fold, pgC_all hl, goR_pg0, noS_mk, refs_pgF, refs_celsF, ren_pg, ren_cels, fin_pg, finM_pg, fin_cels, finM_cels, pureL_pg, pureL_cels]
  refine call_by c52 ?_
  simp only [wk, upd, binR, ↓reduceIte, Nat.reduceEqDiff, reduceCtorEq, ofConst, ofCell, okCell, arI, cmpI, RetQ, RetM, finV, finC, finMV, finMC, resOf, V.w1, cellsV, refsC, refsO, callR, Nat.reduceAdd, Nat.reduceMul, Nat.reduceSub, Nat.reduceLeDiff, Nat.reduceLT, Nat.reduceBEq, boxR, idxR, loadR, storeR, readSl, lenR, sliceR, boundR, makeR, pureC, pureL, TD.isAgg, Int.reduceEq, Int.reduceNe, Int.reduceLT, Int.reduceLE, Int.reduceGT, Int.reduceGE, Int.reduceToNat, Int.reduceSub, Int.reduceAdd, Int.reduceMul, likeL, likeP, eqLP, pgC_len8 hl, celsC_len8 hl, pgC_drop1, pgC_drop17 hl, celsC_all hl, pgC_fold, pgC_all hl, goR_pg0, noS_mk, refs_pgF, refs_celsF, ren_pg, ren_cels, fin_pg, finM_pg, fin_cels, finM_cels, pureL_pg, pureL_cels, sts_length]
  refine ⟨fun h => call_by c52 ?_, fun h => ?_⟩
  · simp only [wk, upd, binR, ↓reduceIte, Nat.reduceEqDiff, reduceCtorEq, ofConst, ofCell, okCell, arI, cmpI, RetQ, RetM, finV, finC, finMV, finMC, resOf, V.w1, cellsV, refsC, refsO, callR, Nat.reduceAdd, Nat.reduceMul, Nat.reduceSub, Nat.reduceLeDiff, Nat.reduceLT, Nat.reduceBEq, boxR, idxR, loadR, storeR, readSl, lenR, sliceR, boundR, makeR, pureC, pureL, TD.isAgg, Int.reduceEq, Int.reduceNe, Int.reduceLT, Int.reduceLE, Int.reduceGT, Int.reduceGE, Int.reduceToNat, Int.reduceSub, Int.reduceAdd, Int.reduceMul, likeL, likeP, eqLP]
  have h1 := c53 l cs hl id xs (by omega) upto
  have h2 := c54 l cs hl id xs (by omega) upto
  have hlz : (rpR l cs id xs upto).2.1.length = 8 := rpR_len hl
  generalize rpR l cs id xs upto = z at h1 h2 hlz
  obtain ⟨z1, z2, z3, z4⟩ := z
  simp only at h1 h2 hlz
  refine call_by h1 ?_
  simp only [wk, upd, binR, ↓reduceIte, Nat.reduceEqDiff, reduceCtorEq, ofConst, ofCell, okCell, arI, cmpI, RetQ, RetM, finV, finC, finMV, finMC, resOf, V.w1, cellsV, refsC, refsO, callR, Nat.reduceAdd, Nat.reduceMul, Nat.reduceSub, Nat.reduceLeDiff, Nat.reduceLT, Nat.reduceBEq, boxR, idxR, loadR, storeR, readSl, lenR, sliceR, boundR, makeR, pureC, pureL, TD.isAgg, Int.reduceEq, Int.reduceNe, Int.reduceLT, Int.reduceLE, Int.reduceGT, Int.reduceGE, Int.reduceToNat, Int.reduceSub, Int.reduceAdd, Int.reduceMul, likeL, likeP, eqLP, pgC_len8 hl, celsC_len8 hl, pgC_drop1, pgC_drop17 hl, celsC_all hl, pgC_fold, pgC_all hl, goR_pg0, noS_mk, refs_pgF, refs_celsF, ren_pg, ren_cels, fin_pg, finM_pg, fin_cels, finM_cels, pureL_pg, pureL_cels, pgC_len8 hlz, pgC_all hlz, celsC_len8 hlz, celsC_all hlz]
  refine call_by h2 ?_
  simp only [wk, upd, binR, ↓reduceIte, Nat.reduceEqDiff, reduceCtorEq, ofConst, ofCell, okCell, arI, cmpI, RetQ, RetM, finV, finC, finMV, finMC, resOf, V.w1, cellsV, refsC, refsO, callR, Nat.reduceAdd, Nat.reduceMul, Nat.reduceSub, Nat.reduceLeDiff, Nat.reduceLT, Nat.reduceBEq, boxR, idxR, loadR, storeR, readSl, lenR, sliceR, boundR, makeR, pureC, pureL, TD.isAgg, Int.reduceEq, Int.reduceNe, Int.reduceLT, Int.reduceLE, Int.reduceGT, Int.reduceGE, Int.reduceToNat, Int.reduceSub, Int.reduceAdd, Int.reduceMul, likeL, likeP, eqLP, pgC_len8 hl, celsC_len8 hl, pgC_drop1, pgC_drop17 hl, celsC_all hl, pgC_fold, pgC_all hl, goR_pg0, noS_mk, refs_pgF, refs_celsF, ren_pg, ren_cels, fin_pg, finM_pg, fin_cels, finM_cels, pureL_pg, pureL_cels, pgC_len8 hlz, pgC_all hlz, celsC_len8 hlz, celsC_all hlz, eqLP_pg rfl]
  exact likeL_pg (m := 0) (b := noCels) hlz
end Go.AW

/- The document's answer for all pages, in the program. -/
set_option maxRecDepth 100000
set_option maxHeartbeats 4000000
set_option linter.unusedSimpArgs false
set_option linter.unusedVariables false
namespace Go.AW
open Go.Proofs

def pwL (xs : List Stm) : Nat → List Pag → List Pag → Int → List Pag × Int × Int
  | _, [], out, m => (out, m, 0)
  | i, p :: r, out, m =>
    if (rpR p.l p.cs i xs maxL).2.2.2 = 0 then pwL xs (i + 1) r (out ++ [⟨(rpR p.l p.cs i xs maxL).1, (rpR p.l p.cs i xs maxL).2.1⟩]) (m + (rpR p.l p.cs i xs maxL).2.2.1)
    else ([], 0, (rpR p.l p.cs i xs maxL).2.2.2)
def farC (n : Nat) (x : Stm) : Bool := isCh x.r && decide ((n : Int) ≤ x.r.ch.p)
def pwR (ps : List Pag) (xs : List Stm) : List Pag × Int × Int :=
  if 32 < ps.length ∨ allOk ps = false then ([], 0, 1)
  else if spOk 8 xs = false then ([], 0, 2)
  else if xs.any (farC ps.length) = true then ([], 0, 2)
  else pwL xs 0 ps [] 0

theorem rpF_cnt {id upto : Int} : ∀ (xs : List Stm) {l : Int} {cs : List Cel} {m : Int} {z : Int × List Cel × Int}, rpF id upto xs l cs m = some z → m ≤ z.2.2 ∧ z.2.2 ≤ m + xs.length
  | [], l, cs, m, z, hz => by simp only [rpF, Option.some.injEq] at hz; subst hz; simp
  | x :: r, l, cs, m, z, hz => by
    simp only [rpF] at hz
    simp only [List.length_cons]
    split at hz
    · split at hz
      · have := rpF_cnt r hz; omega
      · cases hz
    · have := rpF_cnt r hz; omega
theorem rpR_cnt {l : Int} {cs : List Cel} {id : Int} {xs : List Stm} {upto : Int} : 0 ≤ (rpR l cs id xs upto).2.2.1 ∧ (rpR l cs id xs upto).2.2.1 ≤ xs.length := by
  unfold rpR
  split
  · simp
  · split
    · simp
    · cases hz : rpF id upto xs l cs 0 with
      | none => simp
      | some z => obtain ⟨a, b, c⟩ := z; have := rpF_cnt xs hz; simp only at this ⊢; omega

def pkV : List Pag → V
  | [] => .one (.p .nilsl)
  | _ :: r => .one (.osl 86 (r.length + 1))
def pkM : List Pag → List (Nat × Obj)
  | [] => []
  | p :: r => [(86, .sl 55 (pgs (p :: r)))]
theorem pkV_snoc (r : List Pag) (c : Pag) : pkV (r ++ [c]) = .one (.osl 86 (r.length + 1)) := by cases r <;> simp [pkV]
theorem pkM_snoc (r : List Pag) (c : Pag) : pkM (r ++ [c]) = [(86, .sl 55 (pgs (r ++ [c])))] := by cases r <;> simp [pkM]

structure S86 where
  i : Nat
  qs : List Pag
  m : Int

theorem c86 (ps : List Pag) (hps : okPs ps) (hm : ps.length ≤ 1000000) (xs : List Stm) (hxs : xs.length ≤ 1000000) : ConSem Try.prog tab 86 [vs (pgs ps), vs (sts xs)] [] (raV (pwR ps xs)) [] := by
  refine con_pure tabOk mixedOk Try.func86 rfl (by decide) (by kernel_rfl) (by show (2:Nat) ≤ _; decide) fun E hE => go_start ?_
  have hr : ∀ z, pwR ps xs = z → raV z = raV (pwR ps xs) := fun z h => by rw [h]
  generalize raV (pwR ps xs) = X at hr ⊢
  have hml : 2000000 ≤ maxLen := by decide
  simp only [Try.f86, wk, upd, binR, ↓reduceIte, Nat.reduceEqDiff, reduceCtorEq, ofConst, ofCell, okCell, arI, cmpI, RetQ, RetM, finV, finC, finMV, finMC, resOf, V.w1, cellsV, refsC, refsO, callR, Nat.reduceAdd, Nat.reduceMul, Nat.reduceSub, Nat.reduceLeDiff, Nat.reduceLT, Nat.reduceBEq, boxR, idxR, loadR, storeR, readSl, lenR, sliceR, boundR, makeR, pureC, pureL, TD.isAgg, Int.reduceEq, Int.reduceNe, Int.reduceLT, Int.reduceLE, Int.reduceGT, Int.reduceGE, Int.reduceToNat, Int.reduceSub, Int.reduceAdd, Int.reduceMul, likeL, likeP, eqLP, pgs_length]
  refine ⟨fun h1 => hr ([], 0, 1) (by unfold pwR; rw [if_pos (.inl (by omega))]), fun h1 => ?_⟩
  have h32 : ps.length ≤ 32 := by omega
  refine aw_ind (fun i : Nat => ⟨tOf [(0, vs (pgs ps)), (1, vs (sts xs)), (20, vi .i64 ps.length), (21, vi .i64 i)], mOf []⟩)
    (fun i => i ≤ ps.length ∧ ∀ (j : Nat) (h : j < ps.length), j < i → pgOk ps[j].l ps[j].cs = true) (fun i => ps.length - i) 0 rfl
    (weak_mem (M := []) ⟨rfl, rfl, rfl, rfl, trivial⟩ trivial rfl rfl (by rw [hE]; rfl) rfl) ⟨by simp, by simp⟩ ?_
  rintro i ⟨hi, hinv⟩ ih
  by_cases h : (i : Int) < ps.length
  · have h' : i < ps.length := by omega
    have hw : IntKind.i64.wrap ((i : Int) + 1) = ((i + 1 : Nat) : Int) := by rw [w64 (by omega) (by omega)]; omega
    have h0i : (0 : Int) ≤ i := by omega
    have hx := pgs_get h'
    have hl := hps _ (List.getElem_mem h')
    simp only [wk, upd, binR, ↓reduceIte, Nat.reduceEqDiff, reduceCtorEq, ofConst, ofCell, okCell, arI, cmpI, RetQ, RetM, finV, finC, finMV, finMC, resOf, V.w1, cellsV, refsC, refsO, callR, Nat.reduceAdd, Nat.reduceMul, Nat.reduceSub, Nat.reduceLeDiff, Nat.reduceLT, Nat.reduceBEq, boxR, idxR, loadR, storeR, readSl, lenR, sliceR, boundR, makeR, pureC, pureL, TD.isAgg, Int.reduceEq, Int.reduceNe, Int.reduceLT, Int.reduceLE, Int.reduceGT, Int.reduceGE, Int.reduceToNat, Int.reduceSub, Int.reduceAdd, Int.reduceMul, likeL, likeP, eqLP, pgC_len8 hl, celsC_len8 hl, pgC_drop1, pgC_drop17 hl, celsC_all hl, pgC_fold, pgC_all hl, goR_pg0, noS_mk, refs_pgF, refs_celsF, ren_pg, ren_cels, fin_pg, finM_pg, fin_cels, finM_cels, pureL_pg, pureL_cels, h, h0i, elem_eq hx, pgP_map, pgP_len8 hl, pgP_ne, pgP_drop17 hl]
    refine call_by (c98 _ _ hl) ?_
    cases hp : pgOk ps[i].l ps[i].cs
    · simp only [wk, upd, binR, ↓reduceIte, Nat.reduceEqDiff, reduceCtorEq, ofConst, ofCell, okCell, arI, cmpI, RetQ, RetM, finV, finC, finMV, finMC, resOf, V.w1, cellsV, refsC, refsO, callR, Nat.reduceAdd, Nat.reduceMul, Nat.reduceSub, Nat.reduceLeDiff, Nat.reduceLT, Nat.reduceBEq, boxR, idxR, loadR, storeR, readSl, lenR, sliceR, boundR, makeR, pureC, pureL, TD.isAgg, Int.reduceEq, Int.reduceNe, Int.reduceLT, Int.reduceLE, Int.reduceGT, Int.reduceGE, Int.reduceToNat, Int.reduceSub, Int.reduceAdd, Int.reduceMul, likeL, likeP, eqLP, pgC_len8 hl, celsC_len8 hl, pgC_drop1, pgC_drop17 hl, celsC_all hl, pgC_fold, pgC_all hl, goR_pg0, noS_mk, refs_pgF, refs_celsF, ren_pg, ren_cels, fin_pg, finM_pg, fin_cels, finM_cels, pureL_pg, pureL_cels]
      exact hr ([], 0, 1) (by unfold pwR; rw [if_pos (.inr (by simp only [allOk, List.all_eq_false]; exact ⟨ps[i], List.getElem_mem h', by rw [hp]; simp⟩))])
    simp only [wk, upd, binR, ↓reduceIte, Nat.reduceEqDiff, reduceCtorEq, ofConst, ofCell, okCell, arI, cmpI, RetQ, RetM, finV, finC, finMV, finMC, resOf, V.w1, cellsV, refsC, refsO, callR, Nat.reduceAdd, Nat.reduceMul, Nat.reduceSub, Nat.reduceLeDiff, Nat.reduceLT, Nat.reduceBEq, boxR, idxR, loadR, storeR, readSl, lenR, sliceR, boundR, makeR, pureC, pureL, TD.isAgg, Int.reduceEq, Int.reduceNe, Int.reduceLT, Int.reduceLE, Int.reduceGT, Int.reduceGE, Int.reduceToNat, Int.reduceSub, Int.reduceAdd, Int.reduceMul, likeL, likeP, eqLP, pgC_len8 hl, celsC_len8 hl, pgC_drop1, pgC_drop17 hl, celsC_all hl, pgC_fold, pgC_all hl, goR_pg0, noS_mk, refs_pgF, refs_celsF, ren_pg, ren_cels, fin_pg, finM_pg, fin_cels, finM_cels, pureL_pg, pureL_cels]
    exact ih (i + 1) _ ⟨by omega, fun j hj hji => by
      by_cases hji2 : j = i
      · subst hji2; exact hp
      · exact hinv j hj (by omega)⟩ (by show ps.length - (i + 1) < ps.length - i; omega) (weak_mem (M := []) ⟨rfl, rfl, rfl, by simp only [wk, upd, binR, ↓reduceIte, Nat.reduceEqDiff, reduceCtorEq, ofConst, ofCell, okCell, arI, cmpI, RetQ, RetM, finV, finC, finMV, finMC, resOf, V.w1, cellsV, refsC, refsO, callR, Nat.reduceAdd, Nat.reduceMul, Nat.reduceSub, Nat.reduceLeDiff, Nat.reduceLT, Nat.reduceBEq, boxR, idxR, loadR, storeR, readSl, lenR, sliceR, boundR, makeR, pureC, pureL, TD.isAgg, hw], trivial⟩ trivial rfl rfl (by rw [hE]; rfl) rfl)
  have ha : allOk ps = true := by
    simp only [allOk, List.all_eq_true]
    intro p hp
    obtain ⟨j, hj, rfl⟩ := List.getElem_of_mem hp
    exact hinv j hj (by omega)
  clear hinv ih
  simp only [wk, upd, binR, ↓reduceIte, Nat.reduceEqDiff, reduceCtorEq, ofConst, ofCell, okCell, arI, cmpI, RetQ, RetM, finV, finC, finMV, finMC, resOf, V.w1, cellsV, refsC, refsO, callR, Nat.reduceAdd, Nat.reduceMul, Nat.reduceSub, Nat.reduceLeDiff, Nat.reduceLT, Nat.reduceBEq, boxR, idxR, loadR, storeR, readSl, lenR, sliceR, boundR, makeR, pureC, pureL, TD.isAgg, Int.reduceEq, Int.reduceNe, Int.reduceLT, Int.reduceLE, Int.reduceGT, Int.reduceGE, Int.reduceToNat, Int.reduceSub, Int.reduceAdd, Int.reduceMul, likeL, likeP, eqLP, h]
  refine call_by (c102 xs hxs) ?_
  cases hs : spOk 8 xs
  · simp only [wk, upd, binR, ↓reduceIte, Nat.reduceEqDiff, reduceCtorEq, ofConst, ofCell, okCell, arI, cmpI, RetQ, RetM, finV, finC, finMV, finMC, resOf, V.w1, cellsV, refsC, refsO, callR, Nat.reduceAdd, Nat.reduceMul, Nat.reduceSub, Nat.reduceLeDiff, Nat.reduceLT, Nat.reduceBEq, boxR, idxR, loadR, storeR, readSl, lenR, sliceR, boundR, makeR, pureC, pureL, TD.isAgg, Int.reduceEq, Int.reduceNe, Int.reduceLT, Int.reduceLE, Int.reduceGT, Int.reduceGE, Int.reduceToNat, Int.reduceSub, Int.reduceAdd, Int.reduceMul, likeL, likeP, eqLP]
    exact hr ([], 0, 2) (by unfold pwR; rw [if_neg (by rw [ha]; simp; omega), if_pos hs])
  simp only [wk, upd, binR, ↓reduceIte, Nat.reduceEqDiff, reduceCtorEq, ofConst, ofCell, okCell, arI, cmpI, RetQ, RetM, finV, finC, finMV, finMC, resOf, V.w1, cellsV, refsC, refsO, callR, Nat.reduceAdd, Nat.reduceMul, Nat.reduceSub, Nat.reduceLeDiff, Nat.reduceLT, Nat.reduceBEq, boxR, idxR, loadR, storeR, readSl, lenR, sliceR, boundR, makeR, pureC, pureL, TD.isAgg, Int.reduceEq, Int.reduceNe, Int.reduceLT, Int.reduceLE, Int.reduceGT, Int.reduceGE, Int.reduceToNat, Int.reduceSub, Int.reduceAdd, Int.reduceMul, likeL, likeP, eqLP, sts_length]
  clear h hi
  refine aw_ind (fun i : Nat => ⟨tOf [(0, vs (pgs ps)), (1, vs (sts xs)), (35, vi .i64 xs.length), (36, vi .i64 i)], mOf []⟩)
    (fun i => i ≤ xs.length ∧ ∀ (j : Nat) (h : j < xs.length), j < i → farC ps.length xs[j] = false) (fun i => xs.length - i) 0 rfl
    (weak_mem (M := []) ⟨rfl, rfl, rfl, rfl, trivial⟩ trivial rfl rfl (by rw [hE]; rfl) rfl) ⟨by simp, by simp⟩ ?_
  rintro i ⟨hi, hinv⟩ ih
  by_cases h : (i : Int) < xs.length
  · have h' : i < xs.length := by omega
    have hw : IntKind.i64.wrap ((i : Int) + 1) = ((i + 1 : Nat) : Int) := by rw [w64 (by omega) (by omega)]; omega
    have h0i : (0 : Int) ≤ i := by omega
    have hx := sts_get h'
    have hskip := fun (hf : farC ps.length xs[i] = false) σ' hws => ih (i + 1) σ' ⟨by omega, fun j hj hji => by
      by_cases hji2 : j = i
      · subst hji2; exact hf
      · exact hinv j hj (by omega)⟩ (by show xs.length - (i + 1) < xs.length - i; omega) hws
    have hfail := fun (hf : farC ps.length xs[i] = true) => hr ([], 0, 2) (by unfold pwR; rw [if_neg (by rw [ha]; simp; omega), if_neg (by rw [hs]; simp), if_pos (by rw [List.any_eq_true]; exact ⟨xs[i], List.getElem_mem h', hf⟩)])
    generalize xs[i] = x at hx hskip hfail
    clear hinv ih
    by_cases hk : x.r.k = 1 ∨ x.r.k = 2
    · have hg : isCh x.r = true := by simp [isCh, hk]
      by_cases hf : (ps.length : Int) ≤ x.r.ch.p
      · have hff := hfail (by simp [farC, hg, hf])
        by_cases hk1 : x.r.k = 1
        · simp only [wk, upd, binR, ↓reduceIte, Nat.reduceEqDiff, reduceCtorEq, ofConst, ofCell, okCell, arI, cmpI, RetQ, RetM, finV, finC, finMV, finMC, resOf, V.w1, cellsV, refsC, refsO, callR, Nat.reduceAdd, Nat.reduceMul, Nat.reduceSub, Nat.reduceLeDiff, Nat.reduceLT, Nat.reduceBEq, boxR, idxR, loadR, storeR, readSl, lenR, sliceR, boundR, makeR, pureC, pureL, TD.isAgg, Int.reduceEq, Int.reduceNe, Int.reduceLT, Int.reduceLE, Int.reduceGT, Int.reduceGE, Int.reduceToNat, Int.reduceSub, Int.reduceAdd, Int.reduceMul, likeL, likeP, eqLP, h, h0i, elem_eq hx, stP, recP, recC, chP, hk1, pgs_length, hf]
          exact hff
        · have hk2 : x.r.k = 2 := by omega
          simp only [wk, upd, binR, ↓reduceIte, Nat.reduceEqDiff, reduceCtorEq, ofConst, ofCell, okCell, arI, cmpI, RetQ, RetM, finV, finC, finMV, finMC, resOf, V.w1, cellsV, refsC, refsO, callR, Nat.reduceAdd, Nat.reduceMul, Nat.reduceSub, Nat.reduceLeDiff, Nat.reduceLT, Nat.reduceBEq, boxR, idxR, loadR, storeR, readSl, lenR, sliceR, boundR, makeR, pureC, pureL, TD.isAgg, Int.reduceEq, Int.reduceNe, Int.reduceLT, Int.reduceLE, Int.reduceGT, Int.reduceGE, Int.reduceToNat, Int.reduceSub, Int.reduceAdd, Int.reduceMul, likeL, likeP, eqLP, h, h0i, elem_eq hx, stP, recP, recC, chP, hk2, pgs_length, hf]
          exact hff
      · have hss := hskip (by simp [farC, hf])
        by_cases hk1 : x.r.k = 1
        · simp only [wk, upd, binR, ↓reduceIte, Nat.reduceEqDiff, reduceCtorEq, ofConst, ofCell, okCell, arI, cmpI, RetQ, RetM, finV, finC, finMV, finMC, resOf, V.w1, cellsV, refsC, refsO, callR, Nat.reduceAdd, Nat.reduceMul, Nat.reduceSub, Nat.reduceLeDiff, Nat.reduceLT, Nat.reduceBEq, boxR, idxR, loadR, storeR, readSl, lenR, sliceR, boundR, makeR, pureC, pureL, TD.isAgg, Int.reduceEq, Int.reduceNe, Int.reduceLT, Int.reduceLE, Int.reduceGT, Int.reduceGE, Int.reduceToNat, Int.reduceSub, Int.reduceAdd, Int.reduceMul, likeL, likeP, eqLP, h, h0i, elem_eq hx, stP, recP, recC, chP, hk1, pgs_length, hf]
          exact hss _ (weak_mem (M := []) ⟨rfl, rfl, rfl, by simp only [wk, upd, binR, ↓reduceIte, Nat.reduceEqDiff, reduceCtorEq, ofConst, ofCell, okCell, arI, cmpI, RetQ, RetM, finV, finC, finMV, finMC, resOf, V.w1, cellsV, refsC, refsO, callR, Nat.reduceAdd, Nat.reduceMul, Nat.reduceSub, Nat.reduceLeDiff, Nat.reduceLT, Nat.reduceBEq, boxR, idxR, loadR, storeR, readSl, lenR, sliceR, boundR, makeR, pureC, pureL, TD.isAgg, hw], trivial⟩ trivial rfl rfl (by rw [hE]; rfl) rfl)
        · have hk2 : x.r.k = 2 := by omega
          simp only [wk, upd, binR, ↓reduceIte, Nat.reduceEqDiff, reduceCtorEq, ofConst, ofCell, okCell, arI, cmpI, RetQ, RetM, finV, finC, finMV, finMC, resOf, V.w1, cellsV, refsC, refsO, callR, Nat.reduceAdd, Nat.reduceMul, Nat.reduceSub, Nat.reduceLeDiff, Nat.reduceLT, Nat.reduceBEq, boxR, idxR, loadR, storeR, readSl, lenR, sliceR, boundR, makeR, pureC, pureL, TD.isAgg, Int.reduceEq, Int.reduceNe, Int.reduceLT, Int.reduceLE, Int.reduceGT, Int.reduceGE, Int.reduceToNat, Int.reduceSub, Int.reduceAdd, Int.reduceMul, likeL, likeP, eqLP, h, h0i, elem_eq hx, stP, recP, recC, chP, hk2, pgs_length, hf]
          exact hss _ (weak_mem (M := []) ⟨rfl, rfl, rfl, by simp only [wk, upd, binR, ↓reduceIte, Nat.reduceEqDiff, reduceCtorEq, ofConst, ofCell, okCell, arI, cmpI, RetQ, RetM, finV, finC, finMV, finMC, resOf, V.w1, cellsV, refsC, refsO, callR, Nat.reduceAdd, Nat.reduceMul, Nat.reduceSub, Nat.reduceLeDiff, Nat.reduceLT, Nat.reduceBEq, boxR, idxR, loadR, storeR, readSl, lenR, sliceR, boundR, makeR, pureC, pureL, TD.isAgg, hw], trivial⟩ trivial rfl rfl (by rw [hE]; rfl) rfl)
    · have hg : isCh x.r = false := by simp [isCh, hk]
      have hk1 : (x.r.k = 1) = False := eq_false (by omega)
      have hk2 : (x.r.k = 2) = False := eq_false (by omega)
      have hss := hskip (by simp [farC, hg])
      simp only [wk, upd, binR, ↓reduceIte, Nat.reduceEqDiff, reduceCtorEq, ofConst, ofCell, okCell, arI, cmpI, RetQ, RetM, finV, finC, finMV, finMC, resOf, V.w1, cellsV, refsC, refsO, callR, Nat.reduceAdd, Nat.reduceMul, Nat.reduceSub, Nat.reduceLeDiff, Nat.reduceLT, Nat.reduceBEq, boxR, idxR, loadR, storeR, readSl, lenR, sliceR, boundR, makeR, pureC, pureL, TD.isAgg, Int.reduceEq, Int.reduceNe, Int.reduceLT, Int.reduceLE, Int.reduceGT, Int.reduceGE, Int.reduceToNat, Int.reduceSub, Int.reduceAdd, Int.reduceMul, likeL, likeP, eqLP, h, h0i, elem_eq hx, stP, recP, recC, chP, hk1, hk2]
      exact hss _ (weak_mem (M := []) ⟨rfl, rfl, rfl, by simp only [wk, upd, binR, ↓reduceIte, Nat.reduceEqDiff, reduceCtorEq, ofConst, ofCell, okCell, arI, cmpI, RetQ, RetM, finV, finC, finMV, finMC, resOf, V.w1, cellsV, refsC, refsO, callR, Nat.reduceAdd, Nat.reduceMul, Nat.reduceSub, Nat.reduceLeDiff, Nat.reduceLT, Nat.reduceBEq, boxR, idxR, loadR, storeR, readSl, lenR, sliceR, boundR, makeR, pureC, pureL, TD.isAgg, hw], trivial⟩ trivial rfl rfl (by rw [hE]; rfl) rfl)
  have hfar : xs.any (farC ps.length) = false := by
    rw [List.any_eq_false]
    intro x hx
    obtain ⟨j, hj, rfl⟩ := List.getElem_of_mem hx
    rw [hinv j hj (by omega)]; simp
  have hP : pwR ps xs = pwL xs 0 ps [] 0 := by
    unfold pwR; rw [if_neg (by rw [ha]; simp; omega), if_neg (by rw [hs]; simp), if_neg (by rw [hfar]; simp)]
  clear hinv ih
  simp only [wk, upd, binR, ↓reduceIte, Nat.reduceEqDiff, reduceCtorEq, ofConst, ofCell, okCell, arI, cmpI, RetQ, RetM, finV, finC, finMV, finMC, resOf, V.w1, cellsV, refsC, refsO, callR, Nat.reduceAdd, Nat.reduceMul, Nat.reduceSub, Nat.reduceLeDiff, Nat.reduceLT, Nat.reduceBEq, boxR, idxR, loadR, storeR, readSl, lenR, sliceR, boundR, makeR, pureC, pureL, TD.isAgg, Int.reduceEq, Int.reduceNe, Int.reduceLT, Int.reduceLE, Int.reduceGT, Int.reduceGE, Int.reduceToNat, Int.reduceSub, Int.reduceAdd, Int.reduceMul, likeL, likeP, eqLP, h, pgs_length]
  clear h hi
  refine aw_ind (fun a : S86 => ⟨tOf [(0, vs (pgs ps)), (1, vs (sts xs)), (10, pkV a.qs), (11, vi .i64 a.m), (65, vi .i64 ps.length), (66, vi .i64 a.i)], mOf (pkM a.qs)⟩)
    (fun a => a.i ≤ ps.length ∧ a.qs.length = a.i ∧ okPs a.qs ∧ (0 ≤ a.m ∧ a.m ≤ a.i * 1000000) ∧ pwL xs 0 ps [] 0 = pwL xs a.i (ps.drop a.i) a.qs a.m) (fun a => ps.length - a.i) ⟨0, [], 0⟩ rfl
    (weak_mem (M := []) ⟨rfl, rfl, rfl, rfl, rfl, rfl, trivial⟩ trivial rfl rfl (by rw [hE]; rfl) rfl) ⟨by simp, rfl, by simp [okPs], by simp, rfl⟩ ?_
  rintro ⟨i, qs, m1⟩ ⟨hi, hql, hqs, hm1, hinv⟩ ih
  simp only at hi hql hqs hm1 hinv
  by_cases h : (i : Int) < ps.length
  · have h' : i < ps.length := by omega
    have hw : IntKind.i64.wrap ((i : Int) + 1) = ((i + 1 : Nat) : Int) := by rw [w64 (by omega) (by omega)]; omega
    have h0i : (0 : Int) ≤ i := by omega
    have hx := pgs_get h'
    have hl := hps _ (List.getElem_mem h')
    rw [List.drop_eq_getElem_cons h'] at hinv
    generalize ps[i] = p at hx hl hinv
    obtain ⟨l, cs⟩ := p
    simp only at hx hl hinv
    have hcall := c54 l cs hl i xs hxs maxL
    have hcnt := rpR_cnt (l := l) (cs := cs) (id := i) (xs := xs) (upto := maxL)
    have hlz : (rpR l cs i xs maxL).2.1.length = 8 := rpR_len hl
    simp only [pwL] at hinv
    generalize rpR l cs i xs maxL = z at hcall hcnt hlz hinv
    obtain ⟨z1, z2, z3, z4⟩ := z
    simp only at hcall hcnt hlz hinv
    have hmx : (4611686018427387904 : Int) = maxL := rfl
    cases qs with
    | nil =>
      simp only [pkV, pkM, wk, upd, binR, ↓reduceIte, Nat.reduceEqDiff, reduceCtorEq, ofConst, ofCell, okCell, arI, cmpI, RetQ, RetM, finV, finC, finMV, finMC, resOf, V.w1, cellsV, refsC, refsO, callR, Nat.reduceAdd, Nat.reduceMul, Nat.reduceSub, Nat.reduceLeDiff, Nat.reduceLT, Nat.reduceBEq, boxR, idxR, loadR, storeR, readSl, lenR, sliceR, boundR, makeR, pureC, pureL, TD.isAgg, Int.reduceEq, Int.reduceNe, Int.reduceLT, Int.reduceLE, Int.reduceGT, Int.reduceGE, Int.reduceToNat, Int.reduceSub, Int.reduceAdd, Int.reduceMul, likeL, likeP, eqLP, pgC_len8 hl, celsC_len8 hl, pgC_drop1, pgC_drop17 hl, celsC_all hl, pgC_fold, pgC_all hl, goR_pg0, noS_mk, refs_pgF, refs_celsF, ren_pg, ren_cels, fin_pg, finM_pg, fin_cels, finM_cels, pureL_pg, pureL_cels, h, h0i, elem_eq hx, hmx, pgP_map, pgP_len8 hl, pgP_ne, pgP_drop17 hl]
      refine call_by hcall ?_
      by_cases hz4 : z4 = 0
      · subst hz4
        rw [if_pos rfl] at hinv
        have ewm : IntKind.i64.wrap (m1 + z3) = m1 + z3 := w64 (by omega) (by omega)
        have hst := fun σ' hws => ih ⟨i + 1, [] ++ [⟨z1, z2⟩], m1 + z3⟩ σ' ⟨by show i + 1 ≤ _; omega, by simp at hql ⊢; omega, by intro q hq; simp at hq; subst hq; exact hlz, by show 0 ≤ m1 + z3 ∧ m1 + z3 ≤ ((i + 1 : Nat) : Int) * 1000000; omega, hinv⟩ (by show ps.length - (i + 1) < ps.length - i; omega) hws
        simp only [pkV_snoc, pkM_snoc] at hst
        simp only [wk, upd, binR, ↓reduceIte, Nat.reduceEqDiff, reduceCtorEq, ofConst, ofCell, okCell, arI, cmpI, RetQ, RetM, finV, finC, finMV, finMC, resOf, V.w1, cellsV, refsC, refsO, callR, Nat.reduceAdd, Nat.reduceMul, Nat.reduceSub, Nat.reduceLeDiff, Nat.reduceLT, Nat.reduceBEq, boxR, idxR, loadR, storeR, readSl, lenR, sliceR, boundR, makeR, pureC, pureL, TD.isAgg, Int.reduceEq, Int.reduceNe, Int.reduceLT, Int.reduceLE, Int.reduceGT, Int.reduceGE, Int.reduceToNat, Int.reduceSub, Int.reduceAdd, Int.reduceMul, likeL, likeP, eqLP, pgC_len8 hl, celsC_len8 hl, pgC_drop1, pgC_drop17 hl, celsC_all hl, pgC_fold, pgC_all hl, goR_pg0, noS_mk, refs_pgF, refs_celsF, ren_pg, ren_cels, fin_pg, finM_pg, fin_cels, finM_cels, pureL_pg, pureL_cels, pgC_len8 hlz, pgC_all hlz, celsC_len8 hlz, celsC_all hlz, ewm, pgP_map, pgP_len8 hlz, pgP_ne]
        exact ⟨by decide, hst _ (weak_mem (M := []) ⟨rfl, rfl, rfl, rfl, rfl, by simp only [wk, upd, binR, ↓reduceIte, Nat.reduceEqDiff, reduceCtorEq, ofConst, ofCell, okCell, arI, cmpI, RetQ, RetM, finV, finC, finMV, finMC, resOf, V.w1, cellsV, refsC, refsO, callR, Nat.reduceAdd, Nat.reduceMul, Nat.reduceSub, Nat.reduceLeDiff, Nat.reduceLT, Nat.reduceBEq, boxR, idxR, loadR, storeR, readSl, lenR, sliceR, boundR, makeR, pureC, pureL, TD.isAgg, hw], trivial⟩ ⟨rfl, trivial⟩ rfl rfl (by rw [hE]; rfl) rfl)⟩
      · rw [if_neg hz4] at hinv
        simp only [wk, upd, binR, ↓reduceIte, Nat.reduceEqDiff, reduceCtorEq, ofConst, ofCell, okCell, arI, cmpI, RetQ, RetM, finV, finC, finMV, finMC, resOf, V.w1, cellsV, refsC, refsO, callR, Nat.reduceAdd, Nat.reduceMul, Nat.reduceSub, Nat.reduceLeDiff, Nat.reduceLT, Nat.reduceBEq, boxR, idxR, loadR, storeR, readSl, lenR, sliceR, boundR, makeR, pureC, pureL, TD.isAgg, Int.reduceEq, Int.reduceNe, Int.reduceLT, Int.reduceLE, Int.reduceGT, Int.reduceGE, Int.reduceToNat, Int.reduceSub, Int.reduceAdd, Int.reduceMul, likeL, likeP, eqLP, pgC_len8 hl, celsC_len8 hl, pgC_drop1, pgC_drop17 hl, celsC_all hl, pgC_fold, pgC_all hl, goR_pg0, noS_mk, refs_pgF, refs_celsF, ren_pg, ren_cels, fin_pg, finM_pg, fin_cels, finM_cels, pureL_pg, pureL_cels, pgC_len8 hlz, pgC_all hlz, celsC_len8 hlz, celsC_all hlz, hz4, pgP_map, pgP_len8 hlz, pgP_ne]
        exact hr _ (hP.trans hinv)
    | cons q0 r0 =>
      simp only [pkV, pkM, wk, upd, binR, ↓reduceIte, Nat.reduceEqDiff, reduceCtorEq, ofConst, ofCell, okCell, arI, cmpI, RetQ, RetM, finV, finC, finMV, finMC, resOf, V.w1, cellsV, refsC, refsO, callR, Nat.reduceAdd, Nat.reduceMul, Nat.reduceSub, Nat.reduceLeDiff, Nat.reduceLT, Nat.reduceBEq, boxR, idxR, loadR, storeR, readSl, lenR, sliceR, boundR, makeR, pureC, pureL, TD.isAgg, Int.reduceEq, Int.reduceNe, Int.reduceLT, Int.reduceLE, Int.reduceGT, Int.reduceGE, Int.reduceToNat, Int.reduceSub, Int.reduceAdd, Int.reduceMul, likeL, likeP, eqLP, pgC_len8 hl, celsC_len8 hl, pgC_drop1, pgC_drop17 hl, celsC_all hl, pgC_fold, pgC_all hl, goR_pg0, noS_mk, refs_pgF, refs_celsF, ren_pg, ren_cels, fin_pg, finM_pg, fin_cels, finM_cels, pureL_pg, pureL_cels, h, h0i, elem_eq hx, hmx, pgP_map, pgP_len8 hl, pgP_ne, pgP_drop17 hl]
      refine call_by hcall ?_
      by_cases hz4 : z4 = 0
      · subst hz4
        rw [if_pos rfl] at hinv
        have ewm : IntKind.i64.wrap (m1 + z3) = m1 + z3 := w64 (by omega) (by omega)
        have hst := fun σ' hws => ih ⟨i + 1, q0 :: r0 ++ [⟨z1, z2⟩], m1 + z3⟩ σ' ⟨by show i + 1 ≤ _; omega, by simp at hql ⊢; omega, by
          intro q hq
          rcases List.mem_append.1 hq with hq | hq
          · exact hqs q hq
          · simp at hq; subst hq; exact hlz, by show 0 ≤ m1 + z3 ∧ m1 + z3 ≤ ((i + 1 : Nat) : Int) * 1000000; omega, hinv⟩ (by show ps.length - (i + 1) < ps.length - i; omega) hws
        simp only [pkV_snoc, pkM_snoc, ← pgs_snoc] at hst
        simp only [wk, upd, binR, ↓reduceIte, Nat.reduceEqDiff, reduceCtorEq, ofConst, ofCell, okCell, arI, cmpI, RetQ, RetM, finV, finC, finMV, finMC, resOf, V.w1, cellsV, refsC, refsO, callR, Nat.reduceAdd, Nat.reduceMul, Nat.reduceSub, Nat.reduceLeDiff, Nat.reduceLT, Nat.reduceBEq, boxR, idxR, loadR, storeR, readSl, lenR, sliceR, boundR, makeR, pureC, pureL, TD.isAgg, Int.reduceEq, Int.reduceNe, Int.reduceLT, Int.reduceLE, Int.reduceGT, Int.reduceGE, Int.reduceToNat, Int.reduceSub, Int.reduceAdd, Int.reduceMul, likeL, likeP, eqLP, pgC_len8 hl, celsC_len8 hl, pgC_drop1, pgC_drop17 hl, celsC_all hl, pgC_fold, pgC_all hl, goR_pg0, noS_mk, refs_pgF, refs_celsF, ren_pg, ren_cels, fin_pg, finM_pg, fin_cels, finM_cels, pureL_pg, pureL_cels, pgC_len8 hlz, pgC_all hlz, celsC_len8 hlz, celsC_all hlz, ewm, pgs_length, pgP_map, pgP_len8 hlz, pgP_ne]
        simp only [List.length_cons] at hql
        exact ⟨⟨by omega, by omega⟩, hst _ (weak_mem (M := []) ⟨rfl, rfl, rfl, rfl, rfl, by simp only [wk, upd, binR, ↓reduceIte, Nat.reduceEqDiff, reduceCtorEq, ofConst, ofCell, okCell, arI, cmpI, RetQ, RetM, finV, finC, finMV, finMC, resOf, V.w1, cellsV, refsC, refsO, callR, Nat.reduceAdd, Nat.reduceMul, Nat.reduceSub, Nat.reduceLeDiff, Nat.reduceLT, Nat.reduceBEq, boxR, idxR, loadR, storeR, readSl, lenR, sliceR, boundR, makeR, pureC, pureL, TD.isAgg, hw], trivial⟩ ⟨rfl, trivial⟩ rfl rfl (by rw [hE]; rfl) rfl)⟩
      · rw [if_neg hz4] at hinv
        simp only [wk, upd, binR, ↓reduceIte, Nat.reduceEqDiff, reduceCtorEq, ofConst, ofCell, okCell, arI, cmpI, RetQ, RetM, finV, finC, finMV, finMC, resOf, V.w1, cellsV, refsC, refsO, callR, Nat.reduceAdd, Nat.reduceMul, Nat.reduceSub, Nat.reduceLeDiff, Nat.reduceLT, Nat.reduceBEq, boxR, idxR, loadR, storeR, readSl, lenR, sliceR, boundR, makeR, pureC, pureL, TD.isAgg, Int.reduceEq, Int.reduceNe, Int.reduceLT, Int.reduceLE, Int.reduceGT, Int.reduceGE, Int.reduceToNat, Int.reduceSub, Int.reduceAdd, Int.reduceMul, likeL, likeP, eqLP, pgC_len8 hl, celsC_len8 hl, pgC_drop1, pgC_drop17 hl, celsC_all hl, pgC_fold, pgC_all hl, goR_pg0, noS_mk, refs_pgF, refs_celsF, ren_pg, ren_cels, fin_pg, finM_pg, fin_cels, finM_cels, pureL_pg, pureL_cels, pgC_len8 hlz, pgC_all hlz, celsC_len8 hlz, celsC_all hlz, hz4, pgP_map, pgP_len8 hlz, pgP_ne]
        exact hr _ (hP.trans hinv)
  · have : i = ps.length := by omega
    subst this
    rw [List.drop_length] at hinv
    simp only [pwL] at hinv
    have hfin := hr _ (hP.trans hinv)
    cases qs with
    | nil =>
      simp only [pkV, pkM, wk, upd, binR, ↓reduceIte, Nat.reduceEqDiff, reduceCtorEq, ofConst, ofCell, okCell, arI, cmpI, RetQ, RetM, finV, finC, finMV, finMC, resOf, V.w1, cellsV, refsC, refsO, callR, Nat.reduceAdd, Nat.reduceMul, Nat.reduceSub, Nat.reduceLeDiff, Nat.reduceLT, Nat.reduceBEq, boxR, idxR, loadR, storeR, readSl, lenR, sliceR, boundR, makeR, pureC, pureL, TD.isAgg, Int.reduceEq, Int.reduceNe, Int.reduceLT, Int.reduceLE, Int.reduceGT, Int.reduceGE, Int.reduceToNat, Int.reduceSub, Int.reduceAdd, Int.reduceMul, likeL, likeP, eqLP, h]
      exact hfin
    | cons q0 r0 =>
      simp only [pkV, pkM, wk, upd, binR, ↓reduceIte, Nat.reduceEqDiff, reduceCtorEq, ofConst, ofCell, okCell, arI, cmpI, RetQ, RetM, finV, finC, finMV, finMC, resOf, V.w1, cellsV, refsC, refsO, callR, Nat.reduceAdd, Nat.reduceMul, Nat.reduceSub, Nat.reduceLeDiff, Nat.reduceLT, Nat.reduceBEq, boxR, idxR, loadR, storeR, readSl, lenR, sliceR, boundR, makeR, pureC, pureL, TD.isAgg, Int.reduceEq, Int.reduceNe, Int.reduceLT, Int.reduceLE, Int.reduceGT, Int.reduceGE, Int.reduceToNat, Int.reduceSub, Int.reduceAdd, Int.reduceMul, likeL, likeP, eqLP, h, pgs_length]
      exact hfin
end Go.AW
