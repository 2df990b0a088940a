/- Lists of pages. -/
import Derived.Test.YtocalihefpafgaaAW
import Derived.Test.YtocalihefpafgaaR8
set_option maxRecDepth 100000
set_option maxHeartbeats 4000000
set_option linter.unusedSimpArgs false
set_option linter.unusedVariables false
namespace Go.AW
open Go.Proofs

structure Pag where
  l : Int
  cs : List Cel
  deriving DecidableEq
def pgs (ps : List Pag) : List (List PV) := ps.map fun p => pgP p.l p.cs
def okPs (ps : List Pag) : Prop := ∀ p ∈ ps, p.cs.length = 8
theorem pgs_length (ps : List Pag) : (pgs ps).length = ps.length := by simp [pgs]
theorem pgs_get {ps : List Pag} {i : Nat} (h : i < ps.length) : (pgs ps)[i]? = some (pgP ps[i].l ps[i].cs) := by simp [pgs, h]
theorem pgP_map {l : Int} {cs : List Cel} : List.map Ce.p (pgP l cs) = pgC l cs := rfl
theorem pgP_len8 {l : Int} {cs : List Cel} (h : cs.length = 8) : (pgP l cs).length = 17 := by rw [pgP_length, h]
theorem pgP_ne {l : Int} {cs : List Cel} : (pgP l cs = []) = False := by simp [pgP]
theorem pgs_rows {ps : List Pag} (h : okPs ps) : ∀ y ∈ pgs ps, y.length = 17 := by
  intro y hy; obtain ⟨p, hp, rfl⟩ := List.mem_map.1 hy; exact pgP_len8 (h p hp)
theorem pgs_set (ps : List Pag) (i : Nat) (p : Pag) : (pgs ps).set i (pgP p.l p.cs) = pgs (ps.set i p) := by simp [pgs, List.map_set]
theorem pgs_snoc (ps : List Pag) (p : Pag) : pgs ps ++ [pgP p.l p.cs] = pgs (ps ++ [p]) := by simp [pgs]

theorem c113 (l : Int) (cs : List Cel) (hl : cs.length = 8) : ConSem Try.prog tab 113 [.agg (pgC l cs)] [] (vb (!pgOk l cs)) [] := by
  refine con_pure tabOk mixedOk Try.func113 rfl (by decide) (by kernel_rfl) (by show (1:Nat) ≤ _; decide) fun E hE => go_start ?_
  simp only [Try.f113, wk, upd, binR, ↓reduceIte, Nat.reduceEqDiff, reduceCtorEq, ofConst, ofCell, okCell, arI, cmpI, RetQ, RetM, finV, finC, finMV, finMC, resOf, V.w1, cellsV, refsC, refsO, callR, Nat.reduceAdd, Nat.reduceMul, Nat.reduceSub, Nat.reduceLeDiff, Nat.reduceLT, Nat.reduceBEq, boxR, idxR, loadR, storeR, readSl, lenR, sliceR, boundR, makeR, pureC, pureL, TD.isAgg, Int.reduceEq, Int.reduceNe, Int.reduceLT, Int.reduceLE, Int.reduceGT, Int.reduceGE, Int.reduceToNat, Int.reduceSub, Int.reduceAdd, Int.reduceMul, likeL, likeP, eqLP, pgC_len8 hl, celsC_len8 hl, pgC_drop1, pgC_drop17 hl, celsC_all hl, pgC_fold, pgC_all hl, goR_pg0, noS_mk, refs_pgF, refs_celsF, ren_pg, ren_cels, fin_pg, finM_pg, fin_cels, finM_cels, pureL_pg, pureL_cels]
  refine call_by (c97 l cs hl) ?_
  simp only [wk, upd, binR, ↓reduceIte, Nat.reduceEqDiff, reduceCtorEq, ofConst, ofCell, okCell, arI, cmpI, RetQ, RetM, finV, finC, finMV, finMC, resOf, V.w1, cellsV, refsC, refsO, callR, Nat.reduceAdd, Nat.reduceMul, Nat.reduceSub, Nat.reduceLeDiff, Nat.reduceLT, Nat.reduceBEq, boxR, idxR, loadR, storeR, readSl, lenR, sliceR, boundR, makeR, pureC, pureL, TD.isAgg, Int.reduceEq, Int.reduceNe, Int.reduceLT, Int.reduceLE, Int.reduceGT, Int.reduceGE, Int.reduceToNat, Int.reduceSub, Int.reduceAdd, Int.reduceMul, likeL, likeP, eqLP, pgC_len8 hl, celsC_len8 hl, pgC_drop1, pgC_drop17 hl, celsC_all hl, pgC_fold, pgC_all hl, goR_pg0, noS_mk, refs_pgF, refs_celsF, ren_pg, ren_cels, fin_pg, finM_pg, fin_cels, finM_cels, pureL_pg, pureL_cels]

def idxF (ps : List Pag) : Int := match ps.findIdx? (fun p => !pgOk p.l p.cs) with | some i => i | none => -1
def allOk (ps : List Pag) : Bool := ps.all fun p => pgOk p.l p.cs
theorem idxF_some {ps : List Pag} {i : Nat} (h : i < ps.length) (hi : pgOk ps[i].l ps[i].cs = false) (hb : ∀ (j : Nat) (hj : j < ps.length), j < i → pgOk ps[j].l ps[j].cs = true) : idxF ps = i := by
  have : ps.findIdx? (fun p => !pgOk p.l p.cs) = some i := by
    rw [List.findIdx?_eq_some_iff_getElem]
    exact ⟨h, by simp [hi], fun j hj => by simp [hb j (by omega) hj]⟩
  simp [idxF, this]
theorem idxF_none {ps : List Pag} (hb : ∀ (j : Nat) (hj : j < ps.length), pgOk ps[j].l ps[j].cs = true) : idxF ps = -1 := by
  have : ps.findIdx? (fun p => !pgOk p.l p.cs) = none := by
    rw [List.findIdx?_eq_none_iff]
    intro x hx
    obtain ⟨j, hj, rfl⟩ := List.getElem_of_mem hx
    simp [hb j hj]
  simp [idxF, this]
theorem idxF_all (ps : List Pag) : decide (0 ≤ idxF ps) = !allOk ps := by
  unfold idxF allOk
  cases h : ps.findIdx? (fun p => !pgOk p.l p.cs) with
  | none =>
    rw [List.findIdx?_eq_none_iff] at h
    have : ps.all (fun p => pgOk p.l p.cs) = true := by rw [List.all_eq_true]; intro x hx; simpa using h x hx
    rw [this]; rfl
  | some i =>
    rw [List.findIdx?_eq_some_iff_getElem] at h
    obtain ⟨h1, h2, _⟩ := h
    have : ps.all (fun p => pgOk p.l p.cs) = false := by rw [List.all_eq_false]; exact ⟨_, List.getElem_mem h1, by simpa using h2⟩
    rw [this]; simp

theorem c127 (ps : List Pag) (hps : okPs ps) (hm : ps.length ≤ 1000000) : ConSem Try.prog tab 127 [vs (pgs ps), .one (.p (.func 113))] [] (vi .i64 (idxF ps)) [] := by
  refine con_pure tabOk mixedOk Try.func127 rfl (by decide) (by kernel_rfl) (by show (2:Nat) ≤ _; decide) fun E hE => go_start ?_
  simp only [Try.f127, wk, upd, binR, ↓reduceIte, Nat.reduceEqDiff, reduceCtorEq, ofConst, ofCell, okCell, arI, cmpI, RetQ, RetM, finV, finC, finMV, finMC, resOf, V.w1, cellsV, refsC, refsO, callR, Nat.reduceAdd, Nat.reduceMul, Nat.reduceSub, Nat.reduceLeDiff, Nat.reduceLT, Nat.reduceBEq, boxR, idxR, loadR, storeR, readSl, lenR, sliceR, boundR, makeR, pureC, pureL, TD.isAgg, Int.reduceEq, Int.reduceNe, Int.reduceLT, Int.reduceLE, Int.reduceGT, Int.reduceGE, Int.reduceToNat, Int.reduceSub, Int.reduceAdd, Int.reduceMul, likeL, likeP, eqLP, pgs_length]
  refine aw_ind (fun i : Nat => ⟨tOf [(0, vs (pgs ps)), (1, .one (.p (.func 113))), (7, vi .i64 ps.length), (8, vi .i64 i)], fun _ => none⟩) (fun i => i ≤ ps.length ∧ ∀ (j : Nat) (h : j < ps.length), j < i → pgOk ps[j].l ps[j].cs = true) (fun i => ps.length - i) 0 rfl
    (weak_pure ⟨rfl, rfl, rfl, rfl, trivial⟩ rfl hE) ⟨by omega, fun j h h2 => by omega⟩ ?_
  rintro i ⟨hi, hinv⟩ ih
  by_cases h : (i : Int) < ps.length
  · have h' : i < ps.length := by omega
    have hw : IntKind.i64.wrap ((i : Int) + 1) = ((i + 1 : Nat) : Int) := by rw [w64 (by omega) (by omega)]; omega
    have h0i : (0 : Int) ≤ i := by omega
    have hx := pgs_get h'
    have hl := hps _ (List.getElem_mem h')
    have hno : pgOk ps[i].l ps[i].cs = false → vi .i64 (i : Int) = vi .i64 (idxF ps) := fun hk => by rw [idxF_some h' hk hinv]
    have hnx : pgOk ps[i].l ps[i].cs = true → ∀ (j : Nat) (h : j < ps.length), j < i + 1 → pgOk ps[j].l ps[j].cs = true := fun hk j hj hji => by
      by_cases hjx : j = i
      · subst hjx; exact hk
      · exact hinv j hj (by omega)
    generalize ps[i] = p at hx hno hnx hl
    simp only [wk, upd, binR, ↓reduceIte, Nat.reduceEqDiff, reduceCtorEq, ofConst, ofCell, okCell, arI, cmpI, RetQ, RetM, finV, finC, finMV, finMC, resOf, V.w1, cellsV, refsC, refsO, callR, Nat.reduceAdd, Nat.reduceMul, Nat.reduceSub, Nat.reduceLeDiff, Nat.reduceLT, Nat.reduceBEq, boxR, idxR, loadR, storeR, readSl, lenR, sliceR, boundR, makeR, pureC, pureL, TD.isAgg, Int.reduceEq, Int.reduceNe, Int.reduceLT, Int.reduceLE, Int.reduceGT, Int.reduceGE, Int.reduceToNat, Int.reduceSub, Int.reduceAdd, Int.reduceMul, likeL, likeP, eqLP, pgC_len8 hl, celsC_len8 hl, pgC_drop1, pgC_drop17 hl, celsC_all hl, pgC_fold, pgC_all hl, goR_pg0, noS_mk, refs_pgF, refs_celsF, ren_pg, ren_cels, fin_pg, finM_pg, fin_cels, finM_cels, pureL_pg, pureL_cels, h, h0i, elem_eq hx, pgP_map, pgP_len8 hl, pgP_ne]
    refine call_by (c113 p.l p.cs hl) ?_
    cases hp : pgOk p.l p.cs <;> simp only [wk, upd, binR, ↓reduceIte, Nat.reduceEqDiff, reduceCtorEq, ofConst, ofCell, okCell, arI, cmpI, RetQ, RetM, finV, finC, finMV, finMC, resOf, V.w1, cellsV, refsC, refsO, callR, Nat.reduceAdd, Nat.reduceMul, Nat.reduceSub, Nat.reduceLeDiff, Nat.reduceLT, Nat.reduceBEq, boxR, idxR, loadR, storeR, readSl, lenR, sliceR, boundR, makeR, pureC, pureL, TD.isAgg, Int.reduceEq, Int.reduceNe, Int.reduceLT, Int.reduceLE, Int.reduceGT, Int.reduceGE, Int.reduceToNat, Int.reduceSub, Int.reduceAdd, Int.reduceMul, likeL, likeP, eqLP, pgC_len8 hl, celsC_len8 hl, pgC_drop1, pgC_drop17 hl, celsC_all hl, pgC_fold, pgC_all hl, goR_pg0, noS_mk, refs_pgF, refs_celsF, ren_pg, ren_cels, fin_pg, finM_pg, fin_cels, finM_cels, pureL_pg, pureL_cels]
    · exact hno hp
    · exact ih (i + 1) _ ⟨by omega, hnx hp⟩ (by omega) (weak_pure ⟨rfl, rfl, rfl, by simp only [wk, upd, binR, ↓reduceIte, Nat.reduceEqDiff, reduceCtorEq, ofConst, ofCell, okCell, arI, cmpI, RetQ, RetM, finV, finC, finMV, finMC, resOf, V.w1, cellsV, refsC, refsO, callR, Nat.reduceAdd, Nat.reduceMul, Nat.reduceSub, Nat.reduceLeDiff, Nat.reduceLT, Nat.reduceBEq, boxR, idxR, loadR, storeR, readSl, lenR, sliceR, boundR, makeR, pureC, pureL, TD.isAgg, hw], trivial⟩ rfl hE)
  · simp only [wk, upd, binR, ↓reduceIte, Nat.reduceEqDiff, reduceCtorEq, ofConst, ofCell, okCell, arI, cmpI, RetQ, RetM, finV, finC, finMV, finMC, resOf, V.w1, cellsV, refsC, refsO, callR, Nat.reduceAdd, Nat.reduceMul, Nat.reduceSub, Nat.reduceLeDiff, Nat.reduceLT, Nat.reduceBEq, boxR, idxR, loadR, storeR, readSl, lenR, sliceR, boundR, makeR, pureC, pureL, TD.isAgg, Int.reduceEq, Int.reduceNe, Int.reduceLT, Int.reduceLE, Int.reduceGT, Int.reduceGE, Int.reduceToNat, Int.reduceSub, Int.reduceAdd, Int.reduceMul, likeL, likeP, eqLP, h]
    rw [idxF_none fun j hj => hinv j hj (by omega)]

theorem c112 (ps : List Pag) (hps : okPs ps) (hm : ps.length ≤ 1000000) : ConSem Try.prog tab 112 [vs (pgs ps), .one (.p (.func 113))] [] (vb (!allOk ps)) [] := by
  refine con_pure tabOk mixedOk Try.func112 rfl (by decide) (by kernel_rfl) (by show (2:Nat) ≤ _; decide) fun E hE => go_start ?_
  simp only [Try.f112, wk, upd, binR, ↓reduceIte, Nat.reduceEqDiff, reduceCtorEq, ofConst, ofCell, okCell, arI, cmpI, RetQ, RetM, finV, finC, finMV, finMC, resOf, V.w1, cellsV, refsC, refsO, callR, Nat.reduceAdd, Nat.reduceMul, Nat.reduceSub, Nat.reduceLeDiff, Nat.reduceLT, Nat.reduceBEq, boxR, idxR, loadR, storeR, readSl, lenR, sliceR, boundR, makeR, pureC, pureL, TD.isAgg, Int.reduceEq, Int.reduceNe, Int.reduceLT, Int.reduceLE, Int.reduceGT, Int.reduceGE, Int.reduceToNat, Int.reduceSub, Int.reduceAdd, Int.reduceMul, likeL, likeP, eqLP]
  refine call_by (c127 ps hps hm) ?_
  simp only [wk, upd, binR, ↓reduceIte, Nat.reduceEqDiff, reduceCtorEq, ofConst, ofCell, okCell, arI, cmpI, RetQ, RetM, finV, finC, finMV, finMC, resOf, V.w1, cellsV, refsC, refsO, callR, Nat.reduceAdd, Nat.reduceMul, Nat.reduceSub, Nat.reduceLeDiff, Nat.reduceLT, Nat.reduceBEq, boxR, idxR, loadR, storeR, readSl, lenR, sliceR, boundR, makeR, pureC, pureL, TD.isAgg, Int.reduceEq, Int.reduceNe, Int.reduceLT, Int.reduceLE, Int.reduceGT, Int.reduceGE, Int.reduceToNat, Int.reduceSub, Int.reduceAdd, Int.reduceMul, likeL, likeP, eqLP]
  exact vbeq (idxF_all ps)

theorem c87 (ps qs : List Pag) (hp : okPs ps) (hq : okPs qs) (hm : ps.length ≤ 1000000) : ConSem Try.prog tab 87 [vs (pgs ps), vs (pgs qs)] [] (vb (decide (ps = qs))) [] := by
  refine con_pure tabOk mixedOk Try.func87 rfl (by decide) (by kernel_rfl) (by show (2:Nat) ≤ _; decide) fun E hE => go_start ?_
  by_cases hlen : ps.length = qs.length
  rotate_left
  · have e : ((ps.length : Int) = qs.length) = False := eq_false (by omega)
    simp only [Try.f87, wk, upd, binR, ↓reduceIte, Nat.reduceEqDiff, reduceCtorEq, ofConst, ofCell, okCell, arI, cmpI, RetQ, RetM, finV, finC, finMV, finMC, resOf, V.w1, cellsV, refsC, refsO, callR, Nat.reduceAdd, Nat.reduceMul, Nat.reduceSub, Nat.reduceLeDiff, Nat.reduceLT, Nat.reduceBEq, boxR, idxR, loadR, storeR, readSl, lenR, sliceR, boundR, makeR, pureC, pureL, TD.isAgg, Int.reduceEq, Int.reduceNe, Int.reduceLT, Int.reduceLE, Int.reduceGT, Int.reduceGE, Int.reduceToNat, Int.reduceSub, Int.reduceAdd, Int.reduceMul, likeL, likeP, eqLP, pgs_length, e]
    exact vbeq (decide_eq_false (fun h => hlen (by rw [h]))).symm
  have e : ((ps.length : Int) = qs.length) = True := eq_true (by omega)
  simp only [Try.f87, wk, upd, binR, ↓reduceIte, Nat.reduceEqDiff, reduceCtorEq, ofConst, ofCell, okCell, arI, cmpI, RetQ, RetM, finV, finC, finMV, finMC, resOf, V.w1, cellsV, refsC, refsO, callR, Nat.reduceAdd, Nat.reduceMul, Nat.reduceSub, Nat.reduceLeDiff, Nat.reduceLT, Nat.reduceBEq, boxR, idxR, loadR, storeR, readSl, lenR, sliceR, boundR, makeR, pureC, pureL, TD.isAgg, Int.reduceEq, Int.reduceNe, Int.reduceLT, Int.reduceLE, Int.reduceGT, Int.reduceGE, Int.reduceToNat, Int.reduceSub, Int.reduceAdd, Int.reduceMul, likeL, likeP, eqLP, pgs_length, e]
  refine aw_ind (fun i : Nat => ⟨tOf [(0, vs (pgs ps)), (1, vs (pgs qs)), (12, vi .i64 ps.length), (13, vi .i64 i)], fun _ => none⟩) (fun i => i ≤ ps.length ∧ ∀ (j : Nat) (h : j < ps.length) (h2 : j < qs.length), j < i → ps[j] = qs[j]) (fun i => ps.length - i) 0 rfl
    (weak_pure ⟨rfl, rfl, rfl, rfl, trivial⟩ rfl hE) ⟨by omega, fun j h h2 h3 => by omega⟩ ?_
  rintro i ⟨hi, hinv⟩ ih
  by_cases h : (i : Int) < ps.length
  · have h' : i < ps.length := by omega
    have h2' : i < qs.length := by omega
    have hw : IntKind.i64.wrap ((i : Int) + 1) = ((i + 1 : Nat) : Int) := by rw [w64 (by omega) (by omega)]; omega
    have h0i : (0 : Int) ≤ i := by omega
    have hx := pgs_get h'
    have hy := pgs_get h2'
    have hl := hp _ (List.getElem_mem h')
    have hl2 := hq _ (List.getElem_mem h2')
    have hno : ps[i] ≠ qs[i] → V.one (Ce.p (PV.bool false)) = V.one (Ce.p (PV.bool (decide (ps = qs)))) := fun hk => vbeq (decide_eq_false (fun e => hk (by simp [e]))).symm
    have hnx : ps[i] = qs[i] → ∀ (j : Nat) (h : j < ps.length) (h2 : j < qs.length), j < i + 1 → ps[j] = qs[j] := fun hk j hj hj2 hji => by
      by_cases hjx : j = i
      · subst hjx; exact hk
      · exact hinv j hj hj2 (by omega)
    generalize ps[i] = p at hx hno hnx hl
    generalize qs[i] = q at hy hno hnx hl2
    obtain ⟨l1, cs1⟩ := p
    obtain ⟨l2, cs2⟩ := q
    simp only at hl hl2 hx hy
    have hlen2 : cs1.length = cs2.length := by omega
    by_cases he : l1 = l2 ∧ cs1 = cs2
    · obtain ⟨rfl, rfl⟩ := he
      simp only [wk, upd, binR, ↓reduceIte, Nat.reduceEqDiff, reduceCtorEq, ofConst, ofCell, okCell, arI, cmpI, RetQ, RetM, finV, finC, finMV, finMC, resOf, V.w1, cellsV, refsC, refsO, callR, Nat.reduceAdd, Nat.reduceMul, Nat.reduceSub, Nat.reduceLeDiff, Nat.reduceLT, Nat.reduceBEq, boxR, idxR, loadR, storeR, readSl, lenR, sliceR, boundR, makeR, pureC, pureL, TD.isAgg, Int.reduceEq, Int.reduceNe, Int.reduceLT, Int.reduceLE, Int.reduceGT, Int.reduceGE, Int.reduceToNat, Int.reduceSub, Int.reduceAdd, Int.reduceMul, likeL, likeP, eqLP, pgC_len8 hl, celsC_len8 hl, pgC_drop1, pgC_drop17 hl, celsC_all hl, pgC_fold, pgC_all hl, goR_pg0, noS_mk, refs_pgF, refs_celsF, ren_pg, ren_cels, fin_pg, finM_pg, fin_cels, finM_cels, pureL_pg, pureL_cels, h, h0i, elem_eq hx, elem_eq hy, pgP_map, pgP_len8 hl, pgP_ne, eqLP_pg rfl]
      exact ⟨likeL_pg (m := 0) (b := noCels) hl, rfl, ih (i + 1) _ ⟨by omega, hnx rfl⟩ (by omega) (weak_pure ⟨rfl, rfl, rfl, by simp only [wk, upd, binR, ↓reduceIte, Nat.reduceEqDiff, reduceCtorEq, ofConst, ofCell, okCell, arI, cmpI, RetQ, RetM, finV, finC, finMV, finMC, resOf, V.w1, cellsV, refsC, refsO, callR, Nat.reduceAdd, Nat.reduceMul, Nat.reduceSub, Nat.reduceLeDiff, Nat.reduceLT, Nat.reduceBEq, boxR, idxR, loadR, storeR, readSl, lenR, sliceR, boundR, makeR, pureC, pureL, TD.isAgg, hw], trivial⟩ rfl hE)⟩
    · have hef : eqLP (pgP l1 cs1) (pgP l2 cs2) = false := by rw [eqLP_pg hlen2]; exact decide_eq_false he
      simp only [wk, upd, binR, ↓reduceIte, Nat.reduceEqDiff, reduceCtorEq, ofConst, ofCell, okCell, arI, cmpI, RetQ, RetM, finV, finC, finMV, finMC, resOf, V.w1, cellsV, refsC, refsO, callR, Nat.reduceAdd, Nat.reduceMul, Nat.reduceSub, Nat.reduceLeDiff, Nat.reduceLT, Nat.reduceBEq, boxR, idxR, loadR, storeR, readSl, lenR, sliceR, boundR, makeR, pureC, pureL, TD.isAgg, Int.reduceEq, Int.reduceNe, Int.reduceLT, Int.reduceLE, Int.reduceGT, Int.reduceGE, Int.reduceToNat, Int.reduceSub, Int.reduceAdd, Int.reduceMul, likeL, likeP, eqLP, pgC_len8 hl, celsC_len8 hl, pgC_drop1, pgC_drop17 hl, celsC_all hl, pgC_fold, pgC_all hl, goR_pg0, noS_mk, refs_pgF, refs_celsF, ren_pg, ren_cels, fin_pg, finM_pg, fin_cels, finM_cels, pureL_pg, pureL_cels, h, h0i, elem_eq hx, elem_eq hy, pgP_map, pgP_len8 hl, pgP_len8 hl2, pgC_len8 hl2, pgC_all hl2, celsC_len8 hl2, celsC_all hl2, pgP_ne, hef]
      exact ⟨⟨likeL_pg (m := 0) (b := noCels) hl, likeL_pg (m := 0) (b := noCels) hl2⟩, rfl, hno (by intro e; cases e; exact he ⟨rfl, rfl⟩)⟩
  · simp only [wk, upd, binR, ↓reduceIte, Nat.reduceEqDiff, reduceCtorEq, ofConst, ofCell, okCell, arI, cmpI, RetQ, RetM, finV, finC, finMV, finMC, resOf, V.w1, cellsV, refsC, refsO, callR, Nat.reduceAdd, Nat.reduceMul, Nat.reduceSub, Nat.reduceLeDiff, Nat.reduceLT, Nat.reduceBEq, boxR, idxR, loadR, storeR, readSl, lenR, sliceR, boundR, makeR, pureC, pureL, TD.isAgg, Int.reduceEq, Int.reduceNe, Int.reduceLT, Int.reduceLE, Int.reduceGT, Int.reduceGE, Int.reduceToNat, Int.reduceSub, Int.reduceAdd, Int.reduceMul, likeL, likeP, eqLP, h]
    refine vbeq (decide_eq_true ?_).symm
    exact List.ext_getElem hlen fun j h1 h2 => hinv j h1 h2 (by omega)
end Go.AW
