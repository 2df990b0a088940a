import Derived.Test.YtocalihefpafgaaAW
import Derived.Test.YtocalihefpafgaaR8
/- Lists of pages. -/
set_option maxRecDepth 100000
set_option maxHeartbeats 4000000
set_option linter.unusedSimpArgs false
set_option linter.unusedVariables false
namespace Go.AW
open Go.Proofs

structure Pag where
  l : Int
  cs : List Cel
  deriving DecidableEq
def pgs (ps : List Pag) : List (List PV) := ps.map fun p => pgP p.l p.cs
def okPs (ps : List Pag) : Prop := ∀ p ∈ ps, p.cs.length = 8
theorem pgs_length (ps : List Pag) : (pgs ps).length = ps.length := by simp [pgs]
theorem pgs_get {ps : List Pag} {i : Nat} (h : i < ps.length) : (pgs ps)[i]? = some (pgP ps[i].l ps[i].cs) := by simp [pgs, h]
theorem pgP_map {l : Int} {cs : List Cel} : List.map Ce.p (pgP l cs) = pgC l cs := rfl
theorem pgP_len8 {l : Int} {cs : List Cel} (h : cs.length = 8) : (pgP l cs).length = 17 := by rw [pgP_length, h]
theorem pgP_ne {l : Int} {cs : List Cel} : (pgP l cs = []) = False := by simp [pgP]
theorem pgs_rows {ps : List Pag} (h : okPs ps) : ∀ y ∈ pgs ps, y.length = 17 := by
  intro y hy; obtain ⟨p, hp, rfl⟩ := List.mem_map.1 hy; exact pgP_len8 (h p hp)
theorem pgs_set (ps : List Pag) (i : Nat) (p : Pag) : (pgs ps).set i (pgP p.l p.cs) = pgs (ps.set i p) := by simp [pgs, List.map_set]
theorem pgs_snoc (ps : List Pag) (p : Pag) : pgs ps ++ [pgP p.l p.cs] = pgs (ps ++ [p]) := by simp [pgs]

theorem c113 (l : Int) (cs : List Cel) (hl : cs.length = 8) : ConSem Try.prog tab 113 [.agg (pgC l cs)] [] (vb (!pgOk l cs)) [] := by
  refine con_pure tabOk mixedOk Try.func113 rfl (by decide) (by kernel_rfl) (by show (1:Nat) ≤ _; decide) fun E hE => go_start ?_
  simp only [Try.f113, wk, upd, binR, ↓reduceIte, Nat.reduceEqDiff, reduceCtorEq, ofConst, ofCell, okCell, arI, cmpI, RetQ, RetM, finV, finC, finMV, finMC, resOf, V.w1, cellsV, refsC, refsO, callR, Nat.reduceAdd, Nat.reduceMul, Nat.reduceSub, Nat.reduceLeDiff, Nat.reduceLT, Nat.reduceBEq, boxR, idxR, loadR, storeR, readSl, lenR, sliceR, boundR, makeR, pureC, pureL, TD.isAgg, Int.reduceEq, Int.reduceNe, Int.reduceLT, Int.reduceLE, Int.reduceGT, Int.reduceGE, Int.reduceToNat, Int.reduceSub, Int.reduceAdd, Int.reduceMul, likeL, likeP, eqLP, pgC_len8 hl, celsC_len8 hl, pgC_drop1, pgC_drop17 hl, celsC_all hl, pgC_fold, pgC_all hl, goR_pg0, noS_mk, refs_pgF, refs_celsF, ren_pg, ren_cels, fin_pg, finM_pg, fin_cels, finM_cels, pureL_pg, pureL_cels]
  refine call_by (c97 l cs hl) ?_
  simp only [wk, upd, binR, ↓reduceIte, Nat.reduceEqDiff, reduceCtorEq, ofConst, ofCell, okCell, arI, cmpI, RetQ, RetM, finV, finC, finMV, finMC, resOf, V.w1, cellsV, refsC, refsO, callR, Nat.reduceAdd, Nat.reduceMul, Nat.reduceSub, Nat.reduceLeDiff, Nat.reduceLT, Nat.reduceBEq, boxR, idxR, loadR, storeR, readSl, lenR, sliceR, boundR, makeR, pureC, pureL, TD.isAgg, Int.reduceEq, Int.reduceNe, Int.reduceLT, Int.reduceLE, Int.reduceGT, Int.reduceGE, Int.reduceToNat, Int.reduceSub, Int.reduceAdd, Int.reduceMul, likeL, likeP, eqLP, pgC_len8 hl, celsC_len8 hl, pgC_drop1, pgC_drop17 hl, celsC_all hl, pgC_fold, pgC_all hl, goR_pg0, noS_mk, refs_pgF, refs_celsF, ren_pg, ren_cels, fin_pg, finM_pg, fin_cels, finM_cels, pureL_pg, pureL_cels]

def idxF (ps : List Pag) : Int := match ps.findIdx? (fun p => !pgOk p.l p.cs) with | some i => i | none => -1
def allOk (ps : List Pag) : Bool := ps.all fun p => pgOk p.l p.cs
theorem idxF_some {ps : List Pag} {i : Nat} (h : i < ps.length) (hi : pgOk ps[i].l ps[i].cs = false) (hb : ∀ (j : Nat) (hj : j < ps.length), j < i → pgOk ps[j].l ps[j].cs = true) : idxF ps = i := by
  have : ps.findIdx? (fun p => !pgOk p.l p.cs) = some i := by
    rw [List.findIdx?_eq_some_iff_getElem]
    exact ⟨h, by simp [hi], fun j hj => by simp [hb j (by omega) hj]⟩
  simp [idxF, this]
theorem idxF_none {ps : List Pag} (hb : ∀ (j : Nat) (hj : j < ps.length), pgOk ps[j].l ps[j].cs = true) : idxF ps = -1 := by
  have : ps.findIdx? (fun p => !pgOk p.l p.cs) = none := by
    rw [List.findIdx?_eq_none_iff]
    intro x hx
    obtain ⟨j, hj, rfl⟩ := List.getElem_of_mem hx
    simp [hb j hj]
  simp [idxF, this]
theorem idxF_all (ps : List Pag) : decide (0 ≤ idxF ps) = !allOk ps := by
  unfold idxF allOk
  cases h : ps.findIdx? (fun p => !pgOk p.l p.cs) with
  | none =>
    rw [List.findIdx?_eq_none_iff] at h
    have : ps.all (fun p => pgOk p.l p.cs) = true := by rw [List.all_eq_true]; intro x hx; simpa using h x hx
    rw [this]; rfl
  | some i =>
    rw [List.findIdx?_eq_some_iff_getElem] at h
    obtain ⟨h1, h2, _⟩ := h
    have : ps.all (fun p => pgOk p.l p.cs) = false := by rw [List.all_eq_false]; exact ⟨_, List.getElem_mem h1, by simpa using h2⟩
    rw [this]; simp

theorem c127 (ps : List Pag) (hps : okPs ps) (hm : ps.length ≤ 1000000) : ConSem Try.prog tab 127 [vs (pgs ps), .one (.p (.func 113))] [] (vi .i64 (idxF ps)) [] := by
  refine con_pure tabOk mixedOk Try.func127 rfl (by decide) (by kernel_rfl) (by show (2:Nat) ≤ _; decide) fun E hE => go_start ?_
  simp only [Try.f127, wk, upd, binR, ↓reduceIte, Nat.reduceEqDiff, reduceCtorEq, ofConst, ofCell, okCell, arI, cmpI, RetQ, RetM, finV, finC, finMV, finMC, resOf, V.w1, cellsV, refsC, refsO, callR, Nat.reduceAdd, Nat.reduceMul, Nat.reduceSub, Nat.reduceLeDiff, Nat.reduceLT, Nat.reduceBEq, boxR, idxR, loadR, storeR, readSl, lenR, sliceR, boundR, makeR, pureC, pureL, TD.isAgg, Int.reduceEq, Int.reduceNe, Int.reduceLT, Int.reduceLE, Int.reduceGT, Int.reduceGE, Int.reduceToNat, Int.reduceSub, Int.reduceAdd, Int.reduceMul, likeL, likeP, eqLP, pgs_length]
  refine aw_ind (fun i : Nat => ⟨tOf [(0, vs (pgs ps)), (1, .one (.p (.func 113))), (7, vi .i64 ps.length), (8, vi .i64 i)], fun _ => none⟩) (fun i => i ≤ ps.length ∧ ∀ (j : Nat) (h : j < ps.length), j < i → pgOk ps[j].l ps[j].cs = true) (fun i => ps.length - i) 0 rfl
    (weak_pure ⟨rfl, rfl, rfl, rfl, trivial⟩ rfl hE) ⟨by omega, fun j h h2 => by omega⟩ ?_
  rintro i ⟨hi, hinv⟩ ih
  by_cases h : (i : Int) < ps.length
  · have h' : i < ps.length := by omega
    have hw : IntKind.i64.wrap ((i : Int) + 1) = ((i + 1 : Nat) : Int) := by rw [w64 (by omega) (by omega)]; omega
    have h0i : (0 : Int) ≤ i := by omega
    have hx := pgs_get h'
    have hl := hps _ (List.getElem_mem h')
    have hno : pgOk ps[i].l ps[i].cs = false → vi .i64 (i : Int) = vi .i64 (idxF ps) := fun hk => by rw [idxF_some h' hk hinv]
    have hnx : pgOk ps[i].l ps[i].cs = true → ∀ (j : Nat) (h : j < ps.length), j < i + 1 → pgOk ps[j].l ps[j].cs = true := fun hk j hj hji => by
      by_cases hjx : j = i
      · subst hjx; exact hk
      · exact hinv j hj (by omega)
    generalize ps[i] = p at hx hno hnx hl
    simp only [wk, upd, binR, ↓reduceIte, Nat.reduceEqDiff, reduceCtorEq, ofConst, ofCell, okCell, arI, cmpI, RetQ, RetM, finV, finC, finMV, finMC, resOf, V.w1, cellsV, refsC, refsO, callR, Nat.reduceAdd, Nat.reduceMul, Nat.reduceSub, Nat.reduceLeDiff, Nat.reduceLT, Nat.reduceBEq, boxR, idxR, loadR, storeR, readSl, lenR, sliceR, boundR, makeR, pureC, pureL, TD.isAgg, Int.reduceEq, Int.reduceNe, Int.reduceLT, Int.reduceLE, Int.reduceGT, Int.reduceGE, Int.reduceToNat, Int.reduceSub, Int.reduceAdd, Int.reduceMul, likeL, likeP, eqLP, pgC_len8 hl, celsC_len8 hl, pgC_drop1, pgC_drop17 hl, celsC_all hl, pgC_fold, pgC_all hl, goR_pg0, noS_mk, refs_pgF, refs_celsF, ren_pg, ren_cels, fin_pg, finM_pg, fin_cels, finM_cels, pureL_pg, pureL_cels, h, h0i, elem_eq hx, pgP_map, pgP_len8 hl, pgP_ne]
    refine call_by (c113 p.l p.cs hl) ?_
    cases hp : pgOk p.l p.cs <;> simp only [wk, upd, binR, ↓reduceIte, Nat.reduceEqDiff, reduceCtorEq, ofConst, ofCell, okCell, arI, cmpI, RetQ, RetM, finV, finC, finMV, finMC, resOf, V.w1, cellsV, refsC, refsO, callR, Nat.reduceAdd, Nat.reduceMul, Nat.reduceSub, Nat.reduceLeDiff, Nat.reduceLT, Nat.reduceBEq, boxR, idxR, loadR, storeR, readSl, lenR, sliceR, boundR, makeR, pureC, pureL, TD.isAgg, Int.reduceEq, Int.reduceNe, Int.reduceLT, Int.reduceLE, Int.reduceGT, Int.reduceGE, Int.reduceToNat, Int.reduceSub, Int.reduceAdd, Int.reduceMul, likeL, likeP, eqLP, pgC_len8 hl, celsC_len8 hl, pgC_drop1, pgC_drop17 hl, celsC_all hl, pgC_fold, pgC_all hl, goR_pg0, noS_mk, refs_pgF, refs_celsF, ren_pg, ren_cels, fin_pg, finM_pg, fin_cels, finM_cels, pureL_pg, pureL_cels]
    · exact hno hp
    · exact ih (i + 1) _ ⟨by omega, hnx hp⟩ (by omega) (weak_pure ⟨rfl, rfl, rfl, by simp only [wk, upd, binR, ↓reduceIte, Nat.reduceEqDiff, reduceCtorEq, ofConst, ofCell, okCell, arI, cmpI, RetQ, RetM, finV, finC, finMV, finMC, resOf, V.w1, cellsV, refsC, refsO, callR, Nat.reduceAdd, Nat.reduceMul, Nat.reduceSub, Nat.reduceLeDiff, Nat.reduceLT, Nat.reduceBEq, boxR, idxR, loadR, storeR, readSl, lenR, sliceR, boundR, makeR, pureC, pureL, TD.isAgg, hw], trivial⟩ rfl hE)
  · simp only [wk, upd, binR, ↓reduceIte, Nat.reduceEqDiff, reduceCtorEq, ofConst, ofCell, okCell, arI, cmpI, RetQ, RetM, finV, finC, finMV, finMC, resOf, V.w1, cellsV, refsC, refsO, callR, Nat.reduceAdd, Nat.reduceMul, Nat.reduceSub, Nat.reduceLeDiff, Nat.reduceLT, Nat.reduceBEq, boxR, idxR, loadR, storeR, readSl, lenR, sliceR, boundR, makeR, pureC, pureL, TD.isAgg, Int.reduceEq, Int.reduceNe, Int.reduceLT, Int.reduceLE, Int.reduceGT, Int.reduceGE, Int.reduceToNat, Int.reduceSub, Int.reduceAdd, Int.reduceMul, likeL, likeP, eqLP, h]
    rw [idxF_none fun j hj => hinv j hj (by omega)]

theorem c112 (ps : List Pag) (hps : okPs ps) (hm : ps.length ≤ 1000000) : ConSem Try.prog tab 112 [vs (pgs ps), .one (.p (.func 113))] [] (vb (!allOk ps)) [] := by
  refine con_pure tabOk mixedOk Try.func112 rfl (by decide) (by kernel_rfl) (by show (2:Nat) ≤ _; decide) fun E hE => go_start ?_
  simp only [Try.f112, wk, upd, binR, ↓reduceIte, Nat.reduceEqDiff, reduceCtorEq, ofConst, ofCell, okCell, arI, cmpI, RetQ, RetM, finV, finC, finMV, finMC, resOf, V.w1, cellsV, refsC, refsO, callR, Nat.reduceAdd, Nat.reduceMul, Nat.reduceSub, Nat.reduceLeDiff, Nat.reduceLT, Nat.reduceBEq, boxR, idxR, loadR, storeR, readSl, lenR, sliceR, boundR, makeR, pureC, pureL, TD.isAgg, Int.reduceEq, Int.reduceNe, Int.reduceLT, Int.reduceLE, Int.reduceGT, Int.reduceGE, Int.reduceToNat, Int.reduceSub, Int.reduceAdd, Int.reduceMul, likeL, likeP, eqLP]
  refine call_by (c127 ps hps hm) ?_
  simp only [wk, upd, binR, ↓reduceIte, Nat.reduceEqDiff, reduceCtorEq, ofConst, ofCell, okCell, arI, cmpI, RetQ, RetM, finV, finC, finMV, finMC, resOf, V.w1, cellsV, refsC, refsO, callR, Nat.reduceAdd, Nat.reduceMul, Nat.reduceSub, Nat.reduceLeDiff, Nat.reduceLT, Nat.reduceBEq, boxR, idxR, loadR, storeR, readSl, lenR, sliceR, boundR, makeR, pureC, pureL, TD.isAgg, Int.reduceEq, Int.reduceNe, Int.reduceLT, Int.reduceLE, Int.reduceGT, Int.reduceGE, Int.reduceToNat, Int.reduceSub, Int.reduceAdd, Int.reduceMul, likeL, likeP, eqLP]
  exact vbeq (idxF_all ps)

theorem c87 (ps qs : List Pag) (hp : okPs ps) (hq : okPs qs) (hm : ps.length ≤ 1000000) : ConSem Try.prog tab 87 [vs (pgs ps), vs (pgs qs)] [] (vb (decide (ps = qs))) [] := by
  refine con_pure tabOk mixedOk Try.func87 rfl (by decide) (by kernel_rfl) (by show (2:Nat) ≤ _; decide) fun E hE => go_start ?_
  by_cases hlen : ps.length = qs.length
  rotate_left
  · have e : ((ps.length : Int) = qs.length) = False := eq_false (by omega)
    simp only [Try.f87, wk, upd, binR, ↓reduceIte, Nat.reduceEqDiff, reduceCtorEq, ofConst, ofCell, okCell, arI, cmpI, RetQ, RetM, finV, finC, finMV, finMC, resOf, V.w1, cellsV, refsC, refsO, callR, Nat.reduceAdd, Nat.reduceMul, Nat.reduceSub, Nat.reduceLeDiff, Nat.reduceLT, Nat.reduceBEq, boxR, idxR, loadR, storeR, readSl, lenR, sliceR, boundR, makeR, pureC, pureL, TD.isAgg, Int.reduceEq, Int.reduceNe, Int.reduceLT, Int.reduceLE, Int.reduceGT, Int.reduceGE, Int.reduceToNat, Int.reduceSub, Int.reduceAdd, Int.reduceMul, likeL, likeP, eqLP, pgs_length, e]
    exact vbeq (decide_eq_false (fun h => hlen (by rw [h]))).symm
  have e : ((ps.length : Int) = qs.length) = True := eq_true (by omega)
  simp only [Try.f87, wk, upd, binR, ↓reduceIte, Nat.reduceEqDiff, reduceCtorEq, ofConst, ofCell, okCell, arI, cmpI, RetQ, RetM, finV, finC, finMV, finMC, resOf, V.w1, cellsV, refsC, refsO, callR, Nat.reduceAdd, Nat.reduceMul, Nat.reduceSub, Nat.reduceLeDiff, Nat.reduceLT, Nat.reduceBEq, boxR, idxR, loadR, storeR, readSl, lenR, sliceR, boundR, makeR, pureC, pureL, TD.isAgg, Int.reduceEq, Int.reduceNe, Int.reduceLT, Int.reduceLE, Int.reduceGT, Int.reduceGE, Int.reduceToNat, Int.reduceSub, Int.reduceAdd, Int.reduceMul, likeL, likeP, eqLP, pgs_length, e]
  refine aw_ind (fun i : Nat => ⟨tOf [(0, vs (pgs ps)), (1, vs (pgs qs)), (12, vi .i64 ps.length), (13, vi .i64 i)], fun _ => none⟩) (fun i => i ≤ ps.length ∧ ∀ (j : Nat) (h : j < ps.length) (h2 : j < qs.length), j < i → ps[j] = qs[j]) (fun i => ps.length - i) 0 rfl
    (weak_pure ⟨rfl, rfl, rfl, rfl, trivial⟩ rfl hE) ⟨by omega, fun j h h2 h3 => by omega⟩ ?_
  rintro i ⟨hi, hinv⟩ ih
  by_cases h : (i : Int) < ps.length
  · have h' : i < ps.length := by omega
    have h2' : i < qs.length := by omega
    have hw : IntKind.i64.wrap ((i : Int) + 1) = ((i + 1 : Nat) : Int) := by rw [w64 (by omega) (by omega)]; omega
    have h0i : (0 : Int) ≤ i := by omega
    have hx := pgs_get h'
    have hy := pgs_get h2'
    have hl := hp _ (List.getElem_mem h')
    have hl2 := hq _ (List.getElem_mem h2')
    have hno : ps[i] ≠ qs[i] → V.one (Ce.p (PV.bool false)) = V.one (Ce.p (PV.bool (decide (ps = qs)))) := fun hk => vbeq (decide_eq_false (fun e => hk (by simp [e]))).symm
    have hnx : ps[i] = qs[i] → ∀ (j : Nat) (h : j < ps.length) (h2 : j < qs.length), j < i + 1 → ps[j] = qs[j] := fun hk j hj hj2 hji => by
      by_cases hjx : j = i
      · subst hjx; exact hk
      · exact hinv j hj hj2 (by omega)
    generalize ps[i] = p at hx hno hnx hl
    generalize qs[i] = q at hy hno hnx hl2
    obtain ⟨l1, cs1⟩ := p
    obtain ⟨l2, cs2⟩ := q
    simp only at hl hl2 hx hy
    have hlen2 : cs1.length = cs2.length := by omega
    by_cases he : l1 = l2 ∧ cs1 = cs2
    · obtain ⟨rfl, rfl⟩ := he
      simp only [wk, upd, binR, ↓reduceIte, Nat.reduceEqDiff, reduceCtorEq, ofConst, ofCell, okCell, arI, cmpI, RetQ, RetM, finV, finC, finMV, finMC, resOf, V.w1, cellsV, refsC, refsO, callR, Nat.reduceAdd, Nat.reduceMul, Nat.reduceSub, Nat.reduceLeDiff, Nat.reduceLT, Nat.reduceBEq, boxR, idxR, loadR, storeR, readSl, lenR, sliceR, boundR, makeR, pureC, pureL, TD.isAgg, Int.reduceEq, Int.reduceNe, Int.reduceLT, Int.reduceLE, Int.reduceGT, Int.reduceGE, Int.reduceToNat, Int.reduceSub, Int.reduceAdd, Int.reduceMul, likeL, likeP, eqLP, pgC_len8 hl, celsC_len8 hl, pgC_drop1, pgC_drop17 hl, celsC_all hl, pgC_fold, pgC_all hl, goR_pg0, noS_mk, refs_pgF, refs_celsF, ren_pg, ren_cels, fin_pg, finM_pg, fin_cels, finM_cels, pureL_pg, pureL_cels, h, h0i, elem_eq hx, elem_eq hy, pgP_map, pgP_len8 hl, pgP_ne, eqLP_pg rfl]
      exact ⟨likeL_pg (m := 0) (b := noCels) hl, rfl, ih (i + 1) _ ⟨by omega, hnx rfl⟩ (by omega) (weak_pure ⟨rfl, rfl, rfl, by simp only [wk, upd, binR, ↓reduceIte, Nat.reduceEqDiff, reduceCtorEq, ofConst, ofCell, okCell, arI, cmpI, RetQ, RetM, finV, finC, finMV, finMC, resOf, V.w1, cellsV, refsC, refsO, callR, Nat.reduceAdd, Nat.reduceMul, Nat.reduceSub, Nat.reduceLeDiff, Nat.reduceLT, Nat.reduceBEq, boxR, idxR, loadR, storeR, readSl, lenR, sliceR, boundR, makeR, pureC, pureL, TD.isAgg, hw], trivial⟩ rfl hE)⟩
    · have hef : eqLP (pgP l1 cs1) (pgP l2 cs2) = false := by rw [eqLP_pg hlen2]; exact decide_eq_false he
      simp only [wk, upd, binR, ↓reduceIte, Nat.reduceEqDiff, reduceCtorEq, ofConst, ofCell, okCell, arI, cmpI, RetQ, RetM, finV, finC, finMV, finMC, resOf, V.w1, cellsV, refsC, refsO, callR, Nat.reduceAdd, Nat.reduceMul, Nat.reduceSub, Nat.reduceLeDiff, Nat.reduceLT, Nat.reduceBEq, boxR, idxR, loadR, storeR, readSl, lenR, sliceR, boundR, makeR, pureC, pureL, TD.isAgg, Int.reduceEq, Int.reduceNe, Int.reduceLT, Int.reduceLE, Int.reduceGT, Int.reduceGE, Int.reduceToNat, Int.reduceSub, Int.reduceAdd, Int.reduceMul, likeL, likeP, eqLP, pgC_len8 hl, celsC_len8 hl, pgC_drop1, pgC_drop17 hl, celsC_all hl, pgC_fold, pgC_all hl, goR_pg0, noS_mk, refs_pgF, refs_celsF, ren_pg, ren_cels, fin_pg, finM_pg, fin_cels, finM_cels, pureL_pg, pureL_cels, h, h0i, elem_eq hx, elem_eq hy, pgP_map, pgP_len8 hl, pgP_len8 hl2, pgC_len8 hl2, pgC_all hl2, celsC_len8 hl2, celsC_all hl2, pgP_ne, hef]
      exact ⟨⟨likeL_pg (m := 0) (b := noCels) hl, likeL_pg (m := 0) (b := noCels) hl2⟩, rfl, hno (by intro e; cases e; exact he ⟨rfl, rfl⟩)⟩
  · simp only [wk, upd, binR, ↓reduceIte, Nat.reduceEqDiff, reduceCtorEq, ofConst, ofCell, okCell, arI, cmpI, RetQ, RetM, finV, finC, finMV, finMC, resOf, V.w1, cellsV, refsC, refsO, callR, Nat.reduceAdd, Nat.reduceMul, Nat.reduceSub, Nat.reduceLeDiff, Nat.reduceLT, Nat.reduceBEq, boxR, idxR, loadR, storeR, readSl, lenR, sliceR, boundR, makeR, pureC, pureL, TD.isAgg, Int.reduceEq, Int.reduceNe, Int.reduceLT, Int.reduceLE, Int.reduceGT, Int.reduceGE, Int.reduceToNat, Int.reduceSub, Int.reduceAdd, Int.reduceMul, likeL, likeP, eqLP, h]
    refine vbeq (decide_eq_true ?_).symm
    exact List.ext_getElem hlen fun j h1 h2 => hinv j h1 h2 (by omega)
end Go.AW

/- Pages behind the changes that they lack, in the program. -/
set_option maxRecDepth 100000
set_option maxHeartbeats 8000000
set_option linter.unusedSimpArgs false
set_option linter.unusedVariables false
namespace Go.AW
open Go.Proofs

theorem c114m (x : List PV) (xs : List (List PV)) (h : ∀ y ∈ x :: xs, y.length = 17) (hb : (xs.length + 1) * 200 ≤ 140737488355328) (hm : xs.length + 1 ≤ maxLen) :
    ConSem Try.prog tab 114 [vs (x :: xs)] [] (.one (.osl 5 (xs.length + 1))) [(5, .sl 55 (x :: xs))] := by
  refine con_mem tabOk mixedOk Try.func114 rfl (by decide) (by kernel_rfl) false (by show (1:Nat) ≤ _; decide) rfl fun E hE => go_start ?_
  simp only [Try.f114, wk, upd, binR, ↓reduceIte, Nat.reduceEqDiff, reduceCtorEq, ofConst, ofCell, okCell, arI, cmpI, RetQ, RetM, finV, finC, finMV, finMC, resOf, V.w1, cellsV, refsC, refsO, callR, Nat.reduceAdd, Nat.reduceMul, Nat.reduceSub, Nat.reduceLeDiff, Nat.reduceLT, Nat.reduceBEq, boxR, idxR, loadR, storeR, readSl, lenR, sliceR, boundR, makeR, pureC, pureL, TD.isAgg, Int.reduceEq, Int.reduceNe, Int.reduceLT, Int.reduceLE, Int.reduceGT, Int.reduceGE, Int.reduceToNat, Int.reduceSub, Int.reduceAdd, Int.reduceMul, likeL, likeP, eqLP]
  exact ⟨⟨h x (by simp), fun y hy => h y (by simp [hy])⟩, hb, hm⟩
theorem c114l (x : List PV) (xs : List (List PV)) (h : ∀ y ∈ x :: xs, y.length = 17) (hb : (xs.length + 1) * 200 ≤ 140737488355328) (hm : xs.length + 1 ≤ maxLen) :
    ConSem Try.prog tab 114 [.one (.osl 1000 (xs.length + 1))] [(1000, .sl 55 (x :: xs))] (.one (.osl 5 (xs.length + 1))) [(1000, .sl 55 (x :: xs)), (5, .sl 55 (x :: xs))] := by
  refine con_mem tabOk mixedOk Try.func114 rfl (by decide) (by kernel_rfl) false (by show (1:Nat) ≤ _; decide) rfl fun E hE => go_start ?_
  simp only [Try.f114, wk, upd, binR, ↓reduceIte, Nat.reduceEqDiff, reduceCtorEq, ofConst, ofCell, okCell, arI, cmpI, RetQ, RetM, finV, finC, finMV, finMC, resOf, V.w1, cellsV, refsC, refsO, callR, Nat.reduceAdd, Nat.reduceMul, Nat.reduceSub, Nat.reduceLeDiff, Nat.reduceLT, Nat.reduceBEq, boxR, idxR, loadR, storeR, readSl, lenR, sliceR, boundR, makeR, pureC, pureL, TD.isAgg, Int.reduceEq, Int.reduceNe, Int.reduceLT, Int.reduceLE, Int.reduceGT, Int.reduceGE, Int.reduceToNat, Int.reduceSub, Int.reduceAdd, Int.reduceMul, likeL, likeP, eqLP]
  exact ⟨⟨h x (by simp), fun y hy => h y (by simp [hy])⟩, hb, hm⟩

/-- The changes that pages lack, made: the pages, how many. -/
def raF : List Stm → List Pag → Int → Option (List Pag × Int)
  | [], ps, m => some (ps, m)
  | x :: r, ps, m =>
    if isCh x.r = true then
      match ps[x.r.ch.p.toNat]? with
      | none => none
      | some p =>
        if x.r.lsn ≤ p.l then raF r ps m
        else if (apF p.l p.cs x.r.ch x.r.lsn).2.2 = 0 then raF r (ps.set x.r.ch.p.toNat ⟨(apF p.l p.cs x.r.ch x.r.lsn).1, (apF p.l p.cs x.r.ch x.r.lsn).2.1⟩) (m + 1)
        else none
    else raF r ps m
def raR (ps : List Pag) (xs : List Stm) : List Pag × Int × Int :=
  if 32 < ps.length ∨ allOk ps = false then ([], 0, 1)
  else if spOk 8 xs = false then ([], 0, 2)
  else match raF xs ps 0 with
    | none => ([], 0, 2)
    | some (qs, m) => (qs, m, 0)

theorem pgP_drop17 {l : Int} {cs : List Cel} (h : cs.length = 8) : List.drop 17 (pgP l cs) = [] := List.drop_of_length_le (by rw [pgP_len8 h]; omega)
theorem spOk_at {n : Int} {xs : List Stm} (h : spOk n xs = true) {i : Nat} (hi : i < xs.length) : nodeOk n xs[i] = true := by
  simp only [spOk, Bool.and_eq_true, List.all_eq_true] at h
  exact h.1 _ (List.getElem_mem hi)
theorem ch_rec {x : Stm} {n : Int} (h : nodeOk n x = true) (hc : isCh x.r = true) : chOk x.r.ch = true := by
  simp only [nodeOk, Bool.and_eq_true] at h
  have hp := recOk_iff.1 h.2
  simp only [isCh, decide_eq_true_eq] at hc
  rcases hp.2.2.1 with h1 | h1
  · exact h1.2
  · omega
theorem okPs_set {ps : List Pag} (h : okPs ps) (i : Nat) {p : Pag} (hp : p.cs.length = 8) : okPs (ps.set i p) := by
  intro q hq
  rcases List.mem_or_eq_of_mem_set hq with h1 | rfl
  · exact h q h1
  · exact hp

structure S85 where
  i : Nat
  ps : List Pag
  m : Int

def raV (x : List Pag × Int × Int) : V := .tup [.one (.p (.slice (pgs x.1))), .one (.p (.int .i64 x.2.1)), .one (.p (.int .i64 x.2.2))]

theorem c85N (ps : List Pag) (hps : okPs ps) (hm : ps.length ≤ 1000000) (xs : List Stm) (hxs : xs.length ≤ 1000000) (p0 : Pag) (r0 : List Pag) (hp0 : ps = p0 :: r0) : ConSem Try.prog tab 85 [vs (pgs ps), vs (sts xs)] [] (raV (raR ps xs)) [] := by
  refine con_pure tabOk mixedOk Try.func85 rfl (by decide) (by kernel_rfl) (by show (2:Nat) ≤ _; decide) fun E hE => go_start ?_
  have hr : ∀ z, raR ps xs = z → raV z = raV (raR ps xs) := fun z h => by rw [h]
  generalize raV (raR ps xs) = X at hr ⊢
  have hml : 2000000 ≤ maxLen := by decide
  simp only [Try.f85, wk, upd, binR, ↓reduceIte, Nat.reduceEqDiff, reduceCtorEq, ofConst, ofCell, okCell, arI, cmpI, RetQ, RetM, finV, finC, finMV, finMC, resOf, V.w1, cellsV, refsC, refsO, callR, Nat.reduceAdd, Nat.reduceMul, Nat.reduceSub, Nat.reduceLeDiff, Nat.reduceLT, Nat.reduceBEq, boxR, idxR, loadR, storeR, readSl, lenR, sliceR, boundR, makeR, pureC, pureL, TD.isAgg, Int.reduceEq, Int.reduceNe, Int.reduceLT, Int.reduceLE, Int.reduceGT, Int.reduceGE, Int.reduceToNat, Int.reduceSub, Int.reduceAdd, Int.reduceMul, likeL, likeP, eqLP, pgs_length]
  refine ⟨fun h1 => hr ([], 0, 1) (by unfold raR; rw [if_pos (.inl (by omega))]), fun h1 => call_by (c112 ps hps hm) ?_⟩
  cases ha : allOk ps
  · simp only [wk, upd, binR, ↓reduceIte, Nat.reduceEqDiff, reduceCtorEq, ofConst, ofCell, okCell, arI, cmpI, RetQ, RetM, finV, finC, finMV, finMC, resOf, V.w1, cellsV, refsC, refsO, callR, Nat.reduceAdd, Nat.reduceMul, Nat.reduceSub, Nat.reduceLeDiff, Nat.reduceLT, Nat.reduceBEq, boxR, idxR, loadR, storeR, readSl, lenR, sliceR, boundR, makeR, pureC, pureL, TD.isAgg, Int.reduceEq, Int.reduceNe, Int.reduceLT, Int.reduceLE, Int.reduceGT, Int.reduceGE, Int.reduceToNat, Int.reduceSub, Int.reduceAdd, Int.reduceMul, likeL, likeP, eqLP]
    exact hr ([], 0, 1) (by unfold raR; rw [if_pos (.inr ha)])
  simp only [wk, upd, binR, ↓reduceIte, Nat.reduceEqDiff, reduceCtorEq, ofConst, ofCell, okCell, arI, cmpI, RetQ, RetM, finV, finC, finMV, finMC, resOf, V.w1, cellsV, refsC, refsO, callR, Nat.reduceAdd, Nat.reduceMul, Nat.reduceSub, Nat.reduceLeDiff, Nat.reduceLT, Nat.reduceBEq, boxR, idxR, loadR, storeR, readSl, lenR, sliceR, boundR, makeR, pureC, pureL, TD.isAgg, Int.reduceEq, Int.reduceNe, Int.reduceLT, Int.reduceLE, Int.reduceGT, Int.reduceGE, Int.reduceToNat, Int.reduceSub, Int.reduceAdd, Int.reduceMul, likeL, likeP, eqLP]
  refine call_by (c100 xs hxs) ?_
  cases hs : spOk 8 xs
  · simp only [wk, upd, binR, ↓reduceIte, Nat.reduceEqDiff, reduceCtorEq, ofConst, ofCell, okCell, arI, cmpI, RetQ, RetM, finV, finC, finMV, finMC, resOf, V.w1, cellsV, refsC, refsO, callR, Nat.reduceAdd, Nat.reduceMul, Nat.reduceSub, Nat.reduceLeDiff, Nat.reduceLT, Nat.reduceBEq, boxR, idxR, loadR, storeR, readSl, lenR, sliceR, boundR, makeR, pureC, pureL, TD.isAgg, Int.reduceEq, Int.reduceNe, Int.reduceLT, Int.reduceLE, Int.reduceGT, Int.reduceGE, Int.reduceToNat, Int.reduceSub, Int.reduceAdd, Int.reduceMul, likeL, likeP, eqLP]
    exact hr ([], 0, 2) (by unfold raR; rw [if_neg (by rw [ha]; simp; omega), if_pos hs])
  simp only [wk, upd, binR, ↓reduceIte, Nat.reduceEqDiff, reduceCtorEq, ofConst, ofCell, okCell, arI, cmpI, RetQ, RetM, finV, finC, finMV, finMC, resOf, V.w1, cellsV, refsC, refsO, callR, Nat.reduceAdd, Nat.reduceMul, Nat.reduceSub, Nat.reduceLeDiff, Nat.reduceLT, Nat.reduceBEq, boxR, idxR, loadR, storeR, readSl, lenR, sliceR, boundR, makeR, pureC, pureL, TD.isAgg, Int.reduceEq, Int.reduceNe, Int.reduceLT, Int.reduceLE, Int.reduceGT, Int.reduceGE, Int.reduceToNat, Int.reduceSub, Int.reduceAdd, Int.reduceMul, likeL, likeP, eqLP]
  have hR : ∀ z, raF xs ps 0 = z → raR ps xs = (match z with | none => ([], 0, 2) | some (qs, m) => (qs, m, 0)) := fun z hz => by
    unfold raR; rw [if_neg (by rw [ha]; simp; omega), if_neg (by rw [hs]; simp), hz]
  have hcl := c114m (pgP p0.l p0.cs) (pgs r0) (by have := pgs_rows hps; rw [hp0] at this; exact this) (by rw [pgs_length]; rw [hp0] at h1; simp at h1; omega) (by rw [pgs_length]; rw [hp0] at h1; simp at h1; omega)
  have hpe : pgs ps = pgP p0.l p0.cs :: pgs r0 := by rw [hp0]; rfl
  rw [← hpe, pgs_length] at hcl
  refine call_by hcl ?_
  simp only [wk, upd, binR, ↓reduceIte, Nat.reduceEqDiff, reduceCtorEq, ofConst, ofCell, okCell, arI, cmpI, RetQ, RetM, finV, finC, finMV, finMC, resOf, V.w1, cellsV, refsC, refsO, callR, Nat.reduceAdd, Nat.reduceMul, Nat.reduceSub, Nat.reduceLeDiff, Nat.reduceLT, Nat.reduceBEq, boxR, idxR, loadR, storeR, readSl, lenR, sliceR, boundR, makeR, pureC, pureL, TD.isAgg, Int.reduceEq, Int.reduceNe, Int.reduceLT, Int.reduceLE, Int.reduceGT, Int.reduceGE, Int.reduceToNat, Int.reduceSub, Int.reduceAdd, Int.reduceMul, likeL, likeP, eqLP, sts_length]
  refine aw_ind (fun a : S85 => ⟨tOf [(7, .one (.osl 26 (r0.length + 1))), (8, vi .i64 a.m), (27, vs (sts xs)), (28, vi .i64 xs.length), (29, vi .i64 a.i)], mOf [(26, .sl 55 (pgs a.ps))]⟩)
    (fun a => a.i ≤ xs.length ∧ a.ps.length = ps.length ∧ okPs a.ps ∧ (0 ≤ a.m ∧ a.m ≤ a.i) ∧ raF xs ps 0 = raF (xs.drop a.i) a.ps a.m) (fun a => xs.length - a.i) ⟨0, ps, 0⟩ rfl
    (weak_mem (M := []) ⟨rfl, rfl, rfl, rfl, rfl, trivial⟩ ⟨rfl, trivial⟩ rfl rfl (by rw [hE]; rfl) rfl) ⟨by simp, rfl, hps, by simp, rfl⟩ ?_
  rintro ⟨i, qs, m1⟩ ⟨hi, hql, hqs, hm1, hinv⟩ ih
  simp only at hi hql hqs hm1 hinv
  by_cases h : (i : Int) < xs.length
  · have h' : i < xs.length := by omega
    have hw : IntKind.i64.wrap ((i : Int) + 1) = ((i + 1 : Nat) : Int) := by rw [w64 (by omega) (by omega)]; omega
    have ewm : IntKind.i64.wrap (m1 + 1) = m1 + 1 := w64 (by omega) (by omega)
    have h0i : (0 : Int) ≤ i := by omega
    have hx := sts_get h'
    have hnk := spOk_at hs h'
    rw [drop_cons h'] at hinv
    have hskip := fun (he : raF (xs[i] :: xs.drop (i + 1)) qs m1 = raF (xs.drop (i + 1)) qs m1) σ' hws => ih ⟨i + 1, qs, m1⟩ σ' ⟨by show i + 1 ≤ _; omega, hql, hqs, by show 0 ≤ m1 ∧ m1 ≤ ((i + 1 : Nat) : Int); omega, hinv.trans he⟩ (by show xs.length - (i + 1) < xs.length - i; omega) hws
    have hstep := fun (qs2 : List Pag) (hl2 : qs2.length = ps.length) (hb : okPs qs2) (he : raF (xs[i] :: xs.drop (i + 1)) qs m1 = raF (xs.drop (i + 1)) qs2 (m1 + 1)) σ' hws => ih ⟨i + 1, qs2, m1 + 1⟩ σ' ⟨by show i + 1 ≤ _; omega, hl2, hb, by show 0 ≤ m1 + 1 ∧ m1 + 1 ≤ ((i + 1 : Nat) : Int); omega, hinv.trans he⟩ (by show xs.length - (i + 1) < xs.length - i; omega) hws
    have hfail := fun (he : raF (xs[i] :: xs.drop (i + 1)) qs m1 = none) => hr ([], 0, 2) (hR _ (hinv.trans he))
    have hof := c101 xs[i].r
    generalize xs.drop (i + 1) = rest at hskip hstep hfail
    generalize xs[i] = x at hx hskip hstep hfail hof hnk
    simp only [raF] at hskip hstep hfail
    clear hinv ih
    simp only [wk, upd, binR, ↓reduceIte, Nat.reduceEqDiff, reduceCtorEq, ofConst, ofCell, okCell, arI, cmpI, RetQ, RetM, finV, finC, finMV, finMC, resOf, V.w1, cellsV, refsC, refsO, callR, Nat.reduceAdd, Nat.reduceMul, Nat.reduceSub, Nat.reduceLeDiff, Nat.reduceLT, Nat.reduceBEq, boxR, idxR, loadR, storeR, readSl, lenR, sliceR, boundR, makeR, pureC, pureL, TD.isAgg, Int.reduceEq, Int.reduceNe, Int.reduceLT, Int.reduceLE, Int.reduceGT, Int.reduceGE, Int.reduceToNat, Int.reduceSub, Int.reduceAdd, Int.reduceMul, likeL, likeP, eqLP, h, h0i, elem_eq hx, stP, recP, recC, chP]
    refine call_by hof ?_
    cases hc : isCh x.r
    · simp only [wk, upd, binR, ↓reduceIte, Nat.reduceEqDiff, reduceCtorEq, ofConst, ofCell, okCell, arI, cmpI, RetQ, RetM, finV, finC, finMV, finMC, resOf, V.w1, cellsV, refsC, refsO, callR, Nat.reduceAdd, Nat.reduceMul, Nat.reduceSub, Nat.reduceLeDiff, Nat.reduceLT, Nat.reduceBEq, boxR, idxR, loadR, storeR, readSl, lenR, sliceR, boundR, makeR, pureC, pureL, TD.isAgg, Int.reduceEq, Int.reduceNe, Int.reduceLT, Int.reduceLE, Int.reduceGT, Int.reduceGE, Int.reduceToNat, Int.reduceSub, Int.reduceAdd, Int.reduceMul, likeL, likeP, eqLP]
      exact hskip (by rw [hc]; rfl) _ (weak_mem (M := []) ⟨rfl, rfl, rfl, rfl, by simp only [wk, upd, binR, ↓reduceIte, Nat.reduceEqDiff, reduceCtorEq, ofConst, ofCell, okCell, arI, cmpI, RetQ, RetM, finV, finC, finMV, finMC, resOf, V.w1, cellsV, refsC, refsO, callR, Nat.reduceAdd, Nat.reduceMul, Nat.reduceSub, Nat.reduceLeDiff, Nat.reduceLT, Nat.reduceBEq, boxR, idxR, loadR, storeR, readSl, lenR, sliceR, boundR, makeR, pureC, pureL, TD.isAgg, hw], trivial⟩ ⟨rfl, trivial⟩ rfl rfl (by rw [hE]; rfl) rfl)
    simp only [hc, if_true] at hskip hstep hfail
    have hch := (chOk_iff _).1 (ch_rec hnk hc)
    obtain ⟨j, hj⟩ : ∃ j : Nat, x.r.ch.p = j := ⟨x.r.ch.p.toNat, by omega⟩
    have hjt : x.r.ch.p.toNat = j := by omega
    rw [hjt] at hskip hstep hfail
    have hKp : ps.length = (r0.length + 1 : Nat) := by rw [hp0]; rfl
    have hKq : (pgs qs).length = (r0.length + 1 : Nat) := by rw [pgs_length]; omega
    by_cases hge : (ps.length : Int) ≤ x.r.ch.p
    · have hge2 : ((r0.length + 1 : Nat) : Int) ≤ x.r.ch.p := by omega
      simp only [wk, upd, binR, ↓reduceIte, Nat.reduceEqDiff, reduceCtorEq, ofConst, ofCell, okCell, arI, cmpI, RetQ, RetM, finV, finC, finMV, finMC, resOf, V.w1, cellsV, refsC, refsO, callR, Nat.reduceAdd, Nat.reduceMul, Nat.reduceSub, Nat.reduceLeDiff, Nat.reduceLT, Nat.reduceBEq, boxR, idxR, loadR, storeR, readSl, lenR, sliceR, boundR, makeR, pureC, pureL, TD.isAgg, Int.reduceEq, Int.reduceNe, Int.reduceLT, Int.reduceLE, Int.reduceGT, Int.reduceGE, Int.reduceToNat, Int.reduceSub, Int.reduceAdd, Int.reduceMul, likeL, likeP, eqLP, hge2, hKq]
      exact hfail (by rw [List.getElem?_eq_none (by omega)])
    have hge2 : (((r0.length + 1 : Nat) : Int) ≤ x.r.ch.p) = False := eq_false (by omega)
    have hjq : j < qs.length := by omega
    have hy := pgs_get hjq
    have hly := hqs _ (List.getElem_mem hjq)
    rw [List.getElem?_eq_getElem hjq] at hskip hstep hfail
    simp only at hskip hstep hfail
    have hlq : ∀ q : Pag, q.cs.length = 8 → (qs.set j q).length = ps.length := fun q hq => by simpa using hql
    have hoq := fun (q : Pag) (hq : q.cs.length = 8) => okPs_set hqs j hq
    have hsetq := fun a b => pgs_set qs j ⟨a, b⟩
    have hap := c48 qs[j].l qs[j].cs hly x.r.ch x.r.lsn
    have hlA := apF_len hly x.r.ch x.r.lsn (l := qs[j].l)
    generalize qs[j] = p at hy hly hskip hstep hfail hap hlA
    obtain ⟨l1, cs1⟩ := p
    simp only at hy hly hskip hstep hfail hap hlA
    have hin : inR (j : Int) (r0.length + 1 : Nat) := ⟨by omega, by omega⟩
    have hl := hly
    by_cases hlo : x.r.lsn ≤ l1
    · simp only [wk, upd, binR, ↓reduceIte, Nat.reduceEqDiff, reduceCtorEq, ofConst, ofCell, okCell, arI, cmpI, RetQ, RetM, finV, finC, finMV, finMC, resOf, V.w1, cellsV, refsC, refsO, callR, Nat.reduceAdd, Nat.reduceMul, Nat.reduceSub, Nat.reduceLeDiff, Nat.reduceLT, Nat.reduceBEq, boxR, idxR, loadR, storeR, readSl, lenR, sliceR, boundR, makeR, pureC, pureL, TD.isAgg, Int.reduceEq, Int.reduceNe, Int.reduceLT, Int.reduceLE, Int.reduceGT, Int.reduceGE, Int.reduceToNat, Int.reduceSub, Int.reduceAdd, Int.reduceMul, likeL, likeP, eqLP, pgC_len8 hl, celsC_len8 hl, pgC_drop1, pgC_drop17 hl, celsC_all hl, pgC_fold, pgC_all hl, goR_pg0, noS_mk, refs_pgF, refs_celsF, ren_pg, ren_cels, fin_pg, finM_pg, fin_cels, finM_cels, pureL_pg, pureL_cels, hge2, hKq]
      simp only [wk, upd, binR, ↓reduceIte, Nat.reduceEqDiff, reduceCtorEq, ofConst, ofCell, okCell, arI, cmpI, RetQ, RetM, finV, finC, finMV, finMC, resOf, V.w1, cellsV, refsC, refsO, callR, Nat.reduceAdd, Nat.reduceMul, Nat.reduceSub, Nat.reduceLeDiff, Nat.reduceLT, Nat.reduceBEq, boxR, idxR, loadR, storeR, readSl, lenR, sliceR, boundR, makeR, pureC, pureL, TD.isAgg, Int.reduceEq, Int.reduceNe, Int.reduceLT, Int.reduceLE, Int.reduceGT, Int.reduceGE, Int.reduceToNat, Int.reduceSub, Int.reduceAdd, Int.reduceMul, likeL, likeP, eqLP, pgC_len8 hl, celsC_len8 hl, pgC_drop1, pgC_drop17 hl, celsC_all hl, pgC_fold, pgC_all hl, goR_pg0, noS_mk, refs_pgF, refs_celsF, ren_pg, ren_cels, fin_pg, finM_pg, fin_cels, finM_cels, pureL_pg, pureL_cels, hj, hKq, hin, elem_eq hy, pgP_map, hlo]
      exact ⟨rfl, hskip (by rw [if_pos hlo]) _ (weak_mem (M := []) ⟨rfl, rfl, rfl, rfl, by simp only [wk, upd, binR, ↓reduceIte, Nat.reduceEqDiff, reduceCtorEq, ofConst, ofCell, okCell, arI, cmpI, RetQ, RetM, finV, finC, finMV, finMC, resOf, V.w1, cellsV, refsC, refsO, callR, Nat.reduceAdd, Nat.reduceMul, Nat.reduceSub, Nat.reduceLeDiff, Nat.reduceLT, Nat.reduceBEq, boxR, idxR, loadR, storeR, readSl, lenR, sliceR, boundR, makeR, pureC, pureL, TD.isAgg, hw], trivial⟩ ⟨rfl, trivial⟩ rfl rfl (by rw [hE]; rfl) rfl)⟩
    rw [if_neg hlo] at hstep hfail
    simp only [wk, upd, binR, ↓reduceIte, Nat.reduceEqDiff, reduceCtorEq, ofConst, ofCell, okCell, arI, cmpI, RetQ, RetM, finV, finC, finMV, finMC, resOf, V.w1, cellsV, refsC, refsO, callR, Nat.reduceAdd, Nat.reduceMul, Nat.reduceSub, Nat.reduceLeDiff, Nat.reduceLT, Nat.reduceBEq, boxR, idxR, loadR, storeR, readSl, lenR, sliceR, boundR, makeR, pureC, pureL, TD.isAgg, Int.reduceEq, Int.reduceNe, Int.reduceLT, Int.reduceLE, Int.reduceGT, Int.reduceGE, Int.reduceToNat, Int.reduceSub, Int.reduceAdd, Int.reduceMul, likeL, likeP, eqLP, pgC_len8 hl, celsC_len8 hl, pgC_drop1, pgC_drop17 hl, celsC_all hl, pgC_fold, pgC_all hl, goR_pg0, noS_mk, refs_pgF, refs_celsF, ren_pg, ren_cels, fin_pg, finM_pg, fin_cels, finM_cels, pureL_pg, pureL_cels, hge2, hKq]
    simp only [wk, upd, binR, ↓reduceIte, Nat.reduceEqDiff, reduceCtorEq, ofConst, ofCell, okCell, arI, cmpI, RetQ, RetM, finV, finC, finMV, finMC, resOf, V.w1, cellsV, refsC, refsO, callR, Nat.reduceAdd, Nat.reduceMul, Nat.reduceSub, Nat.reduceLeDiff, Nat.reduceLT, Nat.reduceBEq, boxR, idxR, loadR, storeR, readSl, lenR, sliceR, boundR, makeR, pureC, pureL, TD.isAgg, Int.reduceEq, Int.reduceNe, Int.reduceLT, Int.reduceLE, Int.reduceGT, Int.reduceGE, Int.reduceToNat, Int.reduceSub, Int.reduceAdd, Int.reduceMul, likeL, likeP, eqLP, pgC_len8 hl, celsC_len8 hl, pgC_drop1, pgC_drop17 hl, celsC_all hl, pgC_fold, pgC_all hl, goR_pg0, noS_mk, refs_pgF, refs_celsF, ren_pg, ren_cels, fin_pg, finM_pg, fin_cels, finM_cels, pureL_pg, pureL_cels, hj, hKq, hin, elem_eq hy, pgP_map, hlo]
    refine ⟨rfl, ?_⟩
    rw [← hj]
    refine call_by hap ?_
    by_cases he : (apF l1 cs1 x.r.ch x.r.lsn).2.2 = 0
    · have hst := hstep (qs.set j ⟨(apF l1 cs1 x.r.ch x.r.lsn).1, (apF l1 cs1 x.r.ch x.r.lsn).2.1⟩) (hlq ⟨_, _⟩ hlA) (hoq ⟨_, _⟩ hlA) (by rw [if_pos he])
      have hst2 := hsetq (apF l1 cs1 x.r.ch x.r.lsn).1 (apF l1 cs1 x.r.ch x.r.lsn).2.1
      generalize apF l1 cs1 x.r.ch x.r.lsn = z at hst hlA he hst2
      obtain ⟨z1, z2, z3⟩ := z
      simp only at hst hlA he hst2
      subst he
      simp only [wk, upd, binR, ↓reduceIte, Nat.reduceEqDiff, reduceCtorEq, ofConst, ofCell, okCell, arI, cmpI, RetQ, RetM, finV, finC, finMV, finMC, resOf, V.w1, cellsV, refsC, refsO, callR, Nat.reduceAdd, Nat.reduceMul, Nat.reduceSub, Nat.reduceLeDiff, Nat.reduceLT, Nat.reduceBEq, boxR, idxR, loadR, storeR, readSl, lenR, sliceR, boundR, makeR, pureC, pureL, TD.isAgg, Int.reduceEq, Int.reduceNe, Int.reduceLT, Int.reduceLE, Int.reduceGT, Int.reduceGE, Int.reduceToNat, Int.reduceSub, Int.reduceAdd, Int.reduceMul, likeL, likeP, eqLP, pgC_len8 hl, celsC_len8 hl, pgC_drop1, pgC_drop17 hl, celsC_all hl, pgC_fold, pgC_all hl, goR_pg0, noS_mk, refs_pgF, refs_celsF, ren_pg, ren_cels, fin_pg, finM_pg, fin_cels, finM_cels, pureL_pg, pureL_cels, pgC_len8 hlA, pgC_all hlA, celsC_len8 hlA, celsC_all hlA, ewm]
      simp only [wk, upd, binR, ↓reduceIte, Nat.reduceEqDiff, reduceCtorEq, ofConst, ofCell, okCell, arI, cmpI, RetQ, RetM, finV, finC, finMV, finMC, resOf, V.w1, cellsV, refsC, refsO, callR, Nat.reduceAdd, Nat.reduceMul, Nat.reduceSub, Nat.reduceLeDiff, Nat.reduceLT, Nat.reduceBEq, boxR, idxR, loadR, storeR, readSl, lenR, sliceR, boundR, makeR, pureC, pureL, TD.isAgg, Int.reduceEq, Int.reduceNe, Int.reduceLT, Int.reduceLE, Int.reduceGT, Int.reduceGE, Int.reduceToNat, Int.reduceSub, Int.reduceAdd, Int.reduceMul, likeL, likeP, eqLP, pgC_len8 hl, celsC_len8 hl, pgC_drop1, pgC_drop17 hl, celsC_all hl, pgC_fold, pgC_all hl, goR_pg0, noS_mk, refs_pgF, refs_celsF, ren_pg, ren_cels, fin_pg, finM_pg, fin_cels, finM_cels, pureL_pg, pureL_cels, pgC_len8 hlA, pgC_all hlA, celsC_len8 hlA, celsC_all hlA, hj, hKq, hin, elem_eq hy, pgP_map, pgP_len8 hly, pgP_len8 hlA, pgP_drop17 hly, hst2, ewm]
      exact ⟨rfl, hst _ (weak_mem (M := []) ⟨rfl, rfl, rfl, rfl, by simp only [wk, upd, binR, ↓reduceIte, Nat.reduceEqDiff, reduceCtorEq, ofConst, ofCell, okCell, arI, cmpI, RetQ, RetM, finV, finC, finMV, finMC, resOf, V.w1, cellsV, refsC, refsO, callR, Nat.reduceAdd, Nat.reduceMul, Nat.reduceSub, Nat.reduceLeDiff, Nat.reduceLT, Nat.reduceBEq, boxR, idxR, loadR, storeR, readSl, lenR, sliceR, boundR, makeR, pureC, pureL, TD.isAgg, hw], trivial⟩ ⟨rfl, trivial⟩ rfl rfl (by rw [hE]; rfl) rfl)⟩
    · have hfl := hfail (by rw [if_neg he])
      generalize apF l1 cs1 x.r.ch x.r.lsn = z at hlA he
      obtain ⟨z1, z2, z3⟩ := z
      simp only at hlA he
      simp only [wk, upd, binR, ↓reduceIte, Nat.reduceEqDiff, reduceCtorEq, ofConst, ofCell, okCell, arI, cmpI, RetQ, RetM, finV, finC, finMV, finMC, resOf, V.w1, cellsV, refsC, refsO, callR, Nat.reduceAdd, Nat.reduceMul, Nat.reduceSub, Nat.reduceLeDiff, Nat.reduceLT, Nat.reduceBEq, boxR, idxR, loadR, storeR, readSl, lenR, sliceR, boundR, makeR, pureC, pureL, TD.isAgg, Int.reduceEq, Int.reduceNe, Int.reduceLT, Int.reduceLE, Int.reduceGT, Int.reduceGE, Int.reduceToNat, Int.reduceSub, Int.reduceAdd, Int.reduceMul, likeL, likeP, eqLP, pgC_len8 hl, celsC_len8 hl, pgC_drop1, pgC_drop17 hl, celsC_all hl, pgC_fold, pgC_all hl, goR_pg0, noS_mk, refs_pgF, refs_celsF, ren_pg, ren_cels, fin_pg, finM_pg, fin_cels, finM_cels, pureL_pg, pureL_cels, pgC_len8 hlA, pgC_all hlA, celsC_len8 hlA, celsC_all hlA, he]
      exact ⟨rfl, hfl⟩
  · have : i = xs.length := by omega
    subst this
    rw [List.drop_length] at hinv
    simp only [raF] at hinv
    simp only [wk, upd, binR, ↓reduceIte, Nat.reduceEqDiff, reduceCtorEq, ofConst, ofCell, okCell, arI, cmpI, RetQ, RetM, finV, finC, finMV, finMC, resOf, V.w1, cellsV, refsC, refsO, callR, Nat.reduceAdd, Nat.reduceMul, Nat.reduceSub, Nat.reduceLeDiff, Nat.reduceLT, Nat.reduceBEq, boxR, idxR, loadR, storeR, readSl, lenR, sliceR, boundR, makeR, pureC, pureL, TD.isAgg, Int.reduceEq, Int.reduceNe, Int.reduceLT, Int.reduceLE, Int.reduceGT, Int.reduceGE, Int.reduceToNat, Int.reduceSub, Int.reduceAdd, Int.reduceMul, likeL, likeP, eqLP, h]
    have hKq : (pgs qs).length = r0.length + 1 := by rw [pgs_length, hql, hp0]; rfl
    exact ⟨hKq.symm, hr (qs, m1, 0) (hR _ hinv)⟩

theorem c85Z (ps : List Pag) (hps : okPs ps) (hm : ps.length ≤ 1000000) (xs : List Stm) (hxs : xs.length ≤ 1000000) (hp0 : ps = []) : ConSem Try.prog tab 85 [vs (pgs ps), vs (sts xs)] [] (raV (raR ps xs)) [] := by
  refine con_pure tabOk mixedOk Try.func85 rfl (by decide) (by kernel_rfl) (by show (2:Nat) ≤ _; decide) fun E hE => go_start ?_
  have hr : ∀ z, raR ps xs = z → raV z = raV (raR ps xs) := fun z h => by rw [h]
  generalize raV (raR ps xs) = X at hr ⊢
  have hml : 2000000 ≤ maxLen := by decide
  simp only [Try.f85, wk, upd, binR, ↓reduceIte, Nat.reduceEqDiff, reduceCtorEq, ofConst, ofCell, okCell, arI, cmpI, RetQ, RetM, finV, finC, finMV, finMC, resOf, V.w1, cellsV, refsC, refsO, callR, Nat.reduceAdd, Nat.reduceMul, Nat.reduceSub, Nat.reduceLeDiff, Nat.reduceLT, Nat.reduceBEq, boxR, idxR, loadR, storeR, readSl, lenR, sliceR, boundR, makeR, pureC, pureL, TD.isAgg, Int.reduceEq, Int.reduceNe, Int.reduceLT, Int.reduceLE, Int.reduceGT, Int.reduceGE, Int.reduceToNat, Int.reduceSub, Int.reduceAdd, Int.reduceMul, likeL, likeP, eqLP, pgs_length]
  refine ⟨fun h1 => hr ([], 0, 1) (by unfold raR; rw [if_pos (.inl (by omega))]), fun h1 => call_by (c112 ps hps hm) ?_⟩
  cases ha : allOk ps
  · simp only [wk, upd, binR, ↓reduceIte, Nat.reduceEqDiff, reduceCtorEq, ofConst, ofCell, okCell, arI, cmpI, RetQ, RetM, finV, finC, finMV, finMC, resOf, V.w1, cellsV, refsC, refsO, callR, Nat.reduceAdd, Nat.reduceMul, Nat.reduceSub, Nat.reduceLeDiff, Nat.reduceLT, Nat.reduceBEq, boxR, idxR, loadR, storeR, readSl, lenR, sliceR, boundR, makeR, pureC, pureL, TD.isAgg, Int.reduceEq, Int.reduceNe, Int.reduceLT, Int.reduceLE, Int.reduceGT, Int.reduceGE, Int.reduceToNat, Int.reduceSub, Int.reduceAdd, Int.reduceMul, likeL, likeP, eqLP]
    exact hr ([], 0, 1) (by unfold raR; rw [if_pos (.inr ha)])
  simp only [wk, upd, binR, ↓reduceIte, Nat.reduceEqDiff, reduceCtorEq, ofConst, ofCell, okCell, arI, cmpI, RetQ, RetM, finV, finC, finMV, finMC, resOf, V.w1, cellsV, refsC, refsO, callR, Nat.reduceAdd, Nat.reduceMul, Nat.reduceSub, Nat.reduceLeDiff, Nat.reduceLT, Nat.reduceBEq, boxR, idxR, loadR, storeR, readSl, lenR, sliceR, boundR, makeR, pureC, pureL, TD.isAgg, Int.reduceEq, Int.reduceNe, Int.reduceLT, Int.reduceLE, Int.reduceGT, Int.reduceGE, Int.reduceToNat, Int.reduceSub, Int.reduceAdd, Int.reduceMul, likeL, likeP, eqLP]
  refine call_by (c100 xs hxs) ?_
  cases hs : spOk 8 xs
  · simp only [wk, upd, binR, ↓reduceIte, Nat.reduceEqDiff, reduceCtorEq, ofConst, ofCell, okCell, arI, cmpI, RetQ, RetM, finV, finC, finMV, finMC, resOf, V.w1, cellsV, refsC, refsO, callR, Nat.reduceAdd, Nat.reduceMul, Nat.reduceSub, Nat.reduceLeDiff, Nat.reduceLT, Nat.reduceBEq, boxR, idxR, loadR, storeR, readSl, lenR, sliceR, boundR, makeR, pureC, pureL, TD.isAgg, Int.reduceEq, Int.reduceNe, Int.reduceLT, Int.reduceLE, Int.reduceGT, Int.reduceGE, Int.reduceToNat, Int.reduceSub, Int.reduceAdd, Int.reduceMul, likeL, likeP, eqLP]
    exact hr ([], 0, 2) (by unfold raR; rw [if_neg (by rw [ha]; simp; omega), if_pos hs])
  simp only [wk, upd, binR, ↓reduceIte, Nat.reduceEqDiff, reduceCtorEq, ofConst, ofCell, okCell, arI, cmpI, RetQ, RetM, finV, finC, finMV, finMC, resOf, V.w1, cellsV, refsC, refsO, callR, Nat.reduceAdd, Nat.reduceMul, Nat.reduceSub, Nat.reduceLeDiff, Nat.reduceLT, Nat.reduceBEq, boxR, idxR, loadR, storeR, readSl, lenR, sliceR, boundR, makeR, pureC, pureL, TD.isAgg, Int.reduceEq, Int.reduceNe, Int.reduceLT, Int.reduceLE, Int.reduceGT, Int.reduceGE, Int.reduceToNat, Int.reduceSub, Int.reduceAdd, Int.reduceMul, likeL, likeP, eqLP]
  have hR : ∀ z, raF xs ps 0 = z → raR ps xs = (match z with | none => ([], 0, 2) | some (qs, m) => (qs, m, 0)) := fun z hz => by
    unfold raR; rw [if_neg (by rw [ha]; simp; omega), if_neg (by rw [hs]; simp), hz]
  have hpe : pgs ps = [] := by rw [hp0]; rfl
  rw [hpe]
  refine call_by (c114 [] (by simp) (by simp) (by simp)) ?_
  simp only [wk, upd, binR, ↓reduceIte, Nat.reduceEqDiff, reduceCtorEq, ofConst, ofCell, okCell, arI, cmpI, RetQ, RetM, finV, finC, finMV, finMC, resOf, V.w1, cellsV, refsC, refsO, callR, Nat.reduceAdd, Nat.reduceMul, Nat.reduceSub, Nat.reduceLeDiff, Nat.reduceLT, Nat.reduceBEq, boxR, idxR, loadR, storeR, readSl, lenR, sliceR, boundR, makeR, pureC, pureL, TD.isAgg, Int.reduceEq, Int.reduceNe, Int.reduceLT, Int.reduceLE, Int.reduceGT, Int.reduceGE, Int.reduceToNat, Int.reduceSub, Int.reduceAdd, Int.reduceMul, likeL, likeP, eqLP, sts_length]
  refine aw_ind (fun a : S85 => ⟨tOf [(7, vs []), (8, vi .i64 a.m), (27, vs (sts xs)), (28, vi .i64 xs.length), (29, vi .i64 a.i)], fun _ => none⟩)
    (fun a => a.i ≤ xs.length ∧ a.ps.length = ps.length ∧ okPs a.ps ∧ (0 ≤ a.m ∧ a.m ≤ a.i) ∧ raF xs ps 0 = raF (xs.drop a.i) a.ps a.m) (fun a => xs.length - a.i) ⟨0, ps, 0⟩ rfl
    (weak_pure ⟨rfl, rfl, rfl, rfl, rfl, trivial⟩ rfl hE) ⟨by simp, rfl, hps, by simp, rfl⟩ ?_
  rintro ⟨i, qs, m1⟩ ⟨hi, hql, hqs, hm1, hinv⟩ ih
  simp only at hi hql hqs hm1 hinv
  by_cases h : (i : Int) < xs.length
  · have h' : i < xs.length := by omega
    have hw : IntKind.i64.wrap ((i : Int) + 1) = ((i + 1 : Nat) : Int) := by rw [w64 (by omega) (by omega)]; omega
    have ewm : IntKind.i64.wrap (m1 + 1) = m1 + 1 := w64 (by omega) (by omega)
    have h0i : (0 : Int) ≤ i := by omega
    have hx := sts_get h'
    have hnk := spOk_at hs h'
    rw [drop_cons h'] at hinv
    have hskip := fun (he : raF (xs[i] :: xs.drop (i + 1)) qs m1 = raF (xs.drop (i + 1)) qs m1) σ' hws => ih ⟨i + 1, qs, m1⟩ σ' ⟨by show i + 1 ≤ _; omega, hql, hqs, by show 0 ≤ m1 ∧ m1 ≤ ((i + 1 : Nat) : Int); omega, hinv.trans he⟩ (by show xs.length - (i + 1) < xs.length - i; omega) hws
    have hstep := fun (qs2 : List Pag) (hl2 : qs2.length = ps.length) (hb : okPs qs2) (he : raF (xs[i] :: xs.drop (i + 1)) qs m1 = raF (xs.drop (i + 1)) qs2 (m1 + 1)) σ' hws => ih ⟨i + 1, qs2, m1 + 1⟩ σ' ⟨by show i + 1 ≤ _; omega, hl2, hb, by show 0 ≤ m1 + 1 ∧ m1 + 1 ≤ ((i + 1 : Nat) : Int); omega, hinv.trans he⟩ (by show xs.length - (i + 1) < xs.length - i; omega) hws
    have hfail := fun (he : raF (xs[i] :: xs.drop (i + 1)) qs m1 = none) => hr ([], 0, 2) (hR _ (hinv.trans he))
    have hof := c101 xs[i].r
    generalize xs.drop (i + 1) = rest at hskip hstep hfail
    generalize xs[i] = x at hx hskip hstep hfail hof hnk
    simp only [raF] at hskip hstep hfail
    clear hinv ih
    simp only [wk, upd, binR, ↓reduceIte, Nat.reduceEqDiff, reduceCtorEq, ofConst, ofCell, okCell, arI, cmpI, RetQ, RetM, finV, finC, finMV, finMC, resOf, V.w1, cellsV, refsC, refsO, callR, Nat.reduceAdd, Nat.reduceMul, Nat.reduceSub, Nat.reduceLeDiff, Nat.reduceLT, Nat.reduceBEq, boxR, idxR, loadR, storeR, readSl, lenR, sliceR, boundR, makeR, pureC, pureL, TD.isAgg, Int.reduceEq, Int.reduceNe, Int.reduceLT, Int.reduceLE, Int.reduceGT, Int.reduceGE, Int.reduceToNat, Int.reduceSub, Int.reduceAdd, Int.reduceMul, likeL, likeP, eqLP, h, h0i, elem_eq hx, stP, recP, recC, chP]
    refine call_by hof ?_
    cases hc : isCh x.r
    · simp only [wk, upd, binR, ↓reduceIte, Nat.reduceEqDiff, reduceCtorEq, ofConst, ofCell, okCell, arI, cmpI, RetQ, RetM, finV, finC, finMV, finMC, resOf, V.w1, cellsV, refsC, refsO, callR, Nat.reduceAdd, Nat.reduceMul, Nat.reduceSub, Nat.reduceLeDiff, Nat.reduceLT, Nat.reduceBEq, boxR, idxR, loadR, storeR, readSl, lenR, sliceR, boundR, makeR, pureC, pureL, TD.isAgg, Int.reduceEq, Int.reduceNe, Int.reduceLT, Int.reduceLE, Int.reduceGT, Int.reduceGE, Int.reduceToNat, Int.reduceSub, Int.reduceAdd, Int.reduceMul, likeL, likeP, eqLP]
      exact hskip (by rw [hc]; rfl) _ (weak_pure ⟨rfl, rfl, rfl, rfl, by simp only [wk, upd, binR, ↓reduceIte, Nat.reduceEqDiff, reduceCtorEq, ofConst, ofCell, okCell, arI, cmpI, RetQ, RetM, finV, finC, finMV, finMC, resOf, V.w1, cellsV, refsC, refsO, callR, Nat.reduceAdd, Nat.reduceMul, Nat.reduceSub, Nat.reduceLeDiff, Nat.reduceLT, Nat.reduceBEq, boxR, idxR, loadR, storeR, readSl, lenR, sliceR, boundR, makeR, pureC, pureL, TD.isAgg, hw], trivial⟩ rfl hE)
    simp only [hc, if_true] at hskip hstep hfail
    have hch := (chOk_iff _).1 (ch_rec hnk hc)
    obtain ⟨j, hj⟩ : ∃ j : Nat, x.r.ch.p = j := ⟨x.r.ch.p.toNat, by omega⟩
    have hjt : x.r.ch.p.toNat = j := by omega
    rw [hjt] at hskip hstep hfail
    have hq0 : qs = [] := List.length_eq_zero_iff.1 (by rw [hql, hp0]; rfl)
    subst hq0
    have hge : ((0 : Nat) : Int) ≤ x.r.ch.p := by omega
    simp only [wk, upd, binR, ↓reduceIte, Nat.reduceEqDiff, reduceCtorEq, ofConst, ofCell, okCell, arI, cmpI, RetQ, RetM, finV, finC, finMV, finMC, resOf, V.w1, cellsV, refsC, refsO, callR, Nat.reduceAdd, Nat.reduceMul, Nat.reduceSub, Nat.reduceLeDiff, Nat.reduceLT, Nat.reduceBEq, boxR, idxR, loadR, storeR, readSl, lenR, sliceR, boundR, makeR, pureC, pureL, TD.isAgg, Int.reduceEq, Int.reduceNe, Int.reduceLT, Int.reduceLE, Int.reduceGT, Int.reduceGE, Int.reduceToNat, Int.reduceSub, Int.reduceAdd, Int.reduceMul, likeL, likeP, eqLP, hge]
    exact hfail rfl
  · have : i = xs.length := by omega
    subst this
    rw [List.drop_length] at hinv
    simp only [raF] at hinv
    simp only [wk, upd, binR, ↓reduceIte, Nat.reduceEqDiff, reduceCtorEq, ofConst, ofCell, okCell, arI, cmpI, RetQ, RetM, finV, finC, finMV, finMC, resOf, V.w1, cellsV, refsC, refsO, callR, Nat.reduceAdd, Nat.reduceMul, Nat.reduceSub, Nat.reduceLeDiff, Nat.reduceLT, Nat.reduceBEq, boxR, idxR, loadR, storeR, readSl, lenR, sliceR, boundR, makeR, pureC, pureL, TD.isAgg, Int.reduceEq, Int.reduceNe, Int.reduceLT, Int.reduceLE, Int.reduceGT, Int.reduceGE, Int.reduceToNat, Int.reduceSub, Int.reduceAdd, Int.reduceMul, likeL, likeP, eqLP, h]
    have hq0 : qs = [] := List.length_eq_zero_iff.1 (by rw [hql, hp0]; rfl)
    subst hq0
    exact hr ([], m1, 0) (hR _ hinv)

theorem c85L (ps : List Pag) (hps : okPs ps) (hm : ps.length ≤ 1000000) (xs : List Stm) (hxs : xs.length ≤ 1000000) (p0 : Pag) (r0 : List Pag) (hp0 : ps = p0 :: r0) (hlen : ps.length ≤ 32) (hgA : allOk ps = true) (hgS : spOk 8 xs = true) (z0 : List Pag × Int) (hgR : raF xs ps 0 = some z0) : ConSem Try.prog tab 85 [.one (.osl 1000 (r0.length + 1)), vs (sts xs)] [(1000, .sl 55 (pgs ps))] (raV (raR ps xs)) [(1000, .sl 55 (pgs ps))] := by
  refine con_mem tabOk mixedOk Try.func85 rfl (by decide) (by kernel_rfl) true (by show (2:Nat) ≤ _; decide) rfl fun E hE => go_start ?_
  have hr : ∀ z, raR ps xs = z → raV z = raV (raR ps xs) := fun z h => by rw [h]
  generalize raV (raR ps xs) = X at hr ⊢
  have hml : 2000000 ≤ maxLen := by decide
  simp only [Try.f85, wk, upd, binR, ↓reduceIte, Nat.reduceEqDiff, reduceCtorEq, ofConst, ofCell, okCell, arI, cmpI, RetQ, RetM, finV, finC, finMV, finMC, resOf, V.w1, cellsV, refsC, refsO, callR, Nat.reduceAdd, Nat.reduceMul, Nat.reduceSub, Nat.reduceLeDiff, Nat.reduceLT, Nat.reduceBEq, boxR, idxR, loadR, storeR, readSl, lenR, sliceR, boundR, makeR, pureC, pureL, TD.isAgg, Int.reduceEq, Int.reduceNe, Int.reduceLT, Int.reduceLE, Int.reduceGT, Int.reduceGE, Int.reduceToNat, Int.reduceSub, Int.reduceAdd, Int.reduceMul, likeL, likeP, eqLP, pgs_length]
  have hK0 : (pgs ps).length = r0.length + 1 := by rw [pgs_length, hp0]; rfl
  have h112 := con_lend (args := [.one (.osl 1000 (r0.length + 1)), .one (.p (.func 113))]) (M := [(1000, .sl 55 (pgs ps))]) (c112 ps hps hm) (.sl 1000 _ 55 _ rfl hK0.symm (.same _ rfl .nil)) rfl
  refine ⟨by rw [hp0]; rfl, fun h1 => absurd h1 (by omega), fun h1 => call_by h112 ?_⟩
  cases ha : allOk ps
  · simp only [wk, upd, binR, ↓reduceIte, Nat.reduceEqDiff, reduceCtorEq, ofConst, ofCell, okCell, arI, cmpI, RetQ, RetM, finV, finC, finMV, finMC, resOf, V.w1, cellsV, refsC, refsO, callR, Nat.reduceAdd, Nat.reduceMul, Nat.reduceSub, Nat.reduceLeDiff, Nat.reduceLT, Nat.reduceBEq, boxR, idxR, loadR, storeR, readSl, lenR, sliceR, boundR, makeR, pureC, pureL, TD.isAgg, Int.reduceEq, Int.reduceNe, Int.reduceLT, Int.reduceLE, Int.reduceGT, Int.reduceGE, Int.reduceToNat, Int.reduceSub, Int.reduceAdd, Int.reduceMul, likeL, likeP, eqLP]
    rw [hgA] at ha; cases ha
  simp only [wk, upd, binR, ↓reduceIte, Nat.reduceEqDiff, reduceCtorEq, ofConst, ofCell, okCell, arI, cmpI, RetQ, RetM, finV, finC, finMV, finMC, resOf, V.w1, cellsV, refsC, refsO, callR, Nat.reduceAdd, Nat.reduceMul, Nat.reduceSub, Nat.reduceLeDiff, Nat.reduceLT, Nat.reduceBEq, boxR, idxR, loadR, storeR, readSl, lenR, sliceR, boundR, makeR, pureC, pureL, TD.isAgg, Int.reduceEq, Int.reduceNe, Int.reduceLT, Int.reduceLE, Int.reduceGT, Int.reduceGE, Int.reduceToNat, Int.reduceSub, Int.reduceAdd, Int.reduceMul, likeL, likeP, eqLP]
  refine call_by (c100 xs hxs) ?_
  cases hs : spOk 8 xs
  · simp only [wk, upd, binR, ↓reduceIte, Nat.reduceEqDiff, reduceCtorEq, ofConst, ofCell, okCell, arI, cmpI, RetQ, RetM, finV, finC, finMV, finMC, resOf, V.w1, cellsV, refsC, refsO, callR, Nat.reduceAdd, Nat.reduceMul, Nat.reduceSub, Nat.reduceLeDiff, Nat.reduceLT, Nat.reduceBEq, boxR, idxR, loadR, storeR, readSl, lenR, sliceR, boundR, makeR, pureC, pureL, TD.isAgg, Int.reduceEq, Int.reduceNe, Int.reduceLT, Int.reduceLE, Int.reduceGT, Int.reduceGE, Int.reduceToNat, Int.reduceSub, Int.reduceAdd, Int.reduceMul, likeL, likeP, eqLP]
    rw [hgS] at hs; cases hs
  simp only [wk, upd, binR, ↓reduceIte, Nat.reduceEqDiff, reduceCtorEq, ofConst, ofCell, okCell, arI, cmpI, RetQ, RetM, finV, finC, finMV, finMC, resOf, V.w1, cellsV, refsC, refsO, callR, Nat.reduceAdd, Nat.reduceMul, Nat.reduceSub, Nat.reduceLeDiff, Nat.reduceLT, Nat.reduceBEq, boxR, idxR, loadR, storeR, readSl, lenR, sliceR, boundR, makeR, pureC, pureL, TD.isAgg, Int.reduceEq, Int.reduceNe, Int.reduceLT, Int.reduceLE, Int.reduceGT, Int.reduceGE, Int.reduceToNat, Int.reduceSub, Int.reduceAdd, Int.reduceMul, likeL, likeP, eqLP]
  have hR : ∀ z, raF xs ps 0 = z → raR ps xs = (match z with | none => ([], 0, 2) | some (qs, m) => (qs, m, 0)) := fun z hz => by
    unfold raR; rw [if_neg (by rw [ha]; simp; omega), if_neg (by rw [hs]; simp), hz]
  have hcl := c114l (pgP p0.l p0.cs) (pgs r0) (by have := pgs_rows hps; rw [hp0] at this; exact this) (by rw [pgs_length]; rw [hp0] at h1; simp at h1; omega) (by rw [pgs_length]; rw [hp0] at h1; simp at h1; omega)
  have hpe : pgs ps = pgP p0.l p0.cs :: pgs r0 := by rw [hp0]; rfl
  rw [← hpe, pgs_length] at hcl
  refine call_by hcl ?_
  simp only [wk, upd, binR, ↓reduceIte, Nat.reduceEqDiff, reduceCtorEq, ofConst, ofCell, okCell, arI, cmpI, RetQ, RetM, finV, finC, finMV, finMC, resOf, V.w1, cellsV, refsC, refsO, callR, Nat.reduceAdd, Nat.reduceMul, Nat.reduceSub, Nat.reduceLeDiff, Nat.reduceLT, Nat.reduceBEq, boxR, idxR, loadR, storeR, readSl, lenR, sliceR, boundR, makeR, pureC, pureL, TD.isAgg, Int.reduceEq, Int.reduceNe, Int.reduceLT, Int.reduceLE, Int.reduceGT, Int.reduceGE, Int.reduceToNat, Int.reduceSub, Int.reduceAdd, Int.reduceMul, likeL, likeP, eqLP, sts_length]
  refine aw_ind (fun a : S85 => ⟨tOf [(7, .one (.osl 26 (r0.length + 1))), (8, vi .i64 a.m), (27, vs (sts xs)), (28, vi .i64 xs.length), (29, vi .i64 a.i)], mOf [(1000, .sl 55 (pgs ps)), (26, .sl 55 (pgs a.ps))]⟩)
    (fun a => a.i ≤ xs.length ∧ a.ps.length = ps.length ∧ okPs a.ps ∧ (0 ≤ a.m ∧ a.m ≤ a.i) ∧ raF xs ps 0 = raF (xs.drop a.i) a.ps a.m) (fun a => xs.length - a.i) ⟨0, ps, 0⟩ rfl
    (weak_mem (M := [(1000, .sl 55 (pgs ps))]) ⟨rfl, rfl, rfl, rfl, rfl, trivial⟩ ⟨rfl, rfl, trivial⟩ rfl rfl hE rfl) ⟨by simp, rfl, hps, by simp, rfl⟩ ?_
  rintro ⟨i, qs, m1⟩ ⟨hi, hql, hqs, hm1, hinv⟩ ih
  simp only at hi hql hqs hm1 hinv
  by_cases h : (i : Int) < xs.length
  · have h' : i < xs.length := by omega
    have hw : IntKind.i64.wrap ((i : Int) + 1) = ((i + 1 : Nat) : Int) := by rw [w64 (by omega) (by omega)]; omega
    have ewm : IntKind.i64.wrap (m1 + 1) = m1 + 1 := w64 (by omega) (by omega)
    have h0i : (0 : Int) ≤ i := by omega
    have hx := sts_get h'
    have hnk := spOk_at hs h'
    rw [drop_cons h'] at hinv
    have hskip := fun (he : raF (xs[i] :: xs.drop (i + 1)) qs m1 = raF (xs.drop (i + 1)) qs m1) σ' hws => ih ⟨i + 1, qs, m1⟩ σ' ⟨by show i + 1 ≤ _; omega, hql, hqs, by show 0 ≤ m1 ∧ m1 ≤ ((i + 1 : Nat) : Int); omega, hinv.trans he⟩ (by show xs.length - (i + 1) < xs.length - i; omega) hws
    have hstep := fun (qs2 : List Pag) (hl2 : qs2.length = ps.length) (hb : okPs qs2) (he : raF (xs[i] :: xs.drop (i + 1)) qs m1 = raF (xs.drop (i + 1)) qs2 (m1 + 1)) σ' hws => ih ⟨i + 1, qs2, m1 + 1⟩ σ' ⟨by show i + 1 ≤ _; omega, hl2, hb, by show 0 ≤ m1 + 1 ∧ m1 + 1 ≤ ((i + 1 : Nat) : Int); omega, hinv.trans he⟩ (by show xs.length - (i + 1) < xs.length - i; omega) hws
    have hfail := fun (he : raF (xs[i] :: xs.drop (i + 1)) qs m1 = none) => (show False by have h9 := hinv.trans he; rw [hgR] at h9; cases h9)
    have hof := c101 xs[i].r
    generalize xs.drop (i + 1) = rest at hskip hstep hfail
    generalize xs[i] = x at hx hskip hstep hfail hof hnk
    simp only [raF] at hskip hstep hfail
    clear hinv ih
    simp only [wk, upd, binR, ↓reduceIte, Nat.reduceEqDiff, reduceCtorEq, ofConst, ofCell, okCell, arI, cmpI, RetQ, RetM, finV, finC, finMV, finMC, resOf, V.w1, cellsV, refsC, refsO, callR, Nat.reduceAdd, Nat.reduceMul, Nat.reduceSub, Nat.reduceLeDiff, Nat.reduceLT, Nat.reduceBEq, boxR, idxR, loadR, storeR, readSl, lenR, sliceR, boundR, makeR, pureC, pureL, TD.isAgg, Int.reduceEq, Int.reduceNe, Int.reduceLT, Int.reduceLE, Int.reduceGT, Int.reduceGE, Int.reduceToNat, Int.reduceSub, Int.reduceAdd, Int.reduceMul, likeL, likeP, eqLP, h, h0i, elem_eq hx, stP, recP, recC, chP]
    refine call_by hof ?_
    cases hc : isCh x.r
    · simp only [wk, upd, binR, ↓reduceIte, Nat.reduceEqDiff, reduceCtorEq, ofConst, ofCell, okCell, arI, cmpI, RetQ, RetM, finV, finC, finMV, finMC, resOf, V.w1, cellsV, refsC, refsO, callR, Nat.reduceAdd, Nat.reduceMul, Nat.reduceSub, Nat.reduceLeDiff, Nat.reduceLT, Nat.reduceBEq, boxR, idxR, loadR, storeR, readSl, lenR, sliceR, boundR, makeR, pureC, pureL, TD.isAgg, Int.reduceEq, Int.reduceNe, Int.reduceLT, Int.reduceLE, Int.reduceGT, Int.reduceGE, Int.reduceToNat, Int.reduceSub, Int.reduceAdd, Int.reduceMul, likeL, likeP, eqLP]
      exact hskip (by rw [hc]; rfl) _ (weak_mem (M := [(1000, .sl 55 (pgs ps))]) ⟨rfl, rfl, rfl, rfl, by simp only [wk, upd, binR, ↓reduceIte, Nat.reduceEqDiff, reduceCtorEq, ofConst, ofCell, okCell, arI, cmpI, RetQ, RetM, finV, finC, finMV, finMC, resOf, V.w1, cellsV, refsC, refsO, callR, Nat.reduceAdd, Nat.reduceMul, Nat.reduceSub, Nat.reduceLeDiff, Nat.reduceLT, Nat.reduceBEq, boxR, idxR, loadR, storeR, readSl, lenR, sliceR, boundR, makeR, pureC, pureL, TD.isAgg, hw], trivial⟩ ⟨rfl, rfl, trivial⟩ rfl rfl hE rfl)
    simp only [hc, if_true] at hskip hstep hfail
    have hch := (chOk_iff _).1 (ch_rec hnk hc)
    obtain ⟨j, hj⟩ : ∃ j : Nat, x.r.ch.p = j := ⟨x.r.ch.p.toNat, by omega⟩
    have hjt : x.r.ch.p.toNat = j := by omega
    rw [hjt] at hskip hstep hfail
    have hKp : ps.length = (r0.length + 1 : Nat) := by rw [hp0]; rfl
    have hKq : (pgs qs).length = (r0.length + 1 : Nat) := by rw [pgs_length]; omega
    by_cases hge : (ps.length : Int) ≤ x.r.ch.p
    · have hge2 : ((r0.length + 1 : Nat) : Int) ≤ x.r.ch.p := by omega
      simp only [wk, upd, binR, ↓reduceIte, Nat.reduceEqDiff, reduceCtorEq, ofConst, ofCell, okCell, arI, cmpI, RetQ, RetM, finV, finC, finMV, finMC, resOf, V.w1, cellsV, refsC, refsO, callR, Nat.reduceAdd, Nat.reduceMul, Nat.reduceSub, Nat.reduceLeDiff, Nat.reduceLT, Nat.reduceBEq, boxR, idxR, loadR, storeR, readSl, lenR, sliceR, boundR, makeR, pureC, pureL, TD.isAgg, Int.reduceEq, Int.reduceNe, Int.reduceLT, Int.reduceLE, Int.reduceGT, Int.reduceGE, Int.reduceToNat, Int.reduceSub, Int.reduceAdd, Int.reduceMul, likeL, likeP, eqLP, hge2, hKq]
      exact (hfail (by rw [List.getElem?_eq_none (by omega)])).elim
    have hge2 : (((r0.length + 1 : Nat) : Int) ≤ x.r.ch.p) = False := eq_false (by omega)
    have hjq : j < qs.length := by omega
    have hy := pgs_get hjq
    have hly := hqs _ (List.getElem_mem hjq)
    rw [List.getElem?_eq_getElem hjq] at hskip hstep hfail
    simp only at hskip hstep hfail
    have hlq : ∀ q : Pag, q.cs.length = 8 → (qs.set j q).length = ps.length := fun q hq => by simpa using hql
    have hoq := fun (q : Pag) (hq : q.cs.length = 8) => okPs_set hqs j hq
    have hsetq := fun a b => pgs_set qs j ⟨a, b⟩
    have hap := c48 qs[j].l qs[j].cs hly x.r.ch x.r.lsn
    have hlA := apF_len hly x.r.ch x.r.lsn (l := qs[j].l)
    generalize qs[j] = p at hy hly hskip hstep hfail hap hlA
    obtain ⟨l1, cs1⟩ := p
    simp only at hy hly hskip hstep hfail hap hlA
    have hin : inR (j : Int) (r0.length + 1 : Nat) := ⟨by omega, by omega⟩
    have hl := hly
    by_cases hlo : x.r.lsn ≤ l1
    · simp only [wk, upd, binR, ↓reduceIte, Nat.reduceEqDiff, reduceCtorEq, ofConst, ofCell, okCell, arI, cmpI, RetQ, RetM, finV, finC, finMV, finMC, resOf, V.w1, cellsV, refsC, refsO, callR, Nat.reduceAdd, Nat.reduceMul, Nat.reduceSub, Nat.reduceLeDiff, Nat.reduceLT, Nat.reduceBEq, boxR, idxR, loadR, storeR, readSl, lenR, sliceR, boundR, makeR, pureC, pureL, TD.isAgg, Int.reduceEq, Int.reduceNe, Int.reduceLT, Int.reduceLE, Int.reduceGT, Int.reduceGE, Int.reduceToNat, Int.reduceSub, Int.reduceAdd, Int.reduceMul, likeL, likeP, eqLP, pgC_len8 hl, celsC_len8 hl, pgC_drop1, pgC_drop17 hl, celsC_all hl, pgC_fold, pgC_all hl, goR_pg0, noS_mk, refs_pgF, refs_celsF, ren_pg, ren_cels, fin_pg, finM_pg, fin_cels, finM_cels, pureL_pg, pureL_cels, hge2, hKq]
      simp only [wk, upd, binR, ↓reduceIte, Nat.reduceEqDiff, reduceCtorEq, ofConst, ofCell, okCell, arI, cmpI, RetQ, RetM, finV, finC, finMV, finMC, resOf, V.w1, cellsV, refsC, refsO, callR, Nat.reduceAdd, Nat.reduceMul, Nat.reduceSub, Nat.reduceLeDiff, Nat.reduceLT, Nat.reduceBEq, boxR, idxR, loadR, storeR, readSl, lenR, sliceR, boundR, makeR, pureC, pureL, TD.isAgg, Int.reduceEq, Int.reduceNe, Int.reduceLT, Int.reduceLE, Int.reduceGT, Int.reduceGE, Int.reduceToNat, Int.reduceSub, Int.reduceAdd, Int.reduceMul, likeL, likeP, eqLP, pgC_len8 hl, celsC_len8 hl, pgC_drop1, pgC_drop17 hl, celsC_all hl, pgC_fold, pgC_all hl, goR_pg0, noS_mk, refs_pgF, refs_celsF, ren_pg, ren_cels, fin_pg, finM_pg, fin_cels, finM_cels, pureL_pg, pureL_cels, hj, hKq, hin, elem_eq hy, pgP_map, hlo]
      exact ⟨rfl, hskip (by rw [if_pos hlo]) _ (weak_mem (M := [(1000, .sl 55 (pgs ps))]) ⟨rfl, rfl, rfl, rfl, by simp only [wk, upd, binR, ↓reduceIte, Nat.reduceEqDiff, reduceCtorEq, ofConst, ofCell, okCell, arI, cmpI, RetQ, RetM, finV, finC, finMV, finMC, resOf, V.w1, cellsV, refsC, refsO, callR, Nat.reduceAdd, Nat.reduceMul, Nat.reduceSub, Nat.reduceLeDiff, Nat.reduceLT, Nat.reduceBEq, boxR, idxR, loadR, storeR, readSl, lenR, sliceR, boundR, makeR, pureC, pureL, TD.isAgg, hw], trivial⟩ ⟨rfl, rfl, trivial⟩ rfl rfl hE rfl)⟩
    rw [if_neg hlo] at hstep hfail
    simp only [wk, upd, binR, ↓reduceIte, Nat.reduceEqDiff, reduceCtorEq, ofConst, ofCell, okCell, arI, cmpI, RetQ, RetM, finV, finC, finMV, finMC, resOf, V.w1, cellsV, refsC, refsO, callR, Nat.reduceAdd, Nat.reduceMul, Nat.reduceSub, Nat.reduceLeDiff, Nat.reduceLT, Nat.reduceBEq, boxR, idxR, loadR, storeR, readSl, lenR, sliceR, boundR, makeR, pureC, pureL, TD.isAgg, Int.reduceEq, Int.reduceNe, Int.reduceLT, Int.reduceLE, Int.reduceGT, Int.reduceGE, Int.reduceToNat, Int.reduceSub, Int.reduceAdd, Int.reduceMul, likeL, likeP, eqLP, pgC_len8 hl, celsC_len8 hl, pgC_drop1, pgC_drop17 hl, celsC_all hl, pgC_fold, pgC_all hl, goR_pg0, noS_mk, refs_pgF, refs_celsF, ren_pg, ren_cels, fin_pg, finM_pg, fin_cels, finM_cels, pureL_pg, pureL_cels, hge2, hKq]
    simp only [wk, upd, binR, ↓reduceIte, Nat.reduceEqDiff, reduceCtorEq, ofConst, ofCell, okCell, arI, cmpI, RetQ, RetM, finV, finC, finMV, finMC, resOf, V.w1, cellsV, refsC, refsO, callR, Nat.reduceAdd, Nat.reduceMul, Nat.reduceSub, Nat.reduceLeDiff, Nat.reduceLT, Nat.reduceBEq, boxR, idxR, loadR, storeR, readSl, lenR, sliceR, boundR, makeR, pureC, pureL, TD.isAgg, Int.reduceEq, Int.reduceNe, Int.reduceLT, Int.reduceLE, Int.reduceGT, Int.reduceGE, Int.reduceToNat, Int.reduceSub, Int.reduceAdd, Int.reduceMul, likeL, likeP, eqLP, pgC_len8 hl, celsC_len8 hl, pgC_drop1, pgC_drop17 hl, celsC_all hl, pgC_fold, pgC_all hl, goR_pg0, noS_mk, refs_pgF, refs_celsF, ren_pg, ren_cels, fin_pg, finM_pg, fin_cels, finM_cels, pureL_pg, pureL_cels, hj, hKq, hin, elem_eq hy, pgP_map, hlo]
    refine ⟨rfl, ?_⟩
    rw [← hj]
    refine call_by hap ?_
    by_cases he : (apF l1 cs1 x.r.ch x.r.lsn).2.2 = 0
    · have hst := hstep (qs.set j ⟨(apF l1 cs1 x.r.ch x.r.lsn).1, (apF l1 cs1 x.r.ch x.r.lsn).2.1⟩) (hlq ⟨_, _⟩ hlA) (hoq ⟨_, _⟩ hlA) (by rw [if_pos he])
      have hst2 := hsetq (apF l1 cs1 x.r.ch x.r.lsn).1 (apF l1 cs1 x.r.ch x.r.lsn).2.1
      generalize apF l1 cs1 x.r.ch x.r.lsn = z at hst hlA he hst2
      obtain ⟨z1, z2, z3⟩ := z
      simp only at hst hlA he hst2
      subst he
      simp only [wk, upd, binR, ↓reduceIte, Nat.reduceEqDiff, reduceCtorEq, ofConst, ofCell, okCell, arI, cmpI, RetQ, RetM, finV, finC, finMV, finMC, resOf, V.w1, cellsV, refsC, refsO, callR, Nat.reduceAdd, Nat.reduceMul, Nat.reduceSub, Nat.reduceLeDiff, Nat.reduceLT, Nat.reduceBEq, boxR, idxR, loadR, storeR, readSl, lenR, sliceR, boundR, makeR, pureC, pureL, TD.isAgg, Int.reduceEq, Int.reduceNe, Int.reduceLT, Int.reduceLE, Int.reduceGT, Int.reduceGE, Int.reduceToNat, Int.reduceSub, Int.reduceAdd, Int.reduceMul, likeL, likeP, eqLP, pgC_len8 hl, celsC_len8 hl, pgC_drop1, pgC_drop17 hl, celsC_all hl, pgC_fold, pgC_all hl, goR_pg0, noS_mk, refs_pgF, refs_celsF, ren_pg, ren_cels, fin_pg, finM_pg, fin_cels, finM_cels, pureL_pg, pureL_cels, pgC_len8 hlA, pgC_all hlA, celsC_len8 hlA, celsC_all hlA, ewm]
      simp only [wk, upd, binR, ↓reduceIte, Nat.reduceEqDiff, reduceCtorEq, ofConst, ofCell, okCell, arI, cmpI, RetQ, RetM, finV, finC, finMV, finMC, resOf, V.w1, cellsV, refsC, refsO, callR, Nat.reduceAdd, Nat.reduceMul, Nat.reduceSub, Nat.reduceLeDiff, Nat.reduceLT, Nat.reduceBEq, boxR, idxR, loadR, storeR, readSl, lenR, sliceR, boundR, makeR, pureC, pureL, TD.isAgg, Int.reduceEq, Int.reduceNe, Int.reduceLT, Int.reduceLE, Int.reduceGT, Int.reduceGE, Int.reduceToNat, Int.reduceSub, Int.reduceAdd, Int.reduceMul, likeL, likeP, eqLP, pgC_len8 hl, celsC_len8 hl, pgC_drop1, pgC_drop17 hl, celsC_all hl, pgC_fold, pgC_all hl, goR_pg0, noS_mk, refs_pgF, refs_celsF, ren_pg, ren_cels, fin_pg, finM_pg, fin_cels, finM_cels, pureL_pg, pureL_cels, pgC_len8 hlA, pgC_all hlA, celsC_len8 hlA, celsC_all hlA, hj, hKq, hin, elem_eq hy, pgP_map, pgP_len8 hly, pgP_len8 hlA, pgP_drop17 hly, hst2, ewm]
      exact ⟨rfl, hst _ (weak_mem (M := [(1000, .sl 55 (pgs ps))]) ⟨rfl, rfl, rfl, rfl, by simp only [wk, upd, binR, ↓reduceIte, Nat.reduceEqDiff, reduceCtorEq, ofConst, ofCell, okCell, arI, cmpI, RetQ, RetM, finV, finC, finMV, finMC, resOf, V.w1, cellsV, refsC, refsO, callR, Nat.reduceAdd, Nat.reduceMul, Nat.reduceSub, Nat.reduceLeDiff, Nat.reduceLT, Nat.reduceBEq, boxR, idxR, loadR, storeR, readSl, lenR, sliceR, boundR, makeR, pureC, pureL, TD.isAgg, hw], trivial⟩ ⟨rfl, rfl, trivial⟩ rfl rfl hE rfl)⟩
    · have hfl := hfail (by rw [if_neg he])
      generalize apF l1 cs1 x.r.ch x.r.lsn = z at hlA he
      obtain ⟨z1, z2, z3⟩ := z
      simp only at hlA he
      simp only [wk, upd, binR, ↓reduceIte, Nat.reduceEqDiff, reduceCtorEq, ofConst, ofCell, okCell, arI, cmpI, RetQ, RetM, finV, finC, finMV, finMC, resOf, V.w1, cellsV, refsC, refsO, callR, Nat.reduceAdd, Nat.reduceMul, Nat.reduceSub, Nat.reduceLeDiff, Nat.reduceLT, Nat.reduceBEq, boxR, idxR, loadR, storeR, readSl, lenR, sliceR, boundR, makeR, pureC, pureL, TD.isAgg, Int.reduceEq, Int.reduceNe, Int.reduceLT, Int.reduceLE, Int.reduceGT, Int.reduceGE, Int.reduceToNat, Int.reduceSub, Int.reduceAdd, Int.reduceMul, likeL, likeP, eqLP, pgC_len8 hl, celsC_len8 hl, pgC_drop1, pgC_drop17 hl, celsC_all hl, pgC_fold, pgC_all hl, goR_pg0, noS_mk, refs_pgF, refs_celsF, ren_pg, ren_cels, fin_pg, finM_pg, fin_cels, finM_cels, pureL_pg, pureL_cels, pgC_len8 hlA, pgC_all hlA, celsC_len8 hlA, celsC_all hlA, he]
      exact hfl.elim
  · have : i = xs.length := by omega
    subst this
    rw [List.drop_length] at hinv
    simp only [raF] at hinv
    simp only [wk, upd, binR, ↓reduceIte, Nat.reduceEqDiff, reduceCtorEq, ofConst, ofCell, okCell, arI, cmpI, RetQ, RetM, finV, finC, finMV, finMC, resOf, V.w1, cellsV, refsC, refsO, callR, Nat.reduceAdd, Nat.reduceMul, Nat.reduceSub, Nat.reduceLeDiff, Nat.reduceLT, Nat.reduceBEq, boxR, idxR, loadR, storeR, readSl, lenR, sliceR, boundR, makeR, pureC, pureL, TD.isAgg, Int.reduceEq, Int.reduceNe, Int.reduceLT, Int.reduceLE, Int.reduceGT, Int.reduceGE, Int.reduceToNat, Int.reduceSub, Int.reduceAdd, Int.reduceMul, likeL, likeP, eqLP, h]
    have hKq : (pgs qs).length = r0.length + 1 := by rw [pgs_length, hql, hp0]; rfl
    exact ⟨hKq.symm, hr (qs, m1, 0) (hR _ hinv)⟩

theorem c85 (ps : List Pag) (hps : okPs ps) (hm : ps.length ≤ 1000000) (xs : List Stm) (hxs : xs.length ≤ 1000000) : ConSem Try.prog tab 85 [vs (pgs ps), vs (sts xs)] [] (raV (raR ps xs)) [] := by
  cases h : ps with
  | nil => rw [← h]; exact c85Z ps hps hm xs hxs h
  | cons p r => rw [← h]; exact c85N ps hps hm xs hxs p r h
end Go.AW
