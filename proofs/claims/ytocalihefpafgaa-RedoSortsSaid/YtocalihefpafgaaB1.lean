/- The order of numbers: Before, in the program and in the document's answer. The rule for loops. -/
import Derived.Test.YtocalihefpafgaaTab
import Derived.Test.YtocalihefpafgaaA14
set_option maxRecDepth 100000
set_option linter.unusedSimpArgs false
set_option linter.unusedVariables false
namespace Go.AW
open Go.Proofs

abbrev vi (k : IntKind) (n : Int) : V := .one (.p (.int k n))
abbrev vb (b : Bool) : V := .one (.p (.bool b))
abbrev vs (x : List (List PV)) : V := .one (.p (.slice x))

/-- Where a round ends. -/
def loopQ (E : Env) (N : Nat) (b : Code) (Q : Ex → St → Prop) (e : Ex) (σ : St) : Prop :=
  match e with
  | .normal => AW Try.prog tab E N (.loop b) Q σ
  | .exit j => Q (.exit j) σ
  | .ret => Q .ret σ
theorem loopQ_normal {E : Env} {N : Nat} {b : Code} {Q : Ex → St → Prop} {σ : St} : loopQ E N b Q .normal σ = AW Try.prog tab E N (.loop b) Q σ := _root_.id rfl
theorem loopQ_exit {E : Env} {N : Nat} {b : Code} {Q : Ex → St → Prop} {σ : St} {j : Nat} : loopQ E N b Q (.exit j) σ = Q (.exit j) σ := _root_.id rfl
theorem loopQ_ret {E : Env} {N : Nat} {b : Code} {Q : Ex → St → Prop} {σ : St} : loopQ E N b Q .ret σ = Q .ret σ := _root_.id rfl

/-- THE RULE FOR LOOPS: states by a parameter, a measure, one round. -/
theorem aw_ind {E : Env} {N : Nat} {b : Code} {Q : Ex → St → Prop} {σ : St} {α : Type} (I : α → St) (pre : α → Prop) (m : α → Nat) (a0 : α) (hN : codeOk N b = true) (hw : Weak E σ (I a0)) (h0 : pre a0)
    (step : ∀ a, pre a → (∀ a' σ', pre a' → m a' < m a → Weak E σ' (I a') → AW Try.prog tab E N (.loop b) Q σ') → Go (ConSem Try.prog tab) tab (AW Try.prog tab E N) (loopQ E N b Q) [.code b] (I a)) :
    AW Try.prog tab E N (.loop b) Q σ := by
  have key : ∀ n a, m a = n → pre a → AW Try.prog tab E N (.loop b) Q (I a) := by
    intro n
    induction n using Nat.strongRecOn with
    | _ n ih =>
      intro a hn hp
      refine aw_loop tabOk mixedOk hN ?_
      refine go_start (Q := loopQ E N b Q) (step a hp fun a' σ' hp' hm hw' => aw_weak hw' (ih (m a') (by omega) a' rfl hp'))
  exact aw_weak hw (key _ a0 rfl h0)

/-- Where something ends, what is the call's own may be read as data. -/
def QF (E : Env) (Q : Ex → St → Prop) (e : Ex) (σ : St) : Prop := ∃ σ', WeakF E σ σ' ∧ Q e σ'
/-- The same rule; where the loop is left, what is the call's own may be read as data. -/
theorem aw_indF {E : Env} {N : Nat} {b : Code} {Q : Ex → St → Prop} {σ : St} {α : Type} (I : α → St) (pre : α → Prop) (m : α → Nat) (a0 : α) (hN : codeOk N b = true) (hw : Weak E σ (I a0)) (h0 : pre a0)
    (step : ∀ a, pre a → (∀ a' σ', pre a' → m a' < m a → Weak E σ' (I a') → AW Try.prog tab E N (.loop b) (QF E Q) σ') →
      Go (ConSem Try.prog tab) tab (AW Try.prog tab E N) (loopQ E N b (QF E Q)) [.code b] (I a)) :
    AW Try.prog tab E N (.loop b) Q σ := aw_endF (Q := Q) (aw_ind (Q := QF E Q) I pre m a0 hN hw h0 step)

theorem c39 (a b i j : Int) : ConSem Try.prog tab 39 [vi .u64 a, vi .i64 i, vi .u64 b, vi .i64 j] [] (vb (if a = b then decide (i < j) else decide (a < b))) [] := by
  refine con_pure tabOk mixedOk Try.func39 rfl (by decide) (by kernel_rfl) (by show (4:Nat) ≤ _; decide) fun E hE => go_start ?_
  simp only [Try.f39, go_nil, goX_nil, Int.toNat_natCast, loopQ_normal, loopQ_exit, loopQ_ret, den_go, den_exit, den_ret, go_skip, go_seq, go_block, go_blk, go_label, go_exit, go_ret, go_loop, goX_code, goX_blk, go_text, go_drawn, go_ops0, go_drw0, go_cond, goC_true, goC_false, goC_dec, go_t, go_tD, go_tG, go_tGD, goD_some, dstL, goG_skip, goG_tt, goG_ff, goG_tf, goG_ft, goG_dec, goR_ret, goR_retD, goR_getT, goR_getTD, goR_getM, goR_getMD, goR_fresh, goR_assert, goR_stuck, goR_splT, goR_splF, goR_splDec, goR_elem, goR_elemC, goR_call, goR_elemC_cons, goR_elemC_succ, Option.map_some, Option.map_none, opR, evR, evL, St.app, putT, upd, tOf_nil, tOf_cons, List.foldl, binR, ↓reduceIte, Nat.reduceEqDiff, Bool.false_eq_true, reduceCtorEq, ofConst, ofCell, okCell, List.getD_cons_zero, List.getD_cons_succ, arI, cmpI, retC, retB, skipW, st0, stM, RetQ, RetM, retK, runK, finVs, finV, finL, finC, finMVs, finMV, finML, finMC, resOf, W1.v, V.w1, cellsV, vi, vb, vs, List.map_nil, List.map_cons, List.flatMap_nil, List.flatMap_cons, List.append_nil, List.nil_append, List.cons_append, List.append_eq, Option.bind_some, List.getElem?_cons_zero, List.getElem?_cons_succ, List.toList_toArray, gatherR, refsV, refsC, refsW, refsO, callR, toIn, toOut, renV, renC, renW, renO, lentIn, mOf, List.find?_cons, List.find?_nil, beq_self_eq_true, buildR, fillA, placeS, placeA, List.zip_cons_cons, List.zip_nil_left, List.zip_nil_right, splice, List.take_zero, List.take_succ_cons, List.drop_zero, List.drop_succ_cons, List.take_nil, List.drop_nil, Nat.zero_add, Nat.add_zero, Nat.reduceAdd, Nat.reduceMul, Nat.reduceSub, Nat.reduceLeDiff, Nat.reduceLT, Nat.reduceBEq, Nat.le_refl, and_self, and_true, true_and, afterR, newIn, List.filter_cons, List.filter_nil, Bool.not_true, Bool.not_false, Bool.and_true, Bool.true_and, Bool.and_false, Bool.false_and, decide_true, decide_false, toOut, boxR, allocR, fieldR, idxR, loadR, storeR, partR, readSl, lenR, appR, sliceR, boundsR, boundR, makeR, buildSliceR, slicePartsA, pureC, pureL, allIn, List.contains_cons, List.contains_nil, Bool.or_false, Bool.or_true, Bool.true_or, Bool.false_or, List.any_cons, List.any_nil, List.all_cons, List.all_nil, ne_eq, not_false_eq_true, not_true_eq_false, true_implies, false_implies, implies_true, forall_const, TD.isAgg, List.foldl_cons, List.foldl_nil, List.mem_cons, List.not_mem_nil, or_false, forall_eq_or_imp, forall_eq, tab3, ty3, tab4, ty4, tab5, ty5, tab9, ty9, tab22, ty22, tab25, ty25, tab29, ty29, tab30, ty30, tab32, ty32, tab33, ty33, tab34, ty34, tab35, ty35, tab36, ty36, tab38, ty38, tab39, ty39, tab40, ty40, tab48, ty48, tab51, ty51, tab52, ty52, tab53, ty53, tab54, ty54, tab55, ty55, tab56, ty56, tab57, ty57, tab65, ty65, tab81, ty81, tab82, ty82, tab100, ty100, tab101, ty101, tab102, ty102, tab103, ty103, tab109, ty109, tab110, ty110, tab111, ty111, tab112, ty112, tab113, ty113, tab115, ty115, tab116, ty116, tab117, ty117, tab118, ty118, tab119, ty119, tab120, ty120, tab125, ty125, tab126, ty126, tab176, ty176, tab182, ty182, tab184, ty184, tab188, ty188, tab189, ty189, tab190, ty190, tab191, ty191, tab201, ty201, List.length_nil, List.length_cons, List.reverse_cons, List.reverse_nil]
  constructor <;> intro h <;> simp_all

theorem c40 (a b i j : Int) : ConSem Try.prog tab 40 [vi .u64 a, vi .i64 i, vi .u64 b, vi .i64 j] [] (vb (if a = b then decide (i < j) else decide (a < b))) [] := by
  refine con_pure tabOk mixedOk Try.func40 rfl (by decide) (by kernel_rfl) (by show (4:Nat) ≤ _; decide) fun E hE => go_start ?_
  simp only [Try.f40, go_nil, goX_nil, Int.toNat_natCast, loopQ_normal, loopQ_exit, loopQ_ret, den_go, den_exit, den_ret, go_skip, go_seq, go_block, go_blk, go_label, go_exit, go_ret, go_loop, goX_code, goX_blk, go_text, go_drawn, go_ops0, go_drw0, go_cond, goC_true, goC_false, goC_dec, go_t, go_tD, go_tG, go_tGD, goD_some, dstL, goG_skip, goG_tt, goG_ff, goG_tf, goG_ft, goG_dec, goR_ret, goR_retD, goR_getT, goR_getTD, goR_getM, goR_getMD, goR_fresh, goR_assert, goR_stuck, goR_splT, goR_splF, goR_splDec, goR_elem, goR_elemC, goR_call, goR_elemC_cons, goR_elemC_succ, Option.map_some, Option.map_none, opR, evR, evL, St.app, putT, upd, tOf_nil, tOf_cons, List.foldl, binR, ↓reduceIte, Nat.reduceEqDiff, Bool.false_eq_true, reduceCtorEq, ofConst, ofCell, okCell, List.getD_cons_zero, List.getD_cons_succ, arI, cmpI, retC, retB, skipW, st0, stM, RetQ, RetM, retK, runK, finVs, finV, finL, finC, finMVs, finMV, finML, finMC, resOf, W1.v, V.w1, cellsV, vi, vb, vs, List.map_nil, List.map_cons, List.flatMap_nil, List.flatMap_cons, List.append_nil, List.nil_append, List.cons_append, List.append_eq, Option.bind_some, List.getElem?_cons_zero, List.getElem?_cons_succ, List.toList_toArray, gatherR, refsV, refsC, refsW, refsO, callR, toIn, toOut, renV, renC, renW, renO, lentIn, mOf, List.find?_cons, List.find?_nil, beq_self_eq_true, buildR, fillA, placeS, placeA, List.zip_cons_cons, List.zip_nil_left, List.zip_nil_right, splice, List.take_zero, List.take_succ_cons, List.drop_zero, List.drop_succ_cons, List.take_nil, List.drop_nil, Nat.zero_add, Nat.add_zero, Nat.reduceAdd, Nat.reduceMul, Nat.reduceSub, Nat.reduceLeDiff, Nat.reduceLT, Nat.reduceBEq, Nat.le_refl, and_self, and_true, true_and, afterR, newIn, List.filter_cons, List.filter_nil, Bool.not_true, Bool.not_false, Bool.and_true, Bool.true_and, Bool.and_false, Bool.false_and, decide_true, decide_false, toOut, boxR, allocR, fieldR, idxR, loadR, storeR, partR, readSl, lenR, appR, sliceR, boundsR, boundR, makeR, buildSliceR, slicePartsA, pureC, pureL, allIn, List.contains_cons, List.contains_nil, Bool.or_false, Bool.or_true, Bool.true_or, Bool.false_or, List.any_cons, List.any_nil, List.all_cons, List.all_nil, ne_eq, not_false_eq_true, not_true_eq_false, true_implies, false_implies, implies_true, forall_const, TD.isAgg, List.foldl_cons, List.foldl_nil, List.mem_cons, List.not_mem_nil, or_false, forall_eq_or_imp, forall_eq, tab3, ty3, tab4, ty4, tab5, ty5, tab9, ty9, tab22, ty22, tab25, ty25, tab29, ty29, tab30, ty30, tab32, ty32, tab33, ty33, tab34, ty34, tab35, ty35, tab36, ty36, tab38, ty38, tab39, ty39, tab40, ty40, tab48, ty48, tab51, ty51, tab52, ty52, tab53, ty53, tab54, ty54, tab55, ty55, tab56, ty56, tab57, ty57, tab65, ty65, tab81, ty81, tab82, ty82, tab100, ty100, tab101, ty101, tab102, ty102, tab103, ty103, tab109, ty109, tab110, ty110, tab111, ty111, tab112, ty112, tab113, ty113, tab115, ty115, tab116, ty116, tab117, ty117, tab118, ty118, tab119, ty119, tab120, ty120, tab125, ty125, tab126, ty126, tab176, ty176, tab182, ty182, tab184, ty184, tab188, ty188, tab189, ty189, tab190, ty190, tab191, ty191, tab201, ty201, List.length_nil, List.length_cons, List.reverse_cons, List.reverse_nil]
  repeat' (first | (intro h) | constructor)
  all_goals (try simp_all)
  all_goals omega
end Go.AW
