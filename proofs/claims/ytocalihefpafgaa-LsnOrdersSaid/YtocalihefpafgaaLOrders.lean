/- For every input the law LsnOrders returns true; each argument reads as it did. No condition. -/
import Derived.Test.YtocalihefpafgaaB4
import Derived.Test.YtocalihefpafgaaA18
set_option maxRecDepth 100000
set_option linter.unusedSimpArgs false
set_option linter.unusedVariables false
namespace Go.Proofs.Ytocalihefpafgaa.LOrders
open Go.AW Go.ChangeShapes Go.WideShapes Go.ChangeAt Go.RowKit
theorem holds (qss : List (List PV)) (h : WfArgs tab [25, 25, 25, 3, 3, 3] qss) : ConSem Try.prog tab 4 (argVs tab [25, 25, 25, 3, 3, 3] qss) [] (.one (.p (.bool true))) [] := by
  obtain ⟨q0, r0, rfl, h0, h⟩ := wfArgs_cons h
  obtain ⟨q1, r1, rfl, h1, h⟩ := wfArgs_cons h
  obtain ⟨q2, r2, rfl, h2, h⟩ := wfArgs_cons h
  obtain ⟨q3, r3, rfl, h3, h⟩ := wfArgs_cons h
  obtain ⟨q4, r4, rfl, h4, h⟩ := wfArgs_cons h
  obtain ⟨q5, r5, rfl, h5, h⟩ := wfArgs_cons h
  obtain rfl := wfArgs_nil h
  obtain ⟨a0, rfl, w0⟩ := wf_int (k := .u64) h0 rfl
  obtain ⟨a1, rfl, w1⟩ := wf_int (k := .u64) h1 rfl
  obtain ⟨a2, rfl, w2⟩ := wf_int (k := .u64) h2 rfl
  obtain ⟨a3, rfl, w3⟩ := wf_int (k := .i64) h3 rfl
  obtain ⟨a4, rfl, w4⟩ := wf_int (k := .i64) h4 rfl
  obtain ⟨a5, rfl, w5⟩ := wf_int (k := .i64) h5 rfl
  simp only [argVs, argV, tab25, ty25, tab3, ty3, TD.isAgg, Bool.false_eq_true, if_false]
  exact c4 a0 a1 a2 a3 a4 a5
theorem wit (os : Os) (started : os.Started) (H : Type) (enc : TypeId × Value → H) : ∃ (w : World) (tape : Tape) (i : Input), w.os = os ∧ (w.forCall tape i).Shaped Try.checked.prog ∧ i.vars = [] ∧ Input.okWide Try.checked.prog (w.forCall tape i) .any w.heap.size 4 i ∧
      Rows.lsnOrdersSpec.pre6 enc Try.checked.prog Try.f4 [] false (w.forCall tape i).memory i.args ∧ ({} : Assume).holds Try.checked.prog (lone (Frame.enter Try.checked.prog 4 i.args .normal) [] (w.forCall tape i)) :=
    (ChangeSpec.witness6 (enc := enc) (C := Try.checked) false ⟨#[], #[.int .u64 0, .int .u64 0, .int .u64 0, .int .i64 0, .int .i64 0, .int .i64 0], []⟩ 8 (by kernel_rfl) (by kernel_rfl) (by kernel_rfl) (by kernel_rfl))
theorem lifted (os : Os) (started : os.Started) (H : Type) (enc : TypeId × Value → H) :
    ReturnsInHanded {} Try.checked os 4 .any (Rows.lsnOrdersSpec.pre6 enc Try.prog Try.f4 [] false) (Rows.lsnOrdersSpec.post enc Try.prog Try.f4 false true false false) :=
  law_said (ts := [25, 25, 25, 3, 3, 3]) started (by kernel_rfl) Try.func4 (by rw [Try.params4]) rfl rfl
    (fun H ds hd => by match ds, hd with | [d1, d2, d3, d4, d5, d6], _ => rfl) (by decide) (by kernel_rfl)
    (wit os started H enc) holds
theorem closed : joinedFacts Try.prog 4 Try.f4 Rows.lsnOrdersSpec Rows.lsnOrdersRow = true :=
  joined_of (by kernel_rfl) laidOut pMaps pStops pKnobs pHeard pEnter pLifts pMake pKeys (by kernel_rfl) (by kernel_rfl) (by kernel_rfl) (by kernel_rfl) (by kernel_rfl) (by kernel_rfl) (by kernel_rfl) (by kernel_rfl) (by kernel_rfl)
theorem over : Rows.lsnOrdersRow.holds Try.pinned (OpenSpec.ofChange Rows.lsnOrdersSpec) :=
  OpenClaim.holds_of_wide 4 Try.f4 rfl rfl rfl rfl rfl rfl rfl ⟨rfl, rfl, rfl, rfl, rfl⟩ rfl rfl rfl rfl rfl (by kernel_rfl) Try.func4 closed
    (of_decide_eq_true (by kernel_rfl)) (by unfold Func.isWrapper; first | (rw [if_pos (by decide +kernel)]; kernel_rfl) | (rw [if_neg (by decide +kernel)]; exact ⟨rfl, rfl⟩))
    (fun os started H enc _ => lifted os started H enc)
end Go.Proofs.Ytocalihefpafgaa.LOrders
namespace Go.Proofs.Ytocalihefpafgaa
theorem lsnOrders_holds : Rows.LsnOrdersSaid := LOrders.over
#print axioms lsnOrders_holds
end Go.Proofs.Ytocalihefpafgaa
