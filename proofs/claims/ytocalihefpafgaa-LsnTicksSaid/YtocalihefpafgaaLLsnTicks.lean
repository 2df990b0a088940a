/- For every input the law LsnTicks returns true; each argument reads as it did. No condition. -/
import Derived.Test.YtocalihefpafgaaD1
import Derived.Test.YtocalihefpafgaaA18
set_option maxRecDepth 100000
set_option linter.unusedSimpArgs false
set_option linter.unusedVariables false
namespace Go.Proofs.Ytocalihefpafgaa.LLsnTicks
open Go.AW Go.ChangeShapes Go.WideShapes Go.ChangeAt Go.RowKit
theorem holds (qss : List (List PV)) (h : WfArgs tab [25, 4, 29] qss) : ConSem Try.prog tab 5 (argVs tab [25, 4, 29] qss) [] (.one (.p (.bool true))) [] := by
  obtain ⟨q0, r0, rfl, h0, h⟩ := wfArgs_cons h
  obtain ⟨q1, r1, rfl, h1, h⟩ := wfArgs_cons h
  obtain ⟨q2, r2, rfl, h2, h⟩ := wfArgs_cons h
  obtain rfl := wfArgs_nil h
  obtain ⟨a0, rfl, w0⟩ := wf_int (k := .u64) h0 rfl
  obtain ⟨a1, rfl⟩ := wf_bool h1 rfl
  obtain ⟨xs, rfl, hb, hl, hx⟩ := wf_sl h2 rfl
  obtain ⟨os, rfl, ho⟩ := lops_of xs hx
  simp only [argVs, argV, tab25, ty25, tab4, ty4, tab29, ty29, TD.isAgg, Bool.false_eq_true, if_false]
  exact c5 a0 (wf_u64 w0).1 a1 os (by simpa [lops_length] using hl)
theorem wit (os : Os) (started : os.Started) (H : Type) (enc : TypeId × Value → H) : ∃ (w : World) (tape : Tape) (i : Input), w.os = os ∧ (w.forCall tape i).Shaped Try.checked.prog ∧ i.vars = [] ∧ Input.okWide Try.checked.prog (w.forCall tape i) .any w.heap.size 5 i ∧
      Rows.lsnTicksSpec.pre6 enc Try.checked.prog Try.f5 [] false (w.forCall tape i).memory i.args ∧ ({} : Assume).holds Try.checked.prog (lone (Frame.enter Try.checked.prog 5 i.args .normal) [] (w.forCall tape i)) :=
    (ChangeSpec.witness6 (enc := enc) (C := Try.checked) false ⟨#[], #[.int .u64 0, .bool false, .slice none 0 0], []⟩ 8 (by kernel_rfl) (by kernel_rfl) (by kernel_rfl) (by kernel_rfl))
theorem lifted (os : Os) (started : os.Started) (H : Type) (enc : TypeId × Value → H) :
    ReturnsInHanded {} Try.checked os 5 .any (Rows.lsnTicksSpec.pre6 enc Try.prog Try.f5 [] false) (Rows.lsnTicksSpec.post enc Try.prog Try.f5 false true false false) :=
  law_said (ts := [25, 4, 29]) started (by kernel_rfl) Try.func5 (by rw [Try.params5]) rfl rfl
    (fun H ds hd => by match ds, hd with | [d1, d2, d3], _ => rfl) (by decide) (by kernel_rfl)
    (wit os started H enc) holds
theorem closed : joinedFacts Try.prog 5 Try.f5 Rows.lsnTicksSpec Rows.lsnTicksRow = true :=
  joined_of (by kernel_rfl) laidOut pMaps pStops pKnobs pHeard pEnter pLifts pMake pKeys (by kernel_rfl) (by kernel_rfl) (by kernel_rfl) (by kernel_rfl) (by kernel_rfl) (by kernel_rfl) (by kernel_rfl) (by kernel_rfl) (by kernel_rfl)
theorem over : Rows.lsnTicksRow.holds Try.pinned (OpenSpec.ofChange Rows.lsnTicksSpec) :=
  OpenClaim.holds_of_wide 5 Try.f5 rfl rfl rfl rfl rfl rfl rfl ⟨rfl, rfl, rfl, rfl, rfl⟩ rfl rfl rfl rfl rfl (by kernel_rfl) Try.func5 closed
    (of_decide_eq_true (by kernel_rfl)) (by unfold Func.isWrapper; first | (rw [if_pos (by decide +kernel)]; kernel_rfl) | (rw [if_neg (by decide +kernel)]; exact ⟨rfl, rfl⟩))
    (fun os started H enc _ => lifted os started H enc)
end Go.Proofs.Ytocalihefpafgaa.LLsnTicks
namespace Go.Proofs.Ytocalihefpafgaa
theorem lsnTicks_holds : Rows.LsnTicksSaid := LLsnTicks.over
#print axioms lsnTicks_holds
end Go.Proofs.Ytocalihefpafgaa
