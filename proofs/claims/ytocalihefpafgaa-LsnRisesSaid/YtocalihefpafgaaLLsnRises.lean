/- For every input the law LsnRises returns true; each argument reads as it did. No condition. -/
import Derived.Test.YtocalihefpafgaaD2
import Derived.Test.YtocalihefpafgaaA18
set_option maxRecDepth 100000
set_option linter.unusedSimpArgs false
set_option linter.unusedVariables false
namespace Go.Proofs.Ytocalihefpafgaa.LLsnRises
open Go.AW Go.ChangeShapes Go.WideShapes Go.ChangeAt Go.RowKit
theorem holds (qss : List (List PV)) (h : WfArgs tab [25, 29] qss) : ConSem Try.prog tab 6 (argVs tab [25, 29] qss) [] (.one (.p (.bool true))) [] := by
  obtain ⟨q0, r0, rfl, h0, h⟩ := wfArgs_cons h
  obtain ⟨q1, r1, rfl, h1, h⟩ := wfArgs_cons h
  obtain rfl := wfArgs_nil h
  obtain ⟨a0, rfl, w0⟩ := wf_int (k := .u64) h0 rfl
  obtain ⟨xs, rfl, hb, hl, hx⟩ := wf_sl h1 rfl
  obtain ⟨os, rfl, ho⟩ := lops_of xs hx
  simp only [argVs, argV, tab25, ty25, tab29, ty29, TD.isAgg, Bool.false_eq_true, if_false]
  exact c6 a0 (wf_u64 w0).1 os (by simpa [lops_length] using hl)
theorem wit (os : Os) (started : os.Started) (H : Type) (enc : TypeId × Value → H) : ∃ (w : World) (tape : Tape) (i : Input), w.os = os ∧ (w.forCall tape i).Shaped Try.checked.prog ∧ i.vars = [] ∧ Input.okWide Try.checked.prog (w.forCall tape i) .any w.heap.size 6 i ∧
      Rows.lsnRisesSpec.pre6 enc Try.checked.prog Try.f6 [] false (w.forCall tape i).memory i.args ∧ ({} : Assume).holds Try.checked.prog (lone (Frame.enter Try.checked.prog 6 i.args .normal) [] (w.forCall tape i)) :=
    (ChangeSpec.witness6 (enc := enc) (C := Try.checked) false ⟨#[], #[.int .u64 0, .slice none 0 0], []⟩ 8 (by kernel_rfl) (by kernel_rfl) (by kernel_rfl) (by kernel_rfl))
theorem lifted (os : Os) (started : os.Started) (H : Type) (enc : TypeId × Value → H) :
    ReturnsInHanded {} Try.checked os 6 .any (Rows.lsnRisesSpec.pre6 enc Try.prog Try.f6 [] false) (Rows.lsnRisesSpec.post enc Try.prog Try.f6 false true false false) :=
  law_said (ts := [25, 29]) started (by kernel_rfl) Try.func6 (by rw [Try.params6]) rfl rfl
    (fun H ds hd => by match ds, hd with | [d1, d2], _ => rfl) (by decide) (by kernel_rfl)
    (wit os started H enc) holds
theorem closed : joinedFacts Try.prog 6 Try.f6 Rows.lsnRisesSpec Rows.lsnRisesRow = true :=
  joined_of (by kernel_rfl) laidOut pMaps pStops pKnobs pHeard pEnter pLifts pMake pKeys (by kernel_rfl) (by kernel_rfl) (by kernel_rfl) (by kernel_rfl) (by kernel_rfl) (by kernel_rfl) (by kernel_rfl) (by kernel_rfl) (by kernel_rfl)
theorem over : Rows.lsnRisesRow.holds Try.pinned (OpenSpec.ofChange Rows.lsnRisesSpec) :=
  OpenClaim.holds_of_wide 6 Try.f6 rfl rfl rfl rfl rfl rfl rfl ⟨rfl, rfl, rfl, rfl, rfl⟩ rfl rfl rfl rfl rfl (by kernel_rfl) Try.func6 closed
    (of_decide_eq_true (by kernel_rfl)) (by unfold Func.isWrapper; first | (rw [if_pos (by decide +kernel)]; kernel_rfl) | (rw [if_neg (by decide +kernel)]; exact ⟨rfl, rfl⟩))
    (fun os started H enc _ => lifted os started H enc)
end Go.Proofs.Ytocalihefpafgaa.LLsnRises
namespace Go.Proofs.Ytocalihefpafgaa
theorem lsnRises_holds : Rows.LsnRisesSaid := LLsnRises.over
#print axioms lsnRises_holds
end Go.Proofs.Ytocalihefpafgaa
