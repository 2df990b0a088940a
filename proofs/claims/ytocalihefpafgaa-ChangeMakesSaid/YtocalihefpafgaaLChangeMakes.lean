/- For every input the law ChangeMakes returns true; each argument reads as it did. No condition. -/
import Derived.Test.YtocalihefpafgaaC9
import Derived.Test.YtocalihefpafgaaA18
set_option maxRecDepth 100000
set_option linter.unusedSimpArgs false
set_option linter.unusedVariables false
namespace Go.Proofs.Ytocalihefpafgaa.LChangeMakes
open Go.AW Go.ChangeShapes Go.WideShapes Go.ChangeAt Go.RowKit
theorem holds (qss : List (List PV)) (h : WfArgs tab [3, 3, 52, 52] qss) : ConSem Try.prog tab 16 (argVs tab [3, 3, 52, 52] qss) [] (.one (.p (.bool true))) [] := by
  obtain ⟨q0, r0, rfl, h0, h⟩ := wfArgs_cons h
  obtain ⟨q1, r1, rfl, h1, h⟩ := wfArgs_cons h
  obtain ⟨q2, r2, rfl, h2, h⟩ := wfArgs_cons h
  obtain ⟨q3, r3, rfl, h3, h⟩ := wfArgs_cons h
  obtain rfl := wfArgs_nil h
  obtain ⟨a0, rfl, w0⟩ := wf_int (k := .i64) h0 rfl
  obtain ⟨a1, rfl, w1⟩ := wf_int (k := .i64) h1 rfl
  obtain ⟨b2, s2, rfl⟩ := wf_cel h2
  obtain ⟨b3, s3, rfl⟩ := wf_cel h3
  simp only [argVs, argV, tab55, ty55, tab57, ty57, tab25, ty25, tab3, ty3, tab52, ty52, TD.isAgg, Bool.false_eq_true, if_false, if_true]
  exact c16 a0 a1 (b2, s2) (b3, s3)
theorem wit (os : Os) (started : os.Started) (H : Type) (enc : TypeId × Value → H) : ∃ (w : World) (tape : Tape) (i : Input), w.os = os ∧ (w.forCall tape i).Shaped Try.checked.prog ∧ i.vars = [] ∧ Input.okWide Try.checked.prog (w.forCall tape i) .any w.heap.size 16 i ∧
      Rows.changeMakesSpec.pre6 enc Try.checked.prog Try.f16 [] false (w.forCall tape i).memory i.args ∧ ({} : Assume).holds Try.checked.prog (lone (Frame.enter Try.checked.prog 16 i.args .normal) [] (w.forCall tape i)) :=
    (ChangeSpec.witness6 (enc := enc) (C := Try.checked) false ⟨#[], #[.int .i64 0, .int .i64 0, .agg #[.bool false, .string ByteArray.empty], .agg #[.bool false, .string ByteArray.empty]], []⟩ 8 (by kernel_rfl) (by kernel_rfl) (by kernel_rfl) (by kernel_rfl))
theorem lifted (os : Os) (started : os.Started) (H : Type) (enc : TypeId × Value → H) :
    ReturnsInHanded {} Try.checked os 16 .any (Rows.changeMakesSpec.pre6 enc Try.prog Try.f16 [] false) (Rows.changeMakesSpec.post enc Try.prog Try.f16 false true false false) :=
  law_said (ts := [3, 3, 52, 52]) started (by kernel_rfl) Try.func16 (by rw [Try.params16]) rfl rfl
    (fun H ds hd => by match ds, hd with | [d1, d2, d3, d4], _ => rfl) (by decide) (by kernel_rfl)
    (wit os started H enc) holds
theorem closed : joinedFacts Try.prog 16 Try.f16 Rows.changeMakesSpec Rows.changeMakesRow = true :=
  joined_of (by kernel_rfl) laidOut pMaps pStops pKnobs pHeard pEnter pLifts pMake pKeys (by kernel_rfl) (by kernel_rfl) (by kernel_rfl) (by kernel_rfl) (by kernel_rfl) (by kernel_rfl) (by kernel_rfl) (by kernel_rfl) (by kernel_rfl)
theorem over : Rows.changeMakesRow.holds Try.pinned (OpenSpec.ofChange Rows.changeMakesSpec) :=
  OpenClaim.holds_of_wide 16 Try.f16 rfl rfl rfl rfl rfl rfl rfl ⟨rfl, rfl, rfl, rfl, rfl⟩ rfl rfl rfl rfl rfl (by kernel_rfl) Try.func16 closed
    (of_decide_eq_true (by kernel_rfl)) (by unfold Func.isWrapper; first | (rw [if_pos (by decide +kernel)]; kernel_rfl) | (rw [if_neg (by decide +kernel)]; exact ⟨rfl, rfl⟩))
    (fun os started H enc _ => lifted os started H enc)
end Go.Proofs.Ytocalihefpafgaa.LChangeMakes
namespace Go.Proofs.Ytocalihefpafgaa
theorem changeMakes_holds : Rows.ChangeMakesSaid := LChangeMakes.over
#print axioms changeMakes_holds
end Go.Proofs.Ytocalihefpafgaa
