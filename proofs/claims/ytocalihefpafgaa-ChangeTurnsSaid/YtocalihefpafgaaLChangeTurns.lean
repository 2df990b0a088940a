/- For every input the law ChangeTurns returns true; each argument reads as it did. No condition. -/
import Derived.Test.YtocalihefpafgaaC8
import Derived.Test.YtocalihefpafgaaA18
set_option maxRecDepth 100000
set_option linter.unusedSimpArgs false
set_option linter.unusedVariables false
namespace Go.Proofs.Ytocalihefpafgaa.LChangeTurns
open Go.AW Go.ChangeShapes Go.WideShapes Go.ChangeAt Go.RowKit
theorem holds (qss : List (List PV)) (h : WfArgs tab [57] qss) : ConSem Try.prog tab 13 (argVs tab [57] qss) [] (.one (.p (.bool true))) [] := by
  obtain ⟨q0, r0, rfl, h0, h⟩ := wfArgs_cons h
  obtain rfl := wfArgs_nil h
  obtain ⟨c, rfl, wk, wp, ws⟩ := wf_chg h0
  simp only [argVs, argV, tab55, ty55, tab57, ty57, tab25, ty25, tab3, ty3, tab52, ty52, TD.isAgg, Bool.false_eq_true, if_false, if_true]
  exact c13 c
theorem wit (os : Os) (started : os.Started) (H : Type) (enc : TypeId × Value → H) : ∃ (w : World) (tape : Tape) (i : Input), w.os = os ∧ (w.forCall tape i).Shaped Try.checked.prog ∧ i.vars = [] ∧ Input.okWide Try.checked.prog (w.forCall tape i) .any w.heap.size 13 i ∧
      Rows.changeTurnsSpec.pre6 enc Try.checked.prog Try.f13 [] false (w.forCall tape i).memory i.args ∧ ({} : Assume).holds Try.checked.prog (lone (Frame.enter Try.checked.prog 13 i.args .normal) [] (w.forCall tape i)) :=
    (ChangeSpec.witness6 (enc := enc) (C := Try.checked) false ⟨#[], #[.agg #[.int .i64 0, .int .i64 0, .int .i64 0, .string ByteArray.empty, .string ByteArray.empty]], []⟩ 8 (by kernel_rfl) (by kernel_rfl) (by kernel_rfl) (by kernel_rfl))
theorem lifted (os : Os) (started : os.Started) (H : Type) (enc : TypeId × Value → H) :
    ReturnsInHanded {} Try.checked os 13 .any (Rows.changeTurnsSpec.pre6 enc Try.prog Try.f13 [] false) (Rows.changeTurnsSpec.post enc Try.prog Try.f13 false true false false) :=
  law_said (ts := [57]) started (by kernel_rfl) Try.func13 (by rw [Try.params13]) rfl rfl
    (fun H ds hd => by match ds, hd with | [d1], _ => rfl) (by decide) (by kernel_rfl)
    (wit os started H enc) holds
theorem closed : joinedFacts Try.prog 13 Try.f13 Rows.changeTurnsSpec Rows.changeTurnsRow = true :=
  joined_of (by kernel_rfl) laidOut pMaps pStops pKnobs pHeard pEnter pLifts pMake pKeys (by kernel_rfl) (by kernel_rfl) (by kernel_rfl) (by kernel_rfl) (by kernel_rfl) (by kernel_rfl) (by kernel_rfl) (by kernel_rfl) (by kernel_rfl)
theorem over : Rows.changeTurnsRow.holds Try.pinned (OpenSpec.ofChange Rows.changeTurnsSpec) :=
  OpenClaim.holds_of_wide 13 Try.f13 rfl rfl rfl rfl rfl rfl rfl ⟨rfl, rfl, rfl, rfl, rfl⟩ rfl rfl rfl rfl rfl (by kernel_rfl) Try.func13 closed
    (of_decide_eq_true (by kernel_rfl)) (by unfold Func.isWrapper; first | (rw [if_pos (by decide +kernel)]; kernel_rfl) | (rw [if_neg (by decide +kernel)]; exact ⟨rfl, rfl⟩))
    (fun os started H enc _ => lifted os started H enc)
end Go.Proofs.Ytocalihefpafgaa.LChangeTurns
namespace Go.Proofs.Ytocalihefpafgaa
theorem changeTurns_holds : Rows.ChangeTurnsSaid := LChangeTurns.over
#print axioms changeTurns_holds
end Go.Proofs.Ytocalihefpafgaa
