/- For every input the law ChangeChains returns true; each argument reads as it did. No condition. -/
import Derived.Test.YtocalihefpafgaaC10
import Derived.Test.YtocalihefpafgaaA18
set_option maxRecDepth 100000
set_option linter.unusedSimpArgs false
set_option linter.unusedVariables false
namespace Go.Proofs.Ytocalihefpafgaa.LChangeChains
open Go.AW Go.ChangeShapes Go.WideShapes Go.ChangeAt Go.RowKit
theorem holds (qss : List (List PV)) (h : WfArgs tab [100] qss) : ConSem Try.prog tab 17 (argVs tab [100] qss) [] (.one (.p (.bool true))) [] := by
  obtain ⟨q0, r0, rfl, h0, h⟩ := wfArgs_cons h
  obtain rfl := wfArgs_nil h
  obtain ⟨xs, rfl, hb, hl, hx⟩ := wf_sl h0 rfl
  obtain ⟨os, rfl⟩ := mks_of xs hx
  simp only [argVs, argV, tab100, ty100, TD.isAgg, Bool.false_eq_true, if_false]
  exact c17 os (by simpa [mks_length] using hl)
theorem wit (os : Os) (started : os.Started) (H : Type) (enc : TypeId × Value → H) : ∃ (w : World) (tape : Tape) (i : Input), w.os = os ∧ (w.forCall tape i).Shaped Try.checked.prog ∧ i.vars = [] ∧ Input.okWide Try.checked.prog (w.forCall tape i) .any w.heap.size 17 i ∧
      Rows.changeChainsSpec.pre6 enc Try.checked.prog Try.f17 [] false (w.forCall tape i).memory i.args ∧ ({} : Assume).holds Try.checked.prog (lone (Frame.enter Try.checked.prog 17 i.args .normal) [] (w.forCall tape i)) :=
    (ChangeSpec.witness6 (enc := enc) (C := Try.checked) false ⟨#[], #[.slice none 0 0], []⟩ 8 (by kernel_rfl) (by kernel_rfl) (by kernel_rfl) (by kernel_rfl))
theorem lifted (os : Os) (started : os.Started) (H : Type) (enc : TypeId × Value → H) :
    ReturnsInHanded {} Try.checked os 17 .any (Rows.changeChainsSpec.pre6 enc Try.prog Try.f17 [] false) (Rows.changeChainsSpec.post enc Try.prog Try.f17 false true false false) :=
  law_said (ts := [100]) started (by kernel_rfl) Try.func17 (by rw [Try.params17]) rfl rfl
    (fun H ds hd => by match ds, hd with | [d1], _ => rfl) (by decide) (by kernel_rfl)
    (wit os started H enc) holds
theorem closed : joinedFacts Try.prog 17 Try.f17 Rows.changeChainsSpec Rows.changeChainsRow = true :=
  joined_of (by kernel_rfl) laidOut pMaps pStops pKnobs pHeard pEnter pLifts pMake pKeys (by kernel_rfl) (by kernel_rfl) (by kernel_rfl) (by kernel_rfl) (by kernel_rfl) (by kernel_rfl) (by kernel_rfl) (by kernel_rfl) (by kernel_rfl)
theorem over : Rows.changeChainsRow.holds Try.pinned (OpenSpec.ofChange Rows.changeChainsSpec) :=
  OpenClaim.holds_of_wide 17 Try.f17 rfl rfl rfl rfl rfl rfl rfl ⟨rfl, rfl, rfl, rfl, rfl⟩ rfl rfl rfl rfl rfl (by kernel_rfl) Try.func17 closed
    (of_decide_eq_true (by kernel_rfl)) (by unfold Func.isWrapper; first | (rw [if_pos (by decide +kernel)]; kernel_rfl) | (rw [if_neg (by decide +kernel)]; exact ⟨rfl, rfl⟩))
    (fun os started H enc _ => lifted os started H enc)
end Go.Proofs.Ytocalihefpafgaa.LChangeChains
namespace Go.Proofs.Ytocalihefpafgaa
theorem changeChains_holds : Rows.ChangeChainsSaid := LChangeChains.over
#print axioms changeChains_holds
end Go.Proofs.Ytocalihefpafgaa
