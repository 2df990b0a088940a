/- For every input the law RedoSorts returns true; each argument reads as it did. No condition. -/
import Derived.Test.YtocalihefpafgaaAW
import Derived.Test.YtocalihefpafgaaR15
import Derived.Test.YtocalihefpafgaaW1
import Derived.Test.YtocalihefpafgaaTab
set_option maxRecDepth 100000
set_option linter.unusedSimpArgs false
set_option linter.unusedVariables false
namespace Go.Proofs.Ytocalihefpafgaa.LRedoSorts
open Go.AW Go.ChangeShapes Go.WideShapes Go.ChangeAt Go.RowKit
theorem holds (qss : List (List PV)) (h : WfArgs tab [82, 65] qss) : ConSem Try.prog tab 32 (argVs tab [82, 65] qss) [] (.one (.p (.bool true))) [] := by
  obtain ⟨q0, r0, rfl, h0, h⟩ := wfArgs_cons h
  obtain ⟨q1, r1, rfl, h1, h⟩ := wfArgs_cons h
  obtain rfl := wfArgs_nil h
  obtain ⟨xs0, rfl, hb0, hl0, hx0⟩ := wf_sl h0 rfl
  obtain ⟨ps, rfl, hps⟩ := pags_of xs0 hx0
  obtain ⟨xs, rfl, hb1, hl1, hx1⟩ := wf_sl h1 rfl
  obtain ⟨os, rfl, ho⟩ := sts_of xs hx1
  simp only [argVs, argV, tab55, ty55, tab57, ty57, tab25, ty25, tab3, ty3, tab52, ty52, TD.isAgg, Bool.false_eq_true, if_false, if_true, tab65, ty65, tab82, ty82, tab76, ty76]
  exact c32 ps hps (by simpa [pgs_length] using hl0) os (by simpa [sts_length] using hl1)
theorem wit (os : Os) (started : os.Started) (H : Type) (enc : TypeId × Value → H) : ∃ (w : World) (tape : Tape) (i : Input), w.os = os ∧ (w.forCall tape i).Shaped Try.checked.prog ∧ i.vars = [] ∧ Input.okWide Try.checked.prog (w.forCall tape i) .any w.heap.size 32 i ∧
      Rows.redoSortsSpec.pre6 enc Try.checked.prog Try.f32 [] false (w.forCall tape i).memory i.args ∧ ({} : Assume).holds Try.checked.prog (lone (Frame.enter Try.checked.prog 32 i.args .normal) [] (w.forCall tape i)) :=
    (ChangeSpec.witness6 (enc := enc) (C := Try.checked) false ⟨#[], #[.slice none 0 0, .slice none 0 0], []⟩ 8 (by kernel_rfl) (by kernel_rfl) (by kernel_rfl) (by kernel_rfl))
theorem lifted (os : Os) (started : os.Started) (H : Type) (enc : TypeId × Value → H) :
    ReturnsInHanded {} Try.checked os 32 .any (Rows.redoSortsSpec.pre6 enc Try.prog Try.f32 [] false) (Rows.redoSortsSpec.post enc Try.prog Try.f32 false true false false) :=
  law_said (ts := [82, 65]) started (by kernel_rfl) Try.func32 (by rw [Try.params32]) rfl rfl
    (fun H ds hd => by match ds, hd with | [d1, d2], _ => rfl) (by decide) (by kernel_rfl)
    (wit os started H enc) holds
theorem closed : joinedFacts Try.prog 32 Try.f32 Rows.redoSortsSpec Rows.redoSortsRow = true :=
  joined_of (by kernel_rfl) laidOut pMaps pStops pKnobs pHeard pEnter pLifts pMake pKeys (by kernel_rfl) (by kernel_rfl) (by kernel_rfl) (by kernel_rfl) (by kernel_rfl) (by kernel_rfl) (by kernel_rfl) (by kernel_rfl) (by kernel_rfl)
theorem over : Rows.redoSortsRow.holds Try.pinned (OpenSpec.ofChange Rows.redoSortsSpec) :=
  OpenClaim.holds_of_wide 32 Try.f32 rfl rfl rfl rfl rfl rfl rfl ⟨rfl, rfl, rfl, rfl, rfl⟩ rfl rfl rfl rfl rfl (by kernel_rfl) Try.func32 closed
    (of_decide_eq_true (by kernel_rfl)) (by unfold Func.isWrapper; first | (rw [if_pos (by decide +kernel)]; kernel_rfl) | (rw [if_neg (by decide +kernel)]; exact ⟨rfl, rfl⟩))
    (fun os started H enc _ => lifted os started H enc)
end Go.Proofs.Ytocalihefpafgaa.LRedoSorts
namespace Go.Proofs.Ytocalihefpafgaa
theorem redoSorts_holds : Rows.RedoSortsSaid := LRedoSorts.over
#print axioms redoSorts_holds
end Go.Proofs.Ytocalihefpafgaa
