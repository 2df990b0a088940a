/- For every input the law RedoPage returns true; each argument reads as it did. No condition. -/
import Derived.Test.YtocalihefpafgaaAW
import Derived.Test.YtocalihefpafgaaR11
import Derived.Test.YtocalihefpafgaaW1
import Derived.Test.YtocalihefpafgaaA18
set_option maxRecDepth 100000
set_option linter.unusedSimpArgs false
set_option linter.unusedVariables false
namespace Go.Proofs.Ytocalihefpafgaa.LRedoPage
open Go.AW Go.ChangeShapes Go.WideShapes Go.ChangeAt Go.RowKit
theorem holds (qss : List (List PV)) (h : WfArgs tab [55, 3, 65, 25] qss) : ConSem Try.prog tab 11 (argVs tab [55, 3, 65, 25] qss) [] (.one (.p (.bool true))) [] := by
  obtain ⟨q0, r0, rfl, h0, h⟩ := wfArgs_cons h
  obtain ⟨q1, r1, rfl, h1, h⟩ := wfArgs_cons h
  obtain ⟨q2, r2, rfl, h2, h⟩ := wfArgs_cons h
  obtain ⟨q3, r3, rfl, h3, h⟩ := wfArgs_cons h
  obtain rfl := wfArgs_nil h
  obtain ⟨a1, rfl, w1⟩ := wf_int (k := .i64) h1 rfl
  obtain ⟨a3, rfl, w3⟩ := wf_int (k := .u64) h3 rfl
  obtain ⟨l, cs, rfl, hl, wl⟩ := wf_page h0
  obtain ⟨xs, rfl, hb2, hl2, hx2⟩ := wf_sl h2 rfl
  obtain ⟨os, rfl, ho⟩ := sts_of xs hx2
  simp only [argVs, argV, tab55, ty55, tab57, ty57, tab25, ty25, tab3, ty3, tab52, ty52, TD.isAgg, Bool.false_eq_true, if_false, if_true, tab65, ty65]
  exact c11 l cs hl a1 os a3
theorem wit (os : Os) (started : os.Started) (H : Type) (enc : TypeId × Value → H) : ∃ (w : World) (tape : Tape) (i : Input), w.os = os ∧ (w.forCall tape i).Shaped Try.checked.prog ∧ i.vars = [] ∧ Input.okWide Try.checked.prog (w.forCall tape i) .any w.heap.size 11 i ∧
      Rows.redoPageSpec.pre6 enc Try.checked.prog Try.f11 [] false (w.forCall tape i).memory i.args ∧ ({} : Assume).holds Try.checked.prog (lone (Frame.enter Try.checked.prog 11 i.args .normal) [] (w.forCall tape i)) :=
    (ChangeSpec.witness6 (enc := enc) (C := Try.checked) false ⟨#[], #[.agg #[.int .u64 0, .bool false, .string ByteArray.empty, .bool false, .string ByteArray.empty, .bool false, .string ByteArray.empty, .bool false, .string ByteArray.empty, .bool false, .string ByteArray.empty, .bool false, .string ByteArray.empty, .bool false, .string ByteArray.empty, .bool false, .string ByteArray.empty], .int .i64 0, .slice none 0 0, .int .u64 0], []⟩ 8 (by kernel_rfl) (by kernel_rfl) (by kernel_rfl) (by kernel_rfl))
theorem lifted (os : Os) (started : os.Started) (H : Type) (enc : TypeId × Value → H) :
    ReturnsInHanded {} Try.checked os 11 .any (Rows.redoPageSpec.pre6 enc Try.prog Try.f11 [] false) (Rows.redoPageSpec.post enc Try.prog Try.f11 false true false false) :=
  law_said (ts := [55, 3, 65, 25]) started (by kernel_rfl) Try.func11 (by rw [Try.params11]) rfl rfl
    (fun H ds hd => by match ds, hd with | [d1, d2, d3, d4], _ => rfl) (by decide) (by kernel_rfl)
    (wit os started H enc) holds
theorem closed : joinedFacts Try.prog 11 Try.f11 Rows.redoPageSpec Rows.redoPageRow = true :=
  joined_of (by kernel_rfl) laidOut pMaps pStops pKnobs pHeard pEnter pLifts pMake pKeys (by kernel_rfl) (by kernel_rfl) (by kernel_rfl) (by kernel_rfl) (by kernel_rfl) (by kernel_rfl) (by kernel_rfl) (by kernel_rfl) (by kernel_rfl)
theorem over : Rows.redoPageRow.holds Try.pinned (OpenSpec.ofChange Rows.redoPageSpec) :=
  OpenClaim.holds_of_wide 11 Try.f11 rfl rfl rfl rfl rfl rfl rfl ⟨rfl, rfl, rfl, rfl, rfl⟩ rfl rfl rfl rfl rfl (by kernel_rfl) Try.func11 closed
    (of_decide_eq_true (by kernel_rfl)) (by unfold Func.isWrapper; first | (rw [if_pos (by decide +kernel)]; kernel_rfl) | (rw [if_neg (by decide +kernel)]; exact ⟨rfl, rfl⟩))
    (fun os started H enc _ => lifted os started H enc)
end Go.Proofs.Ytocalihefpafgaa.LRedoPage
namespace Go.Proofs.Ytocalihefpafgaa
theorem redoPage_holds : Rows.RedoPageSaid := LRedoPage.over
#print axioms redoPage_holds
end Go.Proofs.Ytocalihefpafgaa
