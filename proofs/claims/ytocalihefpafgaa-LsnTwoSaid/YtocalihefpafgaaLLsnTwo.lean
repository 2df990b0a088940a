/- For every input the law LsnTwo returns true; each argument reads as it did. No condition. -/
import Derived.Test.YtocalihefpafgaaD3
import Derived.Test.YtocalihefpafgaaA18
set_option maxRecDepth 100000
set_option linter.unusedSimpArgs false
set_option linter.unusedVariables false
namespace Go.Proofs.Ytocalihefpafgaa.LLsnTwo
open Go.AW Go.ChangeShapes Go.WideShapes Go.ChangeAt Go.RowKit
theorem holds (qss : List (List PV)) (h : WfArgs tab [25, 25, 48] qss) : ConSem Try.prog tab 7 (argVs tab [25, 25, 48] qss) [] (.one (.p (.bool true))) [] := by
  obtain ⟨q0, r0, rfl, h0, h⟩ := wfArgs_cons h
  obtain ⟨q1, r1, rfl, h1, h⟩ := wfArgs_cons h
  obtain ⟨q2, r2, rfl, h2, h⟩ := wfArgs_cons h
  obtain rfl := wfArgs_nil h
  obtain ⟨a0, rfl, w0⟩ := wf_int (k := .u64) h0 rfl
  obtain ⟨a1, rfl, w1⟩ := wf_int (k := .u64) h1 rfl
  obtain ⟨xs, rfl, hb, hl, hx⟩ := wf_sl h2 rfl
  obtain ⟨os, rfl⟩ := bls_of xs hx
  simp only [argVs, argV, tab25, ty25, tab48, ty48, TD.isAgg, Bool.false_eq_true, if_false]
  exact c7 a0 a1 (wf_u64 w0).1 (wf_u64 w1).1 os (by simpa [bls_length] using hl)
theorem wit (os : Os) (started : os.Started) (H : Type) (enc : TypeId × Value → H) : ∃ (w : World) (tape : Tape) (i : Input), w.os = os ∧ (w.forCall tape i).Shaped Try.checked.prog ∧ i.vars = [] ∧ Input.okWide Try.checked.prog (w.forCall tape i) .any w.heap.size 7 i ∧
      Rows.lsnTwoSpec.pre6 enc Try.checked.prog Try.f7 [] false (w.forCall tape i).memory i.args ∧ ({} : Assume).holds Try.checked.prog (lone (Frame.enter Try.checked.prog 7 i.args .normal) [] (w.forCall tape i)) :=
    (ChangeSpec.witness6 (enc := enc) (C := Try.checked) false ⟨#[], #[.int .u64 0, .int .u64 0, .slice none 0 0], []⟩ 8 (by kernel_rfl) (by kernel_rfl) (by kernel_rfl) (by kernel_rfl))
theorem lifted (os : Os) (started : os.Started) (H : Type) (enc : TypeId × Value → H) :
    ReturnsInHanded {} Try.checked os 7 .any (Rows.lsnTwoSpec.pre6 enc Try.prog Try.f7 [] false) (Rows.lsnTwoSpec.post enc Try.prog Try.f7 false true false false) :=
  law_said (ts := [25, 25, 48]) started (by kernel_rfl) Try.func7 (by rw [Try.params7]) rfl rfl
    (fun H ds hd => by match ds, hd with | [d1, d2, d3], _ => rfl) (by decide) (by kernel_rfl)
    (wit os started H enc) holds
theorem closed : joinedFacts Try.prog 7 Try.f7 Rows.lsnTwoSpec Rows.lsnTwoRow = true :=
  joined_of (by kernel_rfl) laidOut pMaps pStops pKnobs pHeard pEnter pLifts pMake pKeys (by kernel_rfl) (by kernel_rfl) (by kernel_rfl) (by kernel_rfl) (by kernel_rfl) (by kernel_rfl) (by kernel_rfl) (by kernel_rfl) (by kernel_rfl)
theorem over : Rows.lsnTwoRow.holds Try.pinned (OpenSpec.ofChange Rows.lsnTwoSpec) :=
  OpenClaim.holds_of_wide 7 Try.f7 rfl rfl rfl rfl rfl rfl rfl ⟨rfl, rfl, rfl, rfl, rfl⟩ rfl rfl rfl rfl rfl (by kernel_rfl) Try.func7 closed
    (of_decide_eq_true (by kernel_rfl)) (by unfold Func.isWrapper; first | (rw [if_pos (by decide +kernel)]; kernel_rfl) | (rw [if_neg (by decide +kernel)]; exact ⟨rfl, rfl⟩))
    (fun os started H enc _ => lifted os started H enc)
end Go.Proofs.Ytocalihefpafgaa.LLsnTwo
namespace Go.Proofs.Ytocalihefpafgaa
theorem lsnTwo_holds : Rows.LsnTwoSaid := LLsnTwo.over
#print axioms lsnTwo_holds
end Go.Proofs.Ytocalihefpafgaa
