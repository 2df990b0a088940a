/- For every input the law LsnNil returns true; each argument reads as it did. No condition. -/
import Derived.Test.YtocalihefpafgaaB5
import Derived.Test.YtocalihefpafgaaA18
set_option maxRecDepth 100000
set_option linter.unusedSimpArgs false
set_option linter.unusedVariables false
namespace Go.Proofs.Ytocalihefpafgaa.LLsnNil
open Go.AW Go.ChangeShapes Go.WideShapes Go.ChangeAt Go.RowKit
theorem holds (qss : List (List PV)) (h : WfArgs tab [39] qss) : ConSem Try.prog tab 8 (argVs tab [39] qss) [] (.one (.p (.bool true))) [] := by
  obtain ⟨q0, r0, rfl, h0, h⟩ := wfArgs_cons h
  obtain rfl := wfArgs_nil h
  obtain ⟨x0, y0, rfl, k0, h0⟩ := wf_field (wf_struct h0 rfl)
  obtain ⟨x1, y1, rfl, k1, h0⟩ := wf_field h0
  obtain ⟨x2, y2, rfl, k2, h0⟩ := wf_field h0
  obtain rfl := wf_end h0
  obtain ⟨a0, rfl, w0⟩ := wf_int (k := .i64) k0 rfl
  obtain ⟨a1, rfl, w1⟩ := wf_int (k := .u64) k1 rfl
  obtain ⟨a2, rfl⟩ := wf_bool k2 rfl
  simp only [argVs, argV, tab39, ty39, TD.isAgg, if_true]
  exact c8 a0 a1 a2
theorem wit (os : Os) (started : os.Started) (H : Type) (enc : TypeId × Value → H) : ∃ (w : World) (tape : Tape) (i : Input), w.os = os ∧ (w.forCall tape i).Shaped Try.checked.prog ∧ i.vars = [] ∧ Input.okWide Try.checked.prog (w.forCall tape i) .any w.heap.size 8 i ∧
      Rows.lsnNilSpec.pre6 enc Try.checked.prog Try.f8 [] false (w.forCall tape i).memory i.args ∧ ({} : Assume).holds Try.checked.prog (lone (Frame.enter Try.checked.prog 8 i.args .normal) [] (w.forCall tape i)) :=
    (ChangeSpec.witness6 (enc := enc) (C := Try.checked) false ⟨#[], #[.agg #[.int .i64 0, .int .u64 0, .bool false]], []⟩ 8 (by kernel_rfl) (by kernel_rfl) (by kernel_rfl) (by kernel_rfl))
theorem lifted (os : Os) (started : os.Started) (H : Type) (enc : TypeId × Value → H) :
    ReturnsInHanded {} Try.checked os 8 .any (Rows.lsnNilSpec.pre6 enc Try.prog Try.f8 [] false) (Rows.lsnNilSpec.post enc Try.prog Try.f8 false true false false) :=
  law_said (ts := [39]) started (by kernel_rfl) Try.func8 (by rw [Try.params8]) rfl rfl
    (fun H ds hd => by match ds, hd with | [d1], _ => rfl) (by decide) (by kernel_rfl)
    (wit os started H enc) holds
theorem closed : joinedFacts Try.prog 8 Try.f8 Rows.lsnNilSpec Rows.lsnNilRow = true :=
  joined_of (by kernel_rfl) laidOut pMaps pStops pKnobs pHeard pEnter pLifts pMake pKeys (by kernel_rfl) (by kernel_rfl) (by kernel_rfl) (by kernel_rfl) (by kernel_rfl) (by kernel_rfl) (by kernel_rfl) (by kernel_rfl) (by kernel_rfl)
theorem over : Rows.lsnNilRow.holds Try.pinned (OpenSpec.ofChange Rows.lsnNilSpec) :=
  OpenClaim.holds_of_wide 8 Try.f8 rfl rfl rfl rfl rfl rfl rfl ⟨rfl, rfl, rfl, rfl, rfl⟩ rfl rfl rfl rfl rfl (by kernel_rfl) Try.func8 closed
    (of_decide_eq_true (by kernel_rfl)) (by unfold Func.isWrapper; first | (rw [if_pos (by decide +kernel)]; kernel_rfl) | (rw [if_neg (by decide +kernel)]; exact ⟨rfl, rfl⟩))
    (fun os started H enc _ => lifted os started H enc)
end Go.Proofs.Ytocalihefpafgaa.LLsnNil
namespace Go.Proofs.Ytocalihefpafgaa
theorem lsnNil_holds : Rows.LsnNilSaid := LLsnNil.over
#print axioms lsnNil_holds
end Go.Proofs.Ytocalihefpafgaa
