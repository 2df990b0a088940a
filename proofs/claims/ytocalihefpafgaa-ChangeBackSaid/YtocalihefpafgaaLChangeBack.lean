/- For every input the law ChangeBack returns true; each argument reads as it did. No condition. -/
import Derived.Test.YtocalihefpafgaaC8
import Derived.Test.YtocalihefpafgaaA18
set_option maxRecDepth 100000
set_option linter.unusedSimpArgs false
set_option linter.unusedVariables false
namespace Go.Proofs.Ytocalihefpafgaa.LChangeBack
open Go.AW Go.ChangeShapes Go.WideShapes Go.ChangeAt Go.RowKit
theorem holds (qss : List (List PV)) (h : WfArgs tab [55, 57, 25, 25] qss) : ConSem Try.prog tab 14 (argVs tab [55, 57, 25, 25] qss) [] (.one (.p (.bool true))) [] := by
  obtain ⟨q0, r0, rfl, h0, h⟩ := wfArgs_cons h
  obtain ⟨q1, r1, rfl, h1, h⟩ := wfArgs_cons h
  obtain ⟨q2, r2, rfl, h2, h⟩ := wfArgs_cons h
  obtain ⟨q3, r3, rfl, h3, h⟩ := wfArgs_cons h
  obtain rfl := wfArgs_nil h
  obtain ⟨a2, rfl, w2⟩ := wf_int (k := .u64) h2 rfl
  obtain ⟨a3, rfl, w3⟩ := wf_int (k := .u64) h3 rfl
  obtain ⟨l, cs, rfl, hl, wl⟩ := wf_page h0
  obtain ⟨c, rfl, wk, wp, ws⟩ := wf_chg h1
  simp only [argVs, argV, tab55, ty55, tab57, ty57, tab25, ty25, tab3, ty3, tab52, ty52, TD.isAgg, Bool.false_eq_true, if_false, if_true]
  exact c14 l cs hl c a2 a3
theorem wit (os : Os) (started : os.Started) (H : Type) (enc : TypeId × Value → H) : ∃ (w : World) (tape : Tape) (i : Input), w.os = os ∧ (w.forCall tape i).Shaped Try.checked.prog ∧ i.vars = [] ∧ Input.okWide Try.checked.prog (w.forCall tape i) .any w.heap.size 14 i ∧
      Rows.changeBackSpec.pre6 enc Try.checked.prog Try.f14 [] false (w.forCall tape i).memory i.args ∧ ({} : Assume).holds Try.checked.prog (lone (Frame.enter Try.checked.prog 14 i.args .normal) [] (w.forCall tape i)) :=
    (ChangeSpec.witness6 (enc := enc) (C := Try.checked) false ⟨#[], #[.agg #[.int .u64 0, .bool false, .string ByteArray.empty, .bool false, .string ByteArray.empty, .bool false, .string ByteArray.empty, .bool false, .string ByteArray.empty, .bool false, .string ByteArray.empty, .bool false, .string ByteArray.empty, .bool false, .string ByteArray.empty, .bool false, .string ByteArray.empty], .agg #[.int .i64 0, .int .i64 0, .int .i64 0, .string ByteArray.empty, .string ByteArray.empty], .int .u64 0, .int .u64 0], []⟩ 8 (by kernel_rfl) (by kernel_rfl) (by kernel_rfl) (by kernel_rfl))
theorem lifted (os : Os) (started : os.Started) (H : Type) (enc : TypeId × Value → H) :
    ReturnsInHanded {} Try.checked os 14 .any (Rows.changeBackSpec.pre6 enc Try.prog Try.f14 [] false) (Rows.changeBackSpec.post enc Try.prog Try.f14 false true false false) :=
  law_said (ts := [55, 57, 25, 25]) started (by kernel_rfl) Try.func14 (by rw [Try.params14]) rfl rfl
    (fun H ds hd => by match ds, hd with | [d1, d2, d3, d4], _ => rfl) (by decide) (by kernel_rfl)
    (wit os started H enc) holds
theorem closed : joinedFacts Try.prog 14 Try.f14 Rows.changeBackSpec Rows.changeBackRow = true :=
  joined_of (by kernel_rfl) laidOut pMaps pStops pKnobs pHeard pEnter pLifts pMake pKeys (by kernel_rfl) (by kernel_rfl) (by kernel_rfl) (by kernel_rfl) (by kernel_rfl) (by kernel_rfl) (by kernel_rfl) (by kernel_rfl) (by kernel_rfl)
theorem over : Rows.changeBackRow.holds Try.pinned (OpenSpec.ofChange Rows.changeBackSpec) :=
  OpenClaim.holds_of_wide 14 Try.f14 rfl rfl rfl rfl rfl rfl rfl ⟨rfl, rfl, rfl, rfl, rfl⟩ rfl rfl rfl rfl rfl (by kernel_rfl) Try.func14 closed
    (of_decide_eq_true (by kernel_rfl)) (by unfold Func.isWrapper; first | (rw [if_pos (by decide +kernel)]; kernel_rfl) | (rw [if_neg (by decide +kernel)]; exact ⟨rfl, rfl⟩))
    (fun os started H enc _ => lifted os started H enc)
end Go.Proofs.Ytocalihefpafgaa.LChangeBack
namespace Go.Proofs.Ytocalihefpafgaa
theorem changeBack_holds : Rows.ChangeBackSaid := LChangeBack.over
#print axioms changeBack_holds
end Go.Proofs.Ytocalihefpafgaa
