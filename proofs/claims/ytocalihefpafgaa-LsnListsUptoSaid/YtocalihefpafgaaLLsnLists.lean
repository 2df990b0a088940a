/- For every input of bulk at most 1048576 the law LsnLists returns true; each argument reads as it did. Condition: what it reads is of bulk at most 1048576. -/
import Derived.Test.YtocalihefpafgaaD4
import Derived.Test.YtocalihefpafgaaA18
set_option maxRecDepth 100000
set_option linter.unusedSimpArgs false
set_option linter.unusedVariables false
namespace Go.Proofs.Ytocalihefpafgaa.LLsnLists
open Go.AW Go.ChangeShapes Go.WideShapes Go.ChangeAt Go.RowKit
theorem holds (qss : List (List PV)) (h : WfArgs tab [22, 22] qss) (hb : pbLL qss ≤ 1048576) : ConSem Try.prog tab 3 (argVs tab [22, 22] qss) [] (.one (.p (.bool true))) [] := by
  obtain ⟨q0, r0, rfl, h0, h⟩ := wfArgs_cons h
  obtain ⟨q1, r1, rfl, h1, h⟩ := wfArgs_cons h
  obtain rfl := wfArgs_nil h
  obtain ⟨xs, rfl, hb0, hl0, hx0⟩ := wf_sl h0 rfl
  obtain ⟨ys, rfl, hb1, hl1, hx1⟩ := wf_sl h1 rfl
  obtain ⟨as1, rfl⟩ := nums_of xs hx0
  obtain ⟨as2, rfl⟩ := nums_of ys hx1
  simp only [argVs, argV, tab22, ty22, TD.isAgg, Bool.false_eq_true, if_false]
  simp only [pbLL, pbL, pb, pbLL_nums] at hb
  exact c3 as1 as2 (by omega) (by omega)
theorem wit (os : Os) (started : os.Started) (H : Type) (enc : TypeId × Value → H) : ∃ (w : World) (tape : Tape) (i : Input), w.os = os ∧ (w.forCall tape i).Shaped Try.checked.prog ∧ i.vars = [] ∧ Input.okWide Try.checked.prog (w.forCall tape i) .any w.heap.size 3 i ∧
      (Rows.OpenSpec.upto Rows.lsnListsSpec).pre6 enc Try.checked.prog Try.f3 [] false (w.forCall tape i).memory i.args ∧ ({} : Assume).holds Try.checked.prog (lone (Frame.enter Try.checked.prog 3 i.args .normal) [] (w.forCall tape i)) :=
    OpenSpec.witness (enc := enc) (C := Try.checked) (s := (Rows.OpenSpec.upto Rows.lsnListsSpec)) (k := Rows.uptoSmall) rfl (conds := []) (apart := false) false ⟨#[], #[.slice none 0 0, .slice none 0 0], []⟩ 8 (by kernel_rfl) (by kernel_rfl) (by kernel_rfl) (x := ([.nil, .nil], [], [])) (by kernel_rfl) rfl (by kernel_rfl)
theorem lifted (os : Os) (started : os.Started) (H : Type) (enc : TypeId × Value → H) (F : Stop.Interp) :
    ReturnsInHanded {} Try.checked os 3 .any ((Rows.OpenSpec.upto Rows.lsnListsSpec).pre6 enc Try.prog Try.f3 [] false) (((Rows.OpenSpec.upto Rows.lsnListsSpec).at F).post enc Try.prog Try.f3 false true false false) :=
  law_upto (ts := [22, 22]) started (by kernel_rfl) Try.func3 (by rw [Try.params3]) rfl rfl
    (fun H ds hd => by match ds, hd with | [d1, d2], _ => rfl) (by decide) (by kernel_rfl)
    (wit os started H enc) holds
theorem closed : joinedFacts Try.prog 3 Try.f3 (Rows.OpenSpec.upto Rows.lsnListsSpec).bare Rows.lsnListsUptoRow = true :=
  joined_of (by kernel_rfl) laidOut pMaps pStops pKnobs pHeard pEnter pLifts pMake pKeys (by kernel_rfl) (by kernel_rfl) (by kernel_rfl) (by kernel_rfl) (by kernel_rfl) (by kernel_rfl) (by kernel_rfl) (by kernel_rfl) (by kernel_rfl)
theorem over : Rows.lsnListsUptoRow.holds Try.pinned (Rows.OpenSpec.upto Rows.lsnListsSpec) :=
  OpenClaim.holds_of_cond 3 Try.f3 rfl rfl rfl rfl rfl rfl rfl ⟨rfl, rfl, rfl, rfl, rfl⟩ rfl rfl rfl rfl rfl (by kernel_rfl) Try.func3 closed
    (of_decide_eq_true (by kernel_rfl)) (by unfold Func.isWrapper; first | (rw [if_pos (by decide +kernel)]; kernel_rfl) | (rw [if_neg (by decide +kernel)]; exact ⟨rfl, rfl⟩))
    (fun os started H enc _ F => lifted os started H enc F)
end Go.Proofs.Ytocalihefpafgaa.LLsnLists
namespace Go.Proofs.Ytocalihefpafgaa
theorem lsnLists_holds : Rows.LsnListsUptoSaid := LLsnLists.over
#print axioms lsnLists_holds
end Go.Proofs.Ytocalihefpafgaa
