/- Facts of the program that every row of this seat asks for, each reckoned by itself. -/
import Derived.Test.YtocalihefpafgaaA16
import Derived.KernelRfl
set_option maxRecDepth 100000
set_option linter.unusedSimpArgs false
namespace Go.AW
open Go Go.Proofs Go.Proofs.Ytocalihefpafgaa
theorem pLays : Try.prog.laysLater = false := by kernel_rfl
theorem pRefl : Try.prog.bearsReflect = false := by kernel_rfl
theorem pRows : Try.prog.doorRows = [] := by kernel_rfl
theorem pDoor : Try.prog.doorFits [] = true := by
  unfold Program.doorFits
  rw [pRows]
  rfl
theorem strip_cut (rest : List (List Char)) : stripLifts liftWords ("cut".toList :: rest) = ([], "cut".toList :: rest) := by
  simp [liftWords, stripLifts]
theorem pWords : ∃ rest, behindMainWord (wordsSigns Try.prog.initOrder.toList) = "cut".toList :: rest := by
  have h : Try.prog.initOrder.toList = _ := (congrArg String.toList (rfl : Try.prog.initOrder = String.ofList _)).trans String.toList_ofList
  have h2 : "cut".toList = _ := (congrArg String.toList (rfl : "cut" = String.ofList _)).trans String.toList_ofList
  rw [h, h2]
  exact ⟨_, rfl⟩
theorem enter_of {P : Program} {rest : List (List Char)} (h1 : behindMainWord (wordsSigns P.initOrder.toList) = "cut".toList :: rest) (h2 : P.laysLater = false) (h3 : P.bearsReflect = false) (h4 : P.doorFits [] = true) : P.mayEnter = true := by
  unfold Program.mayEnter
  rw [h1]
  simp only [strip_cut, h2, h3, h4, List.head?_cons, List.contains_nil, Bool.not_false, Bool.false_or, Bool.and_true, Bool.true_and, beq_self_eq_true, Bool.or_true, Bool.not_true, Bool.or_false]
theorem pEnter : Try.prog.mayEnter = true := by
  obtain ⟨rest, h1⟩ := pWords
  exact enter_of h1 pLays pRefl pDoor
theorem make_of {P : Program} {rest : List (List Char)} (h1 : behindMainWord (wordsSigns P.initOrder.toList) = "cut".toList :: rest) : P.make = some .cut := by
  unfold Program.make
  rw [h1]
  simp
theorem pMake : Try.prog.make = some .cut := by
  obtain ⟨rest, h1⟩ := pWords
  exact make_of h1
theorem pLifts : Try.prog.liftsFinal = false := by
  have h : Try.prog.initOrder.toList = _ := (congrArg String.toList (rfl : Try.prog.initOrder = String.ofList _)).trans String.toList_ofList
  unfold Program.liftsFinal Program.headLifts
  simp only [h]
  decide
theorem pRace : Try.prog.funcs.all (fun fn => !fn.norace) = true := by kernel_rfl
theorem pHeard : Try.prog.stopsHeard = true := by
  have h := pRace
  unfold Program.stopsHeard
  rw [Array.all_eq_true_iff_forall_mem] at h ⊢
  intro fn hfn
  rw [h fn hfn, Bool.or_true]
theorem pMaps : mapsRowed Try.prog = true := by kernel_rfl
theorem pStops : Try.prog.stops = [] := by kernel_rfl
theorem pKnobs : Try.prog.stopKnobs = [] := by kernel_rfl
theorem pKeys : Try.prog.plainKeys = Rows.lsnOrdersRow.plainKeys := by kernel_rfl

/-- The row's closed facts, each by itself. -/
theorem joined_of {P : Program} {f : FuncId} {fn : Func} {s : ChangeSpec} {c : OpenClaim} (h1 : (c.wf (OpenSpec.ofChange s) && fn.params.all (P.readableRec ·) && namedTie P c.named s.vars && (c.stops == []) && (c.knobs == []) && c.shortTexts.isNone && (c.pinned == c.pinnedBy)) = true)
    (h2 : laidOutB P = true) (h3 : mapsRowed P = true) (h4 : P.stops = []) (h5 : P.stopKnobs = []) (h6 : P.stopsHeard = true) (h7 : P.mayEnter = true) (h8 : P.liftsFinal = c.lifted) (h9 : P.make = some c.make) (h10 : P.plainKeys = c.plainKeys)
    (q1 : (c.inPlace == P.inPlace f) = true) (q2 : (c.unfollowed == P.unfollowed f) = true) (q3 : (c.recurses == P.recurses f) = true) (q4 : (c.named == P.varsNamed f) = true)
    (r1 : ((c.maps == (fn.params.toList ++ s.plain.varTypes P).any (P.mapsRec ·)) && (c.ifaces == (fn.params.toList ++ s.plain.varTypes P).any (P.ifacesRec ·)) && (c.mapsOut == P.mapsAmong fn.resultTypes.toList)) = true)
    (r2 : ((c.loops == (fn.params.toList ++ s.plain.varTypes P).any (P.loopsFrom ·)) && (c.wideKeys == (fn.params.toList ++ s.plain.varTypes P ++ fn.resultTypes.toList).any (P.wideKeysFrom ·))) = true)
    (r3 : (s.vars.all (P.varReadable ·) && fn.resultTypes.all (fun t => P.readableRec t && decide (t < P.types.size)) && (c.ifacesOut == fn.resultTypes.toList.any (P.ifacesRec ·)) && (c.loopsOut == fn.resultTypes.toList.any (P.loopsFrom ·))) = true)
    (r4 : (c.kinds == (if c.domain.isEmpty then [] else fn.params.toList.map fun t => match P.underlying t with | some (.int k) => some k | _ => none)) = true)
    (r5 : ((c.veiled == (fn.params.toList ++ s.plain.varTypes P ++ fn.resultTypes.toList).any (P.veiledRec ·)) && c.veiledFits P fn.params.toList (fn.params.toList ++ s.plain.varTypes P ++ fn.resultTypes.toList)) = true) : joinedFacts P f fn s c = true := by
  simp only [Bool.and_eq_true] at h1 r1 r2 r3 r5
  obtain ⟨⟨⟨⟨⟨⟨a1, a2⟩, a3⟩, a4⟩, a5⟩, a6⟩, a7⟩ := h1
  obtain ⟨⟨b1, b2⟩, b3⟩ := r1
  obtain ⟨c1, c2⟩ := r2
  obtain ⟨⟨⟨d1, d2⟩, d3⟩, d4⟩ := r3
  obtain ⟨e1, e2⟩ := r5
  have g4 : (P.stops == []) = true := by rw [h4]; rfl
  have g5 : (P.stopKnobs == []) = true := by rw [h5]; rfl
  have g8 : (c.lifted == P.liftsFinal) = true := by rw [h8]; simp
  have g9 : (P.make == some c.make) = true := by rw [h9]; simp
  have g10 : (c.plainKeys == P.plainKeys) = true := by rw [h10]; simp
  unfold joinedFacts
  simp only [Bool.and_eq_true]
  and_intros <;> assumption
end Go.AW
