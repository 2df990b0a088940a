/-
  No cell of these rows narrows 'for every input' (looked for: loops, veiled, ifaces, maps, wideKeys, modest, calm, conditions, laid).
  DERIVED. THE GIVEN ROWS OF THIS SEAT. 33 by the template 'for every input the law returns true; each argument reads behind the call as it read before'; 0 by the template 'total and deterministic' (their statements: YtocalihefpafgaaTotals.lean).
  GIVEN WITH THE SEED: the statements are not yours to turn. If you find one false, say at which input.
  Laid BY PROGRAM, IN A SANDBOX (cutbox-rows.mjs): the forced cells as the released guide's own fill.sh prints them over the translation 5a7be82f69da4e68… (all of the seat's roots in one cut). By AI agents, Wed Nov 11 2026. No macro, syntax, notation, axiom, sorry.
-/
import Derived.Test.YtocalihefpafgaaChecked
import GoSem.Claim
import GoSem.ClaimJoined
import GoSem.ClaimMapViews
import Derived.JoinedTies
import Derived.KernelRfl
namespace Go.Proofs.Ytocalihefpafgaa
/- THE CELL 'sum', in the pinned program and in every row, IS THE sha256 OF THE DUMP (.gsa) THAT YtocalihefpafgaaProg.lean LOADS. Nothing in Lean hashes anything: it is a label: what it is worth is what the hold of that sum in a sandbox is worth. -/
noncomputable def Try.pinned : Pinned := { name := "ytocalihefpafgaa", sum := "5a7be82f69da4e68148dddf8a2b648f97ef6996cf77a4279f61896ae07f27abf", checked := Try.checked }
namespace Rows
def none {H : Type} : Left H := { results := [], args := [] }

/-- 'quaysidelaw03.LsnLists': WHATEVER THE INPUT: true; the input reads as it did. -/
def lsnListsSpec : ChangeSpec := { name := "lsnLists", fn := fun _ => fun
  | [d1, d2] => { results := [.lit (.bool true)], args := [d1, d2] }
  | _ => none }
def lsnListsRow : OpenClaim := { program := "ytocalihefpafgaa", sum := "5a7be82f69da4e68148dddf8a2b648f97ef6996cf77a4279f61896ae07f27abf", func := "quayside/quaysidelaw03.LsnLists", spec := "lsnLists", apart := false }
def LsnListsSaid : Prop := lsnListsRow.holds Try.pinned (OpenSpec.ofChange lsnListsSpec)

/-- ITS FALSE NEIGHBOUR: 'it returns false'. Refute it at one input. -/
def lsnListsWrong : ChangeSpec := { name := "lsnLists", fn := fun _ => fun
  | [d1, d2] => { results := [.lit (.bool false)], args := [d1, d2] }
  | _ => none }
def LsnListsWrongFalsely : Prop := lsnListsRow.holds Try.pinned (OpenSpec.ofChange lsnListsWrong)

/-- 'quaysidelaw03.LsnOrders': WHATEVER THE INPUT: true; the input reads as it did. -/
def lsnOrdersSpec : ChangeSpec := { name := "lsnOrders", fn := fun _ => fun
  | [d1, d2, d3, d4, d5, d6] => { results := [.lit (.bool true)], args := [d1, d2, d3, d4, d5, d6] }
  | _ => none }
def lsnOrdersRow : OpenClaim := { program := "ytocalihefpafgaa", sum := "5a7be82f69da4e68148dddf8a2b648f97ef6996cf77a4279f61896ae07f27abf", func := "quayside/quaysidelaw03.LsnOrders", spec := "lsnOrders", apart := false }
def LsnOrdersSaid : Prop := lsnOrdersRow.holds Try.pinned (OpenSpec.ofChange lsnOrdersSpec)

/-- ITS FALSE NEIGHBOUR: 'it returns false'. Refute it at one input. -/
def lsnOrdersWrong : ChangeSpec := { name := "lsnOrders", fn := fun _ => fun
  | [d1, d2, d3, d4, d5, d6] => { results := [.lit (.bool false)], args := [d1, d2, d3, d4, d5, d6] }
  | _ => none }
def LsnOrdersWrongFalsely : Prop := lsnOrdersRow.holds Try.pinned (OpenSpec.ofChange lsnOrdersWrong)

/-- 'quaysidelaw03.LsnTicks': WHATEVER THE INPUT: true; the input reads as it did. -/
def lsnTicksSpec : ChangeSpec := { name := "lsnTicks", fn := fun _ => fun
  | [d1, d2, d3] => { results := [.lit (.bool true)], args := [d1, d2, d3] }
  | _ => none }
def lsnTicksRow : OpenClaim := { program := "ytocalihefpafgaa", sum := "5a7be82f69da4e68148dddf8a2b648f97ef6996cf77a4279f61896ae07f27abf", func := "quayside/quaysidelaw03.LsnTicks", spec := "lsnTicks", apart := false }
def LsnTicksSaid : Prop := lsnTicksRow.holds Try.pinned (OpenSpec.ofChange lsnTicksSpec)

/-- ITS FALSE NEIGHBOUR: 'it returns false'. Refute it at one input. -/
def lsnTicksWrong : ChangeSpec := { name := "lsnTicks", fn := fun _ => fun
  | [d1, d2, d3] => { results := [.lit (.bool false)], args := [d1, d2, d3] }
  | _ => none }
def LsnTicksWrongFalsely : Prop := lsnTicksRow.holds Try.pinned (OpenSpec.ofChange lsnTicksWrong)

/-- 'quaysidelaw03.LsnRises': WHATEVER THE INPUT: true; the input reads as it did. -/
def lsnRisesSpec : ChangeSpec := { name := "lsnRises", fn := fun _ => fun
  | [d1, d2] => { results := [.lit (.bool true)], args := [d1, d2] }
  | _ => none }
def lsnRisesRow : OpenClaim := { program := "ytocalihefpafgaa", sum := "5a7be82f69da4e68148dddf8a2b648f97ef6996cf77a4279f61896ae07f27abf", func := "quayside/quaysidelaw03.LsnRises", spec := "lsnRises", apart := false }
def LsnRisesSaid : Prop := lsnRisesRow.holds Try.pinned (OpenSpec.ofChange lsnRisesSpec)

/-- ITS FALSE NEIGHBOUR: 'it returns false'. Refute it at one input. -/
def lsnRisesWrong : ChangeSpec := { name := "lsnRises", fn := fun _ => fun
  | [d1, d2] => { results := [.lit (.bool false)], args := [d1, d2] }
  | _ => none }
def LsnRisesWrongFalsely : Prop := lsnRisesRow.holds Try.pinned (OpenSpec.ofChange lsnRisesWrong)

/-- 'quaysidelaw03.LsnTwo': WHATEVER THE INPUT: true; the input reads as it did. -/
def lsnTwoSpec : ChangeSpec := { name := "lsnTwo", fn := fun _ => fun
  | [d1, d2, d3] => { results := [.lit (.bool true)], args := [d1, d2, d3] }
  | _ => none }
def lsnTwoRow : OpenClaim := { program := "ytocalihefpafgaa", sum := "5a7be82f69da4e68148dddf8a2b648f97ef6996cf77a4279f61896ae07f27abf", func := "quayside/quaysidelaw03.LsnTwo", spec := "lsnTwo", apart := false }
def LsnTwoSaid : Prop := lsnTwoRow.holds Try.pinned (OpenSpec.ofChange lsnTwoSpec)

/-- ITS FALSE NEIGHBOUR: 'it returns false'. Refute it at one input. -/
def lsnTwoWrong : ChangeSpec := { name := "lsnTwo", fn := fun _ => fun
  | [d1, d2, d3] => { results := [.lit (.bool false)], args := [d1, d2, d3] }
  | _ => none }
def LsnTwoWrongFalsely : Prop := lsnTwoRow.holds Try.pinned (OpenSpec.ofChange lsnTwoWrong)

/-- 'quaysidelaw03.LsnNil': WHATEVER THE INPUT: true; the input reads as it did. -/
def lsnNilSpec : ChangeSpec := { name := "lsnNil", fn := fun _ => fun
  | [d] => { results := [.lit (.bool true)], args := [d] }
  | _ => none }
def lsnNilRow : OpenClaim := { program := "ytocalihefpafgaa", sum := "5a7be82f69da4e68148dddf8a2b648f97ef6996cf77a4279f61896ae07f27abf", func := "quayside/quaysidelaw03.LsnNil", spec := "lsnNil", apart := false }
def LsnNilSaid : Prop := lsnNilRow.holds Try.pinned (OpenSpec.ofChange lsnNilSpec)

/-- ITS FALSE NEIGHBOUR: 'it returns false'. Refute it at one input. -/
def lsnNilWrong : ChangeSpec := { name := "lsnNil", fn := fun _ => fun
  | [d] => { results := [.lit (.bool false)], args := [d] }
  | _ => none }
def LsnNilWrongFalsely : Prop := lsnNilRow.holds Try.pinned (OpenSpec.ofChange lsnNilWrong)

/-- 'quaysidelaw05.ChangeApplies': WHATEVER THE INPUT: true; the input reads as it did. -/
def changeAppliesSpec : ChangeSpec := { name := "changeApplies", fn := fun _ => fun
  | [d1, d2, d3] => { results := [.lit (.bool true)], args := [d1, d2, d3] }
  | _ => none }
def changeAppliesRow : OpenClaim := { program := "ytocalihefpafgaa", sum := "5a7be82f69da4e68148dddf8a2b648f97ef6996cf77a4279f61896ae07f27abf", func := "quayside/quaysidelaw05.ChangeApplies", spec := "changeApplies", apart := false }
def ChangeAppliesSaid : Prop := changeAppliesRow.holds Try.pinned (OpenSpec.ofChange changeAppliesSpec)

/-- ITS FALSE NEIGHBOUR: 'it returns false'. Refute it at one input. -/
def changeAppliesWrong : ChangeSpec := { name := "changeApplies", fn := fun _ => fun
  | [d1, d2, d3] => { results := [.lit (.bool false)], args := [d1, d2, d3] }
  | _ => none }
def ChangeAppliesWrongFalsely : Prop := changeAppliesRow.holds Try.pinned (OpenSpec.ofChange changeAppliesWrong)

/-- 'quaysidelaw05.ChangeApart': WHATEVER THE INPUT: true; the input reads as it did. -/
def changeApartSpec : ChangeSpec := { name := "changeApart", fn := fun _ => fun
  | [d1, d2, d3] => { results := [.lit (.bool true)], args := [d1, d2, d3] }
  | _ => none }
def changeApartRow : OpenClaim := { program := "ytocalihefpafgaa", sum := "5a7be82f69da4e68148dddf8a2b648f97ef6996cf77a4279f61896ae07f27abf", func := "quayside/quaysidelaw05.ChangeApart", spec := "changeApart", apart := false }
def ChangeApartSaid : Prop := changeApartRow.holds Try.pinned (OpenSpec.ofChange changeApartSpec)

/-- ITS FALSE NEIGHBOUR: 'it returns false'. Refute it at one input. -/
def changeApartWrong : ChangeSpec := { name := "changeApart", fn := fun _ => fun
  | [d1, d2, d3] => { results := [.lit (.bool false)], args := [d1, d2, d3] }
  | _ => none }
def ChangeApartWrongFalsely : Prop := changeApartRow.holds Try.pinned (OpenSpec.ofChange changeApartWrong)

/-- 'quaysidelaw18.RedoPage': WHATEVER THE INPUT: true; the input reads as it did. -/
def redoPageSpec : ChangeSpec := { name := "redoPage", fn := fun _ => fun
  | [d1, d2, d3, d4] => { results := [.lit (.bool true)], args := [d1, d2, d3, d4] }
  | _ => none }
def redoPageRow : OpenClaim := { program := "ytocalihefpafgaa", sum := "5a7be82f69da4e68148dddf8a2b648f97ef6996cf77a4279f61896ae07f27abf", func := "quayside/quaysidelaw18.RedoPage", spec := "redoPage", unfollowed := true, recurses := true, apart := false }
def RedoPageSaid : Prop := redoPageRow.holds Try.pinned (OpenSpec.ofChange redoPageSpec)

/-- ITS FALSE NEIGHBOUR: 'it returns false'. Refute it at one input. -/
def redoPageWrong : ChangeSpec := { name := "redoPage", fn := fun _ => fun
  | [d1, d2, d3, d4] => { results := [.lit (.bool false)], args := [d1, d2, d3, d4] }
  | _ => none }
def RedoPageWrongFalsely : Prop := redoPageRow.holds Try.pinned (OpenSpec.ofChange redoPageWrong)

/-- 'quaysidelaw05.ChangeOne': WHATEVER THE INPUT: true; the input reads as it did. -/
def changeOneSpec : ChangeSpec := { name := "changeOne", fn := fun _ => fun
  | [d1, d2, d3] => { results := [.lit (.bool true)], args := [d1, d2, d3] }
  | _ => none }
def changeOneRow : OpenClaim := { program := "ytocalihefpafgaa", sum := "5a7be82f69da4e68148dddf8a2b648f97ef6996cf77a4279f61896ae07f27abf", func := "quayside/quaysidelaw05.ChangeOne", spec := "changeOne", apart := false }
def ChangeOneSaid : Prop := changeOneRow.holds Try.pinned (OpenSpec.ofChange changeOneSpec)

/-- ITS FALSE NEIGHBOUR: 'it returns false'. Refute it at one input. -/
def changeOneWrong : ChangeSpec := { name := "changeOne", fn := fun _ => fun
  | [d1, d2, d3] => { results := [.lit (.bool false)], args := [d1, d2, d3] }
  | _ => none }
def ChangeOneWrongFalsely : Prop := changeOneRow.holds Try.pinned (OpenSpec.ofChange changeOneWrong)

/-- 'quaysidelaw05.ChangeTurns': WHATEVER THE INPUT: true; the input reads as it did. -/
def changeTurnsSpec : ChangeSpec := { name := "changeTurns", fn := fun _ => fun
  | [d] => { results := [.lit (.bool true)], args := [d] }
  | _ => none }
def changeTurnsRow : OpenClaim := { program := "ytocalihefpafgaa", sum := "5a7be82f69da4e68148dddf8a2b648f97ef6996cf77a4279f61896ae07f27abf", func := "quayside/quaysidelaw05.ChangeTurns", spec := "changeTurns", apart := false }
def ChangeTurnsSaid : Prop := changeTurnsRow.holds Try.pinned (OpenSpec.ofChange changeTurnsSpec)

/-- ITS FALSE NEIGHBOUR: 'it returns false'. Refute it at one input. -/
def changeTurnsWrong : ChangeSpec := { name := "changeTurns", fn := fun _ => fun
  | [d] => { results := [.lit (.bool false)], args := [d] }
  | _ => none }
def ChangeTurnsWrongFalsely : Prop := changeTurnsRow.holds Try.pinned (OpenSpec.ofChange changeTurnsWrong)

/-- 'quaysidelaw05.ChangeBack': WHATEVER THE INPUT: true; the input reads as it did. -/
def changeBackSpec : ChangeSpec := { name := "changeBack", fn := fun _ => fun
  | [d1, d2, d3, d4] => { results := [.lit (.bool true)], args := [d1, d2, d3, d4] }
  | _ => none }
def changeBackRow : OpenClaim := { program := "ytocalihefpafgaa", sum := "5a7be82f69da4e68148dddf8a2b648f97ef6996cf77a4279f61896ae07f27abf", func := "quayside/quaysidelaw05.ChangeBack", spec := "changeBack", apart := false }
def ChangeBackSaid : Prop := changeBackRow.holds Try.pinned (OpenSpec.ofChange changeBackSpec)

/-- ITS FALSE NEIGHBOUR: 'it returns false'. Refute it at one input. -/
def changeBackWrong : ChangeSpec := { name := "changeBack", fn := fun _ => fun
  | [d1, d2, d3, d4] => { results := [.lit (.bool false)], args := [d1, d2, d3, d4] }
  | _ => none }
def ChangeBackWrongFalsely : Prop := changeBackRow.holds Try.pinned (OpenSpec.ofChange changeBackWrong)

/-- 'quaysidelaw18.RedoVersions': WHATEVER THE INPUT: true; the input reads as it did. -/
def redoVersionsSpec : ChangeSpec := { name := "redoVersions", fn := fun _ => fun
  | [d1, d2, d3] => { results := [.lit (.bool true)], args := [d1, d2, d3] }
  | _ => none }
def redoVersionsRow : OpenClaim := { program := "ytocalihefpafgaa", sum := "5a7be82f69da4e68148dddf8a2b648f97ef6996cf77a4279f61896ae07f27abf", func := "quayside/quaysidelaw18.RedoVersions", spec := "redoVersions", unfollowed := true, recurses := true, apart := false }
def RedoVersionsSaid : Prop := redoVersionsRow.holds Try.pinned (OpenSpec.ofChange redoVersionsSpec)

/-- ITS FALSE NEIGHBOUR: 'it returns false'. Refute it at one input. -/
def redoVersionsWrong : ChangeSpec := { name := "redoVersions", fn := fun _ => fun
  | [d1, d2, d3] => { results := [.lit (.bool false)], args := [d1, d2, d3] }
  | _ => none }
def RedoVersionsWrongFalsely : Prop := redoVersionsRow.holds Try.pinned (OpenSpec.ofChange redoVersionsWrong)

/-- 'quaysidelaw05.ChangeMakes': WHATEVER THE INPUT: true; the input reads as it did. -/
def changeMakesSpec : ChangeSpec := { name := "changeMakes", fn := fun _ => fun
  | [d1, d2, d3, d4] => { results := [.lit (.bool true)], args := [d1, d2, d3, d4] }
  | _ => none }
def changeMakesRow : OpenClaim := { program := "ytocalihefpafgaa", sum := "5a7be82f69da4e68148dddf8a2b648f97ef6996cf77a4279f61896ae07f27abf", func := "quayside/quaysidelaw05.ChangeMakes", spec := "changeMakes", apart := false }
def ChangeMakesSaid : Prop := changeMakesRow.holds Try.pinned (OpenSpec.ofChange changeMakesSpec)

/-- ITS FALSE NEIGHBOUR: 'it returns false'. Refute it at one input. -/
def changeMakesWrong : ChangeSpec := { name := "changeMakes", fn := fun _ => fun
  | [d1, d2, d3, d4] => { results := [.lit (.bool false)], args := [d1, d2, d3, d4] }
  | _ => none }
def ChangeMakesWrongFalsely : Prop := changeMakesRow.holds Try.pinned (OpenSpec.ofChange changeMakesWrong)

/-- 'quaysidelaw05.ChangeChains': WHATEVER THE INPUT: true; the input reads as it did. -/
def changeChainsSpec : ChangeSpec := { name := "changeChains", fn := fun _ => fun
  | [d] => { results := [.lit (.bool true)], args := [d] }
  | _ => none }
def changeChainsRow : OpenClaim := { program := "ytocalihefpafgaa", sum := "5a7be82f69da4e68148dddf8a2b648f97ef6996cf77a4279f61896ae07f27abf", func := "quayside/quaysidelaw05.ChangeChains", spec := "changeChains", apart := false }
def ChangeChainsSaid : Prop := changeChainsRow.holds Try.pinned (OpenSpec.ofChange changeChainsSpec)

/-- ITS FALSE NEIGHBOUR: 'it returns false'. Refute it at one input. -/
def changeChainsWrong : ChangeSpec := { name := "changeChains", fn := fun _ => fun
  | [d] => { results := [.lit (.bool false)], args := [d] }
  | _ => none }
def ChangeChainsWrongFalsely : Prop := changeChainsRow.holds Try.pinned (OpenSpec.ofChange changeChainsWrong)

/-- 'quaysidelaw17.MergeAll': WHATEVER THE INPUT: true; the input reads as it did. -/
def mergeAllSpec : ChangeSpec := { name := "mergeAll", fn := fun _ => fun
  | [d] => { results := [.lit (.bool true)], args := [d] }
  | _ => none }
def mergeAllRow : OpenClaim := { program := "ytocalihefpafgaa", sum := "5a7be82f69da4e68148dddf8a2b648f97ef6996cf77a4279f61896ae07f27abf", func := "quayside/quaysidelaw17.MergeAll", spec := "mergeAll", unfollowed := true, recurses := true, apart := false }
def MergeAllSaid : Prop := mergeAllRow.holds Try.pinned (OpenSpec.ofChange mergeAllSpec)

/-- ITS FALSE NEIGHBOUR: 'it returns false'. Refute it at one input. -/
def mergeAllWrong : ChangeSpec := { name := "mergeAll", fn := fun _ => fun
  | [d] => { results := [.lit (.bool false)], args := [d] }
  | _ => none }
def MergeAllWrongFalsely : Prop := mergeAllRow.holds Try.pinned (OpenSpec.ofChange mergeAllWrong)

/-- 'quaysidelaw17.MergeCuts': WHATEVER THE INPUT: true; the input reads as it did. -/
def mergeCutsSpec : ChangeSpec := { name := "mergeCuts", fn := fun _ => fun
  | [d1, d2] => { results := [.lit (.bool true)], args := [d1, d2] }
  | _ => none }
def mergeCutsRow : OpenClaim := { program := "ytocalihefpafgaa", sum := "5a7be82f69da4e68148dddf8a2b648f97ef6996cf77a4279f61896ae07f27abf", func := "quayside/quaysidelaw17.MergeCuts", spec := "mergeCuts", unfollowed := true, recurses := true, apart := false }
def MergeCutsSaid : Prop := mergeCutsRow.holds Try.pinned (OpenSpec.ofChange mergeCutsSpec)

/-- ITS FALSE NEIGHBOUR: 'it returns false'. Refute it at one input. -/
def mergeCutsWrong : ChangeSpec := { name := "mergeCuts", fn := fun _ => fun
  | [d1, d2] => { results := [.lit (.bool false)], args := [d1, d2] }
  | _ => none }
def MergeCutsWrongFalsely : Prop := mergeCutsRow.holds Try.pinned (OpenSpec.ofChange mergeCutsWrong)

/-- 'quaysidelaw17.MergeSorted': WHATEVER THE INPUT: true; the input reads as it did. -/
def mergeSortedSpec : ChangeSpec := { name := "mergeSorted", fn := fun _ => fun
  | [d] => { results := [.lit (.bool true)], args := [d] }
  | _ => none }
def mergeSortedRow : OpenClaim := { program := "ytocalihefpafgaa", sum := "5a7be82f69da4e68148dddf8a2b648f97ef6996cf77a4279f61896ae07f27abf", func := "quayside/quaysidelaw17.MergeSorted", spec := "mergeSorted", unfollowed := true, recurses := true, apart := false }
def MergeSortedSaid : Prop := mergeSortedRow.holds Try.pinned (OpenSpec.ofChange mergeSortedSpec)

/-- ITS FALSE NEIGHBOUR: 'it returns false'. Refute it at one input. -/
def mergeSortedWrong : ChangeSpec := { name := "mergeSorted", fn := fun _ => fun
  | [d] => { results := [.lit (.bool false)], args := [d] }
  | _ => none }
def MergeSortedWrongFalsely : Prop := mergeSortedRow.holds Try.pinned (OpenSpec.ofChange mergeSortedWrong)

/-- 'quaysidelaw17.MergeNone': WHATEVER THE INPUT: true; the input reads as it did. -/
def mergeNoneSpec : ChangeSpec := { name := "mergeNone", fn := fun _ => fun
  | [d] => { results := [.lit (.bool true)], args := [d] }
  | _ => none }
def mergeNoneRow : OpenClaim := { program := "ytocalihefpafgaa", sum := "5a7be82f69da4e68148dddf8a2b648f97ef6996cf77a4279f61896ae07f27abf", func := "quayside/quaysidelaw17.MergeNone", spec := "mergeNone", unfollowed := true, recurses := true, apart := false }
def MergeNoneSaid : Prop := mergeNoneRow.holds Try.pinned (OpenSpec.ofChange mergeNoneSpec)

/-- ITS FALSE NEIGHBOUR: 'it returns false'. Refute it at one input. -/
def mergeNoneWrong : ChangeSpec := { name := "mergeNone", fn := fun _ => fun
  | [d] => { results := [.lit (.bool false)], args := [d] }
  | _ => none }
def MergeNoneWrongFalsely : Prop := mergeNoneRow.holds Try.pinned (OpenSpec.ofChange mergeNoneWrong)

/-- 'quaysidelaw17.MergeOrder': WHATEVER THE INPUT: true; the input reads as it did. -/
def mergeOrderSpec : ChangeSpec := { name := "mergeOrder", fn := fun _ => fun
  | [d1, d2] => { results := [.lit (.bool true)], args := [d1, d2] }
  | _ => none }
def mergeOrderRow : OpenClaim := { program := "ytocalihefpafgaa", sum := "5a7be82f69da4e68148dddf8a2b648f97ef6996cf77a4279f61896ae07f27abf", func := "quayside/quaysidelaw17.MergeOrder", spec := "mergeOrder", unfollowed := true, recurses := true, apart := false }
def MergeOrderSaid : Prop := mergeOrderRow.holds Try.pinned (OpenSpec.ofChange mergeOrderSpec)

/-- ITS FALSE NEIGHBOUR: 'it returns false'. Refute it at one input. -/
def mergeOrderWrong : ChangeSpec := { name := "mergeOrder", fn := fun _ => fun
  | [d1, d2] => { results := [.lit (.bool false)], args := [d1, d2] }
  | _ => none }
def MergeOrderWrongFalsely : Prop := mergeOrderRow.holds Try.pinned (OpenSpec.ofChange mergeOrderWrong)

/-- 'quaysidelaw17.MergeBack': WHATEVER THE INPUT: true; the input reads as it did. -/
def mergeBackSpec : ChangeSpec := { name := "mergeBack", fn := fun _ => fun
  | [d] => { results := [.lit (.bool true)], args := [d] }
  | _ => none }
def mergeBackRow : OpenClaim := { program := "ytocalihefpafgaa", sum := "5a7be82f69da4e68148dddf8a2b648f97ef6996cf77a4279f61896ae07f27abf", func := "quayside/quaysidelaw17.MergeBack", spec := "mergeBack", unfollowed := true, recurses := true, apart := false }
def MergeBackSaid : Prop := mergeBackRow.holds Try.pinned (OpenSpec.ofChange mergeBackSpec)

/-- ITS FALSE NEIGHBOUR: 'it returns false'. Refute it at one input. -/
def mergeBackWrong : ChangeSpec := { name := "mergeBack", fn := fun _ => fun
  | [d] => { results := [.lit (.bool false)], args := [d] }
  | _ => none }
def MergeBackWrongFalsely : Prop := mergeBackRow.holds Try.pinned (OpenSpec.ofChange mergeBackWrong)

/-- 'quaysidelaw17.MergeSplits': WHATEVER THE INPUT: true; the input reads as it did. -/
def mergeSplitsSpec : ChangeSpec := { name := "mergeSplits", fn := fun _ => fun
  | [d1, d2, d3] => { results := [.lit (.bool true)], args := [d1, d2, d3] }
  | _ => none }
def mergeSplitsRow : OpenClaim := { program := "ytocalihefpafgaa", sum := "5a7be82f69da4e68148dddf8a2b648f97ef6996cf77a4279f61896ae07f27abf", func := "quayside/quaysidelaw17.MergeSplits", spec := "mergeSplits", unfollowed := true, recurses := true, apart := false }
def MergeSplitsSaid : Prop := mergeSplitsRow.holds Try.pinned (OpenSpec.ofChange mergeSplitsSpec)

/-- ITS FALSE NEIGHBOUR: 'it returns false'. Refute it at one input. -/
def mergeSplitsWrong : ChangeSpec := { name := "mergeSplits", fn := fun _ => fun
  | [d1, d2, d3] => { results := [.lit (.bool false)], args := [d1, d2, d3] }
  | _ => none }
def MergeSplitsWrongFalsely : Prop := mergeSplitsRow.holds Try.pinned (OpenSpec.ofChange mergeSplitsWrong)

/-- 'quaysidelaw15.TxnPlans': WHATEVER THE INPUT: true; the input reads as it did. -/
def txnPlansSpec : ChangeSpec := { name := "txnPlans", fn := fun _ => fun
  | [d1, d2, d3] => { results := [.lit (.bool true)], args := [d1, d2, d3] }
  | _ => none }
def txnPlansRow : OpenClaim := { program := "ytocalihefpafgaa", sum := "5a7be82f69da4e68148dddf8a2b648f97ef6996cf77a4279f61896ae07f27abf", func := "quayside/quaysidelaw15.TxnPlans", spec := "txnPlans", recurses := true, apart := false }
def TxnPlansSaid : Prop := txnPlansRow.holds Try.pinned (OpenSpec.ofChange txnPlansSpec)

/-- ITS FALSE NEIGHBOUR: 'it returns false'. Refute it at one input. -/
def txnPlansWrong : ChangeSpec := { name := "txnPlans", fn := fun _ => fun
  | [d1, d2, d3] => { results := [.lit (.bool false)], args := [d1, d2, d3] }
  | _ => none }
def TxnPlansWrongFalsely : Prop := txnPlansRow.holds Try.pinned (OpenSpec.ofChange txnPlansWrong)

/-- 'quaysidelaw15.TxnAgain': WHATEVER THE INPUT: true; the input reads as it did. -/
def txnAgainSpec : ChangeSpec := { name := "txnAgain", fn := fun _ => fun
  | [d1, d2, d3, d4] => { results := [.lit (.bool true)], args := [d1, d2, d3, d4] }
  | _ => none }
def txnAgainRow : OpenClaim := { program := "ytocalihefpafgaa", sum := "5a7be82f69da4e68148dddf8a2b648f97ef6996cf77a4279f61896ae07f27abf", func := "quayside/quaysidelaw15.TxnAgain", spec := "txnAgain", recurses := true, apart := false }
def TxnAgainSaid : Prop := txnAgainRow.holds Try.pinned (OpenSpec.ofChange txnAgainSpec)

/-- ITS FALSE NEIGHBOUR: 'it returns false'. Refute it at one input. -/
def txnAgainWrong : ChangeSpec := { name := "txnAgain", fn := fun _ => fun
  | [d1, d2, d3, d4] => { results := [.lit (.bool false)], args := [d1, d2, d3, d4] }
  | _ => none }
def TxnAgainWrongFalsely : Prop := txnAgainRow.holds Try.pinned (OpenSpec.ofChange txnAgainWrong)

/-- 'quaysidelaw15.TxnParts': WHATEVER THE INPUT: true; the input reads as it did. -/
def txnPartsSpec : ChangeSpec := { name := "txnParts", fn := fun _ => fun
  | [d1, d2, d3, d4] => { results := [.lit (.bool true)], args := [d1, d2, d3, d4] }
  | _ => none }
def txnPartsRow : OpenClaim := { program := "ytocalihefpafgaa", sum := "5a7be82f69da4e68148dddf8a2b648f97ef6996cf77a4279f61896ae07f27abf", func := "quayside/quaysidelaw15.TxnParts", spec := "txnParts", recurses := true, apart := false }
def TxnPartsSaid : Prop := txnPartsRow.holds Try.pinned (OpenSpec.ofChange txnPartsSpec)

/-- ITS FALSE NEIGHBOUR: 'it returns false'. Refute it at one input. -/
def txnPartsWrong : ChangeSpec := { name := "txnParts", fn := fun _ => fun
  | [d1, d2, d3, d4] => { results := [.lit (.bool false)], args := [d1, d2, d3, d4] }
  | _ => none }
def TxnPartsWrongFalsely : Prop := txnPartsRow.holds Try.pinned (OpenSpec.ofChange txnPartsWrong)

/-- 'quaysidelaw15.TxnNexts': WHATEVER THE INPUT: true; the input reads as it did. -/
def txnNextsSpec : ChangeSpec := { name := "txnNexts", fn := fun _ => fun
  | [d1, d2] => { results := [.lit (.bool true)], args := [d1, d2] }
  | _ => none }
def txnNextsRow : OpenClaim := { program := "ytocalihefpafgaa", sum := "5a7be82f69da4e68148dddf8a2b648f97ef6996cf77a4279f61896ae07f27abf", func := "quayside/quaysidelaw15.TxnNexts", spec := "txnNexts", recurses := true, apart := false }
def TxnNextsSaid : Prop := txnNextsRow.holds Try.pinned (OpenSpec.ofChange txnNextsSpec)

/-- ITS FALSE NEIGHBOUR: 'it returns false'. Refute it at one input. -/
def txnNextsWrong : ChangeSpec := { name := "txnNexts", fn := fun _ => fun
  | [d1, d2] => { results := [.lit (.bool false)], args := [d1, d2] }
  | _ => none }
def TxnNextsWrongFalsely : Prop := txnNextsRow.holds Try.pinned (OpenSpec.ofChange txnNextsWrong)

/-- 'quaysidelaw18.RedoAll': WHATEVER THE INPUT: true; the input reads as it did. -/
def redoAllSpec : ChangeSpec := { name := "redoAll", fn := fun _ => fun
  | [d1, d2] => { results := [.lit (.bool true)], args := [d1, d2] }
  | _ => none }
def redoAllRow : OpenClaim := { program := "ytocalihefpafgaa", sum := "5a7be82f69da4e68148dddf8a2b648f97ef6996cf77a4279f61896ae07f27abf", func := "quayside/quaysidelaw18.RedoAll", spec := "redoAll", unfollowed := true, recurses := true, apart := false }
def RedoAllSaid : Prop := redoAllRow.holds Try.pinned (OpenSpec.ofChange redoAllSpec)

/-- ITS FALSE NEIGHBOUR: 'it returns false'. Refute it at one input. -/
def redoAllWrong : ChangeSpec := { name := "redoAll", fn := fun _ => fun
  | [d1, d2] => { results := [.lit (.bool false)], args := [d1, d2] }
  | _ => none }
def RedoAllWrongFalsely : Prop := redoAllRow.holds Try.pinned (OpenSpec.ofChange redoAllWrong)

/-- 'quaysidelaw18.RedoTwice': WHATEVER THE INPUT: true; the input reads as it did. -/
def redoTwiceSpec : ChangeSpec := { name := "redoTwice", fn := fun _ => fun
  | [d1, d2, d3] => { results := [.lit (.bool true)], args := [d1, d2, d3] }
  | _ => none }
def redoTwiceRow : OpenClaim := { program := "ytocalihefpafgaa", sum := "5a7be82f69da4e68148dddf8a2b648f97ef6996cf77a4279f61896ae07f27abf", func := "quayside/quaysidelaw18.RedoTwice", spec := "redoTwice", unfollowed := true, recurses := true, apart := false }
def RedoTwiceSaid : Prop := redoTwiceRow.holds Try.pinned (OpenSpec.ofChange redoTwiceSpec)

/-- ITS FALSE NEIGHBOUR: 'it returns false'. Refute it at one input. -/
def redoTwiceWrong : ChangeSpec := { name := "redoTwice", fn := fun _ => fun
  | [d1, d2, d3] => { results := [.lit (.bool false)], args := [d1, d2, d3] }
  | _ => none }
def RedoTwiceWrongFalsely : Prop := redoTwiceRow.holds Try.pinned (OpenSpec.ofChange redoTwiceWrong)

/-- 'quaysidelaw18.RedoAges': WHATEVER THE INPUT: true; the input reads as it did. -/
def redoAgesSpec : ChangeSpec := { name := "redoAges", fn := fun _ => fun
  | [d1, d2] => { results := [.lit (.bool true)], args := [d1, d2] }
  | _ => none }
def redoAgesRow : OpenClaim := { program := "ytocalihefpafgaa", sum := "5a7be82f69da4e68148dddf8a2b648f97ef6996cf77a4279f61896ae07f27abf", func := "quayside/quaysidelaw18.RedoAges", spec := "redoAges", unfollowed := true, recurses := true, apart := false }
def RedoAgesSaid : Prop := redoAgesRow.holds Try.pinned (OpenSpec.ofChange redoAgesSpec)

/-- ITS FALSE NEIGHBOUR: 'it returns false'. Refute it at one input. -/
def redoAgesWrong : ChangeSpec := { name := "redoAges", fn := fun _ => fun
  | [d1, d2] => { results := [.lit (.bool false)], args := [d1, d2] }
  | _ => none }
def RedoAgesWrongFalsely : Prop := redoAgesRow.holds Try.pinned (OpenSpec.ofChange redoAgesWrong)

/-- 'quaysidelaw18.RedoSorts': WHATEVER THE INPUT: true; the input reads as it did. -/
def redoSortsSpec : ChangeSpec := { name := "redoSorts", fn := fun _ => fun
  | [d1, d2] => { results := [.lit (.bool true)], args := [d1, d2] }
  | _ => none }
def redoSortsRow : OpenClaim := { program := "ytocalihefpafgaa", sum := "5a7be82f69da4e68148dddf8a2b648f97ef6996cf77a4279f61896ae07f27abf", func := "quayside/quaysidelaw18.RedoSorts", spec := "redoSorts", unfollowed := true, recurses := true, apart := false }
def RedoSortsSaid : Prop := redoSortsRow.holds Try.pinned (OpenSpec.ofChange redoSortsSpec)

/-- ITS FALSE NEIGHBOUR: 'it returns false'. Refute it at one input. -/
def redoSortsWrong : ChangeSpec := { name := "redoSorts", fn := fun _ => fun
  | [d1, d2] => { results := [.lit (.bool false)], args := [d1, d2] }
  | _ => none }
def RedoSortsWrongFalsely : Prop := redoSortsRow.holds Try.pinned (OpenSpec.ofChange redoSortsWrong)

/-- 'quaysidelaw15.TxnGets': WHATEVER THE INPUT: true; the input reads as it did. -/
def txnGetsSpec : ChangeSpec := { name := "txnGets", fn := fun _ => fun
  | [d1, d2, d3] => { results := [.lit (.bool true)], args := [d1, d2, d3] }
  | _ => none }
def txnGetsRow : OpenClaim := { program := "ytocalihefpafgaa", sum := "5a7be82f69da4e68148dddf8a2b648f97ef6996cf77a4279f61896ae07f27abf", func := "quayside/quaysidelaw15.TxnGets", spec := "txnGets", apart := false }
def TxnGetsSaid : Prop := txnGetsRow.holds Try.pinned (OpenSpec.ofChange txnGetsSpec)

/-- ITS FALSE NEIGHBOUR: 'it returns false'. Refute it at one input. -/
def txnGetsWrong : ChangeSpec := { name := "txnGets", fn := fun _ => fun
  | [d1, d2, d3] => { results := [.lit (.bool false)], args := [d1, d2, d3] }
  | _ => none }
def TxnGetsWrongFalsely : Prop := txnGetsRow.holds Try.pinned (OpenSpec.ofChange txnGetsWrong)

/-- 'quaysidelaw15.TxnUndoes': WHATEVER THE INPUT: true; the input reads as it did. -/
def txnUndoesSpec : ChangeSpec := { name := "txnUndoes", fn := fun _ => fun
  | [d1, d2, d3] => { results := [.lit (.bool true)], args := [d1, d2, d3] }
  | _ => none }
def txnUndoesRow : OpenClaim := { program := "ytocalihefpafgaa", sum := "5a7be82f69da4e68148dddf8a2b648f97ef6996cf77a4279f61896ae07f27abf", func := "quayside/quaysidelaw15.TxnUndoes", spec := "txnUndoes", recurses := true, apart := false }
def TxnUndoesSaid : Prop := txnUndoesRow.holds Try.pinned (OpenSpec.ofChange txnUndoesSpec)

/-- ITS FALSE NEIGHBOUR: 'it returns false'. Refute it at one input. -/
def txnUndoesWrong : ChangeSpec := { name := "txnUndoes", fn := fun _ => fun
  | [d1, d2, d3] => { results := [.lit (.bool false)], args := [d1, d2, d3] }
  | _ => none }
def TxnUndoesWrongFalsely : Prop := txnUndoesRow.holds Try.pinned (OpenSpec.ofChange txnUndoesWrong)

/-- 'quaysidelaw15.TxnTwo': WHATEVER THE INPUT: true; the input reads as it did. -/
def txnTwoSpec : ChangeSpec := { name := "txnTwo", fn := fun _ => fun
  | [d1, d2, d3, d4, d5] => { results := [.lit (.bool true)], args := [d1, d2, d3, d4, d5] }
  | _ => none }
def txnTwoRow : OpenClaim := { program := "ytocalihefpafgaa", sum := "5a7be82f69da4e68148dddf8a2b648f97ef6996cf77a4279f61896ae07f27abf", func := "quayside/quaysidelaw15.TxnTwo", spec := "txnTwo", recurses := true, apart := false }
def TxnTwoSaid : Prop := txnTwoRow.holds Try.pinned (OpenSpec.ofChange txnTwoSpec)

/-- ITS FALSE NEIGHBOUR: 'it returns false'. Refute it at one input. -/
def txnTwoWrong : ChangeSpec := { name := "txnTwo", fn := fun _ => fun
  | [d1, d2, d3, d4, d5] => { results := [.lit (.bool false)], args := [d1, d2, d3, d4, d5] }
  | _ => none }
def TxnTwoWrongFalsely : Prop := txnTwoRow.holds Try.pinned (OpenSpec.ofChange txnTwoWrong)

/- THE SECOND FORM. 'bulk': how many values and letters a reading holds, each counted each time it is reached (what is shared counts as often as it is met; a slice's spare places count too). A statement '..UptoSaid' is the law's where the arguments, and the package variables that the reading takes, are together of bulk at most 1048576: NARROWER than '..Said'. Prove '..Said' where nothing that the law and all that it calls make is longer than what came in: it says more and counts as full. Else prove '..UptoSaid'. A law counts once. -/
mutual
def uptoBulk {H : Type} : DataW H → Nat
  | .lit (.string bytes) => bytes.length + 1
  | .lit _ => 1
  | .nil => 1
  | .ptr d => uptoBulk d + 1
  | .slice elems spare => uptoBulkAll elems + uptoBulkAll spare + 1
  | .agg parts => uptoBulkAll parts + 1
  | .iface _ d => uptoBulk d + 1
  | .map entries => uptoBulkEntries entries + 1
  | .held _ => 1
def uptoBulkAll {H : Type} : List (DataW H) → Nat
  | [] => 0
  | d :: r => uptoBulk d + uptoBulkAll r
def uptoBulkEntries {H : Type} : List (Lit × DataW H) → Nat
  | [] => 0
  | x :: r => uptoBulkEntry x + uptoBulkEntries r
def uptoBulkEntry {H : Type} : Lit × DataW H → Nat
  | (.string bytes, d) => bytes.length + uptoBulk d + 1
  | (_, d) => uptoBulk d + 1
 end
def uptoSmall : (H : Type) → List (DataW H) → Bool := fun _ ds => decide (uptoBulkAll ds ≤ 1048576)
def OpenSpec.upto (s : _root_.Go.ChangeSpec) : _root_.Go.OpenSpec := { _root_.Go.OpenSpec.ofChange s with cond := some uptoSmall }

/-- 'quaysidelaw03.LsnLists', WHERE WHAT IT READS IS OF BULK AT MOST 1048576: true; the input reads as it did. -/
def lsnListsUptoRow : OpenClaim := { program := "ytocalihefpafgaa", sum := "5a7be82f69da4e68148dddf8a2b648f97ef6996cf77a4279f61896ae07f27abf", func := "quayside/quaysidelaw03.LsnLists", spec := "lsnLists", apart := false, narrowed := true }
def LsnListsUptoSaid : Prop := lsnListsUptoRow.holds Try.pinned (OpenSpec.upto lsnListsSpec)

/-- 'quaysidelaw03.LsnOrders', WHERE WHAT IT READS IS OF BULK AT MOST 1048576: true; the input reads as it did. -/
def lsnOrdersUptoRow : OpenClaim := { program := "ytocalihefpafgaa", sum := "5a7be82f69da4e68148dddf8a2b648f97ef6996cf77a4279f61896ae07f27abf", func := "quayside/quaysidelaw03.LsnOrders", spec := "lsnOrders", apart := false, narrowed := true }
def LsnOrdersUptoSaid : Prop := lsnOrdersUptoRow.holds Try.pinned (OpenSpec.upto lsnOrdersSpec)

/-- 'quaysidelaw03.LsnTicks', WHERE WHAT IT READS IS OF BULK AT MOST 1048576: true; the input reads as it did. -/
def lsnTicksUptoRow : OpenClaim := { program := "ytocalihefpafgaa", sum := "5a7be82f69da4e68148dddf8a2b648f97ef6996cf77a4279f61896ae07f27abf", func := "quayside/quaysidelaw03.LsnTicks", spec := "lsnTicks", apart := false, narrowed := true }
def LsnTicksUptoSaid : Prop := lsnTicksUptoRow.holds Try.pinned (OpenSpec.upto lsnTicksSpec)

/-- 'quaysidelaw03.LsnRises', WHERE WHAT IT READS IS OF BULK AT MOST 1048576: true; the input reads as it did. -/
def lsnRisesUptoRow : OpenClaim := { program := "ytocalihefpafgaa", sum := "5a7be82f69da4e68148dddf8a2b648f97ef6996cf77a4279f61896ae07f27abf", func := "quayside/quaysidelaw03.LsnRises", spec := "lsnRises", apart := false, narrowed := true }
def LsnRisesUptoSaid : Prop := lsnRisesUptoRow.holds Try.pinned (OpenSpec.upto lsnRisesSpec)

/-- 'quaysidelaw03.LsnTwo', WHERE WHAT IT READS IS OF BULK AT MOST 1048576: true; the input reads as it did. -/
def lsnTwoUptoRow : OpenClaim := { program := "ytocalihefpafgaa", sum := "5a7be82f69da4e68148dddf8a2b648f97ef6996cf77a4279f61896ae07f27abf", func := "quayside/quaysidelaw03.LsnTwo", spec := "lsnTwo", apart := false, narrowed := true }
def LsnTwoUptoSaid : Prop := lsnTwoUptoRow.holds Try.pinned (OpenSpec.upto lsnTwoSpec)

/-- 'quaysidelaw03.LsnNil', WHERE WHAT IT READS IS OF BULK AT MOST 1048576: true; the input reads as it did. -/
def lsnNilUptoRow : OpenClaim := { program := "ytocalihefpafgaa", sum := "5a7be82f69da4e68148dddf8a2b648f97ef6996cf77a4279f61896ae07f27abf", func := "quayside/quaysidelaw03.LsnNil", spec := "lsnNil", apart := false, narrowed := true }
def LsnNilUptoSaid : Prop := lsnNilUptoRow.holds Try.pinned (OpenSpec.upto lsnNilSpec)

/-- 'quaysidelaw05.ChangeApplies', WHERE WHAT IT READS IS OF BULK AT MOST 1048576: true; the input reads as it did. -/
def changeAppliesUptoRow : OpenClaim := { program := "ytocalihefpafgaa", sum := "5a7be82f69da4e68148dddf8a2b648f97ef6996cf77a4279f61896ae07f27abf", func := "quayside/quaysidelaw05.ChangeApplies", spec := "changeApplies", apart := false, narrowed := true }
def ChangeAppliesUptoSaid : Prop := changeAppliesUptoRow.holds Try.pinned (OpenSpec.upto changeAppliesSpec)

/-- 'quaysidelaw05.ChangeApart', WHERE WHAT IT READS IS OF BULK AT MOST 1048576: true; the input reads as it did. -/
def changeApartUptoRow : OpenClaim := { program := "ytocalihefpafgaa", sum := "5a7be82f69da4e68148dddf8a2b648f97ef6996cf77a4279f61896ae07f27abf", func := "quayside/quaysidelaw05.ChangeApart", spec := "changeApart", apart := false, narrowed := true }
def ChangeApartUptoSaid : Prop := changeApartUptoRow.holds Try.pinned (OpenSpec.upto changeApartSpec)

/-- 'quaysidelaw18.RedoPage', WHERE WHAT IT READS IS OF BULK AT MOST 1048576: true; the input reads as it did. -/
def redoPageUptoRow : OpenClaim := { program := "ytocalihefpafgaa", sum := "5a7be82f69da4e68148dddf8a2b648f97ef6996cf77a4279f61896ae07f27abf", func := "quayside/quaysidelaw18.RedoPage", spec := "redoPage", unfollowed := true, recurses := true, apart := false, narrowed := true }
def RedoPageUptoSaid : Prop := redoPageUptoRow.holds Try.pinned (OpenSpec.upto redoPageSpec)

/-- 'quaysidelaw05.ChangeOne', WHERE WHAT IT READS IS OF BULK AT MOST 1048576: true; the input reads as it did. -/
def changeOneUptoRow : OpenClaim := { program := "ytocalihefpafgaa", sum := "5a7be82f69da4e68148dddf8a2b648f97ef6996cf77a4279f61896ae07f27abf", func := "quayside/quaysidelaw05.ChangeOne", spec := "changeOne", apart := false, narrowed := true }
def ChangeOneUptoSaid : Prop := changeOneUptoRow.holds Try.pinned (OpenSpec.upto changeOneSpec)

/-- 'quaysidelaw05.ChangeTurns', WHERE WHAT IT READS IS OF BULK AT MOST 1048576: true; the input reads as it did. -/
def changeTurnsUptoRow : OpenClaim := { program := "ytocalihefpafgaa", sum := "5a7be82f69da4e68148dddf8a2b648f97ef6996cf77a4279f61896ae07f27abf", func := "quayside/quaysidelaw05.ChangeTurns", spec := "changeTurns", apart := false, narrowed := true }
def ChangeTurnsUptoSaid : Prop := changeTurnsUptoRow.holds Try.pinned (OpenSpec.upto changeTurnsSpec)

/-- 'quaysidelaw05.ChangeBack', WHERE WHAT IT READS IS OF BULK AT MOST 1048576: true; the input reads as it did. -/
def changeBackUptoRow : OpenClaim := { program := "ytocalihefpafgaa", sum := "5a7be82f69da4e68148dddf8a2b648f97ef6996cf77a4279f61896ae07f27abf", func := "quayside/quaysidelaw05.ChangeBack", spec := "changeBack", apart := false, narrowed := true }
def ChangeBackUptoSaid : Prop := changeBackUptoRow.holds Try.pinned (OpenSpec.upto changeBackSpec)

/-- 'quaysidelaw18.RedoVersions', WHERE WHAT IT READS IS OF BULK AT MOST 1048576: true; the input reads as it did. -/
def redoVersionsUptoRow : OpenClaim := { program := "ytocalihefpafgaa", sum := "5a7be82f69da4e68148dddf8a2b648f97ef6996cf77a4279f61896ae07f27abf", func := "quayside/quaysidelaw18.RedoVersions", spec := "redoVersions", unfollowed := true, recurses := true, apart := false, narrowed := true }
def RedoVersionsUptoSaid : Prop := redoVersionsUptoRow.holds Try.pinned (OpenSpec.upto redoVersionsSpec)

/-- 'quaysidelaw05.ChangeMakes', WHERE WHAT IT READS IS OF BULK AT MOST 1048576: true; the input reads as it did. -/
def changeMakesUptoRow : OpenClaim := { program := "ytocalihefpafgaa", sum := "5a7be82f69da4e68148dddf8a2b648f97ef6996cf77a4279f61896ae07f27abf", func := "quayside/quaysidelaw05.ChangeMakes", spec := "changeMakes", apart := false, narrowed := true }
def ChangeMakesUptoSaid : Prop := changeMakesUptoRow.holds Try.pinned (OpenSpec.upto changeMakesSpec)

/-- 'quaysidelaw05.ChangeChains', WHERE WHAT IT READS IS OF BULK AT MOST 1048576: true; the input reads as it did. -/
def changeChainsUptoRow : OpenClaim := { program := "ytocalihefpafgaa", sum := "5a7be82f69da4e68148dddf8a2b648f97ef6996cf77a4279f61896ae07f27abf", func := "quayside/quaysidelaw05.ChangeChains", spec := "changeChains", apart := false, narrowed := true }
def ChangeChainsUptoSaid : Prop := changeChainsUptoRow.holds Try.pinned (OpenSpec.upto changeChainsSpec)

/-- 'quaysidelaw17.MergeAll', WHERE WHAT IT READS IS OF BULK AT MOST 1048576: true; the input reads as it did. -/
def mergeAllUptoRow : OpenClaim := { program := "ytocalihefpafgaa", sum := "5a7be82f69da4e68148dddf8a2b648f97ef6996cf77a4279f61896ae07f27abf", func := "quayside/quaysidelaw17.MergeAll", spec := "mergeAll", unfollowed := true, recurses := true, apart := false, narrowed := true }
def MergeAllUptoSaid : Prop := mergeAllUptoRow.holds Try.pinned (OpenSpec.upto mergeAllSpec)

/-- 'quaysidelaw17.MergeCuts', WHERE WHAT IT READS IS OF BULK AT MOST 1048576: true; the input reads as it did. -/
def mergeCutsUptoRow : OpenClaim := { program := "ytocalihefpafgaa", sum := "5a7be82f69da4e68148dddf8a2b648f97ef6996cf77a4279f61896ae07f27abf", func := "quayside/quaysidelaw17.MergeCuts", spec := "mergeCuts", unfollowed := true, recurses := true, apart := false, narrowed := true }
def MergeCutsUptoSaid : Prop := mergeCutsUptoRow.holds Try.pinned (OpenSpec.upto mergeCutsSpec)

/-- 'quaysidelaw17.MergeSorted', WHERE WHAT IT READS IS OF BULK AT MOST 1048576: true; the input reads as it did. -/
def mergeSortedUptoRow : OpenClaim := { program := "ytocalihefpafgaa", sum := "5a7be82f69da4e68148dddf8a2b648f97ef6996cf77a4279f61896ae07f27abf", func := "quayside/quaysidelaw17.MergeSorted", spec := "mergeSorted", unfollowed := true, recurses := true, apart := false, narrowed := true }
def MergeSortedUptoSaid : Prop := mergeSortedUptoRow.holds Try.pinned (OpenSpec.upto mergeSortedSpec)

/-- 'quaysidelaw17.MergeNone', WHERE WHAT IT READS IS OF BULK AT MOST 1048576: true; the input reads as it did. -/
def mergeNoneUptoRow : OpenClaim := { program := "ytocalihefpafgaa", sum := "5a7be82f69da4e68148dddf8a2b648f97ef6996cf77a4279f61896ae07f27abf", func := "quayside/quaysidelaw17.MergeNone", spec := "mergeNone", unfollowed := true, recurses := true, apart := false, narrowed := true }
def MergeNoneUptoSaid : Prop := mergeNoneUptoRow.holds Try.pinned (OpenSpec.upto mergeNoneSpec)

/-- 'quaysidelaw17.MergeOrder', WHERE WHAT IT READS IS OF BULK AT MOST 1048576: true; the input reads as it did. -/
def mergeOrderUptoRow : OpenClaim := { program := "ytocalihefpafgaa", sum := "5a7be82f69da4e68148dddf8a2b648f97ef6996cf77a4279f61896ae07f27abf", func := "quayside/quaysidelaw17.MergeOrder", spec := "mergeOrder", unfollowed := true, recurses := true, apart := false, narrowed := true }
def MergeOrderUptoSaid : Prop := mergeOrderUptoRow.holds Try.pinned (OpenSpec.upto mergeOrderSpec)

/-- 'quaysidelaw17.MergeBack', WHERE WHAT IT READS IS OF BULK AT MOST 1048576: true; the input reads as it did. -/
def mergeBackUptoRow : OpenClaim := { program := "ytocalihefpafgaa", sum := "5a7be82f69da4e68148dddf8a2b648f97ef6996cf77a4279f61896ae07f27abf", func := "quayside/quaysidelaw17.MergeBack", spec := "mergeBack", unfollowed := true, recurses := true, apart := false, narrowed := true }
def MergeBackUptoSaid : Prop := mergeBackUptoRow.holds Try.pinned (OpenSpec.upto mergeBackSpec)

/-- 'quaysidelaw17.MergeSplits', WHERE WHAT IT READS IS OF BULK AT MOST 1048576: true; the input reads as it did. -/
def mergeSplitsUptoRow : OpenClaim := { program := "ytocalihefpafgaa", sum := "5a7be82f69da4e68148dddf8a2b648f97ef6996cf77a4279f61896ae07f27abf", func := "quayside/quaysidelaw17.MergeSplits", spec := "mergeSplits", unfollowed := true, recurses := true, apart := false, narrowed := true }
def MergeSplitsUptoSaid : Prop := mergeSplitsUptoRow.holds Try.pinned (OpenSpec.upto mergeSplitsSpec)

/-- 'quaysidelaw15.TxnPlans', WHERE WHAT IT READS IS OF BULK AT MOST 1048576: true; the input reads as it did. -/
def txnPlansUptoRow : OpenClaim := { program := "ytocalihefpafgaa", sum := "5a7be82f69da4e68148dddf8a2b648f97ef6996cf77a4279f61896ae07f27abf", func := "quayside/quaysidelaw15.TxnPlans", spec := "txnPlans", recurses := true, apart := false, narrowed := true }
def TxnPlansUptoSaid : Prop := txnPlansUptoRow.holds Try.pinned (OpenSpec.upto txnPlansSpec)

/-- 'quaysidelaw15.TxnAgain', WHERE WHAT IT READS IS OF BULK AT MOST 1048576: true; the input reads as it did. -/
def txnAgainUptoRow : OpenClaim := { program := "ytocalihefpafgaa", sum := "5a7be82f69da4e68148dddf8a2b648f97ef6996cf77a4279f61896ae07f27abf", func := "quayside/quaysidelaw15.TxnAgain", spec := "txnAgain", recurses := true, apart := false, narrowed := true }
def TxnAgainUptoSaid : Prop := txnAgainUptoRow.holds Try.pinned (OpenSpec.upto txnAgainSpec)

/-- 'quaysidelaw15.TxnParts', WHERE WHAT IT READS IS OF BULK AT MOST 1048576: true; the input reads as it did. -/
def txnPartsUptoRow : OpenClaim := { program := "ytocalihefpafgaa", sum := "5a7be82f69da4e68148dddf8a2b648f97ef6996cf77a4279f61896ae07f27abf", func := "quayside/quaysidelaw15.TxnParts", spec := "txnParts", recurses := true, apart := false, narrowed := true }
def TxnPartsUptoSaid : Prop := txnPartsUptoRow.holds Try.pinned (OpenSpec.upto txnPartsSpec)

/-- 'quaysidelaw15.TxnNexts', WHERE WHAT IT READS IS OF BULK AT MOST 1048576: true; the input reads as it did. -/
def txnNextsUptoRow : OpenClaim := { program := "ytocalihefpafgaa", sum := "5a7be82f69da4e68148dddf8a2b648f97ef6996cf77a4279f61896ae07f27abf", func := "quayside/quaysidelaw15.TxnNexts", spec := "txnNexts", recurses := true, apart := false, narrowed := true }
def TxnNextsUptoSaid : Prop := txnNextsUptoRow.holds Try.pinned (OpenSpec.upto txnNextsSpec)

/-- 'quaysidelaw18.RedoAll', WHERE WHAT IT READS IS OF BULK AT MOST 1048576: true; the input reads as it did. -/
def redoAllUptoRow : OpenClaim := { program := "ytocalihefpafgaa", sum := "5a7be82f69da4e68148dddf8a2b648f97ef6996cf77a4279f61896ae07f27abf", func := "quayside/quaysidelaw18.RedoAll", spec := "redoAll", unfollowed := true, recurses := true, apart := false, narrowed := true }
def RedoAllUptoSaid : Prop := redoAllUptoRow.holds Try.pinned (OpenSpec.upto redoAllSpec)

/-- 'quaysidelaw18.RedoTwice', WHERE WHAT IT READS IS OF BULK AT MOST 1048576: true; the input reads as it did. -/
def redoTwiceUptoRow : OpenClaim := { program := "ytocalihefpafgaa", sum := "5a7be82f69da4e68148dddf8a2b648f97ef6996cf77a4279f61896ae07f27abf", func := "quayside/quaysidelaw18.RedoTwice", spec := "redoTwice", unfollowed := true, recurses := true, apart := false, narrowed := true }
def RedoTwiceUptoSaid : Prop := redoTwiceUptoRow.holds Try.pinned (OpenSpec.upto redoTwiceSpec)

/-- 'quaysidelaw18.RedoAges', WHERE WHAT IT READS IS OF BULK AT MOST 1048576: true; the input reads as it did. -/
def redoAgesUptoRow : OpenClaim := { program := "ytocalihefpafgaa", sum := "5a7be82f69da4e68148dddf8a2b648f97ef6996cf77a4279f61896ae07f27abf", func := "quayside/quaysidelaw18.RedoAges", spec := "redoAges", unfollowed := true, recurses := true, apart := false, narrowed := true }
def RedoAgesUptoSaid : Prop := redoAgesUptoRow.holds Try.pinned (OpenSpec.upto redoAgesSpec)

/-- 'quaysidelaw18.RedoSorts', WHERE WHAT IT READS IS OF BULK AT MOST 1048576: true; the input reads as it did. -/
def redoSortsUptoRow : OpenClaim := { program := "ytocalihefpafgaa", sum := "5a7be82f69da4e68148dddf8a2b648f97ef6996cf77a4279f61896ae07f27abf", func := "quayside/quaysidelaw18.RedoSorts", spec := "redoSorts", unfollowed := true, recurses := true, apart := false, narrowed := true }
def RedoSortsUptoSaid : Prop := redoSortsUptoRow.holds Try.pinned (OpenSpec.upto redoSortsSpec)

/-- 'quaysidelaw15.TxnGets', WHERE WHAT IT READS IS OF BULK AT MOST 1048576: true; the input reads as it did. -/
def txnGetsUptoRow : OpenClaim := { program := "ytocalihefpafgaa", sum := "5a7be82f69da4e68148dddf8a2b648f97ef6996cf77a4279f61896ae07f27abf", func := "quayside/quaysidelaw15.TxnGets", spec := "txnGets", apart := false, narrowed := true }
def TxnGetsUptoSaid : Prop := txnGetsUptoRow.holds Try.pinned (OpenSpec.upto txnGetsSpec)

/-- 'quaysidelaw15.TxnUndoes', WHERE WHAT IT READS IS OF BULK AT MOST 1048576: true; the input reads as it did. -/
def txnUndoesUptoRow : OpenClaim := { program := "ytocalihefpafgaa", sum := "5a7be82f69da4e68148dddf8a2b648f97ef6996cf77a4279f61896ae07f27abf", func := "quayside/quaysidelaw15.TxnUndoes", spec := "txnUndoes", recurses := true, apart := false, narrowed := true }
def TxnUndoesUptoSaid : Prop := txnUndoesUptoRow.holds Try.pinned (OpenSpec.upto txnUndoesSpec)

/-- 'quaysidelaw15.TxnTwo', WHERE WHAT IT READS IS OF BULK AT MOST 1048576: true; the input reads as it did. -/
def txnTwoUptoRow : OpenClaim := { program := "ytocalihefpafgaa", sum := "5a7be82f69da4e68148dddf8a2b648f97ef6996cf77a4279f61896ae07f27abf", func := "quayside/quaysidelaw15.TxnTwo", spec := "txnTwo", recurses := true, apart := false, narrowed := true }
def TxnTwoUptoSaid : Prop := txnTwoUptoRow.holds Try.pinned (OpenSpec.upto txnTwoSpec)

end Rows
end Go.Proofs.Ytocalihefpafgaa
