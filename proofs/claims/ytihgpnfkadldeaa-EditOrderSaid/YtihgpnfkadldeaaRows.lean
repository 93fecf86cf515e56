/-
  No cell of these rows narrows 'for every input' (looked for: loops, veiled, ifaces, maps, wideKeys, modest, calm, conditions, laid).
  DERIVED. THE GIVEN ROWS OF THIS SEAT. 12 by the template 'for every input the law returns true; each argument reads behind the call as it read before'; 0 by the template 'total and deterministic' (their statements: YtihgpnfkadldeaaTotals.lean).
  GIVEN WITH THE SEED: the statements are not yours to turn. If you find one false, say at which input.
  Laid BY PROGRAM, IN A SANDBOX (cutbox-rows.mjs): the forced cells as the released guide's own fill.sh prints them over the translation 126c3b0059d8e6fd… (all of the seat's roots in one cut). By AI agents, Wed Nov 11 2026. No macro, syntax, notation, axiom, sorry.
-/
import Derived.Test.YtihgpnfkadldeaaChecked
import GoSem.Claim
import GoSem.ClaimJoined
import GoSem.ClaimMapViews
import Derived.JoinedTies
import Derived.KernelRfl
namespace Go.Proofs.Ytihgpnfkadldeaa
/- THE CELL 'sum', in the pinned program and in every row, IS THE sha256 OF THE DUMP (.gsa) THAT YtihgpnfkadldeaaProg.lean LOADS. Nothing in Lean hashes anything: it is a label: what it is worth is what the hold of that sum in a sandbox is worth. -/
noncomputable def Try.pinned : Pinned := { name := "ytihgpnfkadldeaa", sum := "126c3b0059d8e6fd953fda2bd7b51ddbdb88341d7d85c296fb7ed0f8bfa118ac", checked := Try.checked }
namespace Rows
def none {H : Type} : Left H := { results := [], args := [] }

/-- 'palinodelaw17.AtomTells': WHATEVER THE INPUT: true; the input reads as it did. -/
def atomTellsSpec : ChangeSpec := { name := "atomTells", fn := fun _ => fun
  | [d1, d2, d3, d4, d5, d6, d7] => { results := [.lit (.bool true)], args := [d1, d2, d3, d4, d5, d6, d7] }
  | _ => none }
def atomTellsRow : OpenClaim := { program := "ytihgpnfkadldeaa", sum := "126c3b0059d8e6fd953fda2bd7b51ddbdb88341d7d85c296fb7ed0f8bfa118ac", func := "palinode/palinodelaw17.AtomTells", spec := "atomTells", inPlace := ["internal/abi.NoEscape"], unfollowed := true, recurses := true, apart := false }
def AtomTellsSaid : Prop := atomTellsRow.holds Try.pinned (OpenSpec.ofChange atomTellsSpec)

/-- ITS FALSE NEIGHBOUR: 'it returns false'. Refute it at one input. -/
def atomTellsWrong : ChangeSpec := { name := "atomTells", fn := fun _ => fun
  | [d1, d2, d3, d4, d5, d6, d7] => { results := [.lit (.bool false)], args := [d1, d2, d3, d4, d5, d6, d7] }
  | _ => none }
def AtomTellsWrongFalsely : Prop := atomTellsRow.holds Try.pinned (OpenSpec.ofChange atomTellsWrong)

/-- 'palinodelaw17.AtomUndoes': WHATEVER THE INPUT: true; the input reads as it did. -/
def atomUndoesSpec : ChangeSpec := { name := "atomUndoes", fn := fun _ => fun
  | [d1, d2, d3] => { results := [.lit (.bool true)], args := [d1, d2, d3] }
  | _ => none }
def atomUndoesRow : OpenClaim := { program := "ytihgpnfkadldeaa", sum := "126c3b0059d8e6fd953fda2bd7b51ddbdb88341d7d85c296fb7ed0f8bfa118ac", func := "palinode/palinodelaw17.AtomUndoes", spec := "atomUndoes", inPlace := ["internal/abi.NoEscape"], unfollowed := true, recurses := true, apart := false }
def AtomUndoesSaid : Prop := atomUndoesRow.holds Try.pinned (OpenSpec.ofChange atomUndoesSpec)

/-- ITS FALSE NEIGHBOUR: 'it returns false'. Refute it at one input. -/
def atomUndoesWrong : ChangeSpec := { name := "atomUndoes", fn := fun _ => fun
  | [d1, d2, d3] => { results := [.lit (.bool false)], args := [d1, d2, d3] }
  | _ => none }
def AtomUndoesWrongFalsely : Prop := atomUndoesRow.holds Try.pinned (OpenSpec.ofChange atomUndoesWrong)

/-- 'palinodelaw17.AtomPuts': WHATEVER THE INPUT: true; the input reads as it did. -/
def atomPutsSpec : ChangeSpec := { name := "atomPuts", fn := fun _ => fun
  | [d1, d2] => { results := [.lit (.bool true)], args := [d1, d2] }
  | _ => none }
def atomPutsRow : OpenClaim := { program := "ytihgpnfkadldeaa", sum := "126c3b0059d8e6fd953fda2bd7b51ddbdb88341d7d85c296fb7ed0f8bfa118ac", func := "palinode/palinodelaw17.AtomPuts", spec := "atomPuts", inPlace := ["internal/abi.NoEscape"], unfollowed := true, recurses := true, apart := false }
def AtomPutsSaid : Prop := atomPutsRow.holds Try.pinned (OpenSpec.ofChange atomPutsSpec)

/-- ITS FALSE NEIGHBOUR: 'it returns false'. Refute it at one input. -/
def atomPutsWrong : ChangeSpec := { name := "atomPuts", fn := fun _ => fun
  | [d1, d2] => { results := [.lit (.bool false)], args := [d1, d2] }
  | _ => none }
def AtomPutsWrongFalsely : Prop := atomPutsRow.holds Try.pinned (OpenSpec.ofChange atomPutsWrong)

/-- 'palinodelaw17.AtomPlaces': WHATEVER THE INPUT: true; the input reads as it did. -/
def atomPlacesSpec : ChangeSpec := { name := "atomPlaces", fn := fun _ => fun
  | [d1, d2] => { results := [.lit (.bool true)], args := [d1, d2] }
  | _ => none }
def atomPlacesRow : OpenClaim := { program := "ytihgpnfkadldeaa", sum := "126c3b0059d8e6fd953fda2bd7b51ddbdb88341d7d85c296fb7ed0f8bfa118ac", func := "palinode/palinodelaw17.AtomPlaces", spec := "atomPlaces", inPlace := ["internal/abi.NoEscape"], unfollowed := true, recurses := true, apart := false }
def AtomPlacesSaid : Prop := atomPlacesRow.holds Try.pinned (OpenSpec.ofChange atomPlacesSpec)

/-- ITS FALSE NEIGHBOUR: 'it returns false'. Refute it at one input. -/
def atomPlacesWrong : ChangeSpec := { name := "atomPlaces", fn := fun _ => fun
  | [d1, d2] => { results := [.lit (.bool false)], args := [d1, d2] }
  | _ => none }
def AtomPlacesWrongFalsely : Prop := atomPlacesRow.holds Try.pinned (OpenSpec.ofChange atomPlacesWrong)

/-- 'palinodelaw17.AtomCopies': WHATEVER THE INPUT: true; the input reads as it did. -/
def atomCopiesSpec : ChangeSpec := { name := "atomCopies", fn := fun _ => fun
  | [d1, d2] => { results := [.lit (.bool true)], args := [d1, d2] }
  | _ => none }
def atomCopiesRow : OpenClaim := { program := "ytihgpnfkadldeaa", sum := "126c3b0059d8e6fd953fda2bd7b51ddbdb88341d7d85c296fb7ed0f8bfa118ac", func := "palinode/palinodelaw17.AtomCopies", spec := "atomCopies", inPlace := ["internal/abi.NoEscape"], unfollowed := true, recurses := true, apart := false }
def AtomCopiesSaid : Prop := atomCopiesRow.holds Try.pinned (OpenSpec.ofChange atomCopiesSpec)

/-- ITS FALSE NEIGHBOUR: 'it returns false'. Refute it at one input. -/
def atomCopiesWrong : ChangeSpec := { name := "atomCopies", fn := fun _ => fun
  | [d1, d2] => { results := [.lit (.bool false)], args := [d1, d2] }
  | _ => none }
def AtomCopiesWrongFalsely : Prop := atomCopiesRow.holds Try.pinned (OpenSpec.ofChange atomCopiesWrong)

/-- 'palinodelaw18.EditTells': WHATEVER THE INPUT: true; the input reads as it did. -/
def editTellsSpec : ChangeSpec := { name := "editTells", fn := fun _ => fun
  | [d1, d2] => { results := [.lit (.bool true)], args := [d1, d2] }
  | _ => none }
def editTellsRow : OpenClaim := { program := "ytihgpnfkadldeaa", sum := "126c3b0059d8e6fd953fda2bd7b51ddbdb88341d7d85c296fb7ed0f8bfa118ac", func := "palinode/palinodelaw18.EditTells", spec := "editTells", inPlace := ["internal/abi.NoEscape"], unfollowed := true, recurses := true, apart := false }
def EditTellsSaid : Prop := editTellsRow.holds Try.pinned (OpenSpec.ofChange editTellsSpec)

/-- ITS FALSE NEIGHBOUR: 'it returns false'. Refute it at one input. -/
def editTellsWrong : ChangeSpec := { name := "editTells", fn := fun _ => fun
  | [d1, d2] => { results := [.lit (.bool false)], args := [d1, d2] }
  | _ => none }
def EditTellsWrongFalsely : Prop := editTellsRow.holds Try.pinned (OpenSpec.ofChange editTellsWrong)

/-- 'palinodelaw18.EditSpots': WHATEVER THE INPUT: true; the input reads as it did. -/
def editSpotsSpec : ChangeSpec := { name := "editSpots", fn := fun _ => fun
  | [d1, d2, d3, d4, d5, d6, d7] => { results := [.lit (.bool true)], args := [d1, d2, d3, d4, d5, d6, d7] }
  | _ => none }
def editSpotsRow : OpenClaim := { program := "ytihgpnfkadldeaa", sum := "126c3b0059d8e6fd953fda2bd7b51ddbdb88341d7d85c296fb7ed0f8bfa118ac", func := "palinode/palinodelaw18.EditSpots", spec := "editSpots", inPlace := ["internal/abi.NoEscape"], unfollowed := true, recurses := true, apart := false }
def EditSpotsSaid : Prop := editSpotsRow.holds Try.pinned (OpenSpec.ofChange editSpotsSpec)

/-- ITS FALSE NEIGHBOUR: 'it returns false'. Refute it at one input. -/
def editSpotsWrong : ChangeSpec := { name := "editSpots", fn := fun _ => fun
  | [d1, d2, d3, d4, d5, d6, d7] => { results := [.lit (.bool false)], args := [d1, d2, d3, d4, d5, d6, d7] }
  | _ => none }
def EditSpotsWrongFalsely : Prop := editSpotsRow.holds Try.pinned (OpenSpec.ofChange editSpotsWrong)

/-- 'palinodelaw18.EditDoes': WHATEVER THE INPUT: true; the input reads as it did. -/
def editDoesSpec : ChangeSpec := { name := "editDoes", fn := fun _ => fun
  | [d1, d2, d3] => { results := [.lit (.bool true)], args := [d1, d2, d3] }
  | _ => none }
def editDoesRow : OpenClaim := { program := "ytihgpnfkadldeaa", sum := "126c3b0059d8e6fd953fda2bd7b51ddbdb88341d7d85c296fb7ed0f8bfa118ac", func := "palinode/palinodelaw18.EditDoes", spec := "editDoes", inPlace := ["internal/abi.NoEscape"], unfollowed := true, recurses := true, apart := false }
def EditDoesSaid : Prop := editDoesRow.holds Try.pinned (OpenSpec.ofChange editDoesSpec)

/-- ITS FALSE NEIGHBOUR: 'it returns false'. Refute it at one input. -/
def editDoesWrong : ChangeSpec := { name := "editDoes", fn := fun _ => fun
  | [d1, d2, d3] => { results := [.lit (.bool false)], args := [d1, d2, d3] }
  | _ => none }
def EditDoesWrongFalsely : Prop := editDoesRow.holds Try.pinned (OpenSpec.ofChange editDoesWrong)

/-- 'palinodelaw18.EditOrder': WHATEVER THE INPUT: true; the input reads as it did. -/
def editOrderSpec : ChangeSpec := { name := "editOrder", fn := fun _ => fun
  | [d1, d2, d3, d4] => { results := [.lit (.bool true)], args := [d1, d2, d3, d4] }
  | _ => none }
def editOrderRow : OpenClaim := { program := "ytihgpnfkadldeaa", sum := "126c3b0059d8e6fd953fda2bd7b51ddbdb88341d7d85c296fb7ed0f8bfa118ac", func := "palinode/palinodelaw18.EditOrder", spec := "editOrder", inPlace := ["internal/abi.NoEscape"], unfollowed := true, recurses := true, apart := false }
def EditOrderSaid : Prop := editOrderRow.holds Try.pinned (OpenSpec.ofChange editOrderSpec)

/-- ITS FALSE NEIGHBOUR: 'it returns false'. Refute it at one input. -/
def editOrderWrong : ChangeSpec := { name := "editOrder", fn := fun _ => fun
  | [d1, d2, d3, d4] => { results := [.lit (.bool false)], args := [d1, d2, d3, d4] }
  | _ => none }
def EditOrderWrongFalsely : Prop := editOrderRow.holds Try.pinned (OpenSpec.ofChange editOrderWrong)

/-- 'palinodelaw18.EditKinds': WHATEVER THE INPUT: true; the input reads as it did. -/
def editKindsSpec : ChangeSpec := { name := "editKinds", fn := fun _ => fun
  | [d] => { results := [.lit (.bool true)], args := [d] }
  | _ => none }
def editKindsRow : OpenClaim := { program := "ytihgpnfkadldeaa", sum := "126c3b0059d8e6fd953fda2bd7b51ddbdb88341d7d85c296fb7ed0f8bfa118ac", func := "palinode/palinodelaw18.EditKinds", spec := "editKinds", inPlace := ["internal/abi.NoEscape"], unfollowed := true, recurses := true, apart := false }
def EditKindsSaid : Prop := editKindsRow.holds Try.pinned (OpenSpec.ofChange editKindsSpec)

/-- ITS FALSE NEIGHBOUR: 'it returns false'. Refute it at one input. -/
def editKindsWrong : ChangeSpec := { name := "editKinds", fn := fun _ => fun
  | [d] => { results := [.lit (.bool false)], args := [d] }
  | _ => none }
def EditKindsWrongFalsely : Prop := editKindsRow.holds Try.pinned (OpenSpec.ofChange editKindsWrong)

/-- 'palinodelaw18.EditApart': WHATEVER THE INPUT: true; the input reads as it did. -/
def editApartSpec : ChangeSpec := { name := "editApart", fn := fun _ => fun
  | [d1, d2] => { results := [.lit (.bool true)], args := [d1, d2] }
  | _ => none }
def editApartRow : OpenClaim := { program := "ytihgpnfkadldeaa", sum := "126c3b0059d8e6fd953fda2bd7b51ddbdb88341d7d85c296fb7ed0f8bfa118ac", func := "palinode/palinodelaw18.EditApart", spec := "editApart", inPlace := ["internal/abi.NoEscape"], unfollowed := true, recurses := true, apart := false }
def EditApartSaid : Prop := editApartRow.holds Try.pinned (OpenSpec.ofChange editApartSpec)

/-- ITS FALSE NEIGHBOUR: 'it returns false'. Refute it at one input. -/
def editApartWrong : ChangeSpec := { name := "editApart", fn := fun _ => fun
  | [d1, d2] => { results := [.lit (.bool false)], args := [d1, d2] }
  | _ => none }
def EditApartWrongFalsely : Prop := editApartRow.holds Try.pinned (OpenSpec.ofChange editApartWrong)

/-- 'palinodelaw18.EditHidden': WHATEVER THE INPUT: true; the input reads as it did. -/
def editHiddenSpec : ChangeSpec := { name := "editHidden", fn := fun _ => fun
  | [d1, d2, d3] => { results := [.lit (.bool true)], args := [d1, d2, d3] }
  | _ => none }
def editHiddenRow : OpenClaim := { program := "ytihgpnfkadldeaa", sum := "126c3b0059d8e6fd953fda2bd7b51ddbdb88341d7d85c296fb7ed0f8bfa118ac", func := "palinode/palinodelaw18.EditHidden", spec := "editHidden", inPlace := ["internal/abi.NoEscape"], unfollowed := true, recurses := true, apart := false }
def EditHiddenSaid : Prop := editHiddenRow.holds Try.pinned (OpenSpec.ofChange editHiddenSpec)

/-- ITS FALSE NEIGHBOUR: 'it returns false'. Refute it at one input. -/
def editHiddenWrong : ChangeSpec := { name := "editHidden", fn := fun _ => fun
  | [d1, d2, d3] => { results := [.lit (.bool false)], args := [d1, d2, d3] }
  | _ => none }
def EditHiddenWrongFalsely : Prop := editHiddenRow.holds Try.pinned (OpenSpec.ofChange editHiddenWrong)

/- THE SECOND FORM. 'bulk': how many values and letters a reading holds, each counted each time it is reached (what is shared counts as often as it is met; a slice's spare places count too). A statement '..UptoSaid' is the law's where the arguments, and the package variables that the reading takes, are together of bulk at most 1048576: NARROWER than '..Said'. Prove '..Said' where nothing that the law and all that it calls make is longer than what came in: it says more and counts as full. Else prove '..UptoSaid'. A law counts once. -/
mutual
def uptoBulk {H : Type} : DataW H → Nat
  | .lit (.string bytes) => bytes.length + 1
  | .lit _ => 1
  | .nil => 1
  | .ptr d => uptoBulk d + 1
  | .slice elems spare => uptoBulkAll elems + uptoBulkAll spare + 1
  | .agg parts => uptoBulkAll parts + 1
  | .iface _ d => uptoBulk d + 1
  | .map entries => uptoBulkEntries entries + 1
  | .held _ => 1
def uptoBulkAll {H : Type} : List (DataW H) → Nat
  | [] => 0
  | d :: r => uptoBulk d + uptoBulkAll r
def uptoBulkEntries {H : Type} : List (Lit × DataW H) → Nat
  | [] => 0
  | x :: r => uptoBulkEntry x + uptoBulkEntries r
def uptoBulkEntry {H : Type} : Lit × DataW H → Nat
  | (.string bytes, d) => bytes.length + uptoBulk d + 1
  | (_, d) => uptoBulk d + 1
 end
def uptoSmall : (H : Type) → List (DataW H) → Bool := fun _ ds => decide (uptoBulkAll ds ≤ 1048576)
def OpenSpec.upto (s : _root_.Go.ChangeSpec) : _root_.Go.OpenSpec := { _root_.Go.OpenSpec.ofChange s with cond := some uptoSmall }

/-- 'palinodelaw17.AtomTells', WHERE WHAT IT READS IS OF BULK AT MOST 1048576: true; the input reads as it did. -/
def atomTellsUptoRow : OpenClaim := { program := "ytihgpnfkadldeaa", sum := "126c3b0059d8e6fd953fda2bd7b51ddbdb88341d7d85c296fb7ed0f8bfa118ac", func := "palinode/palinodelaw17.AtomTells", spec := "atomTells", inPlace := ["internal/abi.NoEscape"], unfollowed := true, recurses := true, apart := false, narrowed := true }
def AtomTellsUptoSaid : Prop := atomTellsUptoRow.holds Try.pinned (OpenSpec.upto atomTellsSpec)

/-- 'palinodelaw17.AtomUndoes', WHERE WHAT IT READS IS OF BULK AT MOST 1048576: true; the input reads as it did. -/
def atomUndoesUptoRow : OpenClaim := { program := "ytihgpnfkadldeaa", sum := "126c3b0059d8e6fd953fda2bd7b51ddbdb88341d7d85c296fb7ed0f8bfa118ac", func := "palinode/palinodelaw17.AtomUndoes", spec := "atomUndoes", inPlace := ["internal/abi.NoEscape"], unfollowed := true, recurses := true, apart := false, narrowed := true }
def AtomUndoesUptoSaid : Prop := atomUndoesUptoRow.holds Try.pinned (OpenSpec.upto atomUndoesSpec)

/-- 'palinodelaw17.AtomPuts', WHERE WHAT IT READS IS OF BULK AT MOST 1048576: true; the input reads as it did. -/
def atomPutsUptoRow : OpenClaim := { program := "ytihgpnfkadldeaa", sum := "126c3b0059d8e6fd953fda2bd7b51ddbdb88341d7d85c296fb7ed0f8bfa118ac", func := "palinode/palinodelaw17.AtomPuts", spec := "atomPuts", inPlace := ["internal/abi.NoEscape"], unfollowed := true, recurses := true, apart := false, narrowed := true }
def AtomPutsUptoSaid : Prop := atomPutsUptoRow.holds Try.pinned (OpenSpec.upto atomPutsSpec)

/-- 'palinodelaw17.AtomPlaces', WHERE WHAT IT READS IS OF BULK AT MOST 1048576: true; the input reads as it did. -/
def atomPlacesUptoRow : OpenClaim := { program := "ytihgpnfkadldeaa", sum := "126c3b0059d8e6fd953fda2bd7b51ddbdb88341d7d85c296fb7ed0f8bfa118ac", func := "palinode/palinodelaw17.AtomPlaces", spec := "atomPlaces", inPlace := ["internal/abi.NoEscape"], unfollowed := true, recurses := true, apart := false, narrowed := true }
def AtomPlacesUptoSaid : Prop := atomPlacesUptoRow.holds Try.pinned (OpenSpec.upto atomPlacesSpec)

/-- 'palinodelaw17.AtomCopies', WHERE WHAT IT READS IS OF BULK AT MOST 1048576: true; the input reads as it did. -/
def atomCopiesUptoRow : OpenClaim := { program := "ytihgpnfkadldeaa", sum := "126c3b0059d8e6fd953fda2bd7b51ddbdb88341d7d85c296fb7ed0f8bfa118ac", func := "palinode/palinodelaw17.AtomCopies", spec := "atomCopies", inPlace := ["internal/abi.NoEscape"], unfollowed := true, recurses := true, apart := false, narrowed := true }
def AtomCopiesUptoSaid : Prop := atomCopiesUptoRow.holds Try.pinned (OpenSpec.upto atomCopiesSpec)

/-- 'palinodelaw18.EditTells', WHERE WHAT IT READS IS OF BULK AT MOST 1048576: true; the input reads as it did. -/
def editTellsUptoRow : OpenClaim := { program := "ytihgpnfkadldeaa", sum := "126c3b0059d8e6fd953fda2bd7b51ddbdb88341d7d85c296fb7ed0f8bfa118ac", func := "palinode/palinodelaw18.EditTells", spec := "editTells", inPlace := ["internal/abi.NoEscape"], unfollowed := true, recurses := true, apart := false, narrowed := true }
def EditTellsUptoSaid : Prop := editTellsUptoRow.holds Try.pinned (OpenSpec.upto editTellsSpec)

/-- 'palinodelaw18.EditSpots', WHERE WHAT IT READS IS OF BULK AT MOST 1048576: true; the input reads as it did. -/
def editSpotsUptoRow : OpenClaim := { program := "ytihgpnfkadldeaa", sum := "126c3b0059d8e6fd953fda2bd7b51ddbdb88341d7d85c296fb7ed0f8bfa118ac", func := "palinode/palinodelaw18.EditSpots", spec := "editSpots", inPlace := ["internal/abi.NoEscape"], unfollowed := true, recurses := true, apart := false, narrowed := true }
def EditSpotsUptoSaid : Prop := editSpotsUptoRow.holds Try.pinned (OpenSpec.upto editSpotsSpec)

/-- 'palinodelaw18.EditDoes', WHERE WHAT IT READS IS OF BULK AT MOST 1048576: true; the input reads as it did. -/
def editDoesUptoRow : OpenClaim := { program := "ytihgpnfkadldeaa", sum := "126c3b0059d8e6fd953fda2bd7b51ddbdb88341d7d85c296fb7ed0f8bfa118ac", func := "palinode/palinodelaw18.EditDoes", spec := "editDoes", inPlace := ["internal/abi.NoEscape"], unfollowed := true, recurses := true, apart := false, narrowed := true }
def EditDoesUptoSaid : Prop := editDoesUptoRow.holds Try.pinned (OpenSpec.upto editDoesSpec)

/-- 'palinodelaw18.EditOrder', WHERE WHAT IT READS IS OF BULK AT MOST 1048576: true; the input reads as it did. -/
def editOrderUptoRow : OpenClaim := { program := "ytihgpnfkadldeaa", sum := "126c3b0059d8e6fd953fda2bd7b51ddbdb88341d7d85c296fb7ed0f8bfa118ac", func := "palinode/palinodelaw18.EditOrder", spec := "editOrder", inPlace := ["internal/abi.NoEscape"], unfollowed := true, recurses := true, apart := false, narrowed := true }
def EditOrderUptoSaid : Prop := editOrderUptoRow.holds Try.pinned (OpenSpec.upto editOrderSpec)

/-- 'palinodelaw18.EditKinds', WHERE WHAT IT READS IS OF BULK AT MOST 1048576: true; the input reads as it did. -/
def editKindsUptoRow : OpenClaim := { program := "ytihgpnfkadldeaa", sum := "126c3b0059d8e6fd953fda2bd7b51ddbdb88341d7d85c296fb7ed0f8bfa118ac", func := "palinode/palinodelaw18.EditKinds", spec := "editKinds", inPlace := ["internal/abi.NoEscape"], unfollowed := true, recurses := true, apart := false, narrowed := true }
def EditKindsUptoSaid : Prop := editKindsUptoRow.holds Try.pinned (OpenSpec.upto editKindsSpec)

/-- 'palinodelaw18.EditApart', WHERE WHAT IT READS IS OF BULK AT MOST 1048576: true; the input reads as it did. -/
def editApartUptoRow : OpenClaim := { program := "ytihgpnfkadldeaa", sum := "126c3b0059d8e6fd953fda2bd7b51ddbdb88341d7d85c296fb7ed0f8bfa118ac", func := "palinode/palinodelaw18.EditApart", spec := "editApart", inPlace := ["internal/abi.NoEscape"], unfollowed := true, recurses := true, apart := false, narrowed := true }
def EditApartUptoSaid : Prop := editApartUptoRow.holds Try.pinned (OpenSpec.upto editApartSpec)

/-- 'palinodelaw18.EditHidden', WHERE WHAT IT READS IS OF BULK AT MOST 1048576: true; the input reads as it did. -/
def editHiddenUptoRow : OpenClaim := { program := "ytihgpnfkadldeaa", sum := "126c3b0059d8e6fd953fda2bd7b51ddbdb88341d7d85c296fb7ed0f8bfa118ac", func := "palinode/palinodelaw18.EditHidden", spec := "editHidden", inPlace := ["internal/abi.NoEscape"], unfollowed := true, recurses := true, apart := false, narrowed := true }
def EditHiddenUptoSaid : Prop := editHiddenUptoRow.holds Try.pinned (OpenSpec.upto editHiddenSpec)

end Rows
end Go.Proofs.Ytihgpnfkadldeaa
