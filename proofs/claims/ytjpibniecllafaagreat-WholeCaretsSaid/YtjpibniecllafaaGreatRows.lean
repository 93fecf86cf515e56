/-
  No cell of these rows narrows 'for every input' (looked for: loops, veiled, ifaces, maps, wideKeys, modest, calm, conditions, laid).
  DERIVED. THE GIVEN ROWS OF THIS SEAT. 9 by the template 'for every input the law returns true; each argument reads behind the call as it read before'; 0 by the template 'total and deterministic' (their statements: YtjpibniecllafaaGreatTotals.lean).
  GIVEN WITH THE SEED: the statements are not yours to turn. If you find one false, say at which input.
  Laid BY PROGRAM, IN A SANDBOX (cutbox-rows.mjs): the forced cells as the released guide's own fill.sh prints them over the translation 924a4b42ed535af7… (all of the seat's roots in one cut). By AI agents, Wed Nov 11 2026. No macro, syntax, notation, axiom, sorry.
-/
import Derived.Test.YtjpibniecllafaaGreatChecked
import GoSem.Claim
import GoSem.ClaimJoined
import GoSem.ClaimMapViews
import Derived.JoinedTies
import Derived.KernelRfl
namespace Go.Proofs.YtjpibniecllafaaGreat
/- THE CELL 'sum', in the pinned program and in every row, IS THE sha256 OF THE DUMP (.gsa) THAT YtjpibniecllafaaGreatProg.lean LOADS. Nothing in Lean hashes anything: it is a label: what it is worth is what the hold of that sum in a sandbox is worth. -/
noncomputable def Tryz.pinned : Pinned := { name := "ytjpibniecllafaagreat", sum := "924a4b42ed535af72b1ac133d61c6c4799a1be87b25053efd638cc5f01d9dda0", checked := Tryz.checked }
namespace Rows
def none {H : Type} : Left H := { results := [], args := [] }

/-- 'palinodetop.WholeErase': WHATEVER THE INPUT: true; the input reads as it did. -/
def wholeEraseSpec : ChangeSpec := { name := "wholeErase", fn := fun _ => fun
  | [d] => { results := [.lit (.bool true)], args := [d] }
  | _ => none }
def wholeEraseRow : OpenClaim := { program := "ytjpibniecllafaagreat", sum := "924a4b42ed535af72b1ac133d61c6c4799a1be87b25053efd638cc5f01d9dda0", func := "palinode/palinodetop.WholeErase", spec := "wholeErase", inPlace := ["internal/abi.NoEscape", "maps.clone", "slices.overlaps[int]"], unfollowed := true, recurses := true, apart := false }
def WholeEraseSaid : Prop := wholeEraseRow.holds Tryz.pinned (OpenSpec.ofChange wholeEraseSpec)

/-- ITS FALSE NEIGHBOUR: 'it returns false'. Refute it at one input. -/
def wholeEraseWrong : ChangeSpec := { name := "wholeErase", fn := fun _ => fun
  | [d] => { results := [.lit (.bool false)], args := [d] }
  | _ => none }
def WholeEraseWrongFalsely : Prop := wholeEraseRow.holds Tryz.pinned (OpenSpec.ofChange wholeEraseWrong)

/-- 'palinodetop.WholeCarets': WHATEVER THE INPUT: true; the input reads as it did. -/
def wholeCaretsSpec : ChangeSpec := { name := "wholeCarets", fn := fun _ => fun
  | [d1, d2] => { results := [.lit (.bool true)], args := [d1, d2] }
  | _ => none }
def wholeCaretsRow : OpenClaim := { program := "ytjpibniecllafaagreat", sum := "924a4b42ed535af72b1ac133d61c6c4799a1be87b25053efd638cc5f01d9dda0", func := "palinode/palinodetop.WholeCarets", spec := "wholeCarets", inPlace := ["internal/abi.NoEscape", "maps.clone", "slices.overlaps[int]"], unfollowed := true, recurses := true, apart := false }
def WholeCaretsSaid : Prop := wholeCaretsRow.holds Tryz.pinned (OpenSpec.ofChange wholeCaretsSpec)

/-- ITS FALSE NEIGHBOUR: 'it returns false'. Refute it at one input. -/
def wholeCaretsWrong : ChangeSpec := { name := "wholeCarets", fn := fun _ => fun
  | [d1, d2] => { results := [.lit (.bool false)], args := [d1, d2] }
  | _ => none }
def WholeCaretsWrongFalsely : Prop := wholeCaretsRow.holds Tryz.pinned (OpenSpec.ofChange wholeCaretsWrong)

/-- 'palinodetop.WholeRanks': WHATEVER THE INPUT: true; the input reads as it did. -/
def wholeRanksSpec : ChangeSpec := { name := "wholeRanks", fn := fun _ => fun
  | [d] => { results := [.lit (.bool true)], args := [d] }
  | _ => none }
def wholeRanksRow : OpenClaim := { program := "ytjpibniecllafaagreat", sum := "924a4b42ed535af72b1ac133d61c6c4799a1be87b25053efd638cc5f01d9dda0", func := "palinode/palinodetop.WholeRanks", spec := "wholeRanks", inPlace := ["internal/abi.NoEscape", "maps.clone", "slices.overlaps[int]"], unfollowed := true, recurses := true, apart := false }
def WholeRanksSaid : Prop := wholeRanksRow.holds Tryz.pinned (OpenSpec.ofChange wholeRanksSpec)

/-- ITS FALSE NEIGHBOUR: 'it returns false'. Refute it at one input. -/
def wholeRanksWrong : ChangeSpec := { name := "wholeRanks", fn := fun _ => fun
  | [d] => { results := [.lit (.bool false)], args := [d] }
  | _ => none }
def WholeRanksWrongFalsely : Prop := wholeRanksRow.holds Tryz.pinned (OpenSpec.ofChange wholeRanksWrong)

/-- 'palinodetop.WholeStale': WHATEVER THE INPUT: true; the input reads as it did. -/
def wholeStaleSpec : ChangeSpec := { name := "wholeStale", fn := fun _ => fun
  | [d1, d2, d3] => { results := [.lit (.bool true)], args := [d1, d2, d3] }
  | _ => none }
def wholeStaleRow : OpenClaim := { program := "ytjpibniecllafaagreat", sum := "924a4b42ed535af72b1ac133d61c6c4799a1be87b25053efd638cc5f01d9dda0", func := "palinode/palinodetop.WholeStale", spec := "wholeStale", inPlace := ["internal/abi.NoEscape", "maps.clone", "slices.overlaps[int]"], unfollowed := true, recurses := true, apart := false }
def WholeStaleSaid : Prop := wholeStaleRow.holds Tryz.pinned (OpenSpec.ofChange wholeStaleSpec)

/-- ITS FALSE NEIGHBOUR: 'it returns false'. Refute it at one input. -/
def wholeStaleWrong : ChangeSpec := { name := "wholeStale", fn := fun _ => fun
  | [d1, d2, d3] => { results := [.lit (.bool false)], args := [d1, d2, d3] }
  | _ => none }
def WholeStaleWrongFalsely : Prop := wholeStaleRow.holds Tryz.pinned (OpenSpec.ofChange wholeStaleWrong)

/-- 'palinodetop.WholeNothing': WHATEVER THE INPUT: true; the input reads as it did. -/
def wholeNothingSpec : ChangeSpec := { name := "wholeNothing", fn := fun _ => fun
  | [d1, d2] => { results := [.lit (.bool true)], args := [d1, d2] }
  | _ => none }
def wholeNothingRow : OpenClaim := { program := "ytjpibniecllafaagreat", sum := "924a4b42ed535af72b1ac133d61c6c4799a1be87b25053efd638cc5f01d9dda0", func := "palinode/palinodetop.WholeNothing", spec := "wholeNothing", inPlace := ["internal/abi.NoEscape", "maps.clone", "slices.overlaps[int]"], unfollowed := true, recurses := true, apart := false }
def WholeNothingSaid : Prop := wholeNothingRow.holds Tryz.pinned (OpenSpec.ofChange wholeNothingSpec)

/-- ITS FALSE NEIGHBOUR: 'it returns false'. Refute it at one input. -/
def wholeNothingWrong : ChangeSpec := { name := "wholeNothing", fn := fun _ => fun
  | [d1, d2] => { results := [.lit (.bool false)], args := [d1, d2] }
  | _ => none }
def WholeNothingWrongFalsely : Prop := wholeNothingRow.holds Tryz.pinned (OpenSpec.ofChange wholeNothingWrong)

/-- 'palinodetop.WholeBreaks': WHATEVER THE INPUT: true; the input reads as it did. -/
def wholeBreaksSpec : ChangeSpec := { name := "wholeBreaks", fn := fun _ => fun
  | [d1, d2, d3, d4] => { results := [.lit (.bool true)], args := [d1, d2, d3, d4] }
  | _ => none }
def wholeBreaksRow : OpenClaim := { program := "ytjpibniecllafaagreat", sum := "924a4b42ed535af72b1ac133d61c6c4799a1be87b25053efd638cc5f01d9dda0", func := "palinode/palinodetop.WholeBreaks", spec := "wholeBreaks", inPlace := ["internal/abi.NoEscape", "maps.clone", "slices.overlaps[int]"], unfollowed := true, recurses := true, apart := false }
def WholeBreaksSaid : Prop := wholeBreaksRow.holds Tryz.pinned (OpenSpec.ofChange wholeBreaksSpec)

/-- ITS FALSE NEIGHBOUR: 'it returns false'. Refute it at one input. -/
def wholeBreaksWrong : ChangeSpec := { name := "wholeBreaks", fn := fun _ => fun
  | [d1, d2, d3, d4] => { results := [.lit (.bool false)], args := [d1, d2, d3, d4] }
  | _ => none }
def WholeBreaksWrongFalsely : Prop := wholeBreaksRow.holds Tryz.pinned (OpenSpec.ofChange wholeBreaksWrong)

/-- 'palinodetop.WholeReplay': WHATEVER THE INPUT: true; the input reads as it did. -/
def wholeReplaySpec : ChangeSpec := { name := "wholeReplay", fn := fun _ => fun
  | [d1, d2] => { results := [.lit (.bool true)], args := [d1, d2] }
  | _ => none }
def wholeReplayRow : OpenClaim := { program := "ytjpibniecllafaagreat", sum := "924a4b42ed535af72b1ac133d61c6c4799a1be87b25053efd638cc5f01d9dda0", func := "palinode/palinodetop.WholeReplay", spec := "wholeReplay", inPlace := ["internal/abi.NoEscape", "maps.clone", "slices.overlaps[int]"], unfollowed := true, recurses := true, apart := false }
def WholeReplaySaid : Prop := wholeReplayRow.holds Tryz.pinned (OpenSpec.ofChange wholeReplaySpec)

/-- ITS FALSE NEIGHBOUR: 'it returns false'. Refute it at one input. -/
def wholeReplayWrong : ChangeSpec := { name := "wholeReplay", fn := fun _ => fun
  | [d1, d2] => { results := [.lit (.bool false)], args := [d1, d2] }
  | _ => none }
def WholeReplayWrongFalsely : Prop := wholeReplayRow.holds Tryz.pinned (OpenSpec.ofChange wholeReplayWrong)

/-- 'palinodetop.WholeRegions': WHATEVER THE INPUT: true; the input reads as it did. -/
def wholeRegionsSpec : ChangeSpec := { name := "wholeRegions", fn := fun _ => fun
  | [d] => { results := [.lit (.bool true)], args := [d] }
  | _ => none }
def wholeRegionsRow : OpenClaim := { program := "ytjpibniecllafaagreat", sum := "924a4b42ed535af72b1ac133d61c6c4799a1be87b25053efd638cc5f01d9dda0", func := "palinode/palinodetop.WholeRegions", spec := "wholeRegions", inPlace := ["internal/abi.NoEscape", "maps.clone", "slices.overlaps[int]"], unfollowed := true, recurses := true, apart := false }
def WholeRegionsSaid : Prop := wholeRegionsRow.holds Tryz.pinned (OpenSpec.ofChange wholeRegionsSpec)

/-- ITS FALSE NEIGHBOUR: 'it returns false'. Refute it at one input. -/
def wholeRegionsWrong : ChangeSpec := { name := "wholeRegions", fn := fun _ => fun
  | [d] => { results := [.lit (.bool false)], args := [d] }
  | _ => none }
def WholeRegionsWrongFalsely : Prop := wholeRegionsRow.holds Tryz.pinned (OpenSpec.ofChange wholeRegionsWrong)

/-- 'palinodetop.WholeModel': WHATEVER THE INPUT: true; the input reads as it did. -/
def wholeModelSpec : ChangeSpec := { name := "wholeModel", fn := fun _ => fun
  | [d] => { results := [.lit (.bool true)], args := [d] }
  | _ => none }
def wholeModelRow : OpenClaim := { program := "ytjpibniecllafaagreat", sum := "924a4b42ed535af72b1ac133d61c6c4799a1be87b25053efd638cc5f01d9dda0", func := "palinode/palinodetop.WholeModel", spec := "wholeModel", inPlace := ["internal/abi.NoEscape", "maps.clone", "slices.overlaps[int]"], unfollowed := true, recurses := true, apart := false }
def WholeModelSaid : Prop := wholeModelRow.holds Tryz.pinned (OpenSpec.ofChange wholeModelSpec)

/-- ITS FALSE NEIGHBOUR: 'it returns false'. Refute it at one input. -/
def wholeModelWrong : ChangeSpec := { name := "wholeModel", fn := fun _ => fun
  | [d] => { results := [.lit (.bool false)], args := [d] }
  | _ => none }
def WholeModelWrongFalsely : Prop := wholeModelRow.holds Tryz.pinned (OpenSpec.ofChange wholeModelWrong)

/- THE SECOND FORM. 'bulk': how many values and letters a reading holds, each counted each time it is reached (what is shared counts as often as it is met; a slice's spare places count too). A statement '..UptoSaid' is the law's where the arguments, and the package variables that the reading takes, are together of bulk at most 1048576: NARROWER than '..Said'. Prove '..Said' where nothing that the law and all that it calls make is longer than what came in: it says more and counts as full. Else prove '..UptoSaid'. A law counts once. -/
mutual
def uptoBulk {H : Type} : DataW H → Nat
  | .lit (.string bytes) => bytes.length + 1
  | .lit _ => 1
  | .nil => 1
  | .ptr d => uptoBulk d + 1
  | .slice elems spare => uptoBulkAll elems + uptoBulkAll spare + 1
  | .agg parts => uptoBulkAll parts + 1
  | .iface _ d => uptoBulk d + 1
  | .map entries => uptoBulkEntries entries + 1
  | .held _ => 1
def uptoBulkAll {H : Type} : List (DataW H) → Nat
  | [] => 0
  | d :: r => uptoBulk d + uptoBulkAll r
def uptoBulkEntries {H : Type} : List (Lit × DataW H) → Nat
  | [] => 0
  | x :: r => uptoBulkEntry x + uptoBulkEntries r
def uptoBulkEntry {H : Type} : Lit × DataW H → Nat
  | (.string bytes, d) => bytes.length + uptoBulk d + 1
  | (_, d) => uptoBulk d + 1
 end
def uptoSmall : (H : Type) → List (DataW H) → Bool := fun _ ds => decide (uptoBulkAll ds ≤ 1048576)
def OpenSpec.upto (s : _root_.Go.ChangeSpec) : _root_.Go.OpenSpec := { _root_.Go.OpenSpec.ofChange s with cond := some uptoSmall }

/-- 'palinodetop.WholeErase', WHERE WHAT IT READS IS OF BULK AT MOST 1048576: true; the input reads as it did. -/
def wholeEraseUptoRow : OpenClaim := { program := "ytjpibniecllafaagreat", sum := "924a4b42ed535af72b1ac133d61c6c4799a1be87b25053efd638cc5f01d9dda0", func := "palinode/palinodetop.WholeErase", spec := "wholeErase", inPlace := ["internal/abi.NoEscape", "maps.clone", "slices.overlaps[int]"], unfollowed := true, recurses := true, apart := false, narrowed := true }
def WholeEraseUptoSaid : Prop := wholeEraseUptoRow.holds Tryz.pinned (OpenSpec.upto wholeEraseSpec)

/-- 'palinodetop.WholeCarets', WHERE WHAT IT READS IS OF BULK AT MOST 1048576: true; the input reads as it did. -/
def wholeCaretsUptoRow : OpenClaim := { program := "ytjpibniecllafaagreat", sum := "924a4b42ed535af72b1ac133d61c6c4799a1be87b25053efd638cc5f01d9dda0", func := "palinode/palinodetop.WholeCarets", spec := "wholeCarets", inPlace := ["internal/abi.NoEscape", "maps.clone", "slices.overlaps[int]"], unfollowed := true, recurses := true, apart := false, narrowed := true }
def WholeCaretsUptoSaid : Prop := wholeCaretsUptoRow.holds Tryz.pinned (OpenSpec.upto wholeCaretsSpec)

/-- 'palinodetop.WholeRanks', WHERE WHAT IT READS IS OF BULK AT MOST 1048576: true; the input reads as it did. -/
def wholeRanksUptoRow : OpenClaim := { program := "ytjpibniecllafaagreat", sum := "924a4b42ed535af72b1ac133d61c6c4799a1be87b25053efd638cc5f01d9dda0", func := "palinode/palinodetop.WholeRanks", spec := "wholeRanks", inPlace := ["internal/abi.NoEscape", "maps.clone", "slices.overlaps[int]"], unfollowed := true, recurses := true, apart := false, narrowed := true }
def WholeRanksUptoSaid : Prop := wholeRanksUptoRow.holds Tryz.pinned (OpenSpec.upto wholeRanksSpec)

/-- 'palinodetop.WholeStale', WHERE WHAT IT READS IS OF BULK AT MOST 1048576: true; the input reads as it did. -/
def wholeStaleUptoRow : OpenClaim := { program := "ytjpibniecllafaagreat", sum := "924a4b42ed535af72b1ac133d61c6c4799a1be87b25053efd638cc5f01d9dda0", func := "palinode/palinodetop.WholeStale", spec := "wholeStale", inPlace := ["internal/abi.NoEscape", "maps.clone", "slices.overlaps[int]"], unfollowed := true, recurses := true, apart := false, narrowed := true }
def WholeStaleUptoSaid : Prop := wholeStaleUptoRow.holds Tryz.pinned (OpenSpec.upto wholeStaleSpec)

/-- 'palinodetop.WholeNothing', WHERE WHAT IT READS IS OF BULK AT MOST 1048576: true; the input reads as it did. -/
def wholeNothingUptoRow : OpenClaim := { program := "ytjpibniecllafaagreat", sum := "924a4b42ed535af72b1ac133d61c6c4799a1be87b25053efd638cc5f01d9dda0", func := "palinode/palinodetop.WholeNothing", spec := "wholeNothing", inPlace := ["internal/abi.NoEscape", "maps.clone", "slices.overlaps[int]"], unfollowed := true, recurses := true, apart := false, narrowed := true }
def WholeNothingUptoSaid : Prop := wholeNothingUptoRow.holds Tryz.pinned (OpenSpec.upto wholeNothingSpec)

/-- 'palinodetop.WholeBreaks', WHERE WHAT IT READS IS OF BULK AT MOST 1048576: true; the input reads as it did. -/
def wholeBreaksUptoRow : OpenClaim := { program := "ytjpibniecllafaagreat", sum := "924a4b42ed535af72b1ac133d61c6c4799a1be87b25053efd638cc5f01d9dda0", func := "palinode/palinodetop.WholeBreaks", spec := "wholeBreaks", inPlace := ["internal/abi.NoEscape", "maps.clone", "slices.overlaps[int]"], unfollowed := true, recurses := true, apart := false, narrowed := true }
def WholeBreaksUptoSaid : Prop := wholeBreaksUptoRow.holds Tryz.pinned (OpenSpec.upto wholeBreaksSpec)

/-- 'palinodetop.WholeReplay', WHERE WHAT IT READS IS OF BULK AT MOST 1048576: true; the input reads as it did. -/
def wholeReplayUptoRow : OpenClaim := { program := "ytjpibniecllafaagreat", sum := "924a4b42ed535af72b1ac133d61c6c4799a1be87b25053efd638cc5f01d9dda0", func := "palinode/palinodetop.WholeReplay", spec := "wholeReplay", inPlace := ["internal/abi.NoEscape", "maps.clone", "slices.overlaps[int]"], unfollowed := true, recurses := true, apart := false, narrowed := true }
def WholeReplayUptoSaid : Prop := wholeReplayUptoRow.holds Tryz.pinned (OpenSpec.upto wholeReplaySpec)

/-- 'palinodetop.WholeRegions', WHERE WHAT IT READS IS OF BULK AT MOST 1048576: true; the input reads as it did. -/
def wholeRegionsUptoRow : OpenClaim := { program := "ytjpibniecllafaagreat", sum := "924a4b42ed535af72b1ac133d61c6c4799a1be87b25053efd638cc5f01d9dda0", func := "palinode/palinodetop.WholeRegions", spec := "wholeRegions", inPlace := ["internal/abi.NoEscape", "maps.clone", "slices.overlaps[int]"], unfollowed := true, recurses := true, apart := false, narrowed := true }
def WholeRegionsUptoSaid : Prop := wholeRegionsUptoRow.holds Tryz.pinned (OpenSpec.upto wholeRegionsSpec)

/-- 'palinodetop.WholeModel', WHERE WHAT IT READS IS OF BULK AT MOST 1048576: true; the input reads as it did. -/
def wholeModelUptoRow : OpenClaim := { program := "ytjpibniecllafaagreat", sum := "924a4b42ed535af72b1ac133d61c6c4799a1be87b25053efd638cc5f01d9dda0", func := "palinode/palinodetop.WholeModel", spec := "wholeModel", inPlace := ["internal/abi.NoEscape", "maps.clone", "slices.overlaps[int]"], unfollowed := true, recurses := true, apart := false, narrowed := true }
def WholeModelUptoSaid : Prop := wholeModelUptoRow.holds Tryz.pinned (OpenSpec.upto wholeModelSpec)

end Rows
end Go.Proofs.YtjpibniecllafaaGreat
