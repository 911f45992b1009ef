/-
  No cell of these rows narrows 'for every input' (looked for: loops, veiled, ifaces, maps, wideKeys, modest, calm, conditions, laid).
  DERIVED. THE GIVEN ROWS OF THIS SEAT. 12 by the template 'for every input the law returns true; each argument reads behind the call as it read before'; 0 by the template 'total and deterministic' (their statements: YtnhdmnijiphjjaaGreatTotals.lean).
  GIVEN WITH THE SEED: the statements are not yours to turn. If you find one false, say at which input.
  Laid BY PROGRAM, IN A SANDBOX (cutbox-rows.mjs): the forced cells as the released guide's own fill.sh prints them over the translation 63877bda7fabfa1d… (all of the seat's roots in one cut). By AI agents, Wed Nov 11 2026. No macro, syntax, notation, axiom, sorry.
-/
import Derived.Test.YtnhdmnijiphjjaaGreatChecked
import GoSem.Claim
import GoSem.ClaimJoined
import GoSem.ClaimMapViews
import Derived.JoinedTies
import Derived.KernelRfl
namespace Go.Proofs.YtnhdmnijiphjjaaGreat
/- THE CELL 'sum', in the pinned program and in every row, IS THE sha256 OF THE DUMP (.gsa) THAT YtnhdmnijiphjjaaGreatProg.lean LOADS. Nothing in Lean hashes anything: it is a label: what it is worth is what the hold of that sum in a sandbox is worth. -/
noncomputable def Tryz.pinned : Pinned := { name := "ytnhdmnijiphjjaagreat", sum := "63877bda7fabfa1d3b4db602f73a7528551d69d9838c1d335b5ce3ce4b6c7fe1", checked := Tryz.checked }
namespace Rows
def none {H : Type} : Left H := { results := [], args := [] }

/-- 'headlandlaw19.SpaceShares': WHATEVER THE INPUT: true; the input reads as it did. -/
def spaceSharesSpec : ChangeSpec := { name := "spaceShares", fn := fun _ => fun
  | [d1, d2, d3] => { results := [.lit (.bool true)], args := [d1, d2, d3] }
  | _ => none }
def spaceSharesRow : OpenClaim := { program := "ytnhdmnijiphjjaagreat", sum := "63877bda7fabfa1d3b4db602f73a7528551d69d9838c1d335b5ce3ce4b6c7fe1", func := "headland/headlandlaw19.SpaceShares", spec := "spaceShares", unfollowed := true, recurses := true, plainKeys := false, apart := false }
def SpaceSharesSaid : Prop := spaceSharesRow.holds Tryz.pinned (OpenSpec.ofChange spaceSharesSpec)

/-- ITS FALSE NEIGHBOUR: 'it returns false'. Refute it at one input. -/
def spaceSharesWrong : ChangeSpec := { name := "spaceShares", fn := fun _ => fun
  | [d1, d2, d3] => { results := [.lit (.bool false)], args := [d1, d2, d3] }
  | _ => none }
def SpaceSharesWrongFalsely : Prop := spaceSharesRow.holds Tryz.pinned (OpenSpec.ofChange spaceSharesWrong)

/-- 'headlandlaw19.SpaceSignals': WHATEVER THE INPUT: true; the input reads as it did. -/
def spaceSignalsSpec : ChangeSpec := { name := "spaceSignals", fn := fun _ => fun
  | [d] => { results := [.lit (.bool true)], args := [d] }
  | _ => none }
def spaceSignalsRow : OpenClaim := { program := "ytnhdmnijiphjjaagreat", sum := "63877bda7fabfa1d3b4db602f73a7528551d69d9838c1d335b5ce3ce4b6c7fe1", func := "headland/headlandlaw19.SpaceSignals", spec := "spaceSignals", unfollowed := true, recurses := true, plainKeys := false, apart := false }
def SpaceSignalsSaid : Prop := spaceSignalsRow.holds Tryz.pinned (OpenSpec.ofChange spaceSignalsSpec)

/-- ITS FALSE NEIGHBOUR: 'it returns false'. Refute it at one input. -/
def spaceSignalsWrong : ChangeSpec := { name := "spaceSignals", fn := fun _ => fun
  | [d] => { results := [.lit (.bool false)], args := [d] }
  | _ => none }
def SpaceSignalsWrongFalsely : Prop := spaceSignalsRow.holds Tryz.pinned (OpenSpec.ofChange spaceSignalsWrong)

/-- 'headlandlaw20.EvictFull': WHATEVER THE INPUT: true; the input reads as it did. -/
def evictFullSpec : ChangeSpec := { name := "evictFull", fn := fun _ => fun
  | [d] => { results := [.lit (.bool true)], args := [d] }
  | _ => none }
def evictFullRow : OpenClaim := { program := "ytnhdmnijiphjjaagreat", sum := "63877bda7fabfa1d3b4db602f73a7528551d69d9838c1d335b5ce3ce4b6c7fe1", func := "headland/headlandlaw20.EvictFull", spec := "evictFull", unfollowed := true, recurses := true, plainKeys := false, apart := false }
def EvictFullSaid : Prop := evictFullRow.holds Tryz.pinned (OpenSpec.ofChange evictFullSpec)

/-- ITS FALSE NEIGHBOUR: 'it returns false'. Refute it at one input. -/
def evictFullWrong : ChangeSpec := { name := "evictFull", fn := fun _ => fun
  | [d] => { results := [.lit (.bool false)], args := [d] }
  | _ => none }
def EvictFullWrongFalsely : Prop := evictFullRow.holds Tryz.pinned (OpenSpec.ofChange evictFullWrong)

/-- 'headlandlaw21.MoveNone': WHATEVER THE INPUT: true; the input reads as it did. -/
def moveNoneSpec : ChangeSpec := { name := "moveNone", fn := fun _ => fun
  | [d] => { results := [.lit (.bool true)], args := [d] }
  | _ => none }
def moveNoneRow : OpenClaim := { program := "ytnhdmnijiphjjaagreat", sum := "63877bda7fabfa1d3b4db602f73a7528551d69d9838c1d335b5ce3ce4b6c7fe1", func := "headland/headlandlaw21.MoveNone", spec := "moveNone", unfollowed := true, recurses := true, plainKeys := false, apart := false }
def MoveNoneSaid : Prop := moveNoneRow.holds Tryz.pinned (OpenSpec.ofChange moveNoneSpec)

/-- ITS FALSE NEIGHBOUR: 'it returns false'. Refute it at one input. -/
def moveNoneWrong : ChangeSpec := { name := "moveNone", fn := fun _ => fun
  | [d] => { results := [.lit (.bool false)], args := [d] }
  | _ => none }
def MoveNoneWrongFalsely : Prop := moveNoneRow.holds Tryz.pinned (OpenSpec.ofChange moveNoneWrong)

/-- 'headlandlaw19.SpaceZero': WHATEVER THE INPUT: true; the input reads as it did. -/
def spaceZeroSpec : ChangeSpec := { name := "spaceZero", fn := fun _ => fun
  | [d1, d2, d3] => { results := [.lit (.bool true)], args := [d1, d2, d3] }
  | _ => none }
def spaceZeroRow : OpenClaim := { program := "ytnhdmnijiphjjaagreat", sum := "63877bda7fabfa1d3b4db602f73a7528551d69d9838c1d335b5ce3ce4b6c7fe1", func := "headland/headlandlaw19.SpaceZero", spec := "spaceZero", unfollowed := true, recurses := true, plainKeys := false, apart := false }
def SpaceZeroSaid : Prop := spaceZeroRow.holds Tryz.pinned (OpenSpec.ofChange spaceZeroSpec)

/-- ITS FALSE NEIGHBOUR: 'it returns false'. Refute it at one input. -/
def spaceZeroWrong : ChangeSpec := { name := "spaceZero", fn := fun _ => fun
  | [d1, d2, d3] => { results := [.lit (.bool false)], args := [d1, d2, d3] }
  | _ => none }
def SpaceZeroWrongFalsely : Prop := spaceZeroRow.holds Tryz.pinned (OpenSpec.ofChange spaceZeroWrong)

/-- 'headlandlaw19.SpaceDenied': WHATEVER THE INPUT: true; the input reads as it did. -/
def spaceDeniedSpec : ChangeSpec := { name := "spaceDenied", fn := fun _ => fun
  | [d1, d2, d3] => { results := [.lit (.bool true)], args := [d1, d2, d3] }
  | _ => none }
def spaceDeniedRow : OpenClaim := { program := "ytnhdmnijiphjjaagreat", sum := "63877bda7fabfa1d3b4db602f73a7528551d69d9838c1d335b5ce3ce4b6c7fe1", func := "headland/headlandlaw19.SpaceDenied", spec := "spaceDenied", unfollowed := true, recurses := true, plainKeys := false, apart := false }
def SpaceDeniedSaid : Prop := spaceDeniedRow.holds Tryz.pinned (OpenSpec.ofChange spaceDeniedSpec)

/-- ITS FALSE NEIGHBOUR: 'it returns false'. Refute it at one input. -/
def spaceDeniedWrong : ChangeSpec := { name := "spaceDenied", fn := fun _ => fun
  | [d1, d2, d3] => { results := [.lit (.bool false)], args := [d1, d2, d3] }
  | _ => none }
def SpaceDeniedWrongFalsely : Prop := spaceDeniedRow.holds Tryz.pinned (OpenSpec.ofChange spaceDeniedWrong)

/-- 'headlandlaw20.EvictFrees': WHATEVER THE INPUT: true; the input reads as it did. -/
def evictFreesSpec : ChangeSpec := { name := "evictFrees", fn := fun _ => fun
  | [d1, d2] => { results := [.lit (.bool true)], args := [d1, d2] }
  | _ => none }
def evictFreesRow : OpenClaim := { program := "ytnhdmnijiphjjaagreat", sum := "63877bda7fabfa1d3b4db602f73a7528551d69d9838c1d335b5ce3ce4b6c7fe1", func := "headland/headlandlaw20.EvictFrees", spec := "evictFrees", unfollowed := true, recurses := true, plainKeys := false, apart := false }
def EvictFreesSaid : Prop := evictFreesRow.holds Tryz.pinned (OpenSpec.ofChange evictFreesSpec)

/-- ITS FALSE NEIGHBOUR: 'it returns false'. Refute it at one input. -/
def evictFreesWrong : ChangeSpec := { name := "evictFrees", fn := fun _ => fun
  | [d1, d2] => { results := [.lit (.bool false)], args := [d1, d2] }
  | _ => none }
def EvictFreesWrongFalsely : Prop := evictFreesRow.holds Tryz.pinned (OpenSpec.ofChange evictFreesWrong)

/-- 'headlandlaw23.OfflineNone': WHATEVER THE INPUT: true; the input reads as it did. -/
def offlineNoneSpec : ChangeSpec := { name := "offlineNone", fn := fun _ => fun
  | [d] => { results := [.lit (.bool true)], args := [d] }
  | _ => none }
def offlineNoneRow : OpenClaim := { program := "ytnhdmnijiphjjaagreat", sum := "63877bda7fabfa1d3b4db602f73a7528551d69d9838c1d335b5ce3ce4b6c7fe1", func := "headland/headlandlaw23.OfflineNone", spec := "offlineNone", unfollowed := true, recurses := true, plainKeys := false, apart := false }
def OfflineNoneSaid : Prop := offlineNoneRow.holds Tryz.pinned (OpenSpec.ofChange offlineNoneSpec)

/-- ITS FALSE NEIGHBOUR: 'it returns false'. Refute it at one input. -/
def offlineNoneWrong : ChangeSpec := { name := "offlineNone", fn := fun _ => fun
  | [d] => { results := [.lit (.bool false)], args := [d] }
  | _ => none }
def OfflineNoneWrongFalsely : Prop := offlineNoneRow.holds Tryz.pinned (OpenSpec.ofChange offlineNoneWrong)

/-- 'headlandlaw23.OfflinePinned': WHATEVER THE INPUT: true; the input reads as it did. -/
def offlinePinnedSpec : ChangeSpec := { name := "offlinePinned", fn := fun _ => fun
  | [d1, d2] => { results := [.lit (.bool true)], args := [d1, d2] }
  | _ => none }
def offlinePinnedRow : OpenClaim := { program := "ytnhdmnijiphjjaagreat", sum := "63877bda7fabfa1d3b4db602f73a7528551d69d9838c1d335b5ce3ce4b6c7fe1", func := "headland/headlandlaw23.OfflinePinned", spec := "offlinePinned", unfollowed := true, recurses := true, plainKeys := false, apart := false }
def OfflinePinnedSaid : Prop := offlinePinnedRow.holds Tryz.pinned (OpenSpec.ofChange offlinePinnedSpec)

/-- ITS FALSE NEIGHBOUR: 'it returns false'. Refute it at one input. -/
def offlinePinnedWrong : ChangeSpec := { name := "offlinePinned", fn := fun _ => fun
  | [d1, d2] => { results := [.lit (.bool false)], args := [d1, d2] }
  | _ => none }
def OfflinePinnedWrongFalsely : Prop := offlinePinnedRow.holds Tryz.pinned (OpenSpec.ofChange offlinePinnedWrong)

/-- 'headlandlaw20.EvictClean': WHATEVER THE INPUT: true; the input reads as it did. -/
def evictCleanSpec : ChangeSpec := { name := "evictClean", fn := fun _ => fun
  | [d1, d2] => { results := [.lit (.bool true)], args := [d1, d2] }
  | _ => none }
def evictCleanRow : OpenClaim := { program := "ytnhdmnijiphjjaagreat", sum := "63877bda7fabfa1d3b4db602f73a7528551d69d9838c1d335b5ce3ce4b6c7fe1", func := "headland/headlandlaw20.EvictClean", spec := "evictClean", unfollowed := true, recurses := true, plainKeys := false, apart := false }
def EvictCleanSaid : Prop := evictCleanRow.holds Tryz.pinned (OpenSpec.ofChange evictCleanSpec)

/-- ITS FALSE NEIGHBOUR: 'it returns false'. Refute it at one input. -/
def evictCleanWrong : ChangeSpec := { name := "evictClean", fn := fun _ => fun
  | [d1, d2] => { results := [.lit (.bool false)], args := [d1, d2] }
  | _ => none }
def EvictCleanWrongFalsely : Prop := evictCleanRow.holds Tryz.pinned (OpenSpec.ofChange evictCleanWrong)

/-- 'headlandlaw19.SpaceFork': WHATEVER THE INPUT: true; the input reads as it did. -/
def spaceForkSpec : ChangeSpec := { name := "spaceFork", fn := fun _ => fun
  | [d1, d2, d3, d4] => { results := [.lit (.bool true)], args := [d1, d2, d3, d4] }
  | _ => none }
def spaceForkRow : OpenClaim := { program := "ytnhdmnijiphjjaagreat", sum := "63877bda7fabfa1d3b4db602f73a7528551d69d9838c1d335b5ce3ce4b6c7fe1", func := "headland/headlandlaw19.SpaceFork", spec := "spaceFork", unfollowed := true, recurses := true, plainKeys := false, apart := false }
def SpaceForkSaid : Prop := spaceForkRow.holds Tryz.pinned (OpenSpec.ofChange spaceForkSpec)

/-- ITS FALSE NEIGHBOUR: 'it returns false'. Refute it at one input. -/
def spaceForkWrong : ChangeSpec := { name := "spaceFork", fn := fun _ => fun
  | [d1, d2, d3, d4] => { results := [.lit (.bool false)], args := [d1, d2, d3, d4] }
  | _ => none }
def SpaceForkWrongFalsely : Prop := spaceForkRow.holds Tryz.pinned (OpenSpec.ofChange spaceForkWrong)

/-- 'headlandlaw20.EvictForked': WHATEVER THE INPUT: true; the input reads as it did. -/
def evictForkedSpec : ChangeSpec := { name := "evictForked", fn := fun _ => fun
  | [d1, d2, d3] => { results := [.lit (.bool true)], args := [d1, d2, d3] }
  | _ => none }
def evictForkedRow : OpenClaim := { program := "ytnhdmnijiphjjaagreat", sum := "63877bda7fabfa1d3b4db602f73a7528551d69d9838c1d335b5ce3ce4b6c7fe1", func := "headland/headlandlaw20.EvictForked", spec := "evictForked", unfollowed := true, recurses := true, plainKeys := false, apart := false }
def EvictForkedSaid : Prop := evictForkedRow.holds Tryz.pinned (OpenSpec.ofChange evictForkedSpec)

/-- ITS FALSE NEIGHBOUR: 'it returns false'. Refute it at one input. -/
def evictForkedWrong : ChangeSpec := { name := "evictForked", fn := fun _ => fun
  | [d1, d2, d3] => { results := [.lit (.bool false)], args := [d1, d2, d3] }
  | _ => none }
def EvictForkedWrongFalsely : Prop := evictForkedRow.holds Tryz.pinned (OpenSpec.ofChange evictForkedWrong)

/- THE SECOND FORM. 'bulk': how many values and letters a reading holds, each counted each time it is reached (what is shared counts as often as it is met; a slice's spare places count too). A statement '..UptoSaid' is the law's where the arguments, and the package variables that the reading takes, are together of bulk at most 1048576: NARROWER than '..Said'. Prove '..Said' where nothing that the law and all that it calls make is longer than what came in: it says more and counts as full. Else prove '..UptoSaid'. A law counts once. -/
mutual
def uptoBulk {H : Type} : DataW H → Nat
  | .lit (.string bytes) => bytes.length + 1
  | .lit _ => 1
  | .nil => 1
  | .ptr d => uptoBulk d + 1
  | .slice elems spare => uptoBulkAll elems + uptoBulkAll spare + 1
  | .agg parts => uptoBulkAll parts + 1
  | .iface _ d => uptoBulk d + 1
  | .map entries => uptoBulkEntries entries + 1
  | .held _ => 1
def uptoBulkAll {H : Type} : List (DataW H) → Nat
  | [] => 0
  | d :: r => uptoBulk d + uptoBulkAll r
def uptoBulkEntries {H : Type} : List (Lit × DataW H) → Nat
  | [] => 0
  | x :: r => uptoBulkEntry x + uptoBulkEntries r
def uptoBulkEntry {H : Type} : Lit × DataW H → Nat
  | (.string bytes, d) => bytes.length + uptoBulk d + 1
  | (_, d) => uptoBulk d + 1
 end
def uptoSmall : (H : Type) → List (DataW H) → Bool := fun _ ds => decide (uptoBulkAll ds ≤ 1048576)
def OpenSpec.upto (s : _root_.Go.ChangeSpec) : _root_.Go.OpenSpec := { _root_.Go.OpenSpec.ofChange s with cond := some uptoSmall }

/-- 'headlandlaw19.SpaceShares', WHERE WHAT IT READS IS OF BULK AT MOST 1048576: true; the input reads as it did. -/
def spaceSharesUptoRow : OpenClaim := { program := "ytnhdmnijiphjjaagreat", sum := "63877bda7fabfa1d3b4db602f73a7528551d69d9838c1d335b5ce3ce4b6c7fe1", func := "headland/headlandlaw19.SpaceShares", spec := "spaceShares", unfollowed := true, recurses := true, plainKeys := false, apart := false, narrowed := true }
def SpaceSharesUptoSaid : Prop := spaceSharesUptoRow.holds Tryz.pinned (OpenSpec.upto spaceSharesSpec)

/-- 'headlandlaw19.SpaceSignals', WHERE WHAT IT READS IS OF BULK AT MOST 1048576: true; the input reads as it did. -/
def spaceSignalsUptoRow : OpenClaim := { program := "ytnhdmnijiphjjaagreat", sum := "63877bda7fabfa1d3b4db602f73a7528551d69d9838c1d335b5ce3ce4b6c7fe1", func := "headland/headlandlaw19.SpaceSignals", spec := "spaceSignals", unfollowed := true, recurses := true, plainKeys := false, apart := false, narrowed := true }
def SpaceSignalsUptoSaid : Prop := spaceSignalsUptoRow.holds Tryz.pinned (OpenSpec.upto spaceSignalsSpec)

/-- 'headlandlaw20.EvictFull', WHERE WHAT IT READS IS OF BULK AT MOST 1048576: true; the input reads as it did. -/
def evictFullUptoRow : OpenClaim := { program := "ytnhdmnijiphjjaagreat", sum := "63877bda7fabfa1d3b4db602f73a7528551d69d9838c1d335b5ce3ce4b6c7fe1", func := "headland/headlandlaw20.EvictFull", spec := "evictFull", unfollowed := true, recurses := true, plainKeys := false, apart := false, narrowed := true }
def EvictFullUptoSaid : Prop := evictFullUptoRow.holds Tryz.pinned (OpenSpec.upto evictFullSpec)

/-- 'headlandlaw21.MoveNone', WHERE WHAT IT READS IS OF BULK AT MOST 1048576: true; the input reads as it did. -/
def moveNoneUptoRow : OpenClaim := { program := "ytnhdmnijiphjjaagreat", sum := "63877bda7fabfa1d3b4db602f73a7528551d69d9838c1d335b5ce3ce4b6c7fe1", func := "headland/headlandlaw21.MoveNone", spec := "moveNone", unfollowed := true, recurses := true, plainKeys := false, apart := false, narrowed := true }
def MoveNoneUptoSaid : Prop := moveNoneUptoRow.holds Tryz.pinned (OpenSpec.upto moveNoneSpec)

/-- 'headlandlaw19.SpaceZero', WHERE WHAT IT READS IS OF BULK AT MOST 1048576: true; the input reads as it did. -/
def spaceZeroUptoRow : OpenClaim := { program := "ytnhdmnijiphjjaagreat", sum := "63877bda7fabfa1d3b4db602f73a7528551d69d9838c1d335b5ce3ce4b6c7fe1", func := "headland/headlandlaw19.SpaceZero", spec := "spaceZero", unfollowed := true, recurses := true, plainKeys := false, apart := false, narrowed := true }
def SpaceZeroUptoSaid : Prop := spaceZeroUptoRow.holds Tryz.pinned (OpenSpec.upto spaceZeroSpec)

/-- 'headlandlaw19.SpaceDenied', WHERE WHAT IT READS IS OF BULK AT MOST 1048576: true; the input reads as it did. -/
def spaceDeniedUptoRow : OpenClaim := { program := "ytnhdmnijiphjjaagreat", sum := "63877bda7fabfa1d3b4db602f73a7528551d69d9838c1d335b5ce3ce4b6c7fe1", func := "headland/headlandlaw19.SpaceDenied", spec := "spaceDenied", unfollowed := true, recurses := true, plainKeys := false, apart := false, narrowed := true }
def SpaceDeniedUptoSaid : Prop := spaceDeniedUptoRow.holds Tryz.pinned (OpenSpec.upto spaceDeniedSpec)

/-- 'headlandlaw20.EvictFrees', WHERE WHAT IT READS IS OF BULK AT MOST 1048576: true; the input reads as it did. -/
def evictFreesUptoRow : OpenClaim := { program := "ytnhdmnijiphjjaagreat", sum := "63877bda7fabfa1d3b4db602f73a7528551d69d9838c1d335b5ce3ce4b6c7fe1", func := "headland/headlandlaw20.EvictFrees", spec := "evictFrees", unfollowed := true, recurses := true, plainKeys := false, apart := false, narrowed := true }
def EvictFreesUptoSaid : Prop := evictFreesUptoRow.holds Tryz.pinned (OpenSpec.upto evictFreesSpec)

/-- 'headlandlaw23.OfflineNone', WHERE WHAT IT READS IS OF BULK AT MOST 1048576: true; the input reads as it did. -/
def offlineNoneUptoRow : OpenClaim := { program := "ytnhdmnijiphjjaagreat", sum := "63877bda7fabfa1d3b4db602f73a7528551d69d9838c1d335b5ce3ce4b6c7fe1", func := "headland/headlandlaw23.OfflineNone", spec := "offlineNone", unfollowed := true, recurses := true, plainKeys := false, apart := false, narrowed := true }
def OfflineNoneUptoSaid : Prop := offlineNoneUptoRow.holds Tryz.pinned (OpenSpec.upto offlineNoneSpec)

/-- 'headlandlaw23.OfflinePinned', WHERE WHAT IT READS IS OF BULK AT MOST 1048576: true; the input reads as it did. -/
def offlinePinnedUptoRow : OpenClaim := { program := "ytnhdmnijiphjjaagreat", sum := "63877bda7fabfa1d3b4db602f73a7528551d69d9838c1d335b5ce3ce4b6c7fe1", func := "headland/headlandlaw23.OfflinePinned", spec := "offlinePinned", unfollowed := true, recurses := true, plainKeys := false, apart := false, narrowed := true }
def OfflinePinnedUptoSaid : Prop := offlinePinnedUptoRow.holds Tryz.pinned (OpenSpec.upto offlinePinnedSpec)

/-- 'headlandlaw20.EvictClean', WHERE WHAT IT READS IS OF BULK AT MOST 1048576: true; the input reads as it did. -/
def evictCleanUptoRow : OpenClaim := { program := "ytnhdmnijiphjjaagreat", sum := "63877bda7fabfa1d3b4db602f73a7528551d69d9838c1d335b5ce3ce4b6c7fe1", func := "headland/headlandlaw20.EvictClean", spec := "evictClean", unfollowed := true, recurses := true, plainKeys := false, apart := false, narrowed := true }
def EvictCleanUptoSaid : Prop := evictCleanUptoRow.holds Tryz.pinned (OpenSpec.upto evictCleanSpec)

/-- 'headlandlaw19.SpaceFork', WHERE WHAT IT READS IS OF BULK AT MOST 1048576: true; the input reads as it did. -/
def spaceForkUptoRow : OpenClaim := { program := "ytnhdmnijiphjjaagreat", sum := "63877bda7fabfa1d3b4db602f73a7528551d69d9838c1d335b5ce3ce4b6c7fe1", func := "headland/headlandlaw19.SpaceFork", spec := "spaceFork", unfollowed := true, recurses := true, plainKeys := false, apart := false, narrowed := true }
def SpaceForkUptoSaid : Prop := spaceForkUptoRow.holds Tryz.pinned (OpenSpec.upto spaceForkSpec)

/-- 'headlandlaw20.EvictForked', WHERE WHAT IT READS IS OF BULK AT MOST 1048576: true; the input reads as it did. -/
def evictForkedUptoRow : OpenClaim := { program := "ytnhdmnijiphjjaagreat", sum := "63877bda7fabfa1d3b4db602f73a7528551d69d9838c1d335b5ce3ce4b6c7fe1", func := "headland/headlandlaw20.EvictForked", spec := "evictForked", unfollowed := true, recurses := true, plainKeys := false, apart := false, narrowed := true }
def EvictForkedUptoSaid : Prop := evictForkedUptoRow.holds Tryz.pinned (OpenSpec.upto evictForkedSpec)

end Rows
end Go.Proofs.YtnhdmnijiphjjaaGreat
