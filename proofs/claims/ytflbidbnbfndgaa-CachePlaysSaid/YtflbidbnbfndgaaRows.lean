/-
  No cell of these rows narrows 'for every input' (looked for: loops, veiled, ifaces, maps, wideKeys, modest, calm, conditions, laid).
  DERIVED. THE GIVEN ROWS OF THIS SEAT. 13 by the template 'for every input the law returns true; each argument reads behind the call as it read before'; 0 by the template 'total and deterministic' (their statements: YtflbidbnbfndgaaTotals.lean).
  GIVEN WITH THE SEED: the statements are not yours to turn. If you find one false, say at which input.
  Laid BY PROGRAM, IN A SANDBOX (cutbox-rows.mjs): the forced cells as the released guide's own fill.sh prints them over the translation 5fc4b01156ebd10d… (all of the seat's roots in one cut). By AI agents, Wed Nov 11 2026. No macro, syntax, notation, axiom, sorry.
-/
import Derived.Test.YtflbidbnbfndgaaChecked
import GoSem.Claim
import GoSem.ClaimJoined
import GoSem.ClaimMapViews
import Derived.JoinedTies
import Derived.KernelRfl
namespace Go.Proofs.Ytflbidbnbfndgaa
/- THE CELL 'sum', in the pinned program and in every row, IS THE sha256 OF THE DUMP (.gsa) THAT YtflbidbnbfndgaaProg.lean LOADS. Nothing in Lean hashes anything: it is a label: what it is worth is what the hold of that sum in a sandbox is worth. -/
noncomputable def Try.pinned : Pinned := { name := "ytflbidbnbfndgaa", sum := "5fc4b01156ebd10dd632d3235e2dfef83a5c65fd53b5b006bbb783a8c866d974", checked := Try.checked }
namespace Rows
def none {H : Type} : Left H := { results := [], args := [] }

/-- 'headlandlaw15.CacheAgain': WHATEVER THE INPUT: true; the input reads as it did. -/
def cacheAgainSpec : ChangeSpec := { name := "cacheAgain", fn := fun _ => fun
  | [d1, d2, d3, d4] => { results := [.lit (.bool true)], args := [d1, d2, d3, d4] }
  | _ => none }
def cacheAgainRow : OpenClaim := { program := "ytflbidbnbfndgaa", sum := "5fc4b01156ebd10dd632d3235e2dfef83a5c65fd53b5b006bbb783a8c866d974", func := "headland/headlandlaw15.CacheAgain", spec := "cacheAgain", plainKeys := false, apart := false }
def CacheAgainSaid : Prop := cacheAgainRow.holds Try.pinned (OpenSpec.ofChange cacheAgainSpec)

/-- ITS FALSE NEIGHBOUR: 'it returns false'. Refute it at one input. -/
def cacheAgainWrong : ChangeSpec := { name := "cacheAgain", fn := fun _ => fun
  | [d1, d2, d3, d4] => { results := [.lit (.bool false)], args := [d1, d2, d3, d4] }
  | _ => none }
def CacheAgainWrongFalsely : Prop := cacheAgainRow.holds Try.pinned (OpenSpec.ofChange cacheAgainWrong)

/-- 'headlandlaw13.BackMoves': WHATEVER THE INPUT: true; the input reads as it did. -/
def backMovesSpec : ChangeSpec := { name := "backMoves", fn := fun _ => fun
  | [d1, d2] => { results := [.lit (.bool true)], args := [d1, d2] }
  | _ => none }
def backMovesRow : OpenClaim := { program := "ytflbidbnbfndgaa", sum := "5fc4b01156ebd10dd632d3235e2dfef83a5c65fd53b5b006bbb783a8c866d974", func := "headland/headlandlaw13.BackMoves", spec := "backMoves", unfollowed := true, recurses := true, plainKeys := false, apart := false }
def BackMovesSaid : Prop := backMovesRow.holds Try.pinned (OpenSpec.ofChange backMovesSpec)

/-- ITS FALSE NEIGHBOUR: 'it returns false'. Refute it at one input. -/
def backMovesWrong : ChangeSpec := { name := "backMoves", fn := fun _ => fun
  | [d1, d2] => { results := [.lit (.bool false)], args := [d1, d2] }
  | _ => none }
def BackMovesWrongFalsely : Prop := backMovesRow.holds Try.pinned (OpenSpec.ofChange backMovesWrong)

/-- 'headlandlaw16.SwapFull': WHATEVER THE INPUT: true; the input reads as it did. -/
def swapFullSpec : ChangeSpec := { name := "swapFull", fn := fun _ => fun
  | [d] => { results := [.lit (.bool true)], args := [d] }
  | _ => none }
def swapFullRow : OpenClaim := { program := "ytflbidbnbfndgaa", sum := "5fc4b01156ebd10dd632d3235e2dfef83a5c65fd53b5b006bbb783a8c866d974", func := "headland/headlandlaw16.SwapFull", spec := "swapFull", unfollowed := true, recurses := true, plainKeys := false, apart := false }
def SwapFullSaid : Prop := swapFullRow.holds Try.pinned (OpenSpec.ofChange swapFullSpec)

/-- ITS FALSE NEIGHBOUR: 'it returns false'. Refute it at one input. -/
def swapFullWrong : ChangeSpec := { name := "swapFull", fn := fun _ => fun
  | [d] => { results := [.lit (.bool false)], args := [d] }
  | _ => none }
def SwapFullWrongFalsely : Prop := swapFullRow.holds Try.pinned (OpenSpec.ofChange swapFullWrong)

/-- 'headlandlaw16.SwapShared': WHATEVER THE INPUT: true; the input reads as it did. -/
def swapSharedSpec : ChangeSpec := { name := "swapShared", fn := fun _ => fun
  | [d] => { results := [.lit (.bool true)], args := [d] }
  | _ => none }
def swapSharedRow : OpenClaim := { program := "ytflbidbnbfndgaa", sum := "5fc4b01156ebd10dd632d3235e2dfef83a5c65fd53b5b006bbb783a8c866d974", func := "headland/headlandlaw16.SwapShared", spec := "swapShared", unfollowed := true, recurses := true, plainKeys := false, apart := false }
def SwapSharedSaid : Prop := swapSharedRow.holds Try.pinned (OpenSpec.ofChange swapSharedSpec)

/-- ITS FALSE NEIGHBOUR: 'it returns false'. Refute it at one input. -/
def swapSharedWrong : ChangeSpec := { name := "swapShared", fn := fun _ => fun
  | [d] => { results := [.lit (.bool false)], args := [d] }
  | _ => none }
def SwapSharedWrongFalsely : Prop := swapSharedRow.holds Try.pinned (OpenSpec.ofChange swapSharedWrong)

/-- 'headlandlaw15.CacheSorted': WHATEVER THE INPUT: true; the input reads as it did. -/
def cacheSortedSpec : ChangeSpec := { name := "cacheSorted", fn := fun _ => fun
  | [d] => { results := [.lit (.bool true)], args := [d] }
  | _ => none }
def cacheSortedRow : OpenClaim := { program := "ytflbidbnbfndgaa", sum := "5fc4b01156ebd10dd632d3235e2dfef83a5c65fd53b5b006bbb783a8c866d974", func := "headland/headlandlaw15.CacheSorted", spec := "cacheSorted", unfollowed := true, recurses := true, plainKeys := false, apart := false }
def CacheSortedSaid : Prop := cacheSortedRow.holds Try.pinned (OpenSpec.ofChange cacheSortedSpec)

/-- ITS FALSE NEIGHBOUR: 'it returns false'. Refute it at one input. -/
def cacheSortedWrong : ChangeSpec := { name := "cacheSorted", fn := fun _ => fun
  | [d] => { results := [.lit (.bool false)], args := [d] }
  | _ => none }
def CacheSortedWrongFalsely : Prop := cacheSortedRow.holds Try.pinned (OpenSpec.ofChange cacheSortedWrong)

/-- 'headlandlaw15.CachePlays': WHATEVER THE INPUT: true; the input reads as it did. -/
def cachePlaysSpec : ChangeSpec := { name := "cachePlays", fn := fun _ => fun
  | [d1, d2] => { results := [.lit (.bool true)], args := [d1, d2] }
  | _ => none }
def cachePlaysRow : OpenClaim := { program := "ytflbidbnbfndgaa", sum := "5fc4b01156ebd10dd632d3235e2dfef83a5c65fd53b5b006bbb783a8c866d974", func := "headland/headlandlaw15.CachePlays", spec := "cachePlays", unfollowed := true, recurses := true, plainKeys := false, apart := false }
def CachePlaysSaid : Prop := cachePlaysRow.holds Try.pinned (OpenSpec.ofChange cachePlaysSpec)

/-- ITS FALSE NEIGHBOUR: 'it returns false'. Refute it at one input. -/
def cachePlaysWrong : ChangeSpec := { name := "cachePlays", fn := fun _ => fun
  | [d1, d2] => { results := [.lit (.bool false)], args := [d1, d2] }
  | _ => none }
def CachePlaysWrongFalsely : Prop := cachePlaysRow.holds Try.pinned (OpenSpec.ofChange cachePlaysWrong)

/-- 'headlandlaw15.CacheNone': WHATEVER THE INPUT: true; the input reads as it did. -/
def cacheNoneSpec : ChangeSpec := { name := "cacheNone", fn := fun _ => fun
  | [d1, d2] => { results := [.lit (.bool true)], args := [d1, d2] }
  | _ => none }
def cacheNoneRow : OpenClaim := { program := "ytflbidbnbfndgaa", sum := "5fc4b01156ebd10dd632d3235e2dfef83a5c65fd53b5b006bbb783a8c866d974", func := "headland/headlandlaw15.CacheNone", spec := "cacheNone", unfollowed := true, recurses := true, plainKeys := false, apart := false }
def CacheNoneSaid : Prop := cacheNoneRow.holds Try.pinned (OpenSpec.ofChange cacheNoneSpec)

/-- ITS FALSE NEIGHBOUR: 'it returns false'. Refute it at one input. -/
def cacheNoneWrong : ChangeSpec := { name := "cacheNone", fn := fun _ => fun
  | [d1, d2] => { results := [.lit (.bool false)], args := [d1, d2] }
  | _ => none }
def CacheNoneWrongFalsely : Prop := cacheNoneRow.holds Try.pinned (OpenSpec.ofChange cacheNoneWrong)

/-- 'headlandlaw16.SwapPlays': WHATEVER THE INPUT: true; the input reads as it did. -/
def swapPlaysSpec : ChangeSpec := { name := "swapPlays", fn := fun _ => fun
  | [d1, d2] => { results := [.lit (.bool true)], args := [d1, d2] }
  | _ => none }
def swapPlaysRow : OpenClaim := { program := "ytflbidbnbfndgaa", sum := "5fc4b01156ebd10dd632d3235e2dfef83a5c65fd53b5b006bbb783a8c866d974", func := "headland/headlandlaw16.SwapPlays", spec := "swapPlays", unfollowed := true, recurses := true, plainKeys := false, apart := false }
def SwapPlaysSaid : Prop := swapPlaysRow.holds Try.pinned (OpenSpec.ofChange swapPlaysSpec)

/-- ITS FALSE NEIGHBOUR: 'it returns false'. Refute it at one input. -/
def swapPlaysWrong : ChangeSpec := { name := "swapPlays", fn := fun _ => fun
  | [d1, d2] => { results := [.lit (.bool false)], args := [d1, d2] }
  | _ => none }
def SwapPlaysWrongFalsely : Prop := swapPlaysRow.holds Try.pinned (OpenSpec.ofChange swapPlaysWrong)

/-- 'headlandlaw16.SwapNone': WHATEVER THE INPUT: true; the input reads as it did. -/
def swapNoneSpec : ChangeSpec := { name := "swapNone", fn := fun _ => fun
  | [d1, d2] => { results := [.lit (.bool true)], args := [d1, d2] }
  | _ => none }
def swapNoneRow : OpenClaim := { program := "ytflbidbnbfndgaa", sum := "5fc4b01156ebd10dd632d3235e2dfef83a5c65fd53b5b006bbb783a8c866d974", func := "headland/headlandlaw16.SwapNone", spec := "swapNone", unfollowed := true, recurses := true, plainKeys := false, apart := false }
def SwapNoneSaid : Prop := swapNoneRow.holds Try.pinned (OpenSpec.ofChange swapNoneSpec)

/-- ITS FALSE NEIGHBOUR: 'it returns false'. Refute it at one input. -/
def swapNoneWrong : ChangeSpec := { name := "swapNone", fn := fun _ => fun
  | [d1, d2] => { results := [.lit (.bool false)], args := [d1, d2] }
  | _ => none }
def SwapNoneWrongFalsely : Prop := swapNoneRow.holds Try.pinned (OpenSpec.ofChange swapNoneWrong)

/-- 'headlandlaw16.SwapOnce': WHATEVER THE INPUT: true; the input reads as it did. -/
def swapOnceSpec : ChangeSpec := { name := "swapOnce", fn := fun _ => fun
  | [d1, d2, d3] => { results := [.lit (.bool true)], args := [d1, d2, d3] }
  | _ => none }
def swapOnceRow : OpenClaim := { program := "ytflbidbnbfndgaa", sum := "5fc4b01156ebd10dd632d3235e2dfef83a5c65fd53b5b006bbb783a8c866d974", func := "headland/headlandlaw16.SwapOnce", spec := "swapOnce", unfollowed := true, recurses := true, plainKeys := false, apart := false }
def SwapOnceSaid : Prop := swapOnceRow.holds Try.pinned (OpenSpec.ofChange swapOnceSpec)

/-- ITS FALSE NEIGHBOUR: 'it returns false'. Refute it at one input. -/
def swapOnceWrong : ChangeSpec := { name := "swapOnce", fn := fun _ => fun
  | [d1, d2, d3] => { results := [.lit (.bool false)], args := [d1, d2, d3] }
  | _ => none }
def SwapOnceWrongFalsely : Prop := swapOnceRow.holds Try.pinned (OpenSpec.ofChange swapOnceWrong)

/-- 'headlandlaw13.BackPlays': WHATEVER THE INPUT: true; the input reads as it did. -/
def backPlaysSpec : ChangeSpec := { name := "backPlays", fn := fun _ => fun
  | [d1, d2] => { results := [.lit (.bool true)], args := [d1, d2] }
  | _ => none }
def backPlaysRow : OpenClaim := { program := "ytflbidbnbfndgaa", sum := "5fc4b01156ebd10dd632d3235e2dfef83a5c65fd53b5b006bbb783a8c866d974", func := "headland/headlandlaw13.BackPlays", spec := "backPlays", unfollowed := true, recurses := true, plainKeys := false, apart := false }
def BackPlaysSaid : Prop := backPlaysRow.holds Try.pinned (OpenSpec.ofChange backPlaysSpec)

/-- ITS FALSE NEIGHBOUR: 'it returns false'. Refute it at one input. -/
def backPlaysWrong : ChangeSpec := { name := "backPlays", fn := fun _ => fun
  | [d1, d2] => { results := [.lit (.bool false)], args := [d1, d2] }
  | _ => none }
def BackPlaysWrongFalsely : Prop := backPlaysRow.holds Try.pinned (OpenSpec.ofChange backPlaysWrong)

/-- 'headlandlaw13.BackNone': WHATEVER THE INPUT: true; the input reads as it did. -/
def backNoneSpec : ChangeSpec := { name := "backNone", fn := fun _ => fun
  | [d1, d2] => { results := [.lit (.bool true)], args := [d1, d2] }
  | _ => none }
def backNoneRow : OpenClaim := { program := "ytflbidbnbfndgaa", sum := "5fc4b01156ebd10dd632d3235e2dfef83a5c65fd53b5b006bbb783a8c866d974", func := "headland/headlandlaw13.BackNone", spec := "backNone", unfollowed := true, recurses := true, plainKeys := false, apart := false }
def BackNoneSaid : Prop := backNoneRow.holds Try.pinned (OpenSpec.ofChange backNoneSpec)

/-- ITS FALSE NEIGHBOUR: 'it returns false'. Refute it at one input. -/
def backNoneWrong : ChangeSpec := { name := "backNone", fn := fun _ => fun
  | [d1, d2] => { results := [.lit (.bool false)], args := [d1, d2] }
  | _ => none }
def BackNoneWrongFalsely : Prop := backNoneRow.holds Try.pinned (OpenSpec.ofChange backNoneWrong)

/-- 'headlandlaw13.BackOnce': WHATEVER THE INPUT: true; the input reads as it did. -/
def backOnceSpec : ChangeSpec := { name := "backOnce", fn := fun _ => fun
  | [d1, d2, d3] => { results := [.lit (.bool true)], args := [d1, d2, d3] }
  | _ => none }
def backOnceRow : OpenClaim := { program := "ytflbidbnbfndgaa", sum := "5fc4b01156ebd10dd632d3235e2dfef83a5c65fd53b5b006bbb783a8c866d974", func := "headland/headlandlaw13.BackOnce", spec := "backOnce", unfollowed := true, recurses := true, plainKeys := false, apart := false }
def BackOnceSaid : Prop := backOnceRow.holds Try.pinned (OpenSpec.ofChange backOnceSpec)

/-- ITS FALSE NEIGHBOUR: 'it returns false'. Refute it at one input. -/
def backOnceWrong : ChangeSpec := { name := "backOnce", fn := fun _ => fun
  | [d1, d2, d3] => { results := [.lit (.bool false)], args := [d1, d2, d3] }
  | _ => none }
def BackOnceWrongFalsely : Prop := backOnceRow.holds Try.pinned (OpenSpec.ofChange backOnceWrong)

/- THE SECOND FORM. 'bulk': how many values and letters a reading holds, each counted each time it is reached (what is shared counts as often as it is met; a slice's spare places count too). A statement '..UptoSaid' is the law's where the arguments, and the package variables that the reading takes, are together of bulk at most 1048576: NARROWER than '..Said'. Prove '..Said' where nothing that the law and all that it calls make is longer than what came in: it says more and counts as full. Else prove '..UptoSaid'. A law counts once. -/
mutual
def uptoBulk {H : Type} : DataW H → Nat
  | .lit (.string bytes) => bytes.length + 1
  | .lit _ => 1
  | .nil => 1
  | .ptr d => uptoBulk d + 1
  | .slice elems spare => uptoBulkAll elems + uptoBulkAll spare + 1
  | .agg parts => uptoBulkAll parts + 1
  | .iface _ d => uptoBulk d + 1
  | .map entries => uptoBulkEntries entries + 1
  | .held _ => 1
def uptoBulkAll {H : Type} : List (DataW H) → Nat
  | [] => 0
  | d :: r => uptoBulk d + uptoBulkAll r
def uptoBulkEntries {H : Type} : List (Lit × DataW H) → Nat
  | [] => 0
  | x :: r => uptoBulkEntry x + uptoBulkEntries r
def uptoBulkEntry {H : Type} : Lit × DataW H → Nat
  | (.string bytes, d) => bytes.length + uptoBulk d + 1
  | (_, d) => uptoBulk d + 1
 end
def uptoSmall : (H : Type) → List (DataW H) → Bool := fun _ ds => decide (uptoBulkAll ds ≤ 1048576)
def OpenSpec.upto (s : _root_.Go.ChangeSpec) : _root_.Go.OpenSpec := { _root_.Go.OpenSpec.ofChange s with cond := some uptoSmall }

/-- 'headlandlaw15.CacheAgain', WHERE WHAT IT READS IS OF BULK AT MOST 1048576: true; the input reads as it did. -/
def cacheAgainUptoRow : OpenClaim := { program := "ytflbidbnbfndgaa", sum := "5fc4b01156ebd10dd632d3235e2dfef83a5c65fd53b5b006bbb783a8c866d974", func := "headland/headlandlaw15.CacheAgain", spec := "cacheAgain", plainKeys := false, apart := false, narrowed := true }
def CacheAgainUptoSaid : Prop := cacheAgainUptoRow.holds Try.pinned (OpenSpec.upto cacheAgainSpec)

/-- 'headlandlaw13.BackMoves', WHERE WHAT IT READS IS OF BULK AT MOST 1048576: true; the input reads as it did. -/
def backMovesUptoRow : OpenClaim := { program := "ytflbidbnbfndgaa", sum := "5fc4b01156ebd10dd632d3235e2dfef83a5c65fd53b5b006bbb783a8c866d974", func := "headland/headlandlaw13.BackMoves", spec := "backMoves", unfollowed := true, recurses := true, plainKeys := false, apart := false, narrowed := true }
def BackMovesUptoSaid : Prop := backMovesUptoRow.holds Try.pinned (OpenSpec.upto backMovesSpec)

/-- 'headlandlaw16.SwapFull', WHERE WHAT IT READS IS OF BULK AT MOST 1048576: true; the input reads as it did. -/
def swapFullUptoRow : OpenClaim := { program := "ytflbidbnbfndgaa", sum := "5fc4b01156ebd10dd632d3235e2dfef83a5c65fd53b5b006bbb783a8c866d974", func := "headland/headlandlaw16.SwapFull", spec := "swapFull", unfollowed := true, recurses := true, plainKeys := false, apart := false, narrowed := true }
def SwapFullUptoSaid : Prop := swapFullUptoRow.holds Try.pinned (OpenSpec.upto swapFullSpec)

/-- 'headlandlaw16.SwapShared', WHERE WHAT IT READS IS OF BULK AT MOST 1048576: true; the input reads as it did. -/
def swapSharedUptoRow : OpenClaim := { program := "ytflbidbnbfndgaa", sum := "5fc4b01156ebd10dd632d3235e2dfef83a5c65fd53b5b006bbb783a8c866d974", func := "headland/headlandlaw16.SwapShared", spec := "swapShared", unfollowed := true, recurses := true, plainKeys := false, apart := false, narrowed := true }
def SwapSharedUptoSaid : Prop := swapSharedUptoRow.holds Try.pinned (OpenSpec.upto swapSharedSpec)

/-- 'headlandlaw15.CacheSorted', WHERE WHAT IT READS IS OF BULK AT MOST 1048576: true; the input reads as it did. -/
def cacheSortedUptoRow : OpenClaim := { program := "ytflbidbnbfndgaa", sum := "5fc4b01156ebd10dd632d3235e2dfef83a5c65fd53b5b006bbb783a8c866d974", func := "headland/headlandlaw15.CacheSorted", spec := "cacheSorted", unfollowed := true, recurses := true, plainKeys := false, apart := false, narrowed := true }
def CacheSortedUptoSaid : Prop := cacheSortedUptoRow.holds Try.pinned (OpenSpec.upto cacheSortedSpec)

/-- 'headlandlaw15.CachePlays', WHERE WHAT IT READS IS OF BULK AT MOST 1048576: true; the input reads as it did. -/
def cachePlaysUptoRow : OpenClaim := { program := "ytflbidbnbfndgaa", sum := "5fc4b01156ebd10dd632d3235e2dfef83a5c65fd53b5b006bbb783a8c866d974", func := "headland/headlandlaw15.CachePlays", spec := "cachePlays", unfollowed := true, recurses := true, plainKeys := false, apart := false, narrowed := true }
def CachePlaysUptoSaid : Prop := cachePlaysUptoRow.holds Try.pinned (OpenSpec.upto cachePlaysSpec)

/-- 'headlandlaw15.CacheNone', WHERE WHAT IT READS IS OF BULK AT MOST 1048576: true; the input reads as it did. -/
def cacheNoneUptoRow : OpenClaim := { program := "ytflbidbnbfndgaa", sum := "5fc4b01156ebd10dd632d3235e2dfef83a5c65fd53b5b006bbb783a8c866d974", func := "headland/headlandlaw15.CacheNone", spec := "cacheNone", unfollowed := true, recurses := true, plainKeys := false, apart := false, narrowed := true }
def CacheNoneUptoSaid : Prop := cacheNoneUptoRow.holds Try.pinned (OpenSpec.upto cacheNoneSpec)

/-- 'headlandlaw16.SwapPlays', WHERE WHAT IT READS IS OF BULK AT MOST 1048576: true; the input reads as it did. -/
def swapPlaysUptoRow : OpenClaim := { program := "ytflbidbnbfndgaa", sum := "5fc4b01156ebd10dd632d3235e2dfef83a5c65fd53b5b006bbb783a8c866d974", func := "headland/headlandlaw16.SwapPlays", spec := "swapPlays", unfollowed := true, recurses := true, plainKeys := false, apart := false, narrowed := true }
def SwapPlaysUptoSaid : Prop := swapPlaysUptoRow.holds Try.pinned (OpenSpec.upto swapPlaysSpec)

/-- 'headlandlaw16.SwapNone', WHERE WHAT IT READS IS OF BULK AT MOST 1048576: true; the input reads as it did. -/
def swapNoneUptoRow : OpenClaim := { program := "ytflbidbnbfndgaa", sum := "5fc4b01156ebd10dd632d3235e2dfef83a5c65fd53b5b006bbb783a8c866d974", func := "headland/headlandlaw16.SwapNone", spec := "swapNone", unfollowed := true, recurses := true, plainKeys := false, apart := false, narrowed := true }
def SwapNoneUptoSaid : Prop := swapNoneUptoRow.holds Try.pinned (OpenSpec.upto swapNoneSpec)

/-- 'headlandlaw16.SwapOnce', WHERE WHAT IT READS IS OF BULK AT MOST 1048576: true; the input reads as it did. -/
def swapOnceUptoRow : OpenClaim := { program := "ytflbidbnbfndgaa", sum := "5fc4b01156ebd10dd632d3235e2dfef83a5c65fd53b5b006bbb783a8c866d974", func := "headland/headlandlaw16.SwapOnce", spec := "swapOnce", unfollowed := true, recurses := true, plainKeys := false, apart := false, narrowed := true }
def SwapOnceUptoSaid : Prop := swapOnceUptoRow.holds Try.pinned (OpenSpec.upto swapOnceSpec)

/-- 'headlandlaw13.BackPlays', WHERE WHAT IT READS IS OF BULK AT MOST 1048576: true; the input reads as it did. -/
def backPlaysUptoRow : OpenClaim := { program := "ytflbidbnbfndgaa", sum := "5fc4b01156ebd10dd632d3235e2dfef83a5c65fd53b5b006bbb783a8c866d974", func := "headland/headlandlaw13.BackPlays", spec := "backPlays", unfollowed := true, recurses := true, plainKeys := false, apart := false, narrowed := true }
def BackPlaysUptoSaid : Prop := backPlaysUptoRow.holds Try.pinned (OpenSpec.upto backPlaysSpec)

/-- 'headlandlaw13.BackNone', WHERE WHAT IT READS IS OF BULK AT MOST 1048576: true; the input reads as it did. -/
def backNoneUptoRow : OpenClaim := { program := "ytflbidbnbfndgaa", sum := "5fc4b01156ebd10dd632d3235e2dfef83a5c65fd53b5b006bbb783a8c866d974", func := "headland/headlandlaw13.BackNone", spec := "backNone", unfollowed := true, recurses := true, plainKeys := false, apart := false, narrowed := true }
def BackNoneUptoSaid : Prop := backNoneUptoRow.holds Try.pinned (OpenSpec.upto backNoneSpec)

/-- 'headlandlaw13.BackOnce', WHERE WHAT IT READS IS OF BULK AT MOST 1048576: true; the input reads as it did. -/
def backOnceUptoRow : OpenClaim := { program := "ytflbidbnbfndgaa", sum := "5fc4b01156ebd10dd632d3235e2dfef83a5c65fd53b5b006bbb783a8c866d974", func := "headland/headlandlaw13.BackOnce", spec := "backOnce", unfollowed := true, recurses := true, plainKeys := false, apart := false, narrowed := true }
def BackOnceUptoSaid : Prop := backOnceUptoRow.holds Try.pinned (OpenSpec.upto backOnceSpec)

end Rows
end Go.Proofs.Ytflbidbnbfndgaa
