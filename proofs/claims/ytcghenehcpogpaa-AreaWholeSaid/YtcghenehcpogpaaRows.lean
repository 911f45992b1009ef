/-
  No cell of these rows narrows 'for every input' (looked for: loops, veiled, ifaces, maps, wideKeys, modest, calm, conditions, laid).
  DERIVED. THE GIVEN ROWS OF THIS SEAT. 5 by the template 'for every input the law returns true; each argument reads behind the call as it read before'; 0 by the template 'total and deterministic' (their statements: YtcghenehcpogpaaTotals.lean).
  GIVEN WITH THE SEED: the statements are not yours to turn. If you find one false, say at which input.
  Laid BY PROGRAM, IN A SANDBOX (cutbox-rows.mjs): the forced cells as the released guide's own fill.sh prints them over the translation 7e66329b17b830ef… (all of the seat's roots in one cut). By AI agents, Wed Nov 11 2026. No macro, syntax, notation, axiom, sorry.
-/
import Derived.Test.YtcghenehcpogpaaChecked
import GoSem.Claim
import GoSem.ClaimJoined
import GoSem.ClaimMapViews
import Derived.JoinedTies
import Derived.KernelRfl
namespace Go.Proofs.Ytcghenehcpogpaa
/- THE CELL 'sum', in the pinned program and in every row, IS THE sha256 OF THE DUMP (.gsa) THAT YtcghenehcpogpaaProg.lean LOADS. Nothing in Lean hashes anything: it is a label: what it is worth is what the hold of that sum in a sandbox is worth. -/
noncomputable def Try.pinned : Pinned := { name := "ytcghenehcpogpaa", sum := "7e66329b17b830ef17b5cf0f0c540e4e5df96b080cb6e7d01d9bf9c44694307a", checked := Try.checked }
namespace Rows
def none {H : Type} : Left H := { results := [], args := [] }

/-- 'headlandlaw17.AreaSound': WHATEVER THE INPUT: true; the input reads as it did. -/
def areaSoundSpec : ChangeSpec := { name := "areaSound", fn := fun _ => fun
  | [d] => { results := [.lit (.bool true)], args := [d] }
  | _ => none }
def areaSoundRow : OpenClaim := { program := "ytcghenehcpogpaa", sum := "7e66329b17b830ef17b5cf0f0c540e4e5df96b080cb6e7d01d9bf9c44694307a", func := "headland/headlandlaw17.AreaSound", spec := "areaSound", unfollowed := true, recurses := true, apart := false }
def AreaSoundSaid : Prop := areaSoundRow.holds Try.pinned (OpenSpec.ofChange areaSoundSpec)

/-- ITS FALSE NEIGHBOUR: 'it returns false'. Refute it at one input. -/
def areaSoundWrong : ChangeSpec := { name := "areaSound", fn := fun _ => fun
  | [d] => { results := [.lit (.bool false)], args := [d] }
  | _ => none }
def AreaSoundWrongFalsely : Prop := areaSoundRow.holds Try.pinned (OpenSpec.ofChange areaSoundWrong)

/-- 'headlandlaw17.AreaAdds': WHATEVER THE INPUT: true; the input reads as it did. -/
def areaAddsSpec : ChangeSpec := { name := "areaAdds", fn := fun _ => fun
  | [d1, d2] => { results := [.lit (.bool true)], args := [d1, d2] }
  | _ => none }
def areaAddsRow : OpenClaim := { program := "ytcghenehcpogpaa", sum := "7e66329b17b830ef17b5cf0f0c540e4e5df96b080cb6e7d01d9bf9c44694307a", func := "headland/headlandlaw17.AreaAdds", spec := "areaAdds", unfollowed := true, recurses := true, apart := false }
def AreaAddsSaid : Prop := areaAddsRow.holds Try.pinned (OpenSpec.ofChange areaAddsSpec)

/-- ITS FALSE NEIGHBOUR: 'it returns false'. Refute it at one input. -/
def areaAddsWrong : ChangeSpec := { name := "areaAdds", fn := fun _ => fun
  | [d1, d2] => { results := [.lit (.bool false)], args := [d1, d2] }
  | _ => none }
def AreaAddsWrongFalsely : Prop := areaAddsRow.holds Try.pinned (OpenSpec.ofChange areaAddsWrong)

/-- 'headlandlaw17.AreaPages': WHATEVER THE INPUT: true; the input reads as it did. -/
def areaPagesSpec : ChangeSpec := { name := "areaPages", fn := fun _ => fun
  | [d1, d2, d3, d4] => { results := [.lit (.bool true)], args := [d1, d2, d3, d4] }
  | _ => none }
def areaPagesRow : OpenClaim := { program := "ytcghenehcpogpaa", sum := "7e66329b17b830ef17b5cf0f0c540e4e5df96b080cb6e7d01d9bf9c44694307a", func := "headland/headlandlaw17.AreaPages", spec := "areaPages", unfollowed := true, recurses := true, apart := false }
def AreaPagesSaid : Prop := areaPagesRow.holds Try.pinned (OpenSpec.ofChange areaPagesSpec)

/-- ITS FALSE NEIGHBOUR: 'it returns false'. Refute it at one input. -/
def areaPagesWrong : ChangeSpec := { name := "areaPages", fn := fun _ => fun
  | [d1, d2, d3, d4] => { results := [.lit (.bool false)], args := [d1, d2, d3, d4] }
  | _ => none }
def AreaPagesWrongFalsely : Prop := areaPagesRow.holds Try.pinned (OpenSpec.ofChange areaPagesWrong)

/-- 'headlandlaw17.AreaCuts': WHATEVER THE INPUT: true; the input reads as it did. -/
def areaCutsSpec : ChangeSpec := { name := "areaCuts", fn := fun _ => fun
  | [d1, d2, d3, d4] => { results := [.lit (.bool true)], args := [d1, d2, d3, d4] }
  | _ => none }
def areaCutsRow : OpenClaim := { program := "ytcghenehcpogpaa", sum := "7e66329b17b830ef17b5cf0f0c540e4e5df96b080cb6e7d01d9bf9c44694307a", func := "headland/headlandlaw17.AreaCuts", spec := "areaCuts", unfollowed := true, recurses := true, apart := false }
def AreaCutsSaid : Prop := areaCutsRow.holds Try.pinned (OpenSpec.ofChange areaCutsSpec)

/-- ITS FALSE NEIGHBOUR: 'it returns false'. Refute it at one input. -/
def areaCutsWrong : ChangeSpec := { name := "areaCuts", fn := fun _ => fun
  | [d1, d2, d3, d4] => { results := [.lit (.bool false)], args := [d1, d2, d3, d4] }
  | _ => none }
def AreaCutsWrongFalsely : Prop := areaCutsRow.holds Try.pinned (OpenSpec.ofChange areaCutsWrong)

/-- 'headlandlaw17.AreaWhole': WHATEVER THE INPUT: true; the input reads as it did. -/
def areaWholeSpec : ChangeSpec := { name := "areaWhole", fn := fun _ => fun
  | [d1, d2, d3, d4] => { results := [.lit (.bool true)], args := [d1, d2, d3, d4] }
  | _ => none }
def areaWholeRow : OpenClaim := { program := "ytcghenehcpogpaa", sum := "7e66329b17b830ef17b5cf0f0c540e4e5df96b080cb6e7d01d9bf9c44694307a", func := "headland/headlandlaw17.AreaWhole", spec := "areaWhole", unfollowed := true, recurses := true, apart := false }
def AreaWholeSaid : Prop := areaWholeRow.holds Try.pinned (OpenSpec.ofChange areaWholeSpec)

/-- ITS FALSE NEIGHBOUR: 'it returns false'. Refute it at one input. -/
def areaWholeWrong : ChangeSpec := { name := "areaWhole", fn := fun _ => fun
  | [d1, d2, d3, d4] => { results := [.lit (.bool false)], args := [d1, d2, d3, d4] }
  | _ => none }
def AreaWholeWrongFalsely : Prop := areaWholeRow.holds Try.pinned (OpenSpec.ofChange areaWholeWrong)

/- THE SECOND FORM. 'bulk': how many values and letters a reading holds, each counted each time it is reached (what is shared counts as often as it is met; a slice's spare places count too). A statement '..UptoSaid' is the law's where the arguments, and the package variables that the reading takes, are together of bulk at most 1048576: NARROWER than '..Said'. Prove '..Said' where nothing that the law and all that it calls make is longer than what came in: it says more and counts as full. Else prove '..UptoSaid'. A law counts once. -/
mutual
def uptoBulk {H : Type} : DataW H → Nat
  | .lit (.string bytes) => bytes.length + 1
  | .lit _ => 1
  | .nil => 1
  | .ptr d => uptoBulk d + 1
  | .slice elems spare => uptoBulkAll elems + uptoBulkAll spare + 1
  | .agg parts => uptoBulkAll parts + 1
  | .iface _ d => uptoBulk d + 1
  | .map entries => uptoBulkEntries entries + 1
  | .held _ => 1
def uptoBulkAll {H : Type} : List (DataW H) → Nat
  | [] => 0
  | d :: r => uptoBulk d + uptoBulkAll r
def uptoBulkEntries {H : Type} : List (Lit × DataW H) → Nat
  | [] => 0
  | x :: r => uptoBulkEntry x + uptoBulkEntries r
def uptoBulkEntry {H : Type} : Lit × DataW H → Nat
  | (.string bytes, d) => bytes.length + uptoBulk d + 1
  | (_, d) => uptoBulk d + 1
 end
def uptoSmall : (H : Type) → List (DataW H) → Bool := fun _ ds => decide (uptoBulkAll ds ≤ 1048576)
def OpenSpec.upto (s : _root_.Go.ChangeSpec) : _root_.Go.OpenSpec := { _root_.Go.OpenSpec.ofChange s with cond := some uptoSmall }

/-- 'headlandlaw17.AreaSound', WHERE WHAT IT READS IS OF BULK AT MOST 1048576: true; the input reads as it did. -/
def areaSoundUptoRow : OpenClaim := { program := "ytcghenehcpogpaa", sum := "7e66329b17b830ef17b5cf0f0c540e4e5df96b080cb6e7d01d9bf9c44694307a", func := "headland/headlandlaw17.AreaSound", spec := "areaSound", unfollowed := true, recurses := true, apart := false, narrowed := true }
def AreaSoundUptoSaid : Prop := areaSoundUptoRow.holds Try.pinned (OpenSpec.upto areaSoundSpec)

/-- 'headlandlaw17.AreaAdds', WHERE WHAT IT READS IS OF BULK AT MOST 1048576: true; the input reads as it did. -/
def areaAddsUptoRow : OpenClaim := { program := "ytcghenehcpogpaa", sum := "7e66329b17b830ef17b5cf0f0c540e4e5df96b080cb6e7d01d9bf9c44694307a", func := "headland/headlandlaw17.AreaAdds", spec := "areaAdds", unfollowed := true, recurses := true, apart := false, narrowed := true }
def AreaAddsUptoSaid : Prop := areaAddsUptoRow.holds Try.pinned (OpenSpec.upto areaAddsSpec)

/-- 'headlandlaw17.AreaPages', WHERE WHAT IT READS IS OF BULK AT MOST 1048576: true; the input reads as it did. -/
def areaPagesUptoRow : OpenClaim := { program := "ytcghenehcpogpaa", sum := "7e66329b17b830ef17b5cf0f0c540e4e5df96b080cb6e7d01d9bf9c44694307a", func := "headland/headlandlaw17.AreaPages", spec := "areaPages", unfollowed := true, recurses := true, apart := false, narrowed := true }
def AreaPagesUptoSaid : Prop := areaPagesUptoRow.holds Try.pinned (OpenSpec.upto areaPagesSpec)

/-- 'headlandlaw17.AreaCuts', WHERE WHAT IT READS IS OF BULK AT MOST 1048576: true; the input reads as it did. -/
def areaCutsUptoRow : OpenClaim := { program := "ytcghenehcpogpaa", sum := "7e66329b17b830ef17b5cf0f0c540e4e5df96b080cb6e7d01d9bf9c44694307a", func := "headland/headlandlaw17.AreaCuts", spec := "areaCuts", unfollowed := true, recurses := true, apart := false, narrowed := true }
def AreaCutsUptoSaid : Prop := areaCutsUptoRow.holds Try.pinned (OpenSpec.upto areaCutsSpec)

/-- 'headlandlaw17.AreaWhole', WHERE WHAT IT READS IS OF BULK AT MOST 1048576: true; the input reads as it did. -/
def areaWholeUptoRow : OpenClaim := { program := "ytcghenehcpogpaa", sum := "7e66329b17b830ef17b5cf0f0c540e4e5df96b080cb6e7d01d9bf9c44694307a", func := "headland/headlandlaw17.AreaWhole", spec := "areaWhole", unfollowed := true, recurses := true, apart := false, narrowed := true }
def AreaWholeUptoSaid : Prop := areaWholeUptoRow.holds Try.pinned (OpenSpec.upto areaWholeSpec)

end Rows
end Go.Proofs.Ytcghenehcpogpaa
