/-
  No cell of these rows narrows 'for every input' (looked for: loops, veiled, ifaces, maps, wideKeys, modest, calm, conditions, laid).
  DERIVED. THE GIVEN ROWS OF THIS SEAT. 8 by the template 'for every input the law returns true; each argument reads behind the call as it read before'; 0 by the template 'total and deterministic' (their statements: YtfjknnejafdfpaaTotals.lean).
  GIVEN WITH THE SEED: the statements are not yours to turn. If you find one false, say at which input.
  Laid BY PROGRAM, IN A SANDBOX (cutbox-rows.mjs): the forced cells as the released guide's own fill.sh prints them over the translation 22a3e25a22a94aab… (all of the seat's roots in one cut). By AI agents, Wed Nov 11 2026. No macro, syntax, notation, axiom, sorry.
-/
import Derived.Test.YtfjknnejafdfpaaChecked
import GoSem.Claim
import GoSem.ClaimJoined
import GoSem.ClaimMapViews
import Derived.JoinedTies
import Derived.KernelRfl
namespace Go.Proofs.Ytfjknnejafdfpaa
/- THE CELL 'sum', in the pinned program and in every row, IS THE sha256 OF THE DUMP (.gsa) THAT YtfjknnejafdfpaaProg.lean LOADS. Nothing in Lean hashes anything: it is a label: what it is worth is what the hold of that sum in a sandbox is worth. -/
noncomputable def Try.pinned : Pinned := { name := "ytfjknnejafdfpaa", sum := "22a3e25a22a94aab27e9b2eeea9459e5175a442a33706d19ec640c671a6907aa", checked := Try.checked }
namespace Rows
def none {H : Type} : Left H := { results := [], args := [] }

/-- 'headlandlaw18.SignalPlays': WHATEVER THE INPUT: true; the input reads as it did. -/
def signalPlaysSpec : ChangeSpec := { name := "signalPlays", fn := fun _ => fun
  | [d1, d2] => { results := [.lit (.bool true)], args := [d1, d2] }
  | _ => none }
def signalPlaysRow : OpenClaim := { program := "ytfjknnejafdfpaa", sum := "22a3e25a22a94aab27e9b2eeea9459e5175a442a33706d19ec640c671a6907aa", func := "headland/headlandlaw18.SignalPlays", spec := "signalPlays", apart := false }
def SignalPlaysSaid : Prop := signalPlaysRow.holds Try.pinned (OpenSpec.ofChange signalPlaysSpec)

/-- ITS FALSE NEIGHBOUR: 'it returns false'. Refute it at one input. -/
def signalPlaysWrong : ChangeSpec := { name := "signalPlays", fn := fun _ => fun
  | [d1, d2] => { results := [.lit (.bool false)], args := [d1, d2] }
  | _ => none }
def SignalPlaysWrongFalsely : Prop := signalPlaysRow.holds Try.pinned (OpenSpec.ofChange signalPlaysWrong)

/-- 'headlandlaw18.SignalFull': WHATEVER THE INPUT: true; the input reads as it did. -/
def signalFullSpec : ChangeSpec := { name := "signalFull", fn := fun _ => fun
  | [d1, d2] => { results := [.lit (.bool true)], args := [d1, d2] }
  | _ => none }
def signalFullRow : OpenClaim := { program := "ytfjknnejafdfpaa", sum := "22a3e25a22a94aab27e9b2eeea9459e5175a442a33706d19ec640c671a6907aa", func := "headland/headlandlaw18.SignalFull", spec := "signalFull", apart := false }
def SignalFullSaid : Prop := signalFullRow.holds Try.pinned (OpenSpec.ofChange signalFullSpec)

/-- ITS FALSE NEIGHBOUR: 'it returns false'. Refute it at one input. -/
def signalFullWrong : ChangeSpec := { name := "signalFull", fn := fun _ => fun
  | [d1, d2] => { results := [.lit (.bool false)], args := [d1, d2] }
  | _ => none }
def SignalFullWrongFalsely : Prop := signalFullRow.holds Try.pinned (OpenSpec.ofChange signalFullWrong)

/-- 'headlandlaw18.SignalOrder': WHATEVER THE INPUT: true; the input reads as it did. -/
def signalOrderSpec : ChangeSpec := { name := "signalOrder", fn := fun _ => fun
  | [d] => { results := [.lit (.bool true)], args := [d] }
  | _ => none }
def signalOrderRow : OpenClaim := { program := "ytfjknnejafdfpaa", sum := "22a3e25a22a94aab27e9b2eeea9459e5175a442a33706d19ec640c671a6907aa", func := "headland/headlandlaw18.SignalOrder", spec := "signalOrder", apart := false }
def SignalOrderSaid : Prop := signalOrderRow.holds Try.pinned (OpenSpec.ofChange signalOrderSpec)

/-- ITS FALSE NEIGHBOUR: 'it returns false'. Refute it at one input. -/
def signalOrderWrong : ChangeSpec := { name := "signalOrder", fn := fun _ => fun
  | [d] => { results := [.lit (.bool false)], args := [d] }
  | _ => none }
def SignalOrderWrongFalsely : Prop := signalOrderRow.holds Try.pinned (OpenSpec.ofChange signalOrderWrong)

/-- 'headlandlaw18.SignalRound': WHATEVER THE INPUT: true; the input reads as it did. -/
def signalRoundSpec : ChangeSpec := { name := "signalRound", fn := fun _ => fun
  | [d1, d2] => { results := [.lit (.bool true)], args := [d1, d2] }
  | _ => none }
def signalRoundRow : OpenClaim := { program := "ytfjknnejafdfpaa", sum := "22a3e25a22a94aab27e9b2eeea9459e5175a442a33706d19ec640c671a6907aa", func := "headland/headlandlaw18.SignalRound", spec := "signalRound", apart := false }
def SignalRoundSaid : Prop := signalRoundRow.holds Try.pinned (OpenSpec.ofChange signalRoundSpec)

/-- ITS FALSE NEIGHBOUR: 'it returns false'. Refute it at one input. -/
def signalRoundWrong : ChangeSpec := { name := "signalRound", fn := fun _ => fun
  | [d1, d2] => { results := [.lit (.bool false)], args := [d1, d2] }
  | _ => none }
def SignalRoundWrongFalsely : Prop := signalRoundRow.holds Try.pinned (OpenSpec.ofChange signalRoundWrong)

/-- 'headlandlaw09.SectSteps': WHATEVER THE INPUT: true; the input reads as it did. -/
def sectStepsSpec : ChangeSpec := { name := "sectSteps", fn := fun _ => fun
  | [d1, d2, d3] => { results := [.lit (.bool true)], args := [d1, d2, d3] }
  | _ => none }
def sectStepsRow : OpenClaim := { program := "ytfjknnejafdfpaa", sum := "22a3e25a22a94aab27e9b2eeea9459e5175a442a33706d19ec640c671a6907aa", func := "headland/headlandlaw09.SectSteps", spec := "sectSteps", apart := false }
def SectStepsSaid : Prop := sectStepsRow.holds Try.pinned (OpenSpec.ofChange sectStepsSpec)

/-- ITS FALSE NEIGHBOUR: 'it returns false'. Refute it at one input. -/
def sectStepsWrong : ChangeSpec := { name := "sectSteps", fn := fun _ => fun
  | [d1, d2, d3] => { results := [.lit (.bool false)], args := [d1, d2, d3] }
  | _ => none }
def SectStepsWrongFalsely : Prop := sectStepsRow.holds Try.pinned (OpenSpec.ofChange sectStepsWrong)

/-- 'headlandlaw09.SectRounds': WHATEVER THE INPUT: true; the input reads as it did. -/
def sectRoundsSpec : ChangeSpec := { name := "sectRounds", fn := fun _ => fun
  | [d] => { results := [.lit (.bool true)], args := [d] }
  | _ => none }
def sectRoundsRow : OpenClaim := { program := "ytfjknnejafdfpaa", sum := "22a3e25a22a94aab27e9b2eeea9459e5175a442a33706d19ec640c671a6907aa", func := "headland/headlandlaw09.SectRounds", spec := "sectRounds", apart := false }
def SectRoundsSaid : Prop := sectRoundsRow.holds Try.pinned (OpenSpec.ofChange sectRoundsSpec)

/-- ITS FALSE NEIGHBOUR: 'it returns false'. Refute it at one input. -/
def sectRoundsWrong : ChangeSpec := { name := "sectRounds", fn := fun _ => fun
  | [d] => { results := [.lit (.bool false)], args := [d] }
  | _ => none }
def SectRoundsWrongFalsely : Prop := sectRoundsRow.holds Try.pinned (OpenSpec.ofChange sectRoundsWrong)

/-- 'headlandlaw09.SectOne': WHATEVER THE INPUT: true; the input reads as it did. -/
def sectOneSpec : ChangeSpec := { name := "sectOne", fn := fun _ => fun
  | [d1, d2, d3] => { results := [.lit (.bool true)], args := [d1, d2, d3] }
  | _ => none }
def sectOneRow : OpenClaim := { program := "ytfjknnejafdfpaa", sum := "22a3e25a22a94aab27e9b2eeea9459e5175a442a33706d19ec640c671a6907aa", func := "headland/headlandlaw09.SectOne", spec := "sectOne", apart := false }
def SectOneSaid : Prop := sectOneRow.holds Try.pinned (OpenSpec.ofChange sectOneSpec)

/-- ITS FALSE NEIGHBOUR: 'it returns false'. Refute it at one input. -/
def sectOneWrong : ChangeSpec := { name := "sectOne", fn := fun _ => fun
  | [d1, d2, d3] => { results := [.lit (.bool false)], args := [d1, d2, d3] }
  | _ => none }
def SectOneWrongFalsely : Prop := sectOneRow.holds Try.pinned (OpenSpec.ofChange sectOneWrong)

/-- 'headlandlaw09.SectFrames': WHATEVER THE INPUT: true; the input reads as it did. -/
def sectFramesSpec : ChangeSpec := { name := "sectFrames", fn := fun _ => fun
  | [d1, d2] => { results := [.lit (.bool true)], args := [d1, d2] }
  | _ => none }
def sectFramesRow : OpenClaim := { program := "ytfjknnejafdfpaa", sum := "22a3e25a22a94aab27e9b2eeea9459e5175a442a33706d19ec640c671a6907aa", func := "headland/headlandlaw09.SectFrames", spec := "sectFrames", apart := false }
def SectFramesSaid : Prop := sectFramesRow.holds Try.pinned (OpenSpec.ofChange sectFramesSpec)

/-- ITS FALSE NEIGHBOUR: 'it returns false'. Refute it at one input. -/
def sectFramesWrong : ChangeSpec := { name := "sectFrames", fn := fun _ => fun
  | [d1, d2] => { results := [.lit (.bool false)], args := [d1, d2] }
  | _ => none }
def SectFramesWrongFalsely : Prop := sectFramesRow.holds Try.pinned (OpenSpec.ofChange sectFramesWrong)

/- THE SECOND FORM. 'bulk': how many values and letters a reading holds, each counted each time it is reached (what is shared counts as often as it is met; a slice's spare places count too). A statement '..UptoSaid' is the law's where the arguments, and the package variables that the reading takes, are together of bulk at most 1048576: NARROWER than '..Said'. Prove '..Said' where nothing that the law and all that it calls make is longer than what came in: it says more and counts as full. Else prove '..UptoSaid'. A law counts once. -/
mutual
def uptoBulk {H : Type} : DataW H → Nat
  | .lit (.string bytes) => bytes.length + 1
  | .lit _ => 1
  | .nil => 1
  | .ptr d => uptoBulk d + 1
  | .slice elems spare => uptoBulkAll elems + uptoBulkAll spare + 1
  | .agg parts => uptoBulkAll parts + 1
  | .iface _ d => uptoBulk d + 1
  | .map entries => uptoBulkEntries entries + 1
  | .held _ => 1
def uptoBulkAll {H : Type} : List (DataW H) → Nat
  | [] => 0
  | d :: r => uptoBulk d + uptoBulkAll r
def uptoBulkEntries {H : Type} : List (Lit × DataW H) → Nat
  | [] => 0
  | x :: r => uptoBulkEntry x + uptoBulkEntries r
def uptoBulkEntry {H : Type} : Lit × DataW H → Nat
  | (.string bytes, d) => bytes.length + uptoBulk d + 1
  | (_, d) => uptoBulk d + 1
 end
def uptoSmall : (H : Type) → List (DataW H) → Bool := fun _ ds => decide (uptoBulkAll ds ≤ 1048576)
def OpenSpec.upto (s : _root_.Go.ChangeSpec) : _root_.Go.OpenSpec := { _root_.Go.OpenSpec.ofChange s with cond := some uptoSmall }

/-- 'headlandlaw18.SignalPlays', WHERE WHAT IT READS IS OF BULK AT MOST 1048576: true; the input reads as it did. -/
def signalPlaysUptoRow : OpenClaim := { program := "ytfjknnejafdfpaa", sum := "22a3e25a22a94aab27e9b2eeea9459e5175a442a33706d19ec640c671a6907aa", func := "headland/headlandlaw18.SignalPlays", spec := "signalPlays", apart := false, narrowed := true }
def SignalPlaysUptoSaid : Prop := signalPlaysUptoRow.holds Try.pinned (OpenSpec.upto signalPlaysSpec)

/-- 'headlandlaw18.SignalFull', WHERE WHAT IT READS IS OF BULK AT MOST 1048576: true; the input reads as it did. -/
def signalFullUptoRow : OpenClaim := { program := "ytfjknnejafdfpaa", sum := "22a3e25a22a94aab27e9b2eeea9459e5175a442a33706d19ec640c671a6907aa", func := "headland/headlandlaw18.SignalFull", spec := "signalFull", apart := false, narrowed := true }
def SignalFullUptoSaid : Prop := signalFullUptoRow.holds Try.pinned (OpenSpec.upto signalFullSpec)

/-- 'headlandlaw18.SignalOrder', WHERE WHAT IT READS IS OF BULK AT MOST 1048576: true; the input reads as it did. -/
def signalOrderUptoRow : OpenClaim := { program := "ytfjknnejafdfpaa", sum := "22a3e25a22a94aab27e9b2eeea9459e5175a442a33706d19ec640c671a6907aa", func := "headland/headlandlaw18.SignalOrder", spec := "signalOrder", apart := false, narrowed := true }
def SignalOrderUptoSaid : Prop := signalOrderUptoRow.holds Try.pinned (OpenSpec.upto signalOrderSpec)

/-- 'headlandlaw18.SignalRound', WHERE WHAT IT READS IS OF BULK AT MOST 1048576: true; the input reads as it did. -/
def signalRoundUptoRow : OpenClaim := { program := "ytfjknnejafdfpaa", sum := "22a3e25a22a94aab27e9b2eeea9459e5175a442a33706d19ec640c671a6907aa", func := "headland/headlandlaw18.SignalRound", spec := "signalRound", apart := false, narrowed := true }
def SignalRoundUptoSaid : Prop := signalRoundUptoRow.holds Try.pinned (OpenSpec.upto signalRoundSpec)

/-- 'headlandlaw09.SectSteps', WHERE WHAT IT READS IS OF BULK AT MOST 1048576: true; the input reads as it did. -/
def sectStepsUptoRow : OpenClaim := { program := "ytfjknnejafdfpaa", sum := "22a3e25a22a94aab27e9b2eeea9459e5175a442a33706d19ec640c671a6907aa", func := "headland/headlandlaw09.SectSteps", spec := "sectSteps", apart := false, narrowed := true }
def SectStepsUptoSaid : Prop := sectStepsUptoRow.holds Try.pinned (OpenSpec.upto sectStepsSpec)

/-- 'headlandlaw09.SectRounds', WHERE WHAT IT READS IS OF BULK AT MOST 1048576: true; the input reads as it did. -/
def sectRoundsUptoRow : OpenClaim := { program := "ytfjknnejafdfpaa", sum := "22a3e25a22a94aab27e9b2eeea9459e5175a442a33706d19ec640c671a6907aa", func := "headland/headlandlaw09.SectRounds", spec := "sectRounds", apart := false, narrowed := true }
def SectRoundsUptoSaid : Prop := sectRoundsUptoRow.holds Try.pinned (OpenSpec.upto sectRoundsSpec)

/-- 'headlandlaw09.SectOne', WHERE WHAT IT READS IS OF BULK AT MOST 1048576: true; the input reads as it did. -/
def sectOneUptoRow : OpenClaim := { program := "ytfjknnejafdfpaa", sum := "22a3e25a22a94aab27e9b2eeea9459e5175a442a33706d19ec640c671a6907aa", func := "headland/headlandlaw09.SectOne", spec := "sectOne", apart := false, narrowed := true }
def SectOneUptoSaid : Prop := sectOneUptoRow.holds Try.pinned (OpenSpec.upto sectOneSpec)

/-- 'headlandlaw09.SectFrames', WHERE WHAT IT READS IS OF BULK AT MOST 1048576: true; the input reads as it did. -/
def sectFramesUptoRow : OpenClaim := { program := "ytfjknnejafdfpaa", sum := "22a3e25a22a94aab27e9b2eeea9459e5175a442a33706d19ec640c671a6907aa", func := "headland/headlandlaw09.SectFrames", spec := "sectFrames", apart := false, narrowed := true }
def SectFramesUptoSaid : Prop := sectFramesUptoRow.holds Try.pinned (OpenSpec.upto sectFramesSpec)

end Rows
end Go.Proofs.Ytfjknnejafdfpaa
