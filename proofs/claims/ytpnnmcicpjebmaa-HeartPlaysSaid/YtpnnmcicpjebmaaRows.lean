/-
  No cell of these rows narrows 'for every input' (looked for: loops, veiled, ifaces, maps, wideKeys, modest, calm, conditions, laid).
  DERIVED. THE GIVEN ROWS OF THIS SEAT. 9 by the template 'for every input the law returns true; each argument reads behind the call as it read before'; 0 by the template 'total and deterministic' (their statements: YtpnnmcicpjebmaaTotals.lean).
  GIVEN WITH THE SEED: the statements are not yours to turn. If you find one false, say at which input.
  Laid BY PROGRAM, IN A SANDBOX (cutbox-rows.mjs): the forced cells as the released guide's own fill.sh prints them over the translation d1b0593ef239a262… (all of the seat's roots in one cut). By AI agents, Wed Nov 11 2026. No macro, syntax, notation, axiom, sorry.
-/
import Derived.Test.YtpnnmcicpjebmaaChecked
import GoSem.Claim
import GoSem.ClaimJoined
import GoSem.ClaimMapViews
import Derived.JoinedTies
import Derived.KernelRfl
namespace Go.Proofs.Ytpnnmcicpjebmaa
/- THE CELL 'sum', in the pinned program and in every row, IS THE sha256 OF THE DUMP (.gsa) THAT YtpnnmcicpjebmaaProg.lean LOADS. Nothing in Lean hashes anything: it is a label: what it is worth is what the hold of that sum in a sandbox is worth. -/
noncomputable def Try.pinned : Pinned := { name := "ytpnnmcicpjebmaa", sum := "d1b0593ef239a2627546247b4b9ebe7afd19a9e704bfee8022aedeebcf185b1d", checked := Try.checked }
namespace Rows
def none {H : Type} : Left H := { results := [], args := [] }

/-- 'wheelhouselaw26.HeartGone': WHATEVER THE INPUT: true; the input reads as it did. -/
def heartGoneSpec : ChangeSpec := { name := "heartGone", fn := fun _ => fun
  | [d1, d2, d3] => { results := [.lit (.bool true)], args := [d1, d2, d3] }
  | _ => none }
def heartGoneRow : OpenClaim := { program := "ytpnnmcicpjebmaa", sum := "d1b0593ef239a2627546247b4b9ebe7afd19a9e704bfee8022aedeebcf185b1d", func := "wheelhouse/wheelhouselaw26.HeartGone", spec := "heartGone", unfollowed := true, recurses := true, apart := false }
def HeartGoneSaid : Prop := heartGoneRow.holds Try.pinned (OpenSpec.ofChange heartGoneSpec)

/-- ITS FALSE NEIGHBOUR: 'it returns false'. Refute it at one input. -/
def heartGoneWrong : ChangeSpec := { name := "heartGone", fn := fun _ => fun
  | [d1, d2, d3] => { results := [.lit (.bool false)], args := [d1, d2, d3] }
  | _ => none }
def HeartGoneWrongFalsely : Prop := heartGoneRow.holds Try.pinned (OpenSpec.ofChange heartGoneWrong)

/-- 'wheelhouselaw26.HeartNil': WHATEVER THE INPUT: true; the input reads as it did. -/
def heartNilSpec : ChangeSpec := { name := "heartNil", fn := fun _ => fun
  | [d1, d2] => { results := [.lit (.bool true)], args := [d1, d2] }
  | _ => none }
def heartNilRow : OpenClaim := { program := "ytpnnmcicpjebmaa", sum := "d1b0593ef239a2627546247b4b9ebe7afd19a9e704bfee8022aedeebcf185b1d", func := "wheelhouse/wheelhouselaw26.HeartNil", spec := "heartNil", unfollowed := true, recurses := true, apart := false }
def HeartNilSaid : Prop := heartNilRow.holds Try.pinned (OpenSpec.ofChange heartNilSpec)

/-- ITS FALSE NEIGHBOUR: 'it returns false'. Refute it at one input. -/
def heartNilWrong : ChangeSpec := { name := "heartNil", fn := fun _ => fun
  | [d1, d2] => { results := [.lit (.bool false)], args := [d1, d2] }
  | _ => none }
def HeartNilWrongFalsely : Prop := heartNilRow.holds Try.pinned (OpenSpec.ofChange heartNilWrong)

/-- 'wheelhouselaw25.NmtCommands': WHATEVER THE INPUT: true; the input reads as it did. -/
def nmtCommandsSpec : ChangeSpec := { name := "nmtCommands", fn := fun _ => fun
  | [d1, d2] => { results := [.lit (.bool true)], args := [d1, d2] }
  | _ => none }
def nmtCommandsRow : OpenClaim := { program := "ytpnnmcicpjebmaa", sum := "d1b0593ef239a2627546247b4b9ebe7afd19a9e704bfee8022aedeebcf185b1d", func := "wheelhouse/wheelhouselaw25.NmtCommands", spec := "nmtCommands", apart := false }
def NmtCommandsSaid : Prop := nmtCommandsRow.holds Try.pinned (OpenSpec.ofChange nmtCommandsSpec)

/-- ITS FALSE NEIGHBOUR: 'it returns false'. Refute it at one input. -/
def nmtCommandsWrong : ChangeSpec := { name := "nmtCommands", fn := fun _ => fun
  | [d1, d2] => { results := [.lit (.bool false)], args := [d1, d2] }
  | _ => none }
def NmtCommandsWrongFalsely : Prop := nmtCommandsRow.holds Try.pinned (OpenSpec.ofChange nmtCommandsWrong)

/-- 'wheelhouselaw25.NmtSteps': WHATEVER THE INPUT: true; the input reads as it did. -/
def nmtStepsSpec : ChangeSpec := { name := "nmtSteps", fn := fun _ => fun
  | [d1, d2, d3] => { results := [.lit (.bool true)], args := [d1, d2, d3] }
  | _ => none }
def nmtStepsRow : OpenClaim := { program := "ytpnnmcicpjebmaa", sum := "d1b0593ef239a2627546247b4b9ebe7afd19a9e704bfee8022aedeebcf185b1d", func := "wheelhouse/wheelhouselaw25.NmtSteps", spec := "nmtSteps", apart := false }
def NmtStepsSaid : Prop := nmtStepsRow.holds Try.pinned (OpenSpec.ofChange nmtStepsSpec)

/-- ITS FALSE NEIGHBOUR: 'it returns false'. Refute it at one input. -/
def nmtStepsWrong : ChangeSpec := { name := "nmtSteps", fn := fun _ => fun
  | [d1, d2, d3] => { results := [.lit (.bool false)], args := [d1, d2, d3] }
  | _ => none }
def NmtStepsWrongFalsely : Prop := nmtStepsRow.holds Try.pinned (OpenSpec.ofChange nmtStepsWrong)

/-- 'wheelhouselaw25.NmtLaws': WHATEVER THE INPUT: true; the input reads as it did. -/
def nmtLawsSpec : ChangeSpec := { name := "nmtLaws", fn := fun _ => fun
  | [d1, d2] => { results := [.lit (.bool true)], args := [d1, d2] }
  | _ => none }
def nmtLawsRow : OpenClaim := { program := "ytpnnmcicpjebmaa", sum := "d1b0593ef239a2627546247b4b9ebe7afd19a9e704bfee8022aedeebcf185b1d", func := "wheelhouse/wheelhouselaw25.NmtLaws", spec := "nmtLaws", apart := false }
def NmtLawsSaid : Prop := nmtLawsRow.holds Try.pinned (OpenSpec.ofChange nmtLawsSpec)

/-- ITS FALSE NEIGHBOUR: 'it returns false'. Refute it at one input. -/
def nmtLawsWrong : ChangeSpec := { name := "nmtLaws", fn := fun _ => fun
  | [d1, d2] => { results := [.lit (.bool false)], args := [d1, d2] }
  | _ => none }
def NmtLawsWrongFalsely : Prop := nmtLawsRow.holds Try.pinned (OpenSpec.ofChange nmtLawsWrong)

/-- 'wheelhouselaw25.NmtBeats': WHATEVER THE INPUT: true; the input reads as it did. -/
def nmtBeatsSpec : ChangeSpec := { name := "nmtBeats", fn := fun _ => fun
  | [d1, d2, d3] => { results := [.lit (.bool true)], args := [d1, d2, d3] }
  | _ => none }
def nmtBeatsRow : OpenClaim := { program := "ytpnnmcicpjebmaa", sum := "d1b0593ef239a2627546247b4b9ebe7afd19a9e704bfee8022aedeebcf185b1d", func := "wheelhouse/wheelhouselaw25.NmtBeats", spec := "nmtBeats", apart := false }
def NmtBeatsSaid : Prop := nmtBeatsRow.holds Try.pinned (OpenSpec.ofChange nmtBeatsSpec)

/-- ITS FALSE NEIGHBOUR: 'it returns false'. Refute it at one input. -/
def nmtBeatsWrong : ChangeSpec := { name := "nmtBeats", fn := fun _ => fun
  | [d1, d2, d3] => { results := [.lit (.bool false)], args := [d1, d2, d3] }
  | _ => none }
def NmtBeatsWrongFalsely : Prop := nmtBeatsRow.holds Try.pinned (OpenSpec.ofChange nmtBeatsWrong)

/-- 'wheelhouselaw26.HeartWatches': WHATEVER THE INPUT: true; the input reads as it did. -/
def heartWatchesSpec : ChangeSpec := { name := "heartWatches", fn := fun _ => fun
  | [d] => { results := [.lit (.bool true)], args := [d] }
  | _ => none }
def heartWatchesRow : OpenClaim := { program := "ytpnnmcicpjebmaa", sum := "d1b0593ef239a2627546247b4b9ebe7afd19a9e704bfee8022aedeebcf185b1d", func := "wheelhouse/wheelhouselaw26.HeartWatches", spec := "heartWatches", unfollowed := true, recurses := true, apart := false }
def HeartWatchesSaid : Prop := heartWatchesRow.holds Try.pinned (OpenSpec.ofChange heartWatchesSpec)

/-- ITS FALSE NEIGHBOUR: 'it returns false'. Refute it at one input. -/
def heartWatchesWrong : ChangeSpec := { name := "heartWatches", fn := fun _ => fun
  | [d] => { results := [.lit (.bool false)], args := [d] }
  | _ => none }
def HeartWatchesWrongFalsely : Prop := heartWatchesRow.holds Try.pinned (OpenSpec.ofChange heartWatchesWrong)

/-- 'wheelhouselaw26.HeartBeats': WHATEVER THE INPUT: true; the input reads as it did. -/
def heartBeatsSpec : ChangeSpec := { name := "heartBeats", fn := fun _ => fun
  | [d1, d2, d3] => { results := [.lit (.bool true)], args := [d1, d2, d3] }
  | _ => none }
def heartBeatsRow : OpenClaim := { program := "ytpnnmcicpjebmaa", sum := "d1b0593ef239a2627546247b4b9ebe7afd19a9e704bfee8022aedeebcf185b1d", func := "wheelhouse/wheelhouselaw26.HeartBeats", spec := "heartBeats", unfollowed := true, recurses := true, apart := false }
def HeartBeatsSaid : Prop := heartBeatsRow.holds Try.pinned (OpenSpec.ofChange heartBeatsSpec)

/-- ITS FALSE NEIGHBOUR: 'it returns false'. Refute it at one input. -/
def heartBeatsWrong : ChangeSpec := { name := "heartBeats", fn := fun _ => fun
  | [d1, d2, d3] => { results := [.lit (.bool false)], args := [d1, d2, d3] }
  | _ => none }
def HeartBeatsWrongFalsely : Prop := heartBeatsRow.holds Try.pinned (OpenSpec.ofChange heartBeatsWrong)

/-- 'wheelhouselaw26.HeartPlays': WHATEVER THE INPUT: true; the input reads as it did. -/
def heartPlaysSpec : ChangeSpec := { name := "heartPlays", fn := fun _ => fun
  | [d1, d2] => { results := [.lit (.bool true)], args := [d1, d2] }
  | _ => none }
def heartPlaysRow : OpenClaim := { program := "ytpnnmcicpjebmaa", sum := "d1b0593ef239a2627546247b4b9ebe7afd19a9e704bfee8022aedeebcf185b1d", func := "wheelhouse/wheelhouselaw26.HeartPlays", spec := "heartPlays", unfollowed := true, recurses := true, apart := false }
def HeartPlaysSaid : Prop := heartPlaysRow.holds Try.pinned (OpenSpec.ofChange heartPlaysSpec)

/-- ITS FALSE NEIGHBOUR: 'it returns false'. Refute it at one input. -/
def heartPlaysWrong : ChangeSpec := { name := "heartPlays", fn := fun _ => fun
  | [d1, d2] => { results := [.lit (.bool false)], args := [d1, d2] }
  | _ => none }
def HeartPlaysWrongFalsely : Prop := heartPlaysRow.holds Try.pinned (OpenSpec.ofChange heartPlaysWrong)

/- THE SECOND FORM. 'bulk': how many values and letters a reading holds, each counted each time it is reached (what is shared counts as often as it is met; a slice's spare places count too). A statement '..UptoSaid' is the law's where the arguments, and the package variables that the reading takes, are together of bulk at most 1048576: NARROWER than '..Said'. Prove '..Said' where nothing that the law and all that it calls make is longer than what came in: it says more and counts as full. Else prove '..UptoSaid'. A law counts once. -/
mutual
def uptoBulk {H : Type} : DataW H → Nat
  | .lit (.string bytes) => bytes.length + 1
  | .lit _ => 1
  | .nil => 1
  | .ptr d => uptoBulk d + 1
  | .slice elems spare => uptoBulkAll elems + uptoBulkAll spare + 1
  | .agg parts => uptoBulkAll parts + 1
  | .iface _ d => uptoBulk d + 1
  | .map entries => uptoBulkEntries entries + 1
  | .held _ => 1
def uptoBulkAll {H : Type} : List (DataW H) → Nat
  | [] => 0
  | d :: r => uptoBulk d + uptoBulkAll r
def uptoBulkEntries {H : Type} : List (Lit × DataW H) → Nat
  | [] => 0
  | x :: r => uptoBulkEntry x + uptoBulkEntries r
def uptoBulkEntry {H : Type} : Lit × DataW H → Nat
  | (.string bytes, d) => bytes.length + uptoBulk d + 1
  | (_, d) => uptoBulk d + 1
 end
def uptoSmall : (H : Type) → List (DataW H) → Bool := fun _ ds => decide (uptoBulkAll ds ≤ 1048576)
def OpenSpec.upto (s : _root_.Go.ChangeSpec) : _root_.Go.OpenSpec := { _root_.Go.OpenSpec.ofChange s with cond := some uptoSmall }

/-- 'wheelhouselaw26.HeartGone', WHERE WHAT IT READS IS OF BULK AT MOST 1048576: true; the input reads as it did. -/
def heartGoneUptoRow : OpenClaim := { program := "ytpnnmcicpjebmaa", sum := "d1b0593ef239a2627546247b4b9ebe7afd19a9e704bfee8022aedeebcf185b1d", func := "wheelhouse/wheelhouselaw26.HeartGone", spec := "heartGone", unfollowed := true, recurses := true, apart := false, narrowed := true }
def HeartGoneUptoSaid : Prop := heartGoneUptoRow.holds Try.pinned (OpenSpec.upto heartGoneSpec)

/-- 'wheelhouselaw26.HeartNil', WHERE WHAT IT READS IS OF BULK AT MOST 1048576: true; the input reads as it did. -/
def heartNilUptoRow : OpenClaim := { program := "ytpnnmcicpjebmaa", sum := "d1b0593ef239a2627546247b4b9ebe7afd19a9e704bfee8022aedeebcf185b1d", func := "wheelhouse/wheelhouselaw26.HeartNil", spec := "heartNil", unfollowed := true, recurses := true, apart := false, narrowed := true }
def HeartNilUptoSaid : Prop := heartNilUptoRow.holds Try.pinned (OpenSpec.upto heartNilSpec)

/-- 'wheelhouselaw25.NmtCommands', WHERE WHAT IT READS IS OF BULK AT MOST 1048576: true; the input reads as it did. -/
def nmtCommandsUptoRow : OpenClaim := { program := "ytpnnmcicpjebmaa", sum := "d1b0593ef239a2627546247b4b9ebe7afd19a9e704bfee8022aedeebcf185b1d", func := "wheelhouse/wheelhouselaw25.NmtCommands", spec := "nmtCommands", apart := false, narrowed := true }
def NmtCommandsUptoSaid : Prop := nmtCommandsUptoRow.holds Try.pinned (OpenSpec.upto nmtCommandsSpec)

/-- 'wheelhouselaw25.NmtSteps', WHERE WHAT IT READS IS OF BULK AT MOST 1048576: true; the input reads as it did. -/
def nmtStepsUptoRow : OpenClaim := { program := "ytpnnmcicpjebmaa", sum := "d1b0593ef239a2627546247b4b9ebe7afd19a9e704bfee8022aedeebcf185b1d", func := "wheelhouse/wheelhouselaw25.NmtSteps", spec := "nmtSteps", apart := false, narrowed := true }
def NmtStepsUptoSaid : Prop := nmtStepsUptoRow.holds Try.pinned (OpenSpec.upto nmtStepsSpec)

/-- 'wheelhouselaw25.NmtLaws', WHERE WHAT IT READS IS OF BULK AT MOST 1048576: true; the input reads as it did. -/
def nmtLawsUptoRow : OpenClaim := { program := "ytpnnmcicpjebmaa", sum := "d1b0593ef239a2627546247b4b9ebe7afd19a9e704bfee8022aedeebcf185b1d", func := "wheelhouse/wheelhouselaw25.NmtLaws", spec := "nmtLaws", apart := false, narrowed := true }
def NmtLawsUptoSaid : Prop := nmtLawsUptoRow.holds Try.pinned (OpenSpec.upto nmtLawsSpec)

/-- 'wheelhouselaw25.NmtBeats', WHERE WHAT IT READS IS OF BULK AT MOST 1048576: true; the input reads as it did. -/
def nmtBeatsUptoRow : OpenClaim := { program := "ytpnnmcicpjebmaa", sum := "d1b0593ef239a2627546247b4b9ebe7afd19a9e704bfee8022aedeebcf185b1d", func := "wheelhouse/wheelhouselaw25.NmtBeats", spec := "nmtBeats", apart := false, narrowed := true }
def NmtBeatsUptoSaid : Prop := nmtBeatsUptoRow.holds Try.pinned (OpenSpec.upto nmtBeatsSpec)

/-- 'wheelhouselaw26.HeartWatches', WHERE WHAT IT READS IS OF BULK AT MOST 1048576: true; the input reads as it did. -/
def heartWatchesUptoRow : OpenClaim := { program := "ytpnnmcicpjebmaa", sum := "d1b0593ef239a2627546247b4b9ebe7afd19a9e704bfee8022aedeebcf185b1d", func := "wheelhouse/wheelhouselaw26.HeartWatches", spec := "heartWatches", unfollowed := true, recurses := true, apart := false, narrowed := true }
def HeartWatchesUptoSaid : Prop := heartWatchesUptoRow.holds Try.pinned (OpenSpec.upto heartWatchesSpec)

/-- 'wheelhouselaw26.HeartBeats', WHERE WHAT IT READS IS OF BULK AT MOST 1048576: true; the input reads as it did. -/
def heartBeatsUptoRow : OpenClaim := { program := "ytpnnmcicpjebmaa", sum := "d1b0593ef239a2627546247b4b9ebe7afd19a9e704bfee8022aedeebcf185b1d", func := "wheelhouse/wheelhouselaw26.HeartBeats", spec := "heartBeats", unfollowed := true, recurses := true, apart := false, narrowed := true }
def HeartBeatsUptoSaid : Prop := heartBeatsUptoRow.holds Try.pinned (OpenSpec.upto heartBeatsSpec)

/-- 'wheelhouselaw26.HeartPlays', WHERE WHAT IT READS IS OF BULK AT MOST 1048576: true; the input reads as it did. -/
def heartPlaysUptoRow : OpenClaim := { program := "ytpnnmcicpjebmaa", sum := "d1b0593ef239a2627546247b4b9ebe7afd19a9e704bfee8022aedeebcf185b1d", func := "wheelhouse/wheelhouselaw26.HeartPlays", spec := "heartPlays", unfollowed := true, recurses := true, apart := false, narrowed := true }
def HeartPlaysUptoSaid : Prop := heartPlaysUptoRow.holds Try.pinned (OpenSpec.upto heartPlaysSpec)

end Rows
end Go.Proofs.Ytpnnmcicpjebmaa
