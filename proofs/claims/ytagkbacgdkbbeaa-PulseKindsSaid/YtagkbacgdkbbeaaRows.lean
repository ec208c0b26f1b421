/-
  No cell of these rows narrows 'for every input' (looked for: loops, veiled, ifaces, maps, wideKeys, modest, calm, conditions, laid).
  DERIVED. THE GIVEN ROWS OF THIS SEAT. 8 by the template 'for every input the law returns true; each argument reads behind the call as it read before'; 0 by the template 'total and deterministic' (their statements: YtagkbacgdkbbeaaTotals.lean).
  GIVEN WITH THE SEED: the statements are not yours to turn. If you find one false, say at which input.
  Laid BY PROGRAM, IN A SANDBOX (cutbox-rows.mjs): the forced cells as the released guide's own fill.sh prints them over the translation e2b72a5946340558… (all of the seat's roots in one cut). By AI agents, Wed Nov 11 2026. No macro, syntax, notation, axiom, sorry.
-/
import Derived.Test.YtagkbacgdkbbeaaChecked
import GoSem.Claim
import GoSem.ClaimJoined
import GoSem.ClaimMapViews
import Derived.JoinedTies
import Derived.KernelRfl
namespace Go.Proofs.Ytagkbacgdkbbeaa
/- THE CELL 'sum', in the pinned program and in every row, IS THE sha256 OF THE DUMP (.gsa) THAT YtagkbacgdkbbeaaProg.lean LOADS. Nothing in Lean hashes anything: it is a label: what it is worth is what the hold of that sum in a sandbox is worth. -/
noncomputable def Try.pinned : Pinned := { name := "ytagkbacgdkbbeaa", sum := "e2b72a594634055835472941f1f9b5407d0a799826481bc28ff7ca4b63cdb9c1", checked := Try.checked }
namespace Rows
def none {H : Type} : Left H := { results := [], args := [] }

/-- 'wheelhouselaw28.PulsePlays': WHATEVER THE INPUT: true; the input reads as it did. -/
def pulsePlaysSpec : ChangeSpec := { name := "pulsePlays", fn := fun _ => fun
  | [d1, d2, d3] => { results := [.lit (.bool true)], args := [d1, d2, d3] }
  | _ => none }
def pulsePlaysRow : OpenClaim := { program := "ytagkbacgdkbbeaa", sum := "e2b72a594634055835472941f1f9b5407d0a799826481bc28ff7ca4b63cdb9c1", func := "wheelhouse/wheelhouselaw28.PulsePlays", spec := "pulsePlays", apart := false }
def PulsePlaysSaid : Prop := pulsePlaysRow.holds Try.pinned (OpenSpec.ofChange pulsePlaysSpec)

/-- ITS FALSE NEIGHBOUR: 'it returns false'. Refute it at one input. -/
def pulsePlaysWrong : ChangeSpec := { name := "pulsePlays", fn := fun _ => fun
  | [d1, d2, d3] => { results := [.lit (.bool false)], args := [d1, d2, d3] }
  | _ => none }
def PulsePlaysWrongFalsely : Prop := pulsePlaysRow.holds Try.pinned (OpenSpec.ofChange pulsePlaysWrong)

/-- 'wheelhouselaw28.PulseKinds': WHATEVER THE INPUT: true; the input reads as it did. -/
def pulseKindsSpec : ChangeSpec := { name := "pulseKinds", fn := fun _ => fun
  | [d1, d2, d3] => { results := [.lit (.bool true)], args := [d1, d2, d3] }
  | _ => none }
def pulseKindsRow : OpenClaim := { program := "ytagkbacgdkbbeaa", sum := "e2b72a594634055835472941f1f9b5407d0a799826481bc28ff7ca4b63cdb9c1", func := "wheelhouse/wheelhouselaw28.PulseKinds", spec := "pulseKinds", apart := false }
def PulseKindsSaid : Prop := pulseKindsRow.holds Try.pinned (OpenSpec.ofChange pulseKindsSpec)

/-- ITS FALSE NEIGHBOUR: 'it returns false'. Refute it at one input. -/
def pulseKindsWrong : ChangeSpec := { name := "pulseKinds", fn := fun _ => fun
  | [d1, d2, d3] => { results := [.lit (.bool false)], args := [d1, d2, d3] }
  | _ => none }
def PulseKindsWrongFalsely : Prop := pulseKindsRow.holds Try.pinned (OpenSpec.ofChange pulseKindsWrong)

/-- 'wheelhouselaw28.PulseNil': WHATEVER THE INPUT: true; the input reads as it did. -/
def pulseNilSpec : ChangeSpec := { name := "pulseNil", fn := fun _ => fun
  | [d] => { results := [.lit (.bool true)], args := [d] }
  | _ => none }
def pulseNilRow : OpenClaim := { program := "ytagkbacgdkbbeaa", sum := "e2b72a594634055835472941f1f9b5407d0a799826481bc28ff7ca4b63cdb9c1", func := "wheelhouse/wheelhouselaw28.PulseNil", spec := "pulseNil", apart := false }
def PulseNilSaid : Prop := pulseNilRow.holds Try.pinned (OpenSpec.ofChange pulseNilSpec)

/-- ITS FALSE NEIGHBOUR: 'it returns false'. Refute it at one input. -/
def pulseNilWrong : ChangeSpec := { name := "pulseNil", fn := fun _ => fun
  | [d] => { results := [.lit (.bool false)], args := [d] }
  | _ => none }
def PulseNilWrongFalsely : Prop := pulseNilRow.holds Try.pinned (OpenSpec.ofChange pulseNilWrong)

/-- 'wheelhouselaw11.CanidNames': WHATEVER THE INPUT: true; the input reads as it did. -/
def canidNamesSpec : ChangeSpec := { name := "canidNames", fn := fun _ => fun
  | [d1, d2, d3] => { results := [.lit (.bool true)], args := [d1, d2, d3] }
  | _ => none }
def canidNamesRow : OpenClaim := { program := "ytagkbacgdkbbeaa", sum := "e2b72a594634055835472941f1f9b5407d0a799826481bc28ff7ca4b63cdb9c1", func := "wheelhouse/wheelhouselaw11.CanidNames", spec := "canidNames", apart := false }
def CanidNamesSaid : Prop := canidNamesRow.holds Try.pinned (OpenSpec.ofChange canidNamesSpec)

/-- ITS FALSE NEIGHBOUR: 'it returns false'. Refute it at one input. -/
def canidNamesWrong : ChangeSpec := { name := "canidNames", fn := fun _ => fun
  | [d1, d2, d3] => { results := [.lit (.bool false)], args := [d1, d2, d3] }
  | _ => none }
def CanidNamesWrongFalsely : Prop := canidNamesRow.holds Try.pinned (OpenSpec.ofChange canidNamesWrong)

/-- 'wheelhouselaw11.CanidIds': WHATEVER THE INPUT: true; the input reads as it did. -/
def canidIdsSpec : ChangeSpec := { name := "canidIds", fn := fun _ => fun
  | [d] => { results := [.lit (.bool true)], args := [d] }
  | _ => none }
def canidIdsRow : OpenClaim := { program := "ytagkbacgdkbbeaa", sum := "e2b72a594634055835472941f1f9b5407d0a799826481bc28ff7ca4b63cdb9c1", func := "wheelhouse/wheelhouselaw11.CanidIds", spec := "canidIds", apart := false }
def CanidIdsSaid : Prop := canidIdsRow.holds Try.pinned (OpenSpec.ofChange canidIdsSpec)

/-- ITS FALSE NEIGHBOUR: 'it returns false'. Refute it at one input. -/
def canidIdsWrong : ChangeSpec := { name := "canidIds", fn := fun _ => fun
  | [d] => { results := [.lit (.bool false)], args := [d] }
  | _ => none }
def CanidIdsWrongFalsely : Prop := canidIdsRow.holds Try.pinned (OpenSpec.ofChange canidIdsWrong)

/-- 'wheelhouselaw11.CanidWords': WHATEVER THE INPUT: true; the input reads as it did. -/
def canidWordsSpec : ChangeSpec := { name := "canidWords", fn := fun _ => fun
  | [d1, d2] => { results := [.lit (.bool true)], args := [d1, d2] }
  | _ => none }
def canidWordsRow : OpenClaim := { program := "ytagkbacgdkbbeaa", sum := "e2b72a594634055835472941f1f9b5407d0a799826481bc28ff7ca4b63cdb9c1", func := "wheelhouse/wheelhouselaw11.CanidWords", spec := "canidWords", apart := false }
def CanidWordsSaid : Prop := canidWordsRow.holds Try.pinned (OpenSpec.ofChange canidWordsSpec)

/-- ITS FALSE NEIGHBOUR: 'it returns false'. Refute it at one input. -/
def canidWordsWrong : ChangeSpec := { name := "canidWords", fn := fun _ => fun
  | [d1, d2] => { results := [.lit (.bool false)], args := [d1, d2] }
  | _ => none }
def CanidWordsWrongFalsely : Prop := canidWordsRow.holds Try.pinned (OpenSpec.ofChange canidWordsWrong)

/-- 'wheelhouselaw11.CanidBack': WHATEVER THE INPUT: true; the input reads as it did. -/
def canidBackSpec : ChangeSpec := { name := "canidBack", fn := fun _ => fun
  | [d1, d2, d3] => { results := [.lit (.bool true)], args := [d1, d2, d3] }
  | _ => none }
def canidBackRow : OpenClaim := { program := "ytagkbacgdkbbeaa", sum := "e2b72a594634055835472941f1f9b5407d0a799826481bc28ff7ca4b63cdb9c1", func := "wheelhouse/wheelhouselaw11.CanidBack", spec := "canidBack", apart := false }
def CanidBackSaid : Prop := canidBackRow.holds Try.pinned (OpenSpec.ofChange canidBackSpec)

/-- ITS FALSE NEIGHBOUR: 'it returns false'. Refute it at one input. -/
def canidBackWrong : ChangeSpec := { name := "canidBack", fn := fun _ => fun
  | [d1, d2, d3] => { results := [.lit (.bool false)], args := [d1, d2, d3] }
  | _ => none }
def CanidBackWrongFalsely : Prop := canidBackRow.holds Try.pinned (OpenSpec.ofChange canidBackWrong)

/-- 'wheelhouselaw11.CanidJoins': WHATEVER THE INPUT: true; the input reads as it did. -/
def canidJoinsSpec : ChangeSpec := { name := "canidJoins", fn := fun _ => fun
  | [d1, d2, d3] => { results := [.lit (.bool true)], args := [d1, d2, d3] }
  | _ => none }
def canidJoinsRow : OpenClaim := { program := "ytagkbacgdkbbeaa", sum := "e2b72a594634055835472941f1f9b5407d0a799826481bc28ff7ca4b63cdb9c1", func := "wheelhouse/wheelhouselaw11.CanidJoins", spec := "canidJoins", apart := false }
def CanidJoinsSaid : Prop := canidJoinsRow.holds Try.pinned (OpenSpec.ofChange canidJoinsSpec)

/-- ITS FALSE NEIGHBOUR: 'it returns false'. Refute it at one input. -/
def canidJoinsWrong : ChangeSpec := { name := "canidJoins", fn := fun _ => fun
  | [d1, d2, d3] => { results := [.lit (.bool false)], args := [d1, d2, d3] }
  | _ => none }
def CanidJoinsWrongFalsely : Prop := canidJoinsRow.holds Try.pinned (OpenSpec.ofChange canidJoinsWrong)

/- THE SECOND FORM. 'bulk': how many values and letters a reading holds, each counted each time it is reached (what is shared counts as often as it is met; a slice's spare places count too). A statement '..UptoSaid' is the law's where the arguments, and the package variables that the reading takes, are together of bulk at most 1048576: NARROWER than '..Said'. Prove '..Said' where nothing that the law and all that it calls make is longer than what came in: it says more and counts as full. Else prove '..UptoSaid'. A law counts once. -/
mutual
def uptoBulk {H : Type} : DataW H → Nat
  | .lit (.string bytes) => bytes.length + 1
  | .lit _ => 1
  | .nil => 1
  | .ptr d => uptoBulk d + 1
  | .slice elems spare => uptoBulkAll elems + uptoBulkAll spare + 1
  | .agg parts => uptoBulkAll parts + 1
  | .iface _ d => uptoBulk d + 1
  | .map entries => uptoBulkEntries entries + 1
  | .held _ => 1
def uptoBulkAll {H : Type} : List (DataW H) → Nat
  | [] => 0
  | d :: r => uptoBulk d + uptoBulkAll r
def uptoBulkEntries {H : Type} : List (Lit × DataW H) → Nat
  | [] => 0
  | x :: r => uptoBulkEntry x + uptoBulkEntries r
def uptoBulkEntry {H : Type} : Lit × DataW H → Nat
  | (.string bytes, d) => bytes.length + uptoBulk d + 1
  | (_, d) => uptoBulk d + 1
 end
def uptoSmall : (H : Type) → List (DataW H) → Bool := fun _ ds => decide (uptoBulkAll ds ≤ 1048576)
def OpenSpec.upto (s : _root_.Go.ChangeSpec) : _root_.Go.OpenSpec := { _root_.Go.OpenSpec.ofChange s with cond := some uptoSmall }

/-- 'wheelhouselaw28.PulsePlays', WHERE WHAT IT READS IS OF BULK AT MOST 1048576: true; the input reads as it did. -/
def pulsePlaysUptoRow : OpenClaim := { program := "ytagkbacgdkbbeaa", sum := "e2b72a594634055835472941f1f9b5407d0a799826481bc28ff7ca4b63cdb9c1", func := "wheelhouse/wheelhouselaw28.PulsePlays", spec := "pulsePlays", apart := false, narrowed := true }
def PulsePlaysUptoSaid : Prop := pulsePlaysUptoRow.holds Try.pinned (OpenSpec.upto pulsePlaysSpec)

/-- 'wheelhouselaw28.PulseKinds', WHERE WHAT IT READS IS OF BULK AT MOST 1048576: true; the input reads as it did. -/
def pulseKindsUptoRow : OpenClaim := { program := "ytagkbacgdkbbeaa", sum := "e2b72a594634055835472941f1f9b5407d0a799826481bc28ff7ca4b63cdb9c1", func := "wheelhouse/wheelhouselaw28.PulseKinds", spec := "pulseKinds", apart := false, narrowed := true }
def PulseKindsUptoSaid : Prop := pulseKindsUptoRow.holds Try.pinned (OpenSpec.upto pulseKindsSpec)

/-- 'wheelhouselaw28.PulseNil', WHERE WHAT IT READS IS OF BULK AT MOST 1048576: true; the input reads as it did. -/
def pulseNilUptoRow : OpenClaim := { program := "ytagkbacgdkbbeaa", sum := "e2b72a594634055835472941f1f9b5407d0a799826481bc28ff7ca4b63cdb9c1", func := "wheelhouse/wheelhouselaw28.PulseNil", spec := "pulseNil", apart := false, narrowed := true }
def PulseNilUptoSaid : Prop := pulseNilUptoRow.holds Try.pinned (OpenSpec.upto pulseNilSpec)

/-- 'wheelhouselaw11.CanidNames', WHERE WHAT IT READS IS OF BULK AT MOST 1048576: true; the input reads as it did. -/
def canidNamesUptoRow : OpenClaim := { program := "ytagkbacgdkbbeaa", sum := "e2b72a594634055835472941f1f9b5407d0a799826481bc28ff7ca4b63cdb9c1", func := "wheelhouse/wheelhouselaw11.CanidNames", spec := "canidNames", apart := false, narrowed := true }
def CanidNamesUptoSaid : Prop := canidNamesUptoRow.holds Try.pinned (OpenSpec.upto canidNamesSpec)

/-- 'wheelhouselaw11.CanidIds', WHERE WHAT IT READS IS OF BULK AT MOST 1048576: true; the input reads as it did. -/
def canidIdsUptoRow : OpenClaim := { program := "ytagkbacgdkbbeaa", sum := "e2b72a594634055835472941f1f9b5407d0a799826481bc28ff7ca4b63cdb9c1", func := "wheelhouse/wheelhouselaw11.CanidIds", spec := "canidIds", apart := false, narrowed := true }
def CanidIdsUptoSaid : Prop := canidIdsUptoRow.holds Try.pinned (OpenSpec.upto canidIdsSpec)

/-- 'wheelhouselaw11.CanidWords', WHERE WHAT IT READS IS OF BULK AT MOST 1048576: true; the input reads as it did. -/
def canidWordsUptoRow : OpenClaim := { program := "ytagkbacgdkbbeaa", sum := "e2b72a594634055835472941f1f9b5407d0a799826481bc28ff7ca4b63cdb9c1", func := "wheelhouse/wheelhouselaw11.CanidWords", spec := "canidWords", apart := false, narrowed := true }
def CanidWordsUptoSaid : Prop := canidWordsUptoRow.holds Try.pinned (OpenSpec.upto canidWordsSpec)

/-- 'wheelhouselaw11.CanidBack', WHERE WHAT IT READS IS OF BULK AT MOST 1048576: true; the input reads as it did. -/
def canidBackUptoRow : OpenClaim := { program := "ytagkbacgdkbbeaa", sum := "e2b72a594634055835472941f1f9b5407d0a799826481bc28ff7ca4b63cdb9c1", func := "wheelhouse/wheelhouselaw11.CanidBack", spec := "canidBack", apart := false, narrowed := true }
def CanidBackUptoSaid : Prop := canidBackUptoRow.holds Try.pinned (OpenSpec.upto canidBackSpec)

/-- 'wheelhouselaw11.CanidJoins', WHERE WHAT IT READS IS OF BULK AT MOST 1048576: true; the input reads as it did. -/
def canidJoinsUptoRow : OpenClaim := { program := "ytagkbacgdkbbeaa", sum := "e2b72a594634055835472941f1f9b5407d0a799826481bc28ff7ca4b63cdb9c1", func := "wheelhouse/wheelhouselaw11.CanidJoins", spec := "canidJoins", apart := false, narrowed := true }
def CanidJoinsUptoSaid : Prop := canidJoinsUptoRow.holds Try.pinned (OpenSpec.upto canidJoinsSpec)

end Rows
end Go.Proofs.Ytagkbacgdkbbeaa
