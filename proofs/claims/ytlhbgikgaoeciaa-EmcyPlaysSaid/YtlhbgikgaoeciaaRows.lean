/-
  No cell of these rows narrows 'for every input' (looked for: loops, veiled, ifaces, maps, wideKeys, modest, calm, conditions, laid).
  DERIVED. THE GIVEN ROWS OF THIS SEAT. 4 by the template 'for every input the law returns true; each argument reads behind the call as it read before'; 0 by the template 'total and deterministic' (their statements: YtlhbgikgaoeciaaTotals.lean).
  GIVEN WITH THE SEED: the statements are not yours to turn. If you find one false, say at which input.
  Laid BY PROGRAM, IN A SANDBOX (cutbox-rows.mjs): the forced cells as the released guide's own fill.sh prints them over the translation 05f9c73b165ae236… (all of the seat's roots in one cut). By AI agents, Wed Nov 11 2026. No macro, syntax, notation, axiom, sorry.
-/
import Derived.Test.YtlhbgikgaoeciaaChecked
import GoSem.Claim
import GoSem.ClaimJoined
import GoSem.ClaimMapViews
import Derived.JoinedTies
import Derived.KernelRfl
namespace Go.Proofs.Ytlhbgikgaoeciaa
/- THE CELL 'sum', in the pinned program and in every row, IS THE sha256 OF THE DUMP (.gsa) THAT YtlhbgikgaoeciaaProg.lean LOADS. Nothing in Lean hashes anything: it is a label: what it is worth is what the hold of that sum in a sandbox is worth. -/
noncomputable def Try.pinned : Pinned := { name := "ytlhbgikgaoeciaa", sum := "05f9c73b165ae236b04f2eb15d974ffd646f841d75fcc31a957f06da3f3100fe", checked := Try.checked }
namespace Rows
def none {H : Type} : Left H := { results := [], args := [] }

/-- 'wheelhouselaw27.EmcyRegister': WHATEVER THE INPUT: true; the input reads as it did. -/
def emcyRegisterSpec : ChangeSpec := { name := "emcyRegister", fn := fun _ => fun
  | [d1, d2, d3] => { results := [.lit (.bool true)], args := [d1, d2, d3] }
  | _ => none }
def emcyRegisterRow : OpenClaim := { program := "ytlhbgikgaoeciaa", sum := "05f9c73b165ae236b04f2eb15d974ffd646f841d75fcc31a957f06da3f3100fe", func := "wheelhouse/wheelhouselaw27.EmcyRegister", spec := "emcyRegister", apart := false }
def EmcyRegisterSaid : Prop := emcyRegisterRow.holds Try.pinned (OpenSpec.ofChange emcyRegisterSpec)

/-- ITS FALSE NEIGHBOUR: 'it returns false'. Refute it at one input. -/
def emcyRegisterWrong : ChangeSpec := { name := "emcyRegister", fn := fun _ => fun
  | [d1, d2, d3] => { results := [.lit (.bool false)], args := [d1, d2, d3] }
  | _ => none }
def EmcyRegisterWrongFalsely : Prop := emcyRegisterRow.holds Try.pinned (OpenSpec.ofChange emcyRegisterWrong)

/-- 'wheelhouselaw27.EmcyPlays': WHATEVER THE INPUT: true; the input reads as it did. -/
def emcyPlaysSpec : ChangeSpec := { name := "emcyPlays", fn := fun _ => fun
  | [d1, d2] => { results := [.lit (.bool true)], args := [d1, d2] }
  | _ => none }
def emcyPlaysRow : OpenClaim := { program := "ytlhbgikgaoeciaa", sum := "05f9c73b165ae236b04f2eb15d974ffd646f841d75fcc31a957f06da3f3100fe", func := "wheelhouse/wheelhouselaw27.EmcyPlays", spec := "emcyPlays", apart := false }
def EmcyPlaysSaid : Prop := emcyPlaysRow.holds Try.pinned (OpenSpec.ofChange emcyPlaysSpec)

/-- ITS FALSE NEIGHBOUR: 'it returns false'. Refute it at one input. -/
def emcyPlaysWrong : ChangeSpec := { name := "emcyPlays", fn := fun _ => fun
  | [d1, d2] => { results := [.lit (.bool false)], args := [d1, d2] }
  | _ => none }
def EmcyPlaysWrongFalsely : Prop := emcyPlaysRow.holds Try.pinned (OpenSpec.ofChange emcyPlaysWrong)

/-- 'wheelhouselaw27.EmcyHistory': WHATEVER THE INPUT: true; the input reads as it did. -/
def emcyHistorySpec : ChangeSpec := { name := "emcyHistory", fn := fun _ => fun
  | [d] => { results := [.lit (.bool true)], args := [d] }
  | _ => none }
def emcyHistoryRow : OpenClaim := { program := "ytlhbgikgaoeciaa", sum := "05f9c73b165ae236b04f2eb15d974ffd646f841d75fcc31a957f06da3f3100fe", func := "wheelhouse/wheelhouselaw27.EmcyHistory", spec := "emcyHistory", apart := false }
def EmcyHistorySaid : Prop := emcyHistoryRow.holds Try.pinned (OpenSpec.ofChange emcyHistorySpec)

/-- ITS FALSE NEIGHBOUR: 'it returns false'. Refute it at one input. -/
def emcyHistoryWrong : ChangeSpec := { name := "emcyHistory", fn := fun _ => fun
  | [d] => { results := [.lit (.bool false)], args := [d] }
  | _ => none }
def EmcyHistoryWrongFalsely : Prop := emcyHistoryRow.holds Try.pinned (OpenSpec.ofChange emcyHistoryWrong)

/-- 'wheelhouselaw27.EmcyNil': WHATEVER THE INPUT: true; the input reads as it did. -/
def emcyNilSpec : ChangeSpec := { name := "emcyNil", fn := fun _ => fun
  | [d1, d2] => { results := [.lit (.bool true)], args := [d1, d2] }
  | _ => none }
def emcyNilRow : OpenClaim := { program := "ytlhbgikgaoeciaa", sum := "05f9c73b165ae236b04f2eb15d974ffd646f841d75fcc31a957f06da3f3100fe", func := "wheelhouse/wheelhouselaw27.EmcyNil", spec := "emcyNil", apart := false }
def EmcyNilSaid : Prop := emcyNilRow.holds Try.pinned (OpenSpec.ofChange emcyNilSpec)

/-- ITS FALSE NEIGHBOUR: 'it returns false'. Refute it at one input. -/
def emcyNilWrong : ChangeSpec := { name := "emcyNil", fn := fun _ => fun
  | [d1, d2] => { results := [.lit (.bool false)], args := [d1, d2] }
  | _ => none }
def EmcyNilWrongFalsely : Prop := emcyNilRow.holds Try.pinned (OpenSpec.ofChange emcyNilWrong)

/- THE SECOND FORM. 'bulk': how many values and letters a reading holds, each counted each time it is reached (what is shared counts as often as it is met; a slice's spare places count too). A statement '..UptoSaid' is the law's where the arguments, and the package variables that the reading takes, are together of bulk at most 1048576: NARROWER than '..Said'. Prove '..Said' where nothing that the law and all that it calls make is longer than what came in: it says more and counts as full. Else prove '..UptoSaid'. A law counts once. -/
mutual
def uptoBulk {H : Type} : DataW H → Nat
  | .lit (.string bytes) => bytes.length + 1
  | .lit _ => 1
  | .nil => 1
  | .ptr d => uptoBulk d + 1
  | .slice elems spare => uptoBulkAll elems + uptoBulkAll spare + 1
  | .agg parts => uptoBulkAll parts + 1
  | .iface _ d => uptoBulk d + 1
  | .map entries => uptoBulkEntries entries + 1
  | .held _ => 1
def uptoBulkAll {H : Type} : List (DataW H) → Nat
  | [] => 0
  | d :: r => uptoBulk d + uptoBulkAll r
def uptoBulkEntries {H : Type} : List (Lit × DataW H) → Nat
  | [] => 0
  | x :: r => uptoBulkEntry x + uptoBulkEntries r
def uptoBulkEntry {H : Type} : Lit × DataW H → Nat
  | (.string bytes, d) => bytes.length + uptoBulk d + 1
  | (_, d) => uptoBulk d + 1
 end
def uptoSmall : (H : Type) → List (DataW H) → Bool := fun _ ds => decide (uptoBulkAll ds ≤ 1048576)
def OpenSpec.upto (s : _root_.Go.ChangeSpec) : _root_.Go.OpenSpec := { _root_.Go.OpenSpec.ofChange s with cond := some uptoSmall }

/-- 'wheelhouselaw27.EmcyRegister', WHERE WHAT IT READS IS OF BULK AT MOST 1048576: true; the input reads as it did. -/
def emcyRegisterUptoRow : OpenClaim := { program := "ytlhbgikgaoeciaa", sum := "05f9c73b165ae236b04f2eb15d974ffd646f841d75fcc31a957f06da3f3100fe", func := "wheelhouse/wheelhouselaw27.EmcyRegister", spec := "emcyRegister", apart := false, narrowed := true }
def EmcyRegisterUptoSaid : Prop := emcyRegisterUptoRow.holds Try.pinned (OpenSpec.upto emcyRegisterSpec)

/-- 'wheelhouselaw27.EmcyPlays', WHERE WHAT IT READS IS OF BULK AT MOST 1048576: true; the input reads as it did. -/
def emcyPlaysUptoRow : OpenClaim := { program := "ytlhbgikgaoeciaa", sum := "05f9c73b165ae236b04f2eb15d974ffd646f841d75fcc31a957f06da3f3100fe", func := "wheelhouse/wheelhouselaw27.EmcyPlays", spec := "emcyPlays", apart := false, narrowed := true }
def EmcyPlaysUptoSaid : Prop := emcyPlaysUptoRow.holds Try.pinned (OpenSpec.upto emcyPlaysSpec)

/-- 'wheelhouselaw27.EmcyHistory', WHERE WHAT IT READS IS OF BULK AT MOST 1048576: true; the input reads as it did. -/
def emcyHistoryUptoRow : OpenClaim := { program := "ytlhbgikgaoeciaa", sum := "05f9c73b165ae236b04f2eb15d974ffd646f841d75fcc31a957f06da3f3100fe", func := "wheelhouse/wheelhouselaw27.EmcyHistory", spec := "emcyHistory", apart := false, narrowed := true }
def EmcyHistoryUptoSaid : Prop := emcyHistoryUptoRow.holds Try.pinned (OpenSpec.upto emcyHistorySpec)

/-- 'wheelhouselaw27.EmcyNil', WHERE WHAT IT READS IS OF BULK AT MOST 1048576: true; the input reads as it did. -/
def emcyNilUptoRow : OpenClaim := { program := "ytlhbgikgaoeciaa", sum := "05f9c73b165ae236b04f2eb15d974ffd646f841d75fcc31a957f06da3f3100fe", func := "wheelhouse/wheelhouselaw27.EmcyNil", spec := "emcyNil", apart := false, narrowed := true }
def EmcyNilUptoSaid : Prop := emcyNilUptoRow.holds Try.pinned (OpenSpec.upto emcyNilSpec)

end Rows
end Go.Proofs.Ytlhbgikgaoeciaa
